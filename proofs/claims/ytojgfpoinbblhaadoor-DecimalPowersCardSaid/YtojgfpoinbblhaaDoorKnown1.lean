/- The walk of the first chapter's known: it returns true. -/
import Derived.Test.YtojgfpoinbblhaaDoorPow
namespace Go.Proofs.YtojgfpoinbblhaaDoor
open Go.RowKit

theorem lit_dec (l : List UInt8) (n : Nat) (h1 : canon l = true) (h2 : val l = n) : (⟨l.toArray⟩ : ByteArray) = dec n := by
  unfold dec; rw [← h2, dd_val l h1]
theorem nd_small {n : Nat} (k : Nat) (h : n < 10 ^ (k + 1)) (hk : k ≤ 100) : Lib.nDigits n ≤ 1000000 := by
  have := (nd_le_iff n k).2 h; omega

set_option maxRecDepth 100000 in
set_option maxHeartbeats 1000000 in
/-- schismalaw01.known. -/
theorem known1_any (w : World) (hamb : Amb w) : Calls Tryd.prog 13 #[] w (SmallRes (.bool true) w) := by
  have l1 : (⟨#[49, 48, 48, 48, 48, 48, 48, 48, 48, 48, 48, 48, 48, 48, 48, 48, 48, 48, 48, 48, 48, 48]⟩ : ByteArray) = dec 1000000000000000000000 := lit_dec [49, 48, 48, 48, 48, 48, 48, 48, 48, 48, 48, 48, 48, 48, 48, 48, 48, 48, 48, 48, 48, 48] _ (by decide) (by decide)
  have l2 : (⟨#[55]⟩ : ByteArray) = dec 7 := lit_dec [55] _ (by decide) (by decide)
  have l3 : (⟨#[49, 52, 50, 56, 53, 55, 49, 52, 50, 56, 53, 55, 49, 52, 50, 56, 53, 55, 49, 52, 50]⟩ : ByteArray) = dec (1000000000000000000000 / 7) := lit_dec [49, 52, 50, 56, 53, 55, 49, 52, 50, 56, 53, 55, 49, 52, 50, 56, 53, 55, 49, 52, 50] _ (by decide) (by decide)
  have l4 : (⟨#[54]⟩ : ByteArray) = dec (1000000000000000000000 % 7) := lit_dec [54] _ (by decide) (by decide)
  have l5 : (⟨#[49, 56, 52, 52, 54, 55, 52, 52, 48, 55, 51, 55, 48, 57, 53, 53, 49, 54, 49, 54]⟩ : ByteArray) = dec 18446744073709551616 := lit_dec [49, 56, 52, 52, 54, 55, 52, 52, 48, 55, 51, 55, 48, 57, 53, 53, 49, 54, 49, 54] _ (by decide) (by decide)
  have l6 : (⟨#[50]⟩ : ByteArray) = dec 2 := lit_dec [50] _ (by decide) (by decide)
  have l7 : (⟨#[50, 53, 53]⟩ : ByteArray) = dec 255 := lit_dec [50, 53, 53] _ (by decide) (by decide)
  have l8 : (⟨#[50, 53, 54]⟩ : ByteArray) = dec 256 := lit_dec [50, 53, 54] _ (by decide) (by decide)
  have c1 := divmod_any 1000000000000000000000 7 w hamb (by decide) (nd_small 21 (by decide) (by decide)) (nd_small 1 (by decide) (by decide))
  rw [← l1, ← l2, ← l3, ← l4] at c1
  have c2 := fun w1 (h : Amb w1) => small_no 18446744073709551616 w1 h (by decide) (Nat.le_trans (nd_small 20 (by decide) (by decide)) (by decide))
  rw [← l5] at c2
  have e64 : PowRes 2 64 = .tuple #[.string (dec 18446744073709551616), .int .i64 0] := by
    unfold PowRes
    rw [show (2 : Nat) ^ 64 = 18446744073709551616 from rfl, if_pos (Nat.le_trans ((nd_le_iff 18446744073709551616 19).2 (by decide)) (by decide))]
  have c3 := fun w1 (h : Amb w1) => power_any 2 64 w1 h (by decide) (nd_small 1 (by decide) (by decide)) (by decide) (by decide)
  rw [e64, ← l5, ← l6] at c3
  have b1 : bitsN 255 = 8 := bitsN_unique _ 7 (by decide) (by decide)
  have b2 : bitsN 256 = 9 := bitsN_unique _ 8 (by decide) (by decide)
  have c4 := fun w1 (h : Amb w1) => bits_any 255 w1 h (nd_small 3 (by decide) (by decide))
  rw [b1, ← l7] at c4
  have c5 := fun w1 (h : Amb w1) => bits_any 256 w1 h (nd_small 3 (by decide) (by decide))
  rw [b2, ← l8] at c5
  have c6 := fun w1 => canonical_any ⟨#[48, 48, 55]⟩ w1 (by decide)
  have e6 : canon (⟨#[48, 48, 55]⟩ : ByteArray).data.toList = false := by decide
  rw [e6] at c6
  have C1 := Lib.hid c1
  have C2 := Lib.hid c2
  have C3 := Lib.hid c3
  have C4 := Lib.hid c4
  have C5 := Lib.hid c5
  have C6 := Lib.hid c6
  clear c1 c2 c3 c4 c5 c6 l1 l2 l3 l4 l5 l6 l7 l8 e64 b1 b2 e6
  go_enter Tryd.func13, Tryd.ntmps13
  go_wp2_with fail
  refine C1.out.mono ?_
  rintro e w1 ⟨rfl, hb1⟩
  have hA1 := hamb.below hb1
  go_wp2_with fail
  refine (C2.out _ hA1).mono ?_
  rintro e w2 ⟨rfl, hb2⟩
  have hA2 := hA1.below hb2
  go_wp2_with fail
  refine (C3.out _ hA2).mono ?_
  rintro e w3 ⟨rfl, hb3⟩
  have hA3 := hA2.below hb3
  go_wp2_with fail
  refine (C4.out _ hA3).mono ?_
  rintro e w4 ⟨rfl, hb4⟩
  have hA4 := hA3.below hb4
  go_wp2_with fail
  refine (C5.out _ hA4).mono ?_
  rintro e w5 ⟨rfl, hb5⟩
  go_wp2_with fail
  refine (C6.out _).mono ?_
  rintro e w6 ⟨rfl, hb6⟩
  go_wp2_with fail
  go_ret
  exact ⟨rfl, bel_chain (bel_chain (bel_chain (bel_chain (bel_chain hb1 hb2) hb3) hb4) hb5) hb6⟩
end Go.Proofs.YtojgfpoinbblhaaDoor
