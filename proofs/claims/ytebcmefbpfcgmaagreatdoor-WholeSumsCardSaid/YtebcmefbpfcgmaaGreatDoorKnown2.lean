/- The walk of the second chapter's known: it returns true. -/
import Derived.Test.YtebcmefbpfcgmaaGreatDoorSum
import Derived.Test.YtebcmefbpfcgmaaGreatDoorRParse
import Derived.Test.YtebcmefbpfcgmaaGreatDoorMake2
namespace Go.Proofs.YtebcmefbpfcgmaaGreatDoor
open Go.RowKit Go.PlainAid

theorem lit_pos (l : List UInt8) (n : Nat) (h1 : canon l = true) (h2 : val l = n) : (⟨l.toArray⟩ : ByteArray) = itx (n : Int) := by
  rw [itx_nat]; unfold dec; rw [← h2, dd_val l h1]
theorem lit_neg (l : List UInt8) (n : Nat) (h1 : canon l = true) (h2 : val l = n) (h3 : n ≠ 0) : (⟨(45 :: l).toArray⟩ : ByteArray) = itx (-(n : Int)) := by
  rw [itx_of_neg (by omega), Int.natAbs_neg, Int.natAbs_natCast, ← h2, dd_val l h1]
theorem nz_small {z : Int} (h : z.natAbs < 10 ^ 3) : nz z ≤ 100 := Nat.le_trans ((nz_le_iff z 2).2 h) (by omega)
theorem bez_known : bezL (-12) 18 1 0 = (6, 1) := by
  rw [bezL_step _ _ _ (by decide), show fr (-12) 18 = 6 by decide, show fq (-12) 18 = -1 by decide, bezL_step _ _ _ (by decide), show fr 18 6 = 0 by decide, show fq 18 6 = 3 by decide, bezL_zero]; rfl
set_option maxRecDepth 100000 in
set_option maxHeartbeats 2000000 in
/-- schismalaw02.known. -/
theorem known2_any (w : World) (hamb : Amb w) : Calls Tryz.prog 5 #[] w (SmallRes (.bool true) w) := by
  have lm7 : (⟨#[45, 55]⟩ : ByteArray) = itx (-7) := lit_neg [55] 7 (by decide) (by decide) (by decide)
  have l2 : (⟨#[50]⟩ : ByteArray) = itx 2 := lit_pos [50] 2 (by decide) (by decide)
  have lm4 : (⟨#[45, 52]⟩ : ByteArray) = itx (-4) := lit_neg [52] 4 (by decide) (by decide) (by decide)
  have l1 : (⟨#[49]⟩ : ByteArray) = itx 1 := lit_pos [49] 1 (by decide) (by decide)
  have lm12 : (⟨#[45, 49, 50]⟩ : ByteArray) = itx (-12) := lit_neg [49, 50] 12 (by decide) (by decide) (by decide)
  have l18 : (⟨#[49, 56]⟩ : ByteArray) = itx 18 := lit_pos [49, 56] 18 (by decide) (by decide)
  have l6 : (⟨#[54]⟩ : ByteArray) = itx 6 := lit_pos [54] 6 (by decide) (by decide)
  have l36 : (⟨#[51, 54]⟩ : ByteArray) = itx 36 := lit_pos [51, 54] 36 (by decide) (by decide)
  have lm3 : (⟨#[45, 51]⟩ : ByteArray) = itx (-3) := lit_neg [51] 3 (by decide) (by decide) (by decide)
  have lm2 : (⟨#[45, 50]⟩ : ByteArray) = itx (-2) := lit_neg [50] 2 (by decide) (by decide) (by decide)
  have b1 : bezG (-12) 18 = 6 := by unfold bezG; rw [bez_known]; rfl
  have b0 : bezU (-12) 18 = 1 := by unfold bezU; rw [bez_known]; rfl
  have b2 : bezX (-12) 18 = 1 := by unfold bezX; rw [if_neg (by decide), b0, b1]; decide
  have b3 : bezY (-12) 18 = 1 := by unfold bezY; rw [if_neg (by decide), b1, b2]; decide
  have c1 := fun w1 (h : Amb w1) => wdivmod_any (-7) 2 w1 h (by decide) (Nat.le_trans (nz_small (by decide)) (by omega)) (Nat.le_trans (nz_small (by decide)) (by omega))
  rw [show fq (-7) 2 = -4 by decide, show fr (-7) 2 = 1 by decide, ← lm7, ← l2, ← lm4, ← l1] at c1
  have c2 := fun w1 (h : Amb w1) => wbezout_any (-12) 18 w1 h (Nat.le_trans (nz_small (by decide)) (by omega)) (Nat.le_trans (nz_small (by decide)) (by omega))
  rw [b1, b2, b3, ← lm12, ← l18, ← l6, ← l1] at c2
  have p1 : ParseRes [45, 48, 48, 55] = .tuple #[.string ⟨#[45, 55]⟩, .int .i64 0] := by
    rw [(parse_digits [48, 48, 55] (by simp) (by decide) (by simp)).2, show val [48, 48, 55] = 7 by decide, lm7]; rfl
  have p2 : ParseRes [43, 49] = .tuple #[.string ⟨#[]⟩, .int .i64 15] := by
    unfold ParseRes
    rw [if_neg (by simp), if_pos (by right; decide)]
  have c3 := fun w1 => wparse_any ⟨#[45, 48, 48, 55]⟩ w1 (by decide)
  rw [show (⟨#[45, 48, 48, 55]⟩ : ByteArray).data.toList = [45, 48, 48, 55] from rfl, p1] at c3
  have c4 := fun w1 => wparse_any ⟨#[43, 49]⟩ w1 (by decide)
  rw [show (⟨#[43, 49]⟩ : ByteArray).data.toList = [43, 49] from rfl, p2] at c4
  have c5 := fun w1 (h : Amb w1) => wlcm_any (-12) 18 w1 h (Nat.le_trans (nz_small (by decide)) (by omega)) (Nat.le_trans (nz_small (by decide)) (by omega))
  rw [show Int.lcm (-12) 18 = 36 by decide, ← itx_nat, show ((36 : Nat) : Int) = 36 from rfl, ← lm12, ← l18, ← l36] at c5
  have c6 := fun (w1 : World) (h : Amb w1) g cap (hs : Sc w1 g 2 cap [⟨#[49]⟩, ⟨#[45, 51]⟩]) => wsum_any (some ⟨g, 0, none⟩) 2 cap [1, -3] w1 h (Ss.of (by rw [l1, lm3] at hs; exact hs)) (by omega)
    (fun i hi => Nat.le_trans (nz_small (z := sumZ [1, -3] i) (by
      rcases (show i = 0 ∨ i = 1 ∨ i = 2 by omega) with rfl | rfl | rfl <;> decide)) (by omega))
    (fun i hi => Nat.le_trans (nz_small (by
      rcases (show i = 0 ∨ i = 1 by omega) with rfl | rfl <;> decide)) (by omega))
  rw [show sumZ [1, -3] 2 = -2 by decide, ← lm2] at c6
  have C1 := Lib.hid c1
  have C2 := Lib.hid c2
  have C3 := Lib.hid c3
  have C4 := Lib.hid c4
  have C5 := Lib.hid c5
  have C6 := Lib.hid c6
  clear c1 c2 c3 c4 c5 c6 lm7 l2 lm4 l1 lm12 l18 l6 l36 lm3 lm2 b0 b1 b2 b3 p1 p2
  go_enter Tryz.func5, Tryz.ntmps5
  go_wp2_with fail
  refine (C1.out _ hamb).mono ?_
  rintro e w1 ⟨rfl, hb1⟩
  have hA1 := hamb.below hb1
  go_wp2_with fail
  refine (C2.out _ hA1).mono ?_
  rintro e w2 ⟨rfl, hb2⟩
  have hB2 := bel_chain hb1 hb2
  have hA2 := hamb.below hB2
  go_wp2_with fail
  refine (C3.out _).mono ?_
  rintro e w3 ⟨rfl, hb3⟩
  have hB3 := bel_chain hB2 hb3
  go_wp2_with fail
  refine (C4.out _).mono ?_
  rintro e w4 ⟨rfl, hb4⟩
  have hB4 := bel_chain hB3 hb4
  have hA4 := hamb.below hB4
  clear hb1 hb2 hb3 hb4 hA1 hA2 hB2 hB3
  go_wp2_with fail
  refine (C5.out _ hA4).mono ?_
  rintro e w5 ⟨rfl, hb5⟩
  have hB5 := bel_chain hB4 hb5
  go_wp2_with fail
  have hB6 := hB5.alloc hB5.size (.cells #[.string ⟨#[49]⟩, .string ⟨#[45, 51]⟩] 27)
  have hsc : Sc (w5.alloc (.cells #[.string ⟨#[49]⟩, .string ⟨#[45, 51]⟩] 27)) w5.heap.size 2 2 [⟨#[49]⟩, ⟨#[45, 51]⟩] :=
    Sc.mk' (heap_alloc_new w5 _) (Nat.le_refl _) (by unfold maxLen; omega) rfl rfl
  refine (C6.out _ (hamb.below hB6) _ _ hsc).mono ?_
  rintro e w6 ⟨rfl, hb6⟩
  go_wp2_with fail
  go_ret
  exact ⟨rfl, bel_chain hB6 hb6⟩
end Go.Proofs.YtebcmefbpfcgmaaGreatDoor
