/- The walks of Gcd and Lcm: for any two numbers of at most 1000000 digits. -/
import Derived.Test.YtebcmefbpfcgmaaGreatDoorDec4
namespace Go.Proofs.YtebcmefbpfcgmaaGreatDoor
open Go.RowKit

/-- The value of a slot that holds digits. -/
def strVal : Value → Nat | .string s => val s.data.toList | _ => 0
theorem strVal_dec (n : Nat) : strVal (.string (dec n)) = n := by show val (dec n).data.toList = n; rw [dec_data, val_dd]
def GcdRel (a b x y : Nat) (w wr : World) : Prop := Nat.gcd x y = Nat.gcd a b ∧ Lib.nDigits x ≤ 1000000 ∧ Lib.nDigits y ≤ 1000000 ∧ Below w.heap.size w wr

set_option maxRecDepth 100000 in
/-- decimal.Gcd. -/
theorem gcd_any (a b : Nat) (w : World) (hamb : Amb w) (ha : Lib.nDigits a ≤ 1000000) (hb : Lib.nDigits b ≤ 1000000) :
    Calls Tryz.prog 72 #[.string (dec a), .string (dec b)] w (StrPost (dec (Nat.gcd a b)) w) := by
  go_enter Tryz.func72, Tryz.ntmps72
  go_wp2_with fail
  go_loopw [0, 1] (fun vx vy wr => ∃ x y : Nat, vx = .string (dec x) ∧ vy = .string (dec y) ∧ GcdRel a b x y w wr) (fun _ vy _ => strVal vy)
  case atStart => exact ⟨a, b, rfl, rfl, rfl, ha, hb, Below.refl _ _⟩
  case round =>
    obtain ⟨x, y, rfl, rfl, hg, hx, hy, hB⟩ := hrel
    have HG := Lib.hid hg
    clear hg
    by_cases hy0 : y = 0
    · subst hy0
      have h0 := dec_zero_same
      have h1 : (!(dec 0).toList == [48]) = false := by rw [h0]; rfl
      go_wp2_with fail
      go_ret
      have := HG.out
      rw [Nat.gcd_zero_right] at this
      exact ⟨ret_str (by (rw [← this]) <;> rfl), hB⟩
    · have h0 := dec_zero_test hy0
      have h1 : (!(dec y).toList == [48]) = true := by rw [h0]; rfl
      have hA := hamb.below hB
      have hm := Nat.mod_lt x (Nat.pos_of_ne_zero hy0)
      have hg2 : Nat.gcd y (x % y) = Nat.gcd a b := by rw [← HG.out, Nat.gcd_comm x y, Nat.gcd_rec y x, Nat.gcd_comm]
      have hr : Lib.nDigits (x % y) ≤ 1000000 := Nat.le_trans (nd_mono (Nat.le_of_lt hm)) hy
      have H1 := Lib.hid hm
      have H2 := Lib.hid hg2
      have H3 := Lib.hid hr
      clear hm hg2 hr
      go_wp2_with fail
      refine (divmod_any x y _ hA hy0 hx hy).mono ?_
      rintro e w2 ⟨rfl, hb2⟩
      go_wp2_with fail
      go_roundw
      case rel => exact ⟨y, x % y, rfl, rfl, H2.out, hy, H3.out, bel_chain hB hb2⟩
      case measure =>
        show strVal (.string (dec (x % y))) < strVal (.string (dec y))
        rw [strVal_dec, strVal_dec]; exact H1.out

set_option maxRecDepth 100000 in
/-- decimal.Lcm. -/
theorem lcm_any (a b : Nat) (w : World) (hamb : Amb w) (ha : Lib.nDigits a ≤ 1000000) (hb : Lib.nDigits b ≤ 1000000) :
    Calls Tryz.prog 46 #[.string (dec a), .string (dec b)] w (StrPost (dec (Nat.lcm a b)) w) := by
  by_cases ha0 : a = 0
  · subst ha0
    have h0 := dec_zero_same
    go_enter Tryz.func46, Tryz.ntmps46
    go_wp2_with fail
    go_ret
    exact ⟨ret_str (by (rw [Nat.lcm_zero_left, dec0]) <;> rfl), Below.refl _ _⟩
  · have h0 := dec_zero_test ha0
    by_cases hb0 : b = 0
    · subst hb0
      have h1 := dec_zero_same
      go_enter Tryz.func46, Tryz.ntmps46
      go_wp2_with fail
      go_ret
      exact ⟨ret_str (by (rw [Nat.lcm_zero_right, dec0]) <;> rfl), Below.refl _ _⟩
    · have h1 := dec_zero_test hb0
      have hg0 : Nat.gcd a b ≠ 0 := fun h => ha0 (Nat.gcd_eq_zero_iff.1 h).1
      have hgle : Nat.gcd a b ≤ a := Nat.gcd_le_left b (Nat.pos_of_ne_zero ha0)
      have hl : a / Nat.gcd a b * b = Nat.lcm a b := by
        unfold Nat.lcm
        obtain ⟨k, hk⟩ := Nat.gcd_dvd_left a b
        have hp : 0 < Nat.gcd a b := Nat.pos_of_ne_zero hg0
        have e1 : a / Nat.gcd a b = k := Nat.div_eq_of_eq_mul_right hp hk
        rw [e1]
        have e2 : a * b = Nat.gcd a b * (k * b) := by rw [← Nat.mul_assoc, ← hk]
        rw [e2, Nat.mul_div_cancel_left _ hp]
      have hgd := nd_mono hgle
      have hqd := nd_mono (Nat.div_le_self a (Nat.gcd a b))
      have HL := Lib.hid hl
      have HG := Lib.hid hg0
      clear hl hgle
      go_enter Tryz.func46, Tryz.ntmps46
      go_wp2_with fail
      refine (gcd_any a b _ hamb ha hb).mono ?_
      rintro e w1 ⟨rfl, hb1⟩
      have hA1 := hamb.below hb1
      go_wp2_with fail
      refine (divmod_any a (Nat.gcd a b) _ hA1 HG.out ha (by omega)).mono ?_
      rintro e w2 ⟨rfl, hb2⟩
      have hA2 := hA1.below hb2
      go_wp2_with fail
      refine (mul_any (a / Nat.gcd a b) b _ hA2 (by omega) hb).mono ?_
      rintro e w3 ⟨rfl, hb3⟩
      go_wp2_with fail
      go_ret
      exact ⟨ret_str (by (rw [← HL.out]) <;> rfl), bel_chain (bel_chain hb1 hb2) hb3⟩
end Go.Proofs.YtebcmefbpfcgmaaGreatDoor
