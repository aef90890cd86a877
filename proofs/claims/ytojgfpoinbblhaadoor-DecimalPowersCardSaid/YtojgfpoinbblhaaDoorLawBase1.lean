/- The walk of few, and how many digits sums and products have. -/
import Derived.Test.YtojgfpoinbblhaaDoorMake1
namespace Go.Proofs.YtojgfpoinbblhaaDoor
open Go.RowKit
theorem few_yes (A0 A1 A2 : Option Addr) (n0 n1 n2 c0 c1 c2 : Nat) (w : World) (h0 : n0 ≤ 120) (h1 : n1 ≤ 120) (h2 : n2 ≤ 120) :
    Calls Tryd.prog 19 #[.slice A0 n0 c0, .slice A1 n1 c1, .slice A2 n2 c2] w fun e w' => e = .returned (.bool true) ∧ w = w' := by
  go_enter Tryd.func19, Tryd.ntmps19
  go_wp2
  go_ret
  exact ⟨ret_bool (decide_eq_true (by omega)), rfl⟩
theorem few_no (A0 A1 A2 : Option Addr) (n0 n1 n2 c0 c1 c2 : Nat) (w : World) (h : ¬ (n0 ≤ 120 ∧ n1 ≤ 120 ∧ n2 ≤ 120)) :
    Calls Tryd.prog 19 #[.slice A0 n0 c0, .slice A1 n1 c1, .slice A2 n2 c2] w fun e w' => e = .returned (.bool false) ∧ w = w' := by
  have H := Lib.hid h
  clear h
  by_cases h0 : n0 ≤ 120
  · by_cases h1 : n1 ≤ 120
    · have h2 : ¬ n2 ≤ 120 := fun h2 => H.out ⟨h0, h1, h2⟩
      go_enter Tryd.func19, Tryd.ntmps19
      go_wp2
      go_ret
      exact ⟨ret_bool (decide_eq_false (by omega)), rfl⟩
    · go_enter Tryd.func19, Tryd.ntmps19
      go_wp2
      go_ret
      exact ⟨rfl, rfl⟩
  · go_enter Tryd.func19, Tryd.ntmps19
    go_wp2
    go_ret
    exact ⟨rfl, rfl⟩
theorem nd_add (a b : Nat) : Lib.nDigits (a + b) ≤ Lib.nDigits a + Lib.nDigits b := by
  have h1 := Lib.lt_pow_nDigits a
  have h2 := Lib.lt_pow_nDigits b
  have h3 := Lib.nDigits_pos a
  have h4 := Lib.nDigits_pos b
  have h5 := (nd_le_iff (a + b) (Lib.nDigits a + Lib.nDigits b - 1)).2
  rw [show Lib.nDigits a + Lib.nDigits b - 1 + 1 = Lib.nDigits a + Lib.nDigits b by omega] at h5
  refine h5 ?_
  rw [Nat.pow_add]
  have h6 : 10 ≤ 10 ^ Lib.nDigits a := Nat.pow_le_pow_right (n := 10) (i := 1) (by decide) h3
  have h7 : 10 ≤ 10 ^ Lib.nDigits b := Nat.pow_le_pow_right (n := 10) (i := 1) (by decide) h4
  generalize 10 ^ Lib.nDigits a = P at *
  generalize 10 ^ Lib.nDigits b = Q at *
  have h8 : P * 10 ≤ P * Q := Nat.mul_le_mul_left P h7
  have h9 : 10 * Q ≤ P * Q := Nat.mul_le_mul_right Q h6
  omega
theorem nd_mul (a b : Nat) : Lib.nDigits (a * b) ≤ Lib.nDigits a + Lib.nDigits b := by
  have h1 := Lib.lt_pow_nDigits a
  have h2 := Lib.lt_pow_nDigits b
  have h3 := Lib.nDigits_pos a
  have h5 := (nd_le_iff (a * b) (Lib.nDigits a + Lib.nDigits b - 1)).2
  rw [show Lib.nDigits a + Lib.nDigits b - 1 + 1 = Lib.nDigits a + Lib.nDigits b by omega] at h5
  refine h5 ?_
  rw [Nat.pow_add]
  exact Nat.mul_lt_mul'' h1 h2
end Go.Proofs.YtojgfpoinbblhaaDoor
