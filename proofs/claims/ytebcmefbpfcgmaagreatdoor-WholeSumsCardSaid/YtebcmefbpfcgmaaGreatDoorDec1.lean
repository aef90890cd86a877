/- The walks of both and Compare. -/
import Derived.Test.YtebcmefbpfcgmaaGreatDoorAmb
namespace Go.Proofs.YtebcmefbpfcgmaaGreatDoor
open Go.RowKit

theorem both_yes (a b : Nat) (w : World) (ha : Lib.nDigits a ≤ 18) (hb : Lib.nDigits b ≤ 18) :
    Calls Tryz.prog 53 #[.string (dec a), .string (dec b)] w (SmallRes (.tuple #[.int .u64 (a : Int), .int .u64 (b : Int), .bool true]) w) := by
  have h1 : (dec a).size ≤ 18 := by rw [dec_size]; exact ha
  have h2 : (dec b).size ≤ 18 := by rw [dec_size]; exact hb
  have ha' : a < 18446744073709551616 := by have := (nd_le_iff a 17).1 ha; omega
  have hb' : b < 18446744073709551616 := by have := (nd_le_iff b 17).1 hb; omega
  go_enter Tryz.func53, Tryz.ntmps53
  go_wp2_with fail
  refine (small_yes a _ ha').mono ?_
  rintro e w1 ⟨rfl, hb1⟩
  go_wp2_with fail
  refine (small_yes b _ hb').mono ?_
  rintro e w2 ⟨rfl, hb2⟩
  go_wp2
  go_ret3
  exact ⟨rfl, hb1.trans (hb2.mono hb1.size)⟩
theorem both_no (a b : Nat) (w : World) (h : ¬ (Lib.nDigits a ≤ 18 ∧ Lib.nDigits b ≤ 18)) :
    Calls Tryz.prog 53 #[.string (dec a), .string (dec b)] w (SmallRes (.tuple #[.int .u64 0, .int .u64 0, .bool false]) w) := by
  have h' : ¬ ((dec a).size ≤ 18 ∧ (dec b).size ≤ 18) := by rw [dec_size, dec_size]; exact h
  have H := Lib.hid h'
  clear h h'
  by_cases h1 : (dec a).size ≤ 18
  · have h2 : 18 < (dec b).size := by
      rcases Nat.lt_or_ge 18 (dec b).size with h2 | h2
      · exact h2
      · exact absurd ⟨h1, h2⟩ H.out
    go_enter Tryz.func53, Tryz.ntmps53
    go_wp2_with fail
    go_ret3
    exact ⟨rfl, Below.refl _ _⟩
  · have h2 : 18 < (dec a).size := by omega
    go_enter Tryz.func53, Tryz.ntmps53
    go_wp2_with fail
    go_ret3
    exact ⟨rfl, Below.refl _ _⟩

/-- decimal.Compare. -/
theorem compare_any (a b : Nat) (w : World) (ha : Lib.nDigits a ≤ 1000000000) (hb : Lib.nDigits b ≤ 1000000000) :
    Calls Tryz.prog 34 #[.string (dec a), .string (dec b)] w fun e w' => e = .returned (.int .i64 (cmpI a b)) ∧ w = w' := by
  have h1 : (dec a).size ≤ 1000000000 := by rw [dec_size]; exact ha
  have h2 : (dec b).size ≤ 1000000000 := by rw [dec_size]; exact hb
  rcases Nat.lt_trichotomy (Lib.nDigits a) (Lib.nDigits b) with h | h | h
  · have HC := Lib.hid (cmpI_lt (nd_lt_of_lt h))
    have hlt : (dec a).size < (dec b).size := by rw [dec_size, dec_size]; exact h
    have hne : (((dec a).size : Int) != ((dec b).size : Int)) = true := by rw [bne_iff_ne]; omega
    clear h ha hb
    go_enter Tryz.func34, Tryz.ntmps34
    go_wp2
    all_goals go_ret
    all_goals exact ⟨ret_int (by (rw [HC.out]) <;> omega), rfl⟩
  · have hne : (((dec a).size : Int) != ((dec b).size : Int)) = false := by rw [dec_size, dec_size, h]; simp
    have hl : Op.bytesLess (dec a).toList (dec b).toList = decide (a < b) := by rw [dec_toList, dec_toList]; exact dd_less a b h
    have he : ((dec a).toList == (dec b).toList) = decide (a = b) := by rw [dec_toList, dec_toList, Bool.eq_iff_iff, beq_iff_eq, dd_eq_iff, decide_eq_true_eq]
    rcases Nat.lt_trichotomy a b with h3 | h3 | h3
    · have HC := Lib.hid (cmpI_lt h3)
      rw [decide_eq_true h3] at hl
      clear h ha hb he h3
      go_enter Tryz.func34, Tryz.ntmps34
      go_wp2
      go_ret
      exact ⟨ret_int (by (rw [HC.out]) <;> omega), rfl⟩
    · have HC := Lib.hid (show cmpI a b = 0 by rw [h3, cmpI_eq])
      rw [decide_eq_false (by omega)] at hl
      rw [decide_eq_true h3] at he
      have he2 : (!(dec a).toList == (dec b).toList) = false := by rw [he]; rfl
      clear h ha hb h3
      go_enter Tryz.func34, Tryz.ntmps34
      go_wp2
      go_ret
      exact ⟨ret_int (by (rw [HC.out]) <;> omega), rfl⟩
    · have HC := Lib.hid (cmpI_gt h3)
      rw [decide_eq_false (by omega)] at hl
      rw [decide_eq_false (by omega)] at he
      have he2 : (!(dec a).toList == (dec b).toList) = true := by rw [he]; rfl
      clear h ha hb h3
      go_enter Tryz.func34, Tryz.ntmps34
      go_wp2
      go_ret
      exact ⟨ret_int (by (rw [HC.out]) <;> omega), rfl⟩
  · have HC := Lib.hid (cmpI_gt (nd_lt_of_lt h))
    have hlt : (dec b).size < (dec a).size := by rw [dec_size, dec_size]; exact h
    have hne : (((dec a).size : Int) != ((dec b).size : Int)) = true := by rw [bne_iff_ne]; omega
    clear h ha hb
    go_enter Tryz.func34, Tryz.ntmps34
    go_wp2
    all_goals go_ret
    all_goals exact ⟨ret_int (by (rw [HC.out]) <;> omega), rfl⟩
end Go.Proofs.YtebcmefbpfcgmaaGreatDoor
