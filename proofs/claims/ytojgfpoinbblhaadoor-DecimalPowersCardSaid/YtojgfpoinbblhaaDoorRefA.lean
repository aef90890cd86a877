/- The walks of the first chapter's reference: Canonical, quick, Compare, Small, digit. -/
import Derived.Test.YtojgfpoinbblhaaDoorKnown1
import Derived.PlainAid
namespace Go.Proofs.YtojgfpoinbblhaaDoor
open Go.RowKit Go.PlainAid

theorem bt_getD (s : ByteArray) (j : Nat) (h : j < s.size) : bt s j = ((s.data.toList.getD j 0).toNat : Int) := by
  unfold bt
  rw [dif_pos h, List.getD_eq_getElem?_getD, List.getElem?_eq_getElem (by rw [Array.length_toList]; exact h)]; rfl
theorem bt_dec (n j : Nat) (h : j < Lib.nDigits n) : bt (dec n) j = (((Lib.decDigits n).getD j 0).toNat : Int) := by
  rw [bt_getD _ _ (by rw [dec_size]; exact h), dec_data]
theorem dgt_bd (n j : Nat) (h : j < Lib.nDigits n) : 48 ≤ ((Lib.decDigits n).getD j 0).toNat ∧ ((Lib.decDigits n).getD j 0).toNat ≤ 57 :=
  dig_getD (all_dd n) j (by rw [Lib.decDigits_length]; exact h)
theorem val_pre_lt (n j k : Nat) (hj : j ≤ k) : val ((Lib.decDigits n).take j) < 10 ^ k := by
  have h1 := val_lt ((Lib.decDigits n).take j) (by have := all_sub (all_dd n) 0 j; rwa [List.drop_zero] at this)
  have h2 : 10 ^ ((Lib.decDigits n).take j).length ≤ 10 ^ k := Nat.pow_le_pow_right (by decide) (by rw [List.length_take]; omega)
  omega
theorem val_pre_le (n j : Nat) : val ((Lib.decDigits n).take j) ≤ n := by
  have h := val_append ((Lib.decDigits n).take j) ((Lib.decDigits n).drop j)
  rw [List.take_append_drop, val_dd] at h
  have := Nat.le_mul_of_pos_right (val ((Lib.decDigits n).take j)) (Nat.pow_pos (n := ((Lib.decDigits n).drop j).length) (show 0 < 10 by decide))
  omega

/-- schismaref01.quick. -/
theorem rquick_no (n : Nat) (w : World) (h : 18 < Lib.nDigits n) :
    Calls Tryd.prog 43 #[.string (dec n)] w fun e w' => e = .returned (.tuple #[.int .u64 0, .bool false]) ∧ w = w' := by
  have h1 : 18 < (dec n).size := by rw [dec_size]; exact h
  go_enter Tryd.func43, Tryd.ntmps43
  go_wp2
  go_ret2
  exact ⟨rfl, rfl⟩
theorem rquick_yes (n : Nat) (w : World) (h : Lib.nDigits n ≤ 18) :
    Calls Tryd.prog 43 #[.string (dec n)] w fun e w' => e = .returned (.tuple #[.int .u64 (n : Int), .bool true]) ∧ w = w' := by
  have h1 : (dec n).size ≤ 18 := by rw [dec_size]; exact h
  have HD := Lib.hid (show (dec n).size = Lib.nDigits n from dec_size n)
  have hbt := get_bt (dec n)
  go_enter Tryd.func43, Tryd.ntmps43
  go_wp2
  go_loop [4, 5] (fun vn vj => ∃ j : Nat, j ≤ (dec n).size ∧ vj = .int .i64 (j : Int) ∧ vn = .int .u64 ((val ((Lib.decDigits n).take j) : Nat) : Int)) (fun _ vj => (dec n).size - (intOf vj).toNat)
  case atStart => exact ⟨0, by omega, rfl, rfl⟩
  case round =>
    obtain ⟨j, hj, rfl, rfl⟩ := hrel
    by_cases hjn : j = (dec n).size
    · have htk : val ((Lib.decDigits n).take j) = n := by rw [hjn, List.take_of_length_le (by rw [Lib.decDigits_length, HD.out]; omega), val_dd]
      have HT := Lib.hid htk
      have hjn2 : ¬ j < (dec n).size := by omega
      have hjn3 : (dec n).size ≤ j := by omega
      clear htk hjn
      go_wp2
      go_ret2
      exact ⟨by rw [HT.out]; rfl, rfl⟩
    · have hj' : j < (dec n).size := by omega
      have hb := bt_dec n j (by rw [← HD.out]; exact hj')
      have hdg := dgt_bd n j (by rw [← HD.out]; exact hj')
      have hv := val_pre_lt n j 17 (by omega)
      have hs := val_take_succ (Lib.decDigits n) j (by rw [Lib.decDigits_length, ← HD.out]; exact hj')
      have HS := Lib.hid hs
      have hv2 : val ((Lib.decDigits n).take j) ≤ 99999999999999999 := by have : (10 : Nat) ^ 17 = 100000000000000000 := by decide
                                                                          omega
      clear hs hv hjn
      generalize ((Lib.decDigits n).getD j 0).toNat = d at *
      generalize hvv : val ((Lib.decDigits n).take j) = v at *
      clear hvv
      go_wp2
      go_round
      case rel =>
        refine ⟨j + 1, by omega, by go_num, ?_⟩
        rw [HS.out]
        exact vint (by omega)
      case measure => simp [intOf]; omega

/-- schismaref01.Compare. -/
theorem rcompare_any (a b : Nat) (w : World) (ha : Lib.nDigits a ≤ 1000000000) (hb : Lib.nDigits b ≤ 1000000000) :
    Calls Tryd.prog 22 #[.string (dec a), .string (dec b)] w fun e w' => e = .returned (.int .i64 (cmpI a b)) ∧ w = w' := by
  have h1 : (dec a).size ≤ 1000000000 := by rw [dec_size]; exact ha
  have h2 : (dec b).size ≤ 1000000000 := by rw [dec_size]; exact hb
  rcases Nat.lt_trichotomy (Lib.nDigits a) (Lib.nDigits b) with h | h | h
  · have HC := Lib.hid (cmpI_lt (nd_lt_of_lt h))
    have hlt : (dec a).size < (dec b).size := by rw [dec_size, dec_size]; exact h
    have hne : (((dec a).size : Int) != ((dec b).size : Int)) = true := by rw [bne_iff_ne]; omega
    clear h ha hb
    go_enter Tryd.func22, Tryd.ntmps22
    go_wp2
    go_ret
    exact ⟨ret_int (by (rw [HC.out]) <;> omega), rfl⟩
  · have hne : (((dec a).size : Int) != ((dec b).size : Int)) = false := by rw [dec_size, dec_size, h]; simp
    have hl : Op.bytesLess (dec a).toList (dec b).toList = decide (a < b) := by rw [dec_toList, dec_toList]; exact dd_less a b h
    have he : ((dec a).toList == (dec b).toList) = decide (a = b) := by rw [dec_toList, dec_toList, Bool.eq_iff_iff, beq_iff_eq, dd_eq_iff, decide_eq_true_eq]
    rcases Nat.lt_trichotomy a b with h3 | h3 | h3
    · have HC := Lib.hid (cmpI_lt h3)
      rw [decide_eq_true h3] at hl
      rw [decide_eq_false (by omega)] at he
      clear h ha hb h3
      go_enter Tryd.func22, Tryd.ntmps22
      go_wp2
      go_ret
      exact ⟨ret_int (by (rw [HC.out]) <;> omega), rfl⟩
    · have HC := Lib.hid (show cmpI a b = 0 by rw [h3, cmpI_eq])
      rw [decide_eq_true h3] at he
      clear h ha hb h3 hl
      go_enter Tryd.func22, Tryd.ntmps22
      go_wp2
      go_ret
      exact ⟨ret_int (by (rw [HC.out]) <;> omega), rfl⟩
    · have HC := Lib.hid (cmpI_gt h3)
      rw [decide_eq_false (by omega)] at hl
      rw [decide_eq_false (by omega)] at he
      clear h ha hb h3
      go_enter Tryd.func22, Tryd.ntmps22
      go_wp2
      go_ret
      exact ⟨ret_int (by (rw [HC.out]) <;> omega), rfl⟩
  · have HC := Lib.hid (cmpI_gt (nd_lt_of_lt h))
    have hlt : ¬ (dec a).size < (dec b).size := by rw [dec_size, dec_size]; omega
    have hlt2 : (dec b).size < (dec a).size := by rw [dec_size, dec_size]; exact h
    have hne : (((dec a).size : Int) != ((dec b).size : Int)) = true := by rw [bne_iff_ne]; omega
    clear h ha hb
    go_enter Tryd.func22, Tryd.ntmps22
    go_wp2
    go_ret
    exact ⟨ret_int (by (rw [HC.out]) <;> omega), rfl⟩

/-- schismaref01.Small. -/
theorem rsmall_any (n : Nat) (w : World) (hd : Lib.nDigits n ≤ 1000000) :
    Calls Tryd.prog 17 #[.string (dec n)] w fun e w' => e = .returned (if n < 18446744073709551616 then .tuple #[.int .u64 (n : Int), .bool true] else .tuple #[.int .u64 0, .bool false]) ∧ w = w' := by
  by_cases h18 : Lib.nDigits n ≤ 18
  · have hn := (nd_le_iff n 17).1 h18
    rw [if_pos (by omega)]
    go_enter Tryd.func17, Tryd.ntmps17
    go_wp2_with fail
    refine (rquick_yes n _ h18).mono ?_
    rintro e w' ⟨rfl, rfl⟩
    go_wp2_with fail
    go_ret2
    exact ⟨rfl, rfl⟩
  · have hlit : (⟨#[49, 56, 52, 52, 54, 55, 52, 52, 48, 55, 51, 55, 48, 57, 53, 53, 49, 54, 49, 53]⟩ : ByteArray) = dec 18446744073709551615 := lit_dec [49, 56, 52, 52, 54, 55, 52, 52, 48, 55, 51, 55, 48, 57, 53, 53, 49, 54, 49, 53] _ (by decide) (by decide)
    have hcp := fun w1 => rcompare_any n 18446744073709551615 w1 (by omega) (Nat.le_trans ((nd_le_iff 18446744073709551615 19).2 (by decide)) (by decide))
    rw [← hlit] at hcp
    have HCP := Lib.hid hcp
    clear hcp hlit
    by_cases hbig : n < 18446744073709551616
    · rw [if_pos hbig]
      have hcm : cmpI n 18446744073709551615 ≤ 0 := by
        rcases Nat.lt_or_eq_of_le (show n ≤ 18446744073709551615 by omega) with h | h
        · rw [cmpI_lt h]; decide
        · rw [h, cmpI_eq]; decide
      have h20 : Lib.nDigits n ≤ 20 := (nd_le_iff n 19).2 (by omega)
      have hsz : (dec n).size ≤ 20 := by rw [dec_size]; exact h20
      have HD := Lib.hid (show (dec n).size = Lib.nDigits n from dec_size n)
      have hbt := get_bt (dec n)
      have HB := Lib.hid hbig
      have HCM := Lib.hid hcm
      clear hbig hcm
      go_enter Tryd.func17, Tryd.ntmps17
      go_wp2_with fail
      refine (rquick_no n _ (by omega)).mono ?_
      rintro e w' ⟨rfl, rfl⟩
      go_wp2_with fail
      refine (HCP.out _).mono ?_
      rintro e w' ⟨rfl, rfl⟩
      have hcm := HCM.out
      generalize cmpI n 18446744073709551615 = cm at *
      go_wp2_with fail
      go_loop [6, 7] (fun vn vj => ∃ j : Nat, j ≤ (dec n).size ∧ vj = .int .i64 (j : Int) ∧ vn = .int .u64 ((val ((Lib.decDigits n).take j) : Nat) : Int)) (fun _ vj => (dec n).size - (intOf vj).toNat)
      case atStart => exact ⟨0, by omega, rfl, rfl⟩
      case round =>
        obtain ⟨j, hj, rfl, rfl⟩ := hrel
        by_cases hjn : j = (dec n).size
        · have htk : val ((Lib.decDigits n).take j) = n := by rw [hjn, List.take_of_length_le (by rw [Lib.decDigits_length, HD.out]; omega), val_dd]
          have HT := Lib.hid htk
          have hjn2 : ¬ j < (dec n).size := by omega
          clear htk hjn
          go_wp2
          go_ret2
          exact ⟨by rw [HT.out]; rfl, rfl⟩
        · have hj' : j < (dec n).size := by omega
          have hb := bt_dec n j (by rw [← HD.out]; exact hj')
          have hdg := dgt_bd n j (by rw [← HD.out]; exact hj')
          have hv := val_pre_le n (j + 1)
          have hs := val_take_succ (Lib.decDigits n) j (by rw [Lib.decDigits_length, ← HD.out]; exact hj')
          have HS := Lib.hid hs
          rw [hs] at hv
          have hv2 : 10 * val ((Lib.decDigits n).take j) + (((Lib.decDigits n).getD j 0).toNat - 48) ≤ 18446744073709551615 := by have := HB.out; omega
          clear hs hv hjn
          generalize ((Lib.decDigits n).getD j 0).toNat = d at *
          generalize hvv : val ((Lib.decDigits n).take j) = v at *
          clear hvv
          go_wp2
          go_round
          case rel =>
            refine ⟨j + 1, by omega, by go_num, ?_⟩
            rw [HS.out]
            exact vint (by omega)
          case measure => simp [intOf]; omega
    · rw [if_neg hbig]
      have hcm : cmpI n 18446744073709551615 = 1 := cmpI_gt (by omega)
      have HCM := Lib.hid hcm
      clear hcm hbig
      go_enter Tryd.func17, Tryd.ntmps17
      go_wp2_with fail
      refine (rquick_no n _ (by omega)).mono ?_
      rintro e w' ⟨rfl, rfl⟩
      go_wp2_with fail
      refine (HCP.out _).mono ?_
      rintro e w' ⟨rfl, rfl⟩
      rw [HCM.out]
      go_wp2_with fail
      go_ret2
      exact ⟨rfl, rfl⟩
end Go.Proofs.YtojgfpoinbblhaaDoor
