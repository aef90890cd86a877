/- The walks of both, Compare, Canonical, Check and Digits. -/
import Derived.Test.YtojgfpoinbblhaaDoorAmb
namespace Go.Proofs.YtojgfpoinbblhaaDoor
open Go.RowKit

theorem both_yes (a b : Nat) (w : World) (ha : Lib.nDigits a ≤ 18) (hb : Lib.nDigits b ≤ 18) :
    Calls Tryd.prog 44 #[.string (dec a), .string (dec b)] w (SmallRes (.tuple #[.int .u64 (a : Int), .int .u64 (b : Int), .bool true]) w) := by
  have h1 : (dec a).size ≤ 18 := by rw [dec_size]; exact ha
  have h2 : (dec b).size ≤ 18 := by rw [dec_size]; exact hb
  have ha' : a < 18446744073709551616 := by have := (nd_le_iff a 17).1 ha; omega
  have hb' : b < 18446744073709551616 := by have := (nd_le_iff b 17).1 hb; omega
  go_enter Tryd.func44, Tryd.ntmps44
  go_wp2_with fail
  refine (small_yes a _ ha').mono ?_
  rintro e w1 ⟨rfl, hb1⟩
  go_wp2_with fail
  refine (small_yes b _ hb').mono ?_
  rintro e w2 ⟨rfl, hb2⟩
  go_wp2
  go_ret3
  exact ⟨rfl, hb1.trans (hb2.mono hb1.size)⟩
theorem both_no (a b : Nat) (w : World) (h : ¬ (Lib.nDigits a ≤ 18 ∧ Lib.nDigits b ≤ 18)) :
    Calls Tryd.prog 44 #[.string (dec a), .string (dec b)] w (SmallRes (.tuple #[.int .u64 0, .int .u64 0, .bool false]) w) := by
  have h' : ¬ ((dec a).size ≤ 18 ∧ (dec b).size ≤ 18) := by rw [dec_size, dec_size]; exact h
  have H := Lib.hid h'
  clear h h'
  by_cases h1 : (dec a).size ≤ 18
  · have h2 : 18 < (dec b).size := by
      rcases Nat.lt_or_ge 18 (dec b).size with h2 | h2
      · exact h2
      · exact absurd ⟨h1, h2⟩ H.out
    go_enter Tryd.func44, Tryd.ntmps44
    go_wp2_with fail
    go_ret3
    exact ⟨rfl, Below.refl _ _⟩
  · have h2 : 18 < (dec a).size := by omega
    go_enter Tryd.func44, Tryd.ntmps44
    go_wp2_with fail
    go_ret3
    exact ⟨rfl, Below.refl _ _⟩

/-- decimal.Compare. -/
theorem compare_any (a b : Nat) (w : World) (ha : Lib.nDigits a ≤ 1000000000) (hb : Lib.nDigits b ≤ 1000000000) :
    Calls Tryd.prog 30 #[.string (dec a), .string (dec b)] w fun e w' => e = .returned (.int .i64 (cmpI a b)) ∧ w = w' := by
  have h1 : (dec a).size ≤ 1000000000 := by rw [dec_size]; exact ha
  have h2 : (dec b).size ≤ 1000000000 := by rw [dec_size]; exact hb
  rcases Nat.lt_trichotomy (Lib.nDigits a) (Lib.nDigits b) with h | h | h
  · have HC := Lib.hid (cmpI_lt (nd_lt_of_lt h))
    have hlt : (dec a).size < (dec b).size := by rw [dec_size, dec_size]; exact h
    have hne : (((dec a).size : Int) != ((dec b).size : Int)) = true := by rw [bne_iff_ne]; omega
    clear h ha hb
    go_enter Tryd.func30, Tryd.ntmps30
    go_wp2
    all_goals go_ret
    all_goals exact ⟨ret_int (by (rw [HC.out]) <;> omega), rfl⟩
  · have hne : (((dec a).size : Int) != ((dec b).size : Int)) = false := by rw [dec_size, dec_size, h]; simp
    have hl : Op.bytesLess (dec a).toList (dec b).toList = decide (a < b) := by rw [dec_toList, dec_toList]; exact dd_less a b h
    have he : ((dec a).toList == (dec b).toList) = decide (a = b) := by rw [dec_toList, dec_toList, Bool.eq_iff_iff, beq_iff_eq, dd_eq_iff, decide_eq_true_eq]
    rcases Nat.lt_trichotomy a b with h3 | h3 | h3
    · have HC := Lib.hid (cmpI_lt h3)
      rw [decide_eq_true h3] at hl
      clear h ha hb he h3
      go_enter Tryd.func30, Tryd.ntmps30
      go_wp2
      go_ret
      exact ⟨ret_int (by (rw [HC.out]) <;> omega), rfl⟩
    · have HC := Lib.hid (show cmpI a b = 0 by rw [h3, cmpI_eq])
      rw [decide_eq_false (by omega)] at hl
      rw [decide_eq_true h3] at he
      have he2 : (!(dec a).toList == (dec b).toList) = false := by rw [he]; rfl
      clear h ha hb h3
      go_enter Tryd.func30, Tryd.ntmps30
      go_wp2
      go_ret
      exact ⟨ret_int (by (rw [HC.out]) <;> omega), rfl⟩
    · have HC := Lib.hid (cmpI_gt h3)
      rw [decide_eq_false (by omega)] at hl
      rw [decide_eq_false (by omega)] at he
      have he2 : (!(dec a).toList == (dec b).toList) = true := by rw [he]; rfl
      clear h ha hb h3
      go_enter Tryd.func30, Tryd.ntmps30
      go_wp2
      go_ret
      exact ⟨ret_int (by (rw [HC.out]) <;> omega), rfl⟩
  · have HC := Lib.hid (cmpI_gt (nd_lt_of_lt h))
    have hlt : (dec b).size < (dec a).size := by rw [dec_size, dec_size]; exact h
    have hne : (((dec a).size : Int) != ((dec b).size : Int)) = true := by rw [bne_iff_ne]; omega
    clear h ha hb
    go_enter Tryd.func30, Tryd.ntmps30
    go_wp2
    all_goals go_ret
    all_goals exact ⟨ret_int (by (rw [HC.out]) <;> omega), rfl⟩

/-- decimal.Canonical. -/
theorem canonical_any (s : ByteArray) (w : World) (hs : s.size ≤ 1000000000) :
    Calls Tryd.prog 28 #[.string s] w (SmallRes (.bool (canon s.data.toList)) w) := by
  have hconv := Lib.run_convert_string_bytes (P := Tryd.prog) w 26 23 5 s Tryd.underlying26 Tryd.underlying23 Tryd.underlying5
  have HSZ := Lib.hid (show s.data.toList.length = s.size from by rw [Array.length_toList]; rfl)
  obtain ⟨l, hl⟩ : ∃ l, s.data.toList = l := ⟨_, rfl⟩
  have hcl : ∀ j, j < s.size → (Lib.bytesWorld w 5 s).cell? ⟨w.heap.size, j, none⟩ = some (.int .u8 ((l.getD j 0).toNat : Int)) := by
    intro j hj
    rw [Lib.bytesWorld_cell _ _ _ j hj, hl]
  have hbw := bytes_below w 5 s
  have h0 : 0 < s.size → ∀ h : 0 < s.size, s[0] = l.getD 0 0 := fun _ h => by
    rw [← hl, List.getD_eq_getElem?_getD, List.getElem?_eq_getElem (by rw [HSZ.out]; exact h)]; rfl
  have HCL := Lib.hid hcl
  have HBW := Lib.hid hbw
  have H0 := Lib.hid h0
  rw [hl] at HSZ ⊢
  clear hl hcl hbw h0
  go_enter Tryd.func28, Tryd.ntmps28
  go_wp2
  clear hconv
  obtain ⟨W, hW⟩ : ∃ W, Lib.bytesWorld w 5 s = W := ⟨_, rfl⟩
  rw [hW] at HCL HBW ⊢
  clear hW
  go_loop [8] (fun vj => ∃ j : Nat, j ≤ s.size ∧ vj = .int .i64 (j : Int) ∧ Hid ((l.take j).all isDig = true)) (fun vj => s.size - (intOf vj).toNat)
  case atStart => exact ⟨0, Nat.zero_le _, rfl, rfl⟩
  case round =>
    obtain ⟨j, hj, rfl, HI⟩ := hrel
    by_cases hjn : j = s.size
    · subst hjn
      have hall : l.all isDig = true := by have := HI.out; rwa [List.take_of_length_le (by rw [HSZ.out]; omega)] at this
      by_cases h1 : s.size = 1
      · have hb1 : ((s.size : Int) == 1) = true := by rw [h1]; rfl
        have HR := Lib.hid (show canon l = true by unfold canon; rw [hall, HSZ.out, h1]; rfl)
        clear hall h1
        go_wp2
        go_ret
        exact ⟨ret_bool HR.out.symm, HBW.out⟩
      · have hb1 : ((s.size : Int) == 1) = false := by simp; omega
        by_cases h2 : 1 < s.size
        · have hx := H0.out (by omega) (by omega)
          have HR := Lib.hid (show canon l = !(l.getD 0 0 == 48) by
            unfold canon; rw [hall, HSZ.out, show (s.size == 1) = false by simpa using h1, decide_eq_true h2]; rfl)
          have hx2 : ((s[0]'(by omega)).toNat : Int) = ((l.getD 0 0).toNat : Int) := by rw [hx]
          have hx3 : (l.getD 0 0 == 48) = decide ((l.getD 0 0).toNat = 48) := by
            rw [Bool.eq_iff_iff, beq_iff_eq, decide_eq_true_eq]
            exact ⟨fun h => by rw [h]; rfl, fun h => UInt8.toNat_inj.1 h⟩
          rw [hx3] at HR
          clear hall h1 hx hx3
          have hbd := (l.getD 0 0).toNat_lt
          generalize (l.getD 0 0).toNat = d at *
          by_cases h48 : d = 48
          · have hd1 : (((s[0]'(by omega)).toNat : Int) != 48) = false := by rw [hx2, h48]; rfl
            have HX := Lib.hid hx2
            have H48 := Lib.hid h48
            clear hx2 h48
            go_wp2
            go_ret
            exact ⟨ret_bool (by rw [HR.out, decide_eq_true H48.out]; rfl), HBW.out⟩
          · have hd1 : (((s[0]'(by omega)).toNat : Int) != 48) = true := by rw [hx2, bne_iff_ne]; omega
            have HX := Lib.hid hx2
            have H48 := Lib.hid h48
            clear hx2 h48
            go_wp2
            go_ret
            exact ⟨ret_bool (by rw [HR.out, decide_eq_false H48.out]; rfl), HBW.out⟩
        · have h0 : s.size = 0 := by omega
          have HR := Lib.hid (show canon l = false by unfold canon; rw [HSZ.out, h0]; simp)
          clear hall h1 h0
          go_wp2
          go_ret
          exact ⟨ret_bool HR.out.symm, HBW.out⟩
    · have hj' : j < s.size := by omega
      have hc := HCL.out j hj'
      have htk : (l.take (j + 1)).all isDig = isDig (l.getD j 0) := by
        rw [List.take_succ_eq_append_getElem (by rw [HSZ.out]; exact hj'), List.all_append, HI.out, List.getD_eq_getElem?_getD, List.getElem?_eq_getElem (by rw [HSZ.out]; exact hj')]
        simp
      have hno : isDig (l.getD j 0) = false → canon l = false := fun h => by
        have : l.all isDig = false := by
          rw [List.all_eq_false]
          exact ⟨l.getD j 0, by rw [List.getD_eq_getElem?_getD, List.getElem?_eq_getElem (by rw [HSZ.out]; exact hj')]; exact List.getElem_mem _, by rw [h]; decide⟩
        unfold canon; rw [this]; rfl
      have hb1 := (l.getD j 0).toNat_lt
      have hdg : isDig (l.getD j 0) = (decide (48 ≤ (l.getD j 0).toNat) && decide ((l.getD j 0).toNat ≤ 57)) := rfl
      have HTK := Lib.hid htk
      have HNO := Lib.hid hno
      have HDG := Lib.hid hdg
      clear htk hno hdg
      generalize (l.getD j 0) = b at *
      generalize hd : b.toNat = d at *
      by_cases h1 : 48 ≤ d
      · by_cases h2 : d ≤ 57
        · have HY := Lib.hid (show isDig b = true by rw [HDG.out]; simp [h1, h2])
          clear hd
          go_wp2
          go_round
          case rel => exact ⟨j + 1, by omega, by go_num, by rw [HTK.out]; exact HY.out⟩
          case measure => simp [intOf]; omega
        · have HY := Lib.hid (show isDig b = false by rw [HDG.out]; simp; omega)
          clear hd
          go_wp2
          go_ret
          exact ⟨ret_bool (HNO.out HY.out).symm, HBW.out⟩
      · have HY := Lib.hid (show isDig b = false by rw [HDG.out]; simp; omega)
        clear hd
        go_wp2
        go_ret
        exact ⟨ret_bool (HNO.out HY.out).symm, HBW.out⟩
/-- decimal.Check: 0 or ErrNumber. -/
theorem check_any (s : ByteArray) (w : World) (hs : s.size ≤ 1000000000) :
    Calls Tryd.prog 27 #[.string s] w (SmallRes (.int .i64 (if canon s.data.toList = true ∧ s.size ≤ 400 then 0 else 2)) w) := by
  have hc := canonical_any s w hs
  have HC := Lib.hid hc
  clear hc
  cases h : canon s.data.toList with
  | true =>
    rw [h] at HC
    by_cases h4 : s.size ≤ 400
    · rw [if_pos ⟨rfl, h4⟩]
      go_enter Tryd.func27, Tryd.ntmps27
      go_wp2_with (go_at_call 28; refine HC.out.mono ?_; rintro e w' ⟨rfl, hb⟩)
      go_ret
      exact ⟨rfl, hb⟩
    · rw [if_neg (fun h => h4 h.2)]
      have h5 : 400 < s.size := by omega
      go_enter Tryd.func27, Tryd.ntmps27
      go_wp2_with (go_at_call 28; refine HC.out.mono ?_; rintro e w' ⟨rfl, hb⟩)
      go_ret
      exact ⟨rfl, hb⟩
  | false =>
    rw [h] at HC
    rw [if_neg (fun h => by cases h.1)]
    go_enter Tryd.func27, Tryd.ntmps27
    go_wp2_with (go_at_call 28; refine HC.out.mono ?_; rintro e w' ⟨rfl, hb⟩)
    go_ret
    exact ⟨rfl, hb⟩
theorem digits_any (s : ByteArray) (w : World) :
    Calls Tryd.prog 29 #[.string s] w fun e w' => e = .returned (.int .i64 (s.size : Int)) ∧ w = w' := by
  go_enter Tryd.func29, Tryd.ntmps29
  go_wp2
  go_ret
  exact ⟨rfl, rfl⟩
end Go.Proofs.YtojgfpoinbblhaaDoor
