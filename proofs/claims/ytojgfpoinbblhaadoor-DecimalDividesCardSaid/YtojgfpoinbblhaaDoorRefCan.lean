/- The walk of the first chapter's reference Canonical, for any string. -/
import Derived.Test.YtojgfpoinbblhaaDoorRefA
namespace Go.Proofs.YtojgfpoinbblhaaDoor
open Go.RowKit Go.PlainAid
set_option maxHeartbeats 1000000 in
/-- schismaref01.Canonical. -/
theorem rcanonical_any (s : ByteArray) (w : World) (hs : s.size ≤ 1000000000) :
    Calls Tryd.prog 21 #[.string s] w fun e w' => e = .returned (.bool (canon s.data.toList)) ∧ w = w' := by
  have HSZ := Lib.hid (show s.data.toList.length = s.size from by rw [Array.length_toList]; rfl)
  have HB := Lib.hid (fun j (h : j < s.size) => bt_getD s j h)
  obtain ⟨l, hl⟩ : ∃ l, s.data.toList = l := ⟨_, rfl⟩
  rw [hl] at HSZ HB ⊢
  clear hl
  have hbt := get_bt s
  go_enter Tryd.func21, Tryd.ntmps21
  go_wp2
  go_loop [3] (fun vj => ∃ j : Nat, j ≤ s.size ∧ vj = .int .i64 (j : Int) ∧ Hid ((l.take j).all isDig = true)) (fun vj => s.size - (intOf vj).toNat)
  case atStart => exact ⟨0, Nat.zero_le _, rfl, rfl⟩
  case round =>
    obtain ⟨j, hj, rfl, HI⟩ := hrel
    by_cases hjn : j = s.size
    · subst hjn
      have hall : l.all isDig = true := by have := HI.out; rwa [List.take_of_length_le (by rw [HSZ.out]; omega)] at this
      by_cases h1 : s.size = 1
      · have hb1 : ((s.size : Int) == 1) = true := by rw [h1]; rfl
        have HR := Lib.hid (show canon l = true by unfold canon; rw [hall, HSZ.out, h1]; rfl)
        clear hall h1
        go_wp2
        go_ret
        exact ⟨ret_bool HR.out.symm, rfl⟩
      · have hb1 : ((s.size : Int) == 1) = false := by simp; omega
        by_cases h2 : 1 < s.size
        · have hx := HB.out 0 (by omega)
          have HR := Lib.hid (show canon l = !(l.getD 0 0 == 48) by
            unfold canon; rw [hall, HSZ.out, show (s.size == 1) = false by simpa using h1, decide_eq_true h2]; rfl)
          have hx3 : (l.getD 0 0 == 48) = decide ((l.getD 0 0).toNat = 48) := by
            rw [Bool.eq_iff_iff, beq_iff_eq, decide_eq_true_eq]
            exact ⟨fun h => by rw [h]; rfl, fun h => UInt8.toNat_inj.1 h⟩
          rw [hx3] at HR
          clear hall h1 hx3
          have hbd := (l.getD 0 0).toNat_lt
          generalize (l.getD 0 0).toNat = d at *
          by_cases h48 : d = 48
          · have hd1 : (bt s 0 != 48) = false := by rw [hx, h48]; rfl
            have H48 := Lib.hid h48
            clear hx h48
            go_wp2
            go_ret
            exact ⟨ret_bool (by rw [HR.out, decide_eq_true H48.out]; rfl), rfl⟩
          · have hd1 : (bt s 0 != 48) = true := by rw [hx, bne_iff_ne]; omega
            have H48 := Lib.hid h48
            clear hx h48
            go_wp2
            go_ret
            exact ⟨ret_bool (by rw [HR.out, decide_eq_false H48.out]; rfl), rfl⟩
        · have h0 : s.size = 0 := by omega
          have HR := Lib.hid (show canon l = false by unfold canon; rw [HSZ.out, h0]; simp)
          clear hall h1 h0
          go_wp2
          go_ret
          exact ⟨ret_bool HR.out.symm, rfl⟩
    · have hj' : j < s.size := by omega
      have hc := HB.out j hj'
      have htk : (l.take (j + 1)).all isDig = isDig (l.getD j 0) := by
        rw [List.take_succ_eq_append_getElem (by rw [HSZ.out]; exact hj'), List.all_append, HI.out, List.getD_eq_getElem?_getD, List.getElem?_eq_getElem (by rw [HSZ.out]; exact hj')]
        simp
      have hno : isDig (l.getD j 0) = false → canon l = false := fun h => by
        have : l.all isDig = false := by
          rw [List.all_eq_false]
          exact ⟨l.getD j 0, by rw [List.getD_eq_getElem?_getD, List.getElem?_eq_getElem (by rw [HSZ.out]; exact hj')]; exact List.getElem_mem _, by rw [h]; decide⟩
        unfold canon; rw [this]; rfl
      have hb1 := (l.getD j 0).toNat_lt
      have hdg : isDig (l.getD j 0) = (decide (48 ≤ (l.getD j 0).toNat) && decide ((l.getD j 0).toNat ≤ 57)) := rfl
      have HTK := Lib.hid htk
      have HNO := Lib.hid hno
      have HDG := Lib.hid hdg
      clear htk hno hdg
      generalize (l.getD j 0) = b at *
      generalize hd : b.toNat = d at *
      by_cases h1 : 48 ≤ d
      · by_cases h2 : d ≤ 57
        · have HY := Lib.hid (show isDig b = true by rw [HDG.out]; simp [h1, h2])
          clear hd
          go_wp2
          go_round
          case rel => exact ⟨j + 1, by omega, by go_num, by rw [HTK.out]; exact HY.out⟩
          case measure => simp [intOf]; omega
        · have HY := Lib.hid (show isDig b = false by rw [HDG.out]; simp; omega)
          clear hd
          go_wp2
          go_ret
          exact ⟨ret_bool (HNO.out HY.out).symm, rfl⟩
      · have HY := Lib.hid (show isDig b = false by rw [HDG.out]; simp; omega)
        clear hd
        go_wp2
        go_ret
        exact ⟨ret_bool (HNO.out HY.out).symm, rfl⟩
end Go.Proofs.YtojgfpoinbblhaaDoor
