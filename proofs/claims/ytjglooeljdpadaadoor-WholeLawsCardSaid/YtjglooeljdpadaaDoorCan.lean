/- The walks of the program's Canonical and Check. -/
import Derived.Test.YtjglooeljdpadaaDoorAmb
namespace Go.Proofs.YtjglooeljdpadaaDoor
open Go.RowKit

/-- decimal.Canonical. -/
theorem canonical_any (s : ByteArray) (w : World) (hs : s.size ≤ 1000000000) :
    Calls Tryd.prog 74 #[.string s] w (SmallRes (.bool (canon s.data.toList)) w) := by
  have hconv := Lib.run_convert_string_bytes (P := Tryd.prog) w 23 28 5 s Tryd.underlying23 Tryd.underlying28 Tryd.underlying5
  have HSZ := Lib.hid (show s.data.toList.length = s.size from by rw [Array.length_toList]; rfl)
  obtain ⟨l, hl⟩ : ∃ l, s.data.toList = l := ⟨_, rfl⟩
  have hcl : ∀ j, j < s.size → (Lib.bytesWorld w 5 s).cell? ⟨w.heap.size, j, none⟩ = some (.int .u8 ((l.getD j 0).toNat : Int)) := by
    intro j hj
    rw [Lib.bytesWorld_cell _ _ _ j hj, hl]
  have hbw := bytes_below w 5 s
  have h0 : 0 < s.size → ∀ h : 0 < s.size, s[0] = l.getD 0 0 := fun _ h => by
    rw [← hl, List.getD_eq_getElem?_getD, List.getElem?_eq_getElem (by rw [HSZ.out]; exact h)]; rfl
  have HCL := Lib.hid hcl
  have HBW := Lib.hid hbw
  have H0 := Lib.hid h0
  rw [hl] at HSZ ⊢
  clear hl hcl hbw h0
  go_enter Tryd.func74, Tryd.ntmps74
  go_wp2
  clear hconv
  obtain ⟨W, hW⟩ : ∃ W, Lib.bytesWorld w 5 s = W := ⟨_, rfl⟩
  rw [hW] at HCL HBW ⊢
  clear hW
  go_loop [8] (fun vj => ∃ j : Nat, j ≤ s.size ∧ vj = .int .i64 (j : Int) ∧ Hid ((l.take j).all isDig = true)) (fun vj => s.size - (intOf vj).toNat)
  case atStart => exact ⟨0, Nat.zero_le _, rfl, rfl⟩
  case round =>
    obtain ⟨j, hj, rfl, HI⟩ := hrel
    by_cases hjn : j = s.size
    · subst hjn
      have hall : l.all isDig = true := by have := HI.out; rwa [List.take_of_length_le (by rw [HSZ.out]; omega)] at this
      by_cases h1 : s.size = 1
      · have hb1 : ((s.size : Int) == 1) = true := by rw [h1]; rfl
        have HR := Lib.hid (show canon l = true by unfold canon; rw [hall, HSZ.out, h1]; rfl)
        clear hall h1
        go_wp2
        go_ret
        exact ⟨ret_bool HR.out.symm, HBW.out⟩
      · have hb1 : ((s.size : Int) == 1) = false := by simp; omega
        by_cases h2 : 1 < s.size
        · have hx := H0.out (by omega) (by omega)
          have HR := Lib.hid (show canon l = !(l.getD 0 0 == 48) by
            unfold canon; rw [hall, HSZ.out, show (s.size == 1) = false by simpa using h1, decide_eq_true h2]; rfl)
          have hx2 : ((s[0]'(by omega)).toNat : Int) = ((l.getD 0 0).toNat : Int) := by rw [hx]
          have hx3 : (l.getD 0 0 == 48) = decide ((l.getD 0 0).toNat = 48) := by
            rw [Bool.eq_iff_iff, beq_iff_eq, decide_eq_true_eq]
            exact ⟨fun h => by rw [h]; rfl, fun h => UInt8.toNat_inj.1 h⟩
          rw [hx3] at HR
          clear hall h1 hx hx3
          have hbd := (l.getD 0 0).toNat_lt
          generalize (l.getD 0 0).toNat = d at *
          by_cases h48 : d = 48
          · have hd1 : (((s[0]'(by omega)).toNat : Int) != 48) = false := by rw [hx2, h48]; rfl
            have HX := Lib.hid hx2
            have H48 := Lib.hid h48
            clear hx2 h48
            go_wp2
            go_ret
            exact ⟨ret_bool (by rw [HR.out, decide_eq_true H48.out]; rfl), HBW.out⟩
          · have hd1 : (((s[0]'(by omega)).toNat : Int) != 48) = true := by rw [hx2, bne_iff_ne]; omega
            have HX := Lib.hid hx2
            have H48 := Lib.hid h48
            clear hx2 h48
            go_wp2
            go_ret
            exact ⟨ret_bool (by rw [HR.out, decide_eq_false H48.out]; rfl), HBW.out⟩
        · have h0 : s.size = 0 := by omega
          have HR := Lib.hid (show canon l = false by unfold canon; rw [HSZ.out, h0]; simp)
          clear hall h1 h0
          go_wp2
          go_ret
          exact ⟨ret_bool HR.out.symm, HBW.out⟩
    · have hj' : j < s.size := by omega
      have hc := HCL.out j hj'
      have htk : (l.take (j + 1)).all isDig = isDig (l.getD j 0) := by
        rw [List.take_succ_eq_append_getElem (by rw [HSZ.out]; exact hj'), List.all_append, HI.out, List.getD_eq_getElem?_getD, List.getElem?_eq_getElem (by rw [HSZ.out]; exact hj')]
        simp
      have hno : isDig (l.getD j 0) = false → canon l = false := fun h => by
        have : l.all isDig = false := by
          rw [List.all_eq_false]
          exact ⟨l.getD j 0, by rw [List.getD_eq_getElem?_getD, List.getElem?_eq_getElem (by rw [HSZ.out]; exact hj')]; exact List.getElem_mem _, by rw [h]; decide⟩
        unfold canon; rw [this]; rfl
      have hb1 := (l.getD j 0).toNat_lt
      have hdg : isDig (l.getD j 0) = (decide (48 ≤ (l.getD j 0).toNat) && decide ((l.getD j 0).toNat ≤ 57)) := rfl
      have HTK := Lib.hid htk
      have HNO := Lib.hid hno
      have HDG := Lib.hid hdg
      clear htk hno hdg
      generalize (l.getD j 0) = b at *
      generalize hd : b.toNat = d at *
      by_cases h1 : 48 ≤ d
      · by_cases h2 : d ≤ 57
        · have HY := Lib.hid (show isDig b = true by rw [HDG.out]; simp [h1, h2])
          clear hd
          go_wp2
          go_round
          case rel => exact ⟨j + 1, by omega, by go_num, by rw [HTK.out]; exact HY.out⟩
          case measure => simp [intOf]; omega
        · have HY := Lib.hid (show isDig b = false by rw [HDG.out]; simp; omega)
          clear hd
          go_wp2
          go_ret
          exact ⟨ret_bool (HNO.out HY.out).symm, HBW.out⟩
      · have HY := Lib.hid (show isDig b = false by rw [HDG.out]; simp; omega)
        clear hd
        go_wp2
        go_ret
        exact ⟨ret_bool (HNO.out HY.out).symm, HBW.out⟩
/-- decimal.Check: 0 or ErrNumber. -/
theorem check_any (s : ByteArray) (w : World) (hs : s.size ≤ 1000000000) :
    Calls Tryd.prog 53 #[.string s] w (SmallRes (.int .i64 (if canon s.data.toList = true ∧ s.size ≤ 400 then 0 else 2)) w) := by
  have hc := canonical_any s w hs
  have HC := Lib.hid hc
  clear hc
  cases h : canon s.data.toList with
  | true =>
    rw [h] at HC
    by_cases h4 : s.size ≤ 400
    · rw [if_pos ⟨rfl, h4⟩]
      go_enter Tryd.func53, Tryd.ntmps53
      go_wp2_with (go_at_call 74; refine HC.out.mono ?_; rintro e w' ⟨rfl, hb⟩)
      go_ret
      exact ⟨rfl, hb⟩
    · rw [if_neg (fun h => h4 h.2)]
      have h5 : 400 < s.size := by omega
      go_enter Tryd.func53, Tryd.ntmps53
      go_wp2_with (go_at_call 74; refine HC.out.mono ?_; rintro e w' ⟨rfl, hb⟩)
      go_ret
      exact ⟨rfl, hb⟩
  | false =>
    rw [h] at HC
    rw [if_neg (fun h => by cases h.1)]
    go_enter Tryd.func53, Tryd.ntmps53
    go_wp2_with (go_at_call 74; refine HC.out.mono ?_; rintro e w' ⟨rfl, hb⟩)
    go_ret
    exact ⟨rfl, hb⟩
end Go.Proofs.YtjglooeljdpadaaDoor
