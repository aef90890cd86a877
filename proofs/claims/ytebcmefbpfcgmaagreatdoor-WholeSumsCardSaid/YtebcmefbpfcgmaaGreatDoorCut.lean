/- The walk of the program's cut: the pieces of digits, for any digits. -/
import Derived.Test.YtebcmefbpfcgmaaGreatDoorTrim
import Derived.Lib.ConvBytes
namespace Go.Proofs.YtebcmefbpfcgmaaGreatDoor
open Go.RowKit

theorem extract_list (s : ByteArray) (a b : Nat) : (s.extract a b).data.toList = (s.data.toList.take b).drop a := by
  simp; rw [List.drop_take]
theorem extract_size' (s : ByteArray) (a b : Nat) : (s.extract a b).size = min b s.size - a := by simp [ByteArray.size_extract]

theorem all_sub {l : List UInt8} (h : l.all isDig = true) (a b : Nat) : ((l.take b).drop a).all isDig = true := by
  rw [List.all_eq_true] at h ⊢
  exact fun x hx => h x (List.mem_of_mem_take (List.mem_of_mem_drop hx))
theorem val_take_succ (l : List UInt8) (j : Nat) (h : j < l.length) : val (l.take (j + 1)) = 10 * val (l.take j) + ((l.getD j 0).toNat - 48) := by
  rw [List.take_succ_eq_append_getElem h, val_snoc, List.getD_eq_getElem?_getD, List.getElem?_eq_getElem h]; rfl
theorem dig_getD {l : List UInt8} (h : l.all isDig = true) (j : Nat) (hj : j < l.length) : 48 ≤ (l.getD j 0).toNat ∧ (l.getD j 0).toNat ≤ 57 := by
  rw [List.getD_eq_getElem?_getD, List.getElem?_eq_getElem hj]
  exact (isDig_iff _).1 (List.all_eq_true.1 h _ (List.getElem_mem hj))
theorem val_take_le {l : List UInt8} (h : l.all isDig = true) (j : Nat) (hj : j ≤ 8) : val (l.take j) ≤ 99999999 := by
  have h1 := val_lt (l.take j) (by rw [List.all_eq_true] at h ⊢; exact fun x hx => h x (List.mem_of_mem_take hx))
  have h2 : 10 ^ (l.take j).length ≤ 10 ^ 8 := Nat.pow_le_pow_right (by decide) (by rw [List.length_take]; omega)
  have h3 : (10 : Nat) ^ 8 = 100000000 := by decide
  omega
theorem val_lt9 {l : List UInt8} (h : l.all isDig = true) (hj : l.length ≤ 9) : val l < 1000000000 := by
  have h1 := val_lt l h
  have h2 : 10 ^ l.length ≤ 10 ^ 9 := Nat.pow_le_pow_right (by decide) hj
  have h3 : (10 : Nat) ^ 9 = 1000000000 := by decide
  omega
/-- The pieces of what stands behind place e. -/
structure CutAt (l : List UInt8) (e : Nat) (more : Bool) (xs : List Nat) : Prop where
  lims : Lims xs
  sum : lv xs = val (l.drop e)
  len : more = true → l.length = e + 9 * xs.length
theorem CutAt.start (l : List UInt8) : CutAt l l.length true [] := ⟨Lims_nil, by rw [List.drop_length]; rfl, fun _ => by simp⟩
theorem CutAt.step {l : List UInt8} {a b : Nat} {m : Bool} {xs : List Nat} (h : CutAt l b true xs) (hd : l.all isDig = true) (hab : a ≤ b) (hbl : b ≤ l.length) (hm : m = true → b = a + 9) (h9 : b ≤ a + 9) :
    CutAt l a m (xs ++ [val ((l.take b).drop a)]) := by
  have hlen := h.len rfl
  have hl9 : ((l.take b).drop a).length ≤ 9 := by rw [List.length_drop, List.length_take]; omega
  refine ⟨Lims_append.2 ⟨h.lims, fun x hx => ?_⟩, ?_, fun e => ?_⟩
  · rw [List.mem_singleton.1 hx]; exact val_lt9 (all_sub hd a b) hl9
  · have e1 : l.drop a = (l.take b).drop a ++ l.drop b := by
      have : l.drop a = (l.take b ++ l.drop b).drop a := by rw [List.take_append_drop]
      rw [this, List.drop_append, List.length_take, Nat.min_eq_left hbl, show a - b = 0 by omega, List.drop_zero]
    rw [e1, val_append, lv_snoc, h.sum, List.length_drop, show l.length - b = 9 * xs.length by omega, Nat.pow_mul, show (10 : Nat) ^ 9 = 1000000000 by decide, Nat.mul_comm]
    omega
  · rw [List.length_append, List.length_singleton]; have := hm e; omega

set_option maxRecDepth 100000 in
set_option maxHeartbeats 400000 in
/-- decimal.cut: the pieces of digits. -/
theorem cut_any (s : ByteArray) (w : World) (hL : s.size ≤ 1000000000) (hd : s.data.toList.all isDig = true) :
    Calls Tryz.prog 55 #[.string s] w (NewPc (lims (val s.data.toList)) w) := by
  have hmk := make_Pc 75 Tryz.underlying75 0 (s.size / 9 + 1) (by omega) (by omega)
  simp only [Int.natCast_add, Int.natCast_ediv, Int.cast_ofNat_Int] at hmk
  have HM := Lib.hid (Pc.made w 0 (s.size / 9 + 1) (by omega) (by omega))
  have HD := Lib.hid hd
  have HSZ := Lib.hid (show s.data.toList.length = s.size from by rw [Array.length_toList]; rfl)
  clear hd
  go_enter Tryz.func55, Tryz.ntmps55
  go_wp2
  clear hmk
  go_loopw [3, 4] (fun vo ve wr => ∃ (g n cap : Nat) (e : Int), e ≤ s.size ∧ -9 ≤ e ∧ n ≤ s.size ∧ vo = .slice (some ⟨g, 0, none⟩) n cap ∧ ve = .int .i64 e ∧ w.heap.size ≤ g ∧ Below w.heap.size w wr ∧ ∃ xs, Pc wr g n cap xs ∧ Hid (CutAt s.data.toList e.toNat (decide (0 < e)) xs)) (fun _ ve _ => (intOf ve).toNat)
  case atStart =>
    refine ⟨w.heap.size, 0, s.size / 9 + 1, s.size, Int.le_refl _, by omega, by omega, rfl, rfl, Nat.le_refl _, (Below.refl _ _).alloc (Nat.le_refl _) _, [], HM.out, ?_⟩
    have h1 := CutAt.start s.data.toList
    rw [HSZ.out] at h1
    exact ⟨h1.lims, h1.sum, fun _ => h1.len rfl⟩
  case round =>
    obtain ⟨g, n, cap, e, he1, he2, hn, rfl, rfl, hg, hb, xs, hp, HC⟩ := hrel
    obtain ⟨wo, rfl⟩ : ∃ wo : World, wo = wr := ⟨_, rfl⟩
    have hgl := hp.lt
    by_cases hpos : 0 < e
    · have hconv := fun t w => Lib.run_convert_string_bytes (P := Tryz.prog) w 27 22 5 t Tryz.underlying27 Tryz.underlying22 Tryz.underlying5
      have HC' : Hid (CutAt s.data.toList e.toNat true xs) := by have := HC.out; rw [decide_eq_true hpos] at this; exact this
      have HX := Lib.hid hp.len
      clear HC
      by_cases h9 : 9 < e
      · obtain ⟨m, rfl⟩ : ∃ m : Nat, e = m + 9 := ⟨(e - 9).toNat, by omega⟩
        have hm0 : 0 < m := by omega
        have hmin : min (m + 9) s.size = m + 9 := by omega
        have hstep := CutAt.step (a := m) (m := true) HC'.out HD.out (by omega) (by rw [HSZ.out]; omega) (by omega) (by omega)
        rw [show ((m : Int) + 9).toNat = m + 9 by omega] at hstep
        obtain ⟨bs, hbs⟩ : ∃ bs, (s.data.toList.take (m + 9)).drop m = bs := ⟨_, rfl⟩
        have hbl : bs.length = 9 := by rw [← hbs, List.length_drop, List.length_take, HSZ.out]; omega
        have hba : bs.all isDig = true := by rw [← hbs]; exact all_sub HD.out m (m + 9)
        rw [hbs] at hstep
        have HS := Lib.hid hstep
        have hcl : ∀ j, j < 9 → (Lib.bytesWorld wo 5 (s.extract m (m + 9))).cell? ⟨wo.heap.size, j, none⟩ = some (.int .u8 ((bs.getD j 0).toNat : Int)) := by
          intro j hj
          rw [Lib.bytesWorld_cell _ _ _ j (by rw [extract_size', hmin]; omega), extract_list, hbs]
        have hbw := bytes_below wo 5 (s.extract m (m + 9))
        have HBA := Lib.hid hba
        have HBL := Lib.hid hbl
        have HCL := Lib.hid hcl
        have HBW := Lib.hid hbw
        clear hcl hbw hstep hbs hba hbl
        go_wp2
        generalize hW : Lib.bytesWorld wo 5 (s.extract m (m + 9)) = W at *
        have hbW := HBW.out
        have hcW := HCL.out
        have hpW := hp.below hbW hgl
        have hBW := hb.trans (hbW.mono (by have := hb.size; omega))
        clear hW hconv hmin hpos h9
        have HCW := Lib.hid hcW
        clear hcW
        go_loop [5, 27] (fun vn vj => ∃ j : Nat, j ≤ 9 ∧ vj = .int .i64 (j : Int) ∧ vn = .int .u64 ((val (bs.take j) : Nat) : Int)) (fun _ vj => 9 - (intOf vj).toNat)
        case atStart => exact ⟨0, by omega, rfl, rfl⟩
        case round =>
          obtain ⟨j, hj, rfl, rfl⟩ := hrel
          by_cases hj9 : j = 9
          · subst hj9
            have hv := val_take_le HBA.out 8 (by omega)
            have htake : bs.take 9 = bs := List.take_of_length_le (by rw [HBL.out]; omega)
            rw [htake]
            have hone := Pc.one W (val bs)
            have hpW1 := hpW.alloc (.cells #[.int .u64 ((val bs : Nat) : Int)] 70)
            clear htake hv
            generalize val bs = v at *
            go_wp2_with (at_builtin; refine append_Pc rfl _ _ 75 rfl Tryz.underlying75 g n cap xs rfl hpW1 W.heap.size 1 1 [v] rfl hone (by omega) ?_; intro g' cap' w' hq hon hat)
            go_roundw
            case rel =>
              refine ⟨g', n + 1, cap', m, by omega, by omega, ?_, rfl, by go_num, ?_, ?_, _, hq, ?_⟩
              · have h1 := HS.out.len rfl
                have h2 := HX.out
                have h3 := HSZ.out
                rw [List.length_append, List.length_singleton] at h1
                omega
              · have h1 := hBW.size
                have h2 : (W.alloc (.cells #[.int .u64 (v : Int)] 70)).heap.size = W.heap.size + 1 := by simp
                rcases hat with h3 | h3 <;> omega
              · exact bel_only (hBW.alloc (by have := hBW.size; omega) _) hon hg (by have := hBW.size; simp; omega)
              · rw [decide_eq_true (by omega)]; exact HS.out
            case measure => simp [intOf]; omega
          · have hj' : j < 9 := by omega
            have hc := HCW.out j hj'
            have hdg := dig_getD HBA.out j (by rw [HBL.out]; exact hj')
            have hv := val_take_le HBA.out j (by omega)
            have hs := val_take_succ bs j (by rw [HBL.out]; exact hj')
            have HSS := Lib.hid hs
            clear hs
            generalize (bs.getD j 0).toNat = d at *
            generalize hvv : val (bs.take j) = v at *
            clear hvv
            go_wp2
            go_round
            case rel =>
              refine ⟨j + 1, by omega, by go_num, ?_⟩
              rw [HSS.out]
              congr 1; omega
            case measure => simp [intOf]; omega
      · obtain ⟨b, rfl⟩ : ∃ b : Nat, e = b := ⟨e.toNat, by omega⟩
        have hb0 : 0 < b := by omega
        have hb9 : b ≤ 9 := by omega
        have hmin : min b s.size = b := by omega
        have hstep := CutAt.step (a := 0) (m := false) HC'.out HD.out (by omega) (by rw [HSZ.out]; omega) (fun h => by cases h) (by omega)
        rw [show (b : Int).toNat = b by omega] at hstep
        obtain ⟨bs, hbs⟩ : ∃ bs, (s.data.toList.take b).drop 0 = bs := ⟨_, rfl⟩
        have hbl : bs.length = b := by rw [← hbs, List.length_drop, List.length_take, HSZ.out]; omega
        have hba : bs.all isDig = true := by rw [← hbs]; exact all_sub HD.out 0 b
        rw [hbs] at hstep
        have HS := Lib.hid hstep
        have hcl : ∀ j, j < b → (Lib.bytesWorld wo 5 (s.extract 0 b)).cell? ⟨wo.heap.size, j, none⟩ = some (.int .u8 ((bs.getD j 0).toNat : Int)) := by
          intro j hj
          rw [Lib.bytesWorld_cell _ _ _ j (by rw [extract_size', hmin]; omega), extract_list, hbs]
        have hbw := bytes_below wo 5 (s.extract 0 b)
        have HBA := Lib.hid hba
        have HBL := Lib.hid hbl
        have HCL := Lib.hid hcl
        have HBW := Lib.hid hbw
        clear hcl hbw hstep hbs hba hbl
        go_wp2
        generalize hW : Lib.bytesWorld wo 5 (s.extract 0 b) = W at *
        have hbW := HBW.out
        have hcW := HCL.out
        have hpW := hp.below hbW hgl
        have hBW := hb.trans (hbW.mono (by have := hb.size; omega))
        clear hW hconv hmin hpos h9
        have HCW := Lib.hid hcW
        clear hcW
        go_loop [5, 27] (fun vn vj => ∃ j : Nat, j ≤ b ∧ vj = .int .i64 (j : Int) ∧ vn = .int .u64 ((val (bs.take j) : Nat) : Int)) (fun _ vj => b - (intOf vj).toNat)
        case atStart => exact ⟨0, by omega, rfl, rfl⟩
        case round =>
          obtain ⟨j, hj, rfl, rfl⟩ := hrel
          by_cases hj9 : j = b
          · subst hj9
            have htake : bs.take j = bs := List.take_of_length_le (by rw [HBL.out]; omega)
            rw [htake]
            have hone := Pc.one W (val bs)
            have hpW1 := hpW.alloc (.cells #[.int .u64 ((val bs : Nat) : Int)] 70)
            clear htake
            generalize val bs = v at *
            go_wp2_with (at_builtin; refine append_Pc rfl _ _ 75 rfl Tryz.underlying75 g n cap xs rfl hpW1 W.heap.size 1 1 [v] rfl hone (by omega) ?_; intro g' cap' w' hq hon hat)
            go_roundw
            case rel =>
              refine ⟨g', n + 1, cap', (j : Int) - 9, by omega, by omega, ?_, rfl, by go_num, ?_, ?_, _, hq, ?_⟩
              · have h1 := HC'.out.len rfl
                have h2 := HX.out
                have h3 := HSZ.out
                omega
              · have h1 := hBW.size
                have h2 : (W.alloc (.cells #[.int .u64 (v : Int)] 70)).heap.size = W.heap.size + 1 := by simp
                rcases hat with h3 | h3 <;> omega
              · exact bel_only (hBW.alloc (by have := hBW.size; omega) _) hon hg (by have := hBW.size; simp; omega)
              · rw [decide_eq_false (by omega), show ((j : Int) - 9).toNat = 0 by omega]; exact HS.out
            case measure => simp [intOf]; omega
          · have hj' : j < b := by omega
            have hc := HCW.out j hj'
            have hdg := dig_getD HBA.out j (by rw [HBL.out]; exact hj')
            have hv := val_take_le HBA.out j (by omega)
            have hs := val_take_succ bs j (by rw [HBL.out]; exact hj')
            have HSS := Lib.hid hs
            clear hs
            generalize (bs.getD j 0).toNat = d at *
            generalize hvv : val (bs.take j) = v at *
            clear hvv
            go_wp2
            go_round
            case rel =>
              refine ⟨j + 1, by omega, by go_num, ?_⟩
              rw [HSS.out]
              congr 1; omega
            case measure => simp [intOf]; omega
    · have hfin : trimL xs = lims (val s.data.toList) := by
        have h1 := HC.out
        rw [show e.toNat = 0 by omega] at h1
        rw [trimL_eq xs h1.lims, h1.sum, List.drop_zero]
      have HF := Lib.hid hfin
      clear hfin HC
      go_wp2_with (go_at_call 57; refine (trim_any _ _ _ xs _ hp).mono ?_; rintro e w' ⟨rfl, rfl⟩)
      go_ret
      refine ⟨g, cap, ?_, hg, ?_, hb⟩
      · rw [← HF.out]; rfl
      · have h3 := hp.take (trimL xs).length (by rw [trimL_take xs, List.length_take, hp.len]; omega)
        rw [← trimL_take xs] at h3
        rw [← HF.out]; exact h3
end Go.Proofs.YtebcmefbpfcgmaaGreatDoor
