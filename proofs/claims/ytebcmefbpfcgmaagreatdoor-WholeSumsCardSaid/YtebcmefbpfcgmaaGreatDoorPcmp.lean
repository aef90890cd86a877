/- The walk of the program's compare of pieces. -/
import Derived.Test.YtebcmefbpfcgmaaGreatDoorBase
namespace Go.Proofs.YtebcmefbpfcgmaaGreatDoor
open Go.RowKit
def PcmpPost (a b : Nat) (w : World) (e : Ending) (w' : World) : Prop := e = .returned (.int .i64 (cmpI a b)) ∧ Below w.heap.size w w'
theorem pcmp_len {a b : Nat} (h : (lims a).length < (lims b).length) : a < b := by
  rcases Nat.lt_or_ge a b with h1 | h1
  · exact h1
  · have := lims_len_mono h1; omega
theorem pcmp_lt {a b i : Nat} (hl : (lims a).length = (lims b).length) (hi : i < (lims b).length) (hd : (lims a).drop (i + 1) = (lims b).drop (i + 1)) (h : (lims a).getD i 0 < (lims b).getD i 0) : a < b := by
  have := lv_less (Lims_lims a) i hi hd hl h
  rwa [lv_lims, lv_lims] at this
theorem pcmp_eq {a b : Nat} (hd : (lims a).drop 0 = (lims b).drop 0) : a = b := by
  rw [← lv_lims a, ← lv_lims b]; exact congrArg lv hd
theorem drop_step {xs ys : List Nat} {i : Nat} (hx : i < xs.length) (hy : i < ys.length) (hd : xs.drop (i + 1) = ys.drop (i + 1)) (h : xs.getD i 0 = ys.getD i 0) : xs.drop i = ys.drop i := by
  rw [List.drop_eq_getElem_cons hx, List.drop_eq_getElem_cons hy, hd]
  rw [List.getD_eq_getElem?_getD, List.getElem?_eq_getElem hx, List.getD_eq_getElem?_getD, List.getElem?_eq_getElem hy] at h
  have h' : xs[i] = ys[i] := h
  rw [h']

set_option maxHeartbeats 400000 in
/-- (decimal.pieces).compare. -/
theorem pcmp_any (g1 n1 cap1 g2 n2 cap2 a b : Nat) (w : World) (hp : Pc w g1 n1 cap1 (lims a)) (hq : Pc w g2 n2 cap2 (lims b)) :
    Calls Tryz.prog 63 #[.slice (some ⟨g1, 0, none⟩) n1 cap1, .slice (some ⟨g2, 0, none⟩) n2 cap2] w (PcmpPost a b w) := by
  have hcap := hp.cap_le
  have hle := hp.le
  have hle2 := hq.le
  have hcap2 := hq.cap_le
  have hg1 := hp.lt
  have hg2 := hq.lt
  have HL := Lib.hid hp.len
  have HL2 := Lib.hid hq.len
  by_cases hn : n1 = n2
  · subst hn
    have hne : ((n1 : Int) != (n1 : Int)) = false := by simp
    go_enter Tryz.func63, Tryz.ntmps63
    go_wp2
    go_loopw [5] (fun vi wr => ∃ i : Nat, i ≤ n1 ∧ vi = .int .i64 ((i : Int) - 1) ∧ Below w.heap.size w wr ∧ Hid ((lims a).drop i = (lims b).drop i)) (fun vi _ => (intOf vi + 1).toNat)
    case atStart => exact ⟨n1, Nat.le_refl _, rfl, Below.refl _ _, by rw [List.drop_of_length_le (by rw [HL.out]; omega), List.drop_of_length_le (by rw [HL2.out]; omega)]; rfl⟩
    case round =>
      obtain ⟨i, hi, rfl, hb, HD⟩ := hrel
      by_cases hi0 : i = 0
      · subst hi0
        go_wp2
        go_ret
        exact ⟨ret_int (by rw [pcmp_eq HD.out, cmpI_eq]), hb⟩
      · obtain ⟨j, rfl⟩ : ∃ j, i = j + 1 := ⟨i - 1, by omega⟩
        have ec : ((j + 1 : Nat) : Int) - 1 = (j : Int) := by omega
        rw [ec]
        have hc1 := (hp.below hb hg1).cell j (by omega)
        have hc2 := (hq.below hb hg2).cell j (by omega)
        have hb1 : (j : Int) < (n1 : Int) := by omega
        have HLT := Lib.hid (fun h => pcmp_lt (a := a) (b := b) (i := j) (by rw [HL.out, HL2.out]) (by rw [HL2.out]; omega) HD.out h)
        have HGT := Lib.hid (fun h => pcmp_lt (a := b) (b := a) (i := j) (by rw [HL.out, HL2.out]) (by rw [HL.out]; omega) HD.out.symm h)
        have HEQ := Lib.hid (fun h => drop_step (xs := lims a) (ys := lims b) (i := j) (by rw [HL.out]; omega) (by rw [HL2.out]; omega) HD.out h)
        clear ec
        generalize (lims a).getD j 0 = x at *
        generalize (lims b).getD j 0 = y at *
        rcases Nat.lt_trichotomy x y with h | h | h
        · go_wp2
          go_quiet (fail)
          go_wp2
          go_ret
          exact ⟨ret_int (cmpI_lt (HLT.out h)).symm, bel_drewN hb _⟩
        · subst h
          go_wp2
          go_quiet (fail)
          go_wp2
          go_quiet (fail)
          go_wp2
          refine ⟨⟨j, by omega, rfl, ?_, HEQ.out trivial⟩, by simp [intOf]⟩
          first | exact bel_drewN hb _ | exact bel_drewN (bel_drewN hb _) _
        · have hxy : ¬ x < y := by omega
          go_wp2
          go_quiet (fail)
          go_wp2
          go_quiet (fail)
          go_wp2
          go_ret
          refine ⟨ret_int (cmpI_gt (HGT.out h)).symm, ?_⟩
          first | exact bel_drewN hb _ | exact bel_drewN (bel_drewN hb _) _
  · have hne : ((n1 : Int) != (n2 : Int)) = true := by rw [bne_iff_ne]; omega
    rcases Nat.lt_or_gt_of_ne hn with h | h
    · have HC := Lib.hid (cmpI_lt (pcmp_len (a := a) (b := b) (by rw [HL.out, HL2.out]; exact h)))
      go_enter Tryz.func63, Tryz.ntmps63
      go_wp2
      all_goals go_ret
      all_goals exact ⟨ret_int (by rw [HC.out]), Below.refl _ _⟩
    · have HC := Lib.hid (cmpI_gt (pcmp_len (a := b) (b := a) (by rw [HL.out, HL2.out]; exact h)))
      go_enter Tryz.func63, Tryz.ntmps63
      go_wp2
      all_goals go_ret
      all_goals exact ⟨ret_int (by rw [HC.out]), Below.refl _ _⟩
end Go.Proofs.YtebcmefbpfcgmaaGreatDoor
