/- Greater text, out of: T14>. -/
import Derived.Test.YtdpcmhdmdompnaaGreatDoorGg
import Derived.Deep.DrawnRows
namespace Go.Proofs.YtdpcmhdmdompnaaGreatDoor
open Go.RowKit Go.PlainAid
attribute [local go_sem ↓] Go.wp_at_zero Go.wp_at_succ
/-- Behind the first quotient and rest. -/
def FloorMid (s : Bool) (x y : Bool × Option Addr × Nat × Nat) (q r : Nat) (w wx : World) : Prop := ∃ Aq nq cq Ar nr cr, Below w.heap.size w wx ∧
  Boxes4 w.heap.size x y (.bool (sg3 s q)) (.slice Aq nq cq) (.bool (sg3 s r)) (.slice Ar nr cr) wx ∧ Ns wx Aq nq cq (lims q) ∧ Ns wx Ar nr cr (lims r) ∧ Frsh w.heap.size Aq ∧ Frsh w.heap.size Ar
/-- Behind the mending of a negative rest. -/
def FloorEnd (a b : Int) (x y : Bool × Option Addr × Nat × Nat) (w wx : World) : Prop := ∃ sq Aq nq cq sr Ar nr cr, Below w.heap.size w wx ∧
  Boxes4 w.heap.size x y (.bool sq) (.slice Aq nq cq) (.bool sr) (.slice Ar nr cr) wx ∧ W3 wx (.agg #[.bool sq, .slice Aq nq cq]) (a / b) ∧ W3 wx (.agg #[.bool sr, .slice Ar nr cr]) (a % b) ∧ (0 ≤ a → Frsh w.heap.size Aq ∧ Frsh w.heap.size Ar)
theorem nz_one : nz 1 ≤ 1 := (nz_le_iff 1 0).2 (by decide)
set_option maxRecDepth 100000 in
set_option maxHeartbeats 4000000 in
/-- schismaref03.FloorW. -/
theorem t3floor_fresh (v1 v2 : Value) (a b : Int) (w : World) (hamb : Amb w) (h1 : W3 w v1 a) (h2 : W3 w v2 b) (hb0 : 0 < b) (ha : nz a ≤ 90000) (hb : nz b ≤ 90000) :
    Calls Tryz.prog 24 #[v1, v2] w (FloorPostF a b w) := by
  obtain ⟨A1, n1, cap1, rfl, hp⟩ := h1
  obtain ⟨A2, n2, cap2, rfl, hq⟩ := h2
  have hn1 : n1 ≤ 90000 := by rw [← hp.len]; exact nz_lims ha
  have hn2 : n2 ≤ 90000 := by rw [← hq.len]; exact nz_lims hb
  have HW2 := Lib.hid (fun wz (h : Below w.heap.size w wz) => show W3 wz (.agg #[.bool (decide (b < 0)), .slice A2 n2 cap2]) b from ⟨A2, n2, cap2, rfl, hq.below h (Nat.le_refl _)⟩)
  have HDV := Lib.hid (fun wz (h : Below w.heap.size w wz) => t3divide_fresh A1 n1 cap1 A2 n2 cap2 a.natAbs b.natAbs wz (hp.below h (Nat.le_refl _)) (hq.below h (Nat.le_refl _)) (by omega) (by omega) (by omega))
  obtain ⟨s1, hs1⟩ : ∃ s, decide (a < 0) = s := ⟨_, rfl⟩
  obtain ⟨s2, hs2⟩ : ∃ s, decide (b < 0) = s := ⟨_, rfl⟩
  rw [hs2] at HW2
  rw [hs1, hs2]
  have HS1 := Lib.hid hs1
  have HAMB := Lib.hid hamb
  clear hp hq hs1 hs2 hamb
  unfold wv
  go_enter Tryz.func24, Tryz.ntmps24
  go_wp2_with fail
  obtain ⟨W, hW⟩ : ∃ W, ((((w.alloc (.cells #[.bool s1, .slice A1 n1 cap1] 43)).alloc (.cells #[.bool s2, .slice A2 n2 cap2] 43)).alloc (.cells #[.bool false, .slice none 0 0] 43)).alloc (.cells #[.bool false, .slice none 0 0] 43)) = W := ⟨_, rfl⟩
  rw [hW]
  obtain ⟨hX, hBW⟩ := Boxes4.of whole_ne_int hW
  clear hW
  refine (HDV.out _ hBW).mono ?_
  rintro e w1 ⟨Aq, nq, cq, Ar, nr, cr, rfl, hq1, hr1, hb1, hfq, hfr⟩
  have HFRQ := Lib.hid (show Frsh w.heap.size Aq ∧ Frsh w.heap.size Ar from ⟨fun p hp => Nat.le_trans hBW.size (hfq p hp), fun p hp => Nat.le_trans hBW.size (hfr p hp)⟩)
  clear hfq hfr
  have hX1 := hX.later hb1
  have hB1 := bel_chain hBW hb1
  obtain ⟨qn, hqn⟩ : ∃ q, a.natAbs / b.natAbs = q := ⟨_, rfl⟩
  obtain ⟨rn, hrn⟩ : ∃ r, a.natAbs % b.natAbs = r := ⟨_, rfl⟩
  rw [hqn] at hq1
  rw [hrn] at hr1
  have HQN := Lib.hid (And.intro hqn hrn)
  clear hqn hrn
  have HX1 := Lib.hid hX1
  have HQ1 := Lib.hid (fun wz (hb : Below w1.heap.size w1 wz) => hq1.below hb (Nat.le_refl _))
  have HR1 := Lib.hid (fun wz (hb : Below w1.heap.size w1 wz) => hr1.below hb (Nat.le_refl _))
  have HB1 := Lib.hid hB1
  have HD := Lib.hid (((Below.refl w1.heap.size w1).drew))
  obtain ⟨⟨ga0, ga1, ga2, ga3, ga4⟩, ⟨gb0, gb1, gb2, gb3, gb4⟩, ⟨gq0, gq1, gq2, gq3, gq4⟩, ⟨gr0, gr1, gr2, gr3, gr4⟩, _⟩ := hX1
  clear hX hBW hb1 hq1 hr1 hB1
  go_upto_region 3 with fail
  go_cut [36] (fun s36 wx => s36 = s36 ∧ FloorMid s1 (s1, A1, n1, cap1) (s2, A2, n2, cap2) qn rn w wx)
  case first =>
   go_wp2_with fail
   go_region_held3 (fun w' => w'.cell? ⟨w.heap.size, 0, none⟩ = some (.bool s1)) (first | with_reducible exact k10 | with_reducible exact k11 | with_reducible exact a30 | go_keep)
    (first
      | (have _hh := hz2; ((with_reducible refine Calls.mono (t3trim_lims _ Ar nr cr rn _ ?_) ?_); (focus (exact HR1.out _ hz2)); rintro e w3 ⟨rfl, hb3⟩; have hz3 := bel_chain hz2 hb3; have hx3 := HX1.out.later hz3; have HX3 := Lib.hid hx3; obtain ⟨⟨_, a30, _⟩, _, ⟨q30, q31, q32, q33, q34⟩, ⟨r30, r31, r32, r33, r34⟩, _⟩ := hx3; have k10 : ((w3.setCell ⟨w.heap.size + 1 + 1, 0, none⟩ (.bool (sg3 s1 qn))).setCell ⟨w.heap.size + 1 + 1, 1, none⟩ (.slice Aq nq cq)).cell? ⟨w.heap.size, 0, none⟩ = some (.bool s1) := (HX3.out.storeQ _ _).1.2.1; have k11 : ((((w3.setCell ⟨w.heap.size + 1 + 1, 0, none⟩ (.bool (sg3 s1 qn))).setCell ⟨w.heap.size + 1 + 1, 1, none⟩ (.slice Aq nq cq)).setCell ⟨w.heap.size + 1 + 1 + 1, 0, none⟩ (.bool (sg3 s1 rn))).setCell ⟨w.heap.size + 1 + 1 + 1, 1, none⟩ (.slice Ar nr cr)).cell? ⟨w.heap.size, 0, none⟩ = some (.bool s1) := ((HX3.out.storeQ _ _).storeR _ _).1.2.1))
      | ((with_reducible refine Calls.mono (t3trim_lims _ Aq nq cq qn _ ?_) ?_); (focus (exact HQ1.out _ HD.out)); rintro e w2 ⟨rfl, hb2⟩; have hz2 := bel_chain HD.out hb2; have hx2 := HX1.out.later hz2; obtain ⟨⟨_, a20, _⟩, _⟩ := hx2))
   go_wp2_with fail
   go_meet
   have hB3 := bel_chain HB1.out hz3
   exact ⟨trivial, Aq, nq, cq, Ar, nr, cr, (((hB3.setCell (by simp <;> omega) _).setCell (by simp <;> omega) _).setCell (by simp <;> omega) _).setCell (by simp <;> omega) _, (HX3.out.storeQ _ _).storeR _ _,
     ((HQ1.out _ hz3).store2 HX3.out.2.2.2.2.1 _ _).store2 (HX3.out.storeQ _ _).2.2.2.2.2 _ _, ((HR1.out _ hz3).store2 HX3.out.2.2.2.2.1 _ _).store2 (HX3.out.storeQ _ _).2.2.2.2.2 _ _, HFRQ.out.1, HFRQ.out.2⟩
  case rest =>
    obtain ⟨_, Aq', nq', cq', Ar', nr', cr', hB, hX, hnq, hnr, hfq', hfr'⟩ := hcut
    have HFRM := Lib.hid (And.intro hfq' hfr')
    clear hfq' hfr'
    have hfs := floor_split hb0 HS1.out HQN.out.1 HQN.out.2
    have hwq := W3.of_sg3 (s := s1) hnq
    have hwr := W3.of_sg3 (s := s1) hnr
    have HSI := Lib.hid (fun wz v h => t3sign_any v (sgZ s1 rn) wz h)
    have HX := Lib.hid hX
    have HB := Lib.hid hB
    have HWQ := Lib.hid hwq
    have HWR := Lib.hid hwr
    obtain ⟨⟨ga0, ga1, ga2, ga3, ga4⟩, ⟨gb0, gb1, gb2, gb3, gb4⟩, ⟨gq0, gq1, gq2, gq3, gq4⟩, ⟨gr0, gr1, gr2, gr3, gr4⟩, _⟩ := hX
    clear hB hnq hnr
    go_wp2_with fail
    refine (HSI.out _ _ hwr).mono ?_
    rintro e w5 ⟨rfl, hb5⟩
    have HX5 := Lib.hid (HX.out.later hb5)
    have HB5 := Lib.hid (bel_chain HB.out hb5)
    have HWQ5 := Lib.hid (HWQ.out.below hb5)
    have HWR5 := Lib.hid (HWR.out.below hb5)
    obtain ⟨⟨ha0, ha1, ha2, ha3, ha4⟩, ⟨hb0', hb1', hb2', hb3', hb4'⟩, ⟨hq0, hq1, hq2, hq3, hq4⟩, ⟨hr0, hr1, hr2, hr3, hr4⟩, _⟩ := HX5.out
    clear ga0 ga1 ga2 ga3 ga4 gb0 gb1 gb2 gb3 gb4 gq0 gq1 gq2 gq3 gq4 gr0 gr1 gr2 gr3 gr4 hwq hwr hb5
    have hnq9 : nz (sgZ s1 qn) ≤ 1000000 := by
      refine Nat.le_trans (nz_mono ?_) (show nz a ≤ 1000000 by omega)
      rw [sgZ_abs, ← HQN.out.1]; exact Nat.div_le_self _ _
    have hnr9 : nz (sgZ s1 rn) ≤ 1000000 := by
      refine Nat.le_trans (nz_mono ?_) (show nz a ≤ 1000000 by omega)
      rw [sgZ_abs, ← HQN.out.2]; exact Nat.mod_le _ _
    have HNQ := Lib.hid (And.intro hnq9 hnr9)
    have HFS := Lib.hid hfs
    clear hfs hnq9 hnr9
    go_upto_if 28 with fail
    go_cut [29] (fun s29 wx => s29 = s29 ∧ FloorEnd a b (s1, A1, n1, cap1) (s2, A2, n2, cap2) w wx)
    case first =>
      by_cases hneg : sgZ s1 rn < 0
      · have hsg : (sgZ s1 rn).sign = -1 := Int.sign_eq_neg_one_of_neg hneg
        have HF := Lib.hid (HFS.out.1 (by omega))
        have HD5 := Lib.hid (((Below.refl w5.heap.size w5).drew))
        have HOF := Lib.hid (t3of_any 1 w5.drew (HAMB.out.below HB5.out.drew) (by decide) (by decide))
        go_wp2_with fail
        go_region_with (first
            | (have _h3 := hz7; ((with_reducible refine HADD.out.mono ?_); rintro e w8 ⟨v8, rfl, hw8, hb8⟩; obtain ⟨s8, A8, n8, c8, hv8, he8, _, _, HW8⟩ := hw8.parts; subst hv8; clear he8; have hz8 := bel_chain hz7 hb8; have hx8 := HX5.out.later hz8; have HX8 := Lib.hid hx8; obtain ⟨_, ⟨_, b80, b81, _, _⟩, ⟨q80, q81, q82, q83, q84⟩, ⟨r80, r81, r82, r83, r84⟩, _⟩ := hx8))
            | (have _h2 := hz6; ((with_reducible refine HSUB.out.mono ?_); rintro e w7 ⟨v7, rfl, hw7, hb7⟩; obtain ⟨s7, A7, n7, c7, hv7, he7, _, _, HW7⟩ := hw7.parts; subst hv7; clear he7; have hz7 := bel_chain hz6 hb7; have hx7 := HX5.out.later hz7; obtain ⟨_, ⟨_, b70, b71, _, _⟩, ⟨q70, q71, q72, q73, q74⟩, ⟨r70, r71, r72, r73, r74⟩, _⟩ := hx7; have HADD := Lib.hid (t3add_any _ _ (sgZ s1 rn) b w7 (HWR5.out.below hz7) (HW2.out _ (bel_chain HB5.out hz7)) HNQ.out.2 (by omega))))
            | ((with_reducible refine HOF.out.mono ?_); rintro e w6 ⟨v6, rfl, hw6, hb6⟩; have hz6 := bel_chain HD5.out hb6; have hx6 := HX5.out.later hz6; obtain ⟨_, ⟨_, b60, b61, _, _⟩, ⟨q60, q61, q62, q63, q64⟩, ⟨r60, r61, r62, r63, r64⟩, _⟩ := hx6; have HSUB := Lib.hid (t3sub_any _ v6 (sgZ s1 qn) 1 w6 (HWQ5.out.below hz6) hw6 HNQ.out.1 (Nat.le_trans nz_one (by omega)))))
        all_goals
          go_wp2_with fail
          go_meet
          have hB8 := bel_chain HB5.out hz8
          refine ⟨trivial, s7, A7, n7, c7, s8, A8, n8, c8, (((hB8.setCell (by simp <;> omega) _).setCell (by simp <;> omega) _).setCell (by simp <;> omega) _).setCell (by simp <;> omega) _, (HX8.out.storeQ _ _).storeR _ _, ?_, ?_, fun h0 => absurd hneg (by
            have := HS1.out
            rw [decide_eq_false (by omega)] at this
            subst this
            show ¬ (rn : Int) < 0
            omega)⟩
          · rw [HF.out.1]
            exact ((HW7 w8 hb8).store2 HX8.out.2.2.2.2.1 _ _).store2 (HX8.out.storeQ _ _).2.2.2.2.2 _ _
          · rw [HF.out.2]
            exact ((HW8 w8 (Below.refl _ _)).store2 HX8.out.2.2.2.2.1 _ _).store2 (HX8.out.storeQ _ _).2.2.2.2.2 _ _
      · have HF := Lib.hid (HFS.out.2 (by omega))
        go_wp2_with fail
        go_meet
        refine ⟨trivial, _, Aq', nq', cq', _, Ar', nr', cr', HB5.out, HX5.out, ?_, ?_, fun _ => HFRM.out⟩
        · rw [HF.out.1]; exact HWQ5.out
        · rw [HF.out.2]; exact HWR5.out
    case rest =>
      obtain ⟨_, sq, A5, n5, c5, sr, A6, n6, c6, hBz, hXz, hqz, hrz, hfz⟩ := hcut
      have HFZ := Lib.hid hfz
      clear hfz
      have HXZ := Lib.hid hXz
      have HH := Lib.hid (And.intro hBz (And.intro hqz hrz))
      have K1 := Lib.hid (show ((wc.setCell ⟨w.heap.size + 1 + 1, 0, none⟩ (.bool sq)).setCell ⟨w.heap.size + 1 + 1, 1, none⟩ (.slice A5 n5 c5)).drew.cell? ⟨w.heap.size + 1 + 1, 0, none⟩ = some (.bool sq) ∧ ((wc.setCell ⟨w.heap.size + 1 + 1, 0, none⟩ (.bool sq)).setCell ⟨w.heap.size + 1 + 1, 1, none⟩ (.slice A5 n5 c5)).drew.cell? ⟨w.heap.size + 1 + 1, 1, none⟩ = some (.slice A5 n5 c5) ∧ ((wc.setCell ⟨w.heap.size + 1 + 1, 0, none⟩ (.bool sq)).setCell ⟨w.heap.size + 1 + 1, 1, none⟩ (.slice A5 n5 c5)).drew.cell? ⟨w.heap.size + 1 + 1 + 1, 0, none⟩ = some (.bool sr) ∧ ((wc.setCell ⟨w.heap.size + 1 + 1, 0, none⟩ (.bool sq)).setCell ⟨w.heap.size + 1 + 1, 1, none⟩ (.slice A5 n5 c5)).drew.cell? ⟨w.heap.size + 1 + 1 + 1, 1, none⟩ = some (.slice A6 n6 c6) from ⟨(hXz.storeQ _ _).2.2.1.2.1, (hXz.storeQ _ _).2.2.1.2.2.1, (hXz.storeQ _ _).2.2.2.1.2.1, (hXz.storeQ _ _).2.2.2.1.2.2.1⟩)
      have K2 := Lib.hid (show ((((wc.setCell ⟨w.heap.size + 1 + 1, 0, none⟩ (.bool sq)).setCell ⟨w.heap.size + 1 + 1, 1, none⟩ (.slice A5 n5 c5)).setCell ⟨w.heap.size + 1 + 1 + 1, 0, none⟩ (.bool sr)).setCell ⟨w.heap.size + 1 + 1 + 1, 1, none⟩ (.slice A6 n6 c6)).drew.cell? ⟨w.heap.size + 1 + 1, 0, none⟩ = some (.bool sq) ∧ ((((wc.setCell ⟨w.heap.size + 1 + 1, 0, none⟩ (.bool sq)).setCell ⟨w.heap.size + 1 + 1, 1, none⟩ (.slice A5 n5 c5)).setCell ⟨w.heap.size + 1 + 1 + 1, 0, none⟩ (.bool sr)).setCell ⟨w.heap.size + 1 + 1 + 1, 1, none⟩ (.slice A6 n6 c6)).drew.cell? ⟨w.heap.size + 1 + 1, 1, none⟩ = some (.slice A5 n5 c5) ∧ ((((wc.setCell ⟨w.heap.size + 1 + 1, 0, none⟩ (.bool sq)).setCell ⟨w.heap.size + 1 + 1, 1, none⟩ (.slice A5 n5 c5)).setCell ⟨w.heap.size + 1 + 1 + 1, 0, none⟩ (.bool sr)).setCell ⟨w.heap.size + 1 + 1 + 1, 1, none⟩ (.slice A6 n6 c6)).drew.cell? ⟨w.heap.size + 1 + 1 + 1, 0, none⟩ = some (.bool sr) ∧ ((((wc.setCell ⟨w.heap.size + 1 + 1, 0, none⟩ (.bool sq)).setCell ⟨w.heap.size + 1 + 1, 1, none⟩ (.slice A5 n5 c5)).setCell ⟨w.heap.size + 1 + 1 + 1, 0, none⟩ (.bool sr)).setCell ⟨w.heap.size + 1 + 1 + 1, 1, none⟩ (.slice A6 n6 c6)).drew.cell? ⟨w.heap.size + 1 + 1 + 1, 1, none⟩ = some (.slice A6 n6 c6) from ⟨((hXz.storeQ _ _).storeR _ _).2.2.1.2.1, ((hXz.storeQ _ _).storeR _ _).2.2.1.2.2.1, ((hXz.storeQ _ _).storeR _ _).2.2.2.1.2.1, ((hXz.storeQ _ _).storeR _ _).2.2.2.1.2.2.1⟩)
      obtain ⟨_, _, ⟨gq0, gq1, gq2, gq3, gq4⟩, ⟨gr0, gr1, gr2, gr3, gr4⟩, _⟩ := hXz
      clear hBz hqz hrz
      go_wp2_with fail
      go_region_held3 (fun w' => w'.cell? ⟨w.heap.size + 1 + 1, 0, none⟩ = some (.bool sq) ∧ w'.cell? ⟨w.heap.size + 1 + 1, 1, none⟩ = some (.slice A5 n5 c5) ∧ w'.cell? ⟨w.heap.size + 1 + 1 + 1, 0, none⟩ = some (.bool sr) ∧ w'.cell? ⟨w.heap.size + 1 + 1 + 1, 1, none⟩ = some (.slice A6 n6 c6)) (first | with_reducible exact K1.out | with_reducible exact K2.out | go_keep) (first | fail)
      go_wp2_with fail
      have hXW := (HXZ.out.storeQ (.bool sq) (.slice A5 n5 c5)).storeR (.bool sr) (.slice A6 n6 c6)
      obtain ⟨hB, hq, hr⟩ := HH.out
      refine ret_cell2 rfl rfl rfl (load_whole (g := w.heap.size + 1 + 1) hXW.2.2.1) (load_whole (g := w.heap.size + 1 + 1 + 1) hXW.2.2.2.1) rfl ?_
      exact ⟨_, _, _, _, _, _, _, _, rfl, (hq.store2 HXZ.out.2.2.2.2.1 _ _).store2 (HXZ.out.storeQ _ _).2.2.2.2.2 _ _, (hr.store2 HXZ.out.2.2.2.2.1 _ _).store2 (HXZ.out.storeQ _ _).2.2.2.2.2 _ _,
        ((((hB.setCell (by simp <;> omega) _).setCell (by simp <;> omega) _).setCell (by simp <;> omega) _).setCell (by simp <;> omega) _).drew, HFZ.out⟩
theorem t3floor_any (v1 v2 : Value) (a b : Int) (w : World) (hamb : Amb w) (h1 : W3 w v1 a) (h2 : W3 w v2 b) (hb0 : 0 < b) (ha : nz a ≤ 90000) (hb : nz b ≤ 90000) :
    Calls Tryz.prog 24 #[v1, v2] w (FloorPost a b w) :=
  (t3floor_fresh v1 v2 a b w hamb h1 h2 hb0 ha hb).mono fun _ _ h => h.drop
end Go.Proofs.YtdpcmhdmdompnaaGreatDoor
