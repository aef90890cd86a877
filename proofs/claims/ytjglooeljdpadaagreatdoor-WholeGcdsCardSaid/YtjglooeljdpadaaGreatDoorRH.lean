/- The second chapter's reference: DivMod. -/
import Derived.Test.YtjglooeljdpadaaGreatDoorRF
import Derived.Test.YtjglooeljdpadaaGreatDoorRG
import Derived.Test.YtjglooeljdpadaaGreatDoorW3
namespace Go.Proofs.YtjglooeljdpadaaGreatDoor
open Go.RowKit Go.PlainAid

theorem sgnT_nz (b : Bool) (m : Nat) : nz (sgnT b m) = Lib.nDigits m := by
  unfold sgnT
  cases b with
  | true => rw [if_pos rfl, nz_neg, nz_nat]
  | false => rw [if_neg (by decide), nz_nat]
set_option maxRecDepth 100000 in
set_option maxHeartbeats 1000000 in
theorem r2divmod_short (a b : Int) (w : World) (hamb : Amb w) (hb0 : b ≠ 0) (hsa : nz a ≤ 18) (hsb : nz b ≤ 18) :
    Calls Tryz.prog 18 #[.string (itx a), .string (itx b)] w (SmallRes (.tuple #[.string (itx (fq a b)), .string (itx (fr a b))]) w) := by
  have e1 := (nz_le_iff a 17).1 hsa
  have e2 := (nz_le_iff b 17).1 hsb
  rw [show (10 : Nat) ^ (17 + 1) = 1000000000000000000 by decide] at e1 e2
  have HQA := Lib.hid (quickV_yes hsa)
  have HQB := Lib.hid (quickV_yes hsb)
  have h1 : -1000000000000000000 < a ∧ a < 1000000000000000000 := by omega
  have h2 : -1000000000000000000 < b ∧ b < 1000000000000000000 := by omega
  have hfd := FD_tdiv a hb0
  have hq : (a.tdiv b).natAbs ≤ a.natAbs := Int.natAbs_tdiv_le_natAbs a b
  have hr : (a.tmod b).natAbs < b.natAbs := by rw [Int.natAbs_tmod]; exact Nat.mod_lt _ (by omega)
  have hw1 : IntKind.i64.wrap (a.tdiv b) = a.tdiv b := IntWalk.i64_in _ (by omega)
  have HW1 := Lib.hid hw1
  have HFD := Lib.hid hfd
  have hnz : (b == 0) = false := by rw [beq_eq_false_iff_ne]; exact hb0
  clear hw1 hfd e1 e2
  go_enter Tryz.func18, Tryz.ntmps18
  go_wp2_with fail
  refine (r2quick_any a _ (by omega)).mono ?_
  rintro e w1 ⟨rfl, hb1⟩
  rw [HQA.out]
  go_wp2_with fail
  refine (r2quick_any b _ (by omega)).mono ?_
  rintro e w2 ⟨rfl, hb2⟩
  rw [HQB.out]
  have hB2 := bel_chain hb1 hb2
  clear hb1 hb2
  go_wp2_with fail
  have hw1 := HW1.out
  go_quiet (fail)
  have hB3 := bel_drewN hB2 nq
  have hA3 := hamb.below hB3
  have hfd := HFD.out
  clear hw1 HW1 HFD hB2 hb0
  generalize a.tmod b = r at *
  generalize a.tdiv b = q at *
  by_cases hr0 : r = 0
  · have hb1 : (r == 0) = true := by rw [beq_iff_eq]; exact hr0
    have H := Lib.hid (hfd.1 (fun h => h.1 hr0)).eq
    clear hfd
    subst hr0
    go_wp2_with fail
    refine (r2of_any q _ hA3 (by omega) (by omega)).mono ?_
    rintro e w3 ⟨rfl, hb3⟩
    have hB4 := bel_chain hB3 hb3
    go_wp2_with fail
    refine (r2of_any 0 _ (hamb.below hB4) (by omega) (by omega)).mono ?_
    rintro e w4 ⟨rfl, hb4⟩
    go_wp2_with fail
    go_ret2
    exact ⟨by rw [H.out.1, H.out.2]; rfl, bel_chain hB4 hb4⟩
  · have hb1 : (r == 0) = false := by rw [beq_eq_false_iff_ne]; exact hr0
    by_cases hsg : decide (r < 0) = decide (b < 0)
    · have hb2 : (decide (r < 0) == decide (b < 0)) = true := by rw [beq_iff_eq]; exact hsg
      have H := Lib.hid (hfd.1 (fun h => h.2 hsg)).eq
      clear hfd hsg
      go_wp2_with fail
      refine (r2of_any q _ hA3 (by omega) (by omega)).mono ?_
      rintro e w3 ⟨rfl, hb3⟩
      have hB4 := bel_chain hB3 hb3
      go_wp2_with fail
      refine (r2of_any r _ (hamb.below hB4) (by omega) (by omega)).mono ?_
      rintro e w4 ⟨rfl, hb4⟩
      go_wp2_with fail
      go_ret2
      exact ⟨by rw [H.out.1, H.out.2]; rfl, bel_chain hB4 hb4⟩
    · have hb2 : (decide (r < 0) == decide (b < 0)) = false := by rw [beq_eq_false_iff_ne]; exact hsg
      have H := Lib.hid (hfd.2 ⟨hr0, hsg⟩).eq
      clear hfd hsg
      go_wp2_with fail
      refine (r2of_any (q - 1) _ hA3 (by omega) (by omega)).mono ?_
      rintro e w3 ⟨rfl, hb3⟩
      have hB4 := bel_chain hB3 hb3
      go_wp2_with fail
      refine (r2of_any (r + b) _ (hamb.below hB4) (by omega) (by omega)).mono ?_
      rintro e w4 ⟨rfl, hb4⟩
      go_wp2_with fail
      go_ret2
      exact ⟨by rw [H.out.1, H.out.2]; rfl, bel_chain hB4 hb4⟩
theorem fd_same {a b : Int} (hb : b ≠ 0) (h : (a < 0) ↔ (b < 0)) : fq a b = sgnT false (a.natAbs / b.natAbs) ∧ fr a b = sgnT (decide (sideZ a < 0)) (a.natAbs % b.natAbs) := by
  obtain ⟨h1, h2⟩ := (FD_nat_same hb h).eq
  rw [side_lt, h1, h2]
  unfold sgnT
  refine ⟨by rw [if_neg (by decide)], ?_⟩
  by_cases hb2 : b < 0
  · rw [if_pos hb2, decide_eq_true (h.2 hb2), if_pos rfl]
  · rw [if_neg hb2, decide_eq_false (fun e => hb2 (h.1 e)), if_neg (by decide)]
theorem fd_zero {a b : Int} (hb : b ≠ 0) (h : ¬ ((a < 0) ↔ (b < 0))) (hr : a.natAbs % b.natAbs = 0) : fq a b = sgnT true (a.natAbs / b.natAbs) ∧ fr a b = sgnT (decide (sideZ a < 0)) (a.natAbs % b.natAbs) := by
  obtain ⟨h1, h2⟩ := (FD_nat_zero hb h hr).eq
  rw [h1, h2, hr]
  unfold sgnT
  exact ⟨by rw [if_pos rfl], by split <;> rfl⟩
theorem fd_more {a b : Int} (hb : b ≠ 0) (h : ¬ ((a < 0) ↔ (b < 0))) (hr : a.natAbs % b.natAbs ≠ 0) : fq a b = sgnT true (a.natAbs / b.natAbs) - 1 ∧ fr a b = sgnT (decide (sideZ a < 0)) (a.natAbs % b.natAbs) + b := by
  obtain ⟨h1, h2⟩ := (FD_nat_more hb h hr).eq
  have h3 := Nat.mod_lt a.natAbs (show 0 < b.natAbs by omega)
  rw [side_lt, h1, h2]
  unfold sgnT
  generalize a.natAbs / b.natAbs = q at *
  generalize a.natAbs % b.natAbs = r at *
  refine ⟨by rw [if_pos rfl]; omega, ?_⟩
  by_cases hb2 : b < 0
  · have ha : ¬ a < 0 := fun e => h ⟨fun _ => hb2, fun _ => e⟩
    rw [if_pos hb2, decide_eq_false ha, if_neg (by decide)]; omega
  · have ha : a < 0 := by
      rcases Int.lt_or_le a 0 with h4 | h4
      · exact h4
      · exact absurd ⟨fun e => absurd e (by omega), fun e => absurd e hb2⟩ h
    rw [if_neg hb2, decide_eq_true ha, if_pos rfl]; omega
theorem sgnT_zero_iff (b : Bool) (m : Nat) : sgnT b m = 0 ↔ m = 0 := by
  unfold sgnT
  cases b with
  | true => rw [if_pos rfl]; omega
  | false => rw [if_neg (by decide)]; omega
set_option maxRecDepth 100000 in
set_option maxHeartbeats 2000000 in
theorem r2divmod_long (a b : Int) (w : World) (hamb : Amb w) (hb0 : b ≠ 0) (ha : nz a ≤ 90000) (hb : nz b ≤ 90000) (h18 : ¬ (nz a ≤ 18 ∧ nz b ≤ 18)) :
    Calls Tryz.prog 18 #[.string (itx a), .string (itx b)] w (SmallRes (.tuple #[.string (itx (fq a b)), .string (itx (fr a b))]) w) := by
  obtain ⟨va, fa, hqa, hfa⟩ := quickV_form a
  obtain ⟨vb, fb, hqb, hfb⟩ := quickV_form b
  have HQA := Lib.hid hqa
  have HQB := Lib.hid hqb
  have HF := Lib.hid (show ¬ (fa = true ∧ fb = true) from fun h => h18 ⟨hfa h.1, hfb h.2⟩)
  have HA := Lib.hid (show Lib.nDigits a.natAbs ≤ 90000 from ha)
  have HB := Lib.hid (show Lib.nDigits b.natAbs ≤ 90000 from hb)
  have HLA := Lib.hid (lims_nz ha (by omega))
  have HLB := Lib.hid (lims_nz hb (by omega))
  have HB0 := Lib.hid hb0
  have hbn : 0 < b.natAbs := by omega
  have HQD := Lib.hid (show Lib.nDigits (a.natAbs / b.natAbs) ≤ 90000 from Nat.le_trans (nd_mono (Nat.div_le_self _ _)) ha)
  have HRD := Lib.hid (show Lib.nDigits (a.natAbs % b.natAbs) ≤ 90000 from Nat.le_trans (nd_mono (Nat.le_of_lt (Nat.mod_lt _ hbn))) hb)
  clear hqa hfa hqb hfb h18 hb0
  go_enter Tryz.func18, Tryz.ntmps18
  go_wp2_with fail
  refine (r2quick_any a _ (by omega)).mono ?_
  rintro e w1 ⟨rfl, hb1⟩
  rw [HQA.out]
  go_wp2_with fail
  refine (r2quick_any b _ (by omega)).mono ?_
  rintro e w2 ⟨rfl, hb2⟩
  rw [HQB.out]
  have hB2 := bel_chain hb1 hb2
  go_upto_region 3 with fail
  go_cut [29] (fun s29 wx => s29 = .bool false ∧ w2 = wx)
  case first =>
    cases fa with
    | true =>
      cases fb with
      | true => exact absurd ⟨rfl, rfl⟩ HF.out
      | false =>
        go_wp2_with fail
        go_meet
        exact ⟨rfl, rfl⟩
    | false =>
      go_wp2_with fail
      go_meet
      exact ⟨rfl, rfl⟩
  case rest =>
    obtain ⟨rfl, rfl⟩ := hcut
    clear HQA HQB HF hb1 hb2
    go_wp2_with fail
    refine (r2digits_any a _ (by omega)).mono ?_
    rintro e w3 ⟨rfl, hb3⟩
    go_wp2_with fail
    refine (r2split_any a.natAbs _ (by have := HA.out; omega)).mono ?_
    rintro e w4 ⟨A1, n1, c1, rfl, hns1, hb4⟩
    go_wp2_with fail
    refine (r2digits_any b _ (by omega)).mono ?_
    rintro e w5 ⟨rfl, hb5⟩
    go_wp2_with fail
    refine (r2split_any b.natAbs _ (by have := HB.out; omega)).mono ?_
    rintro e w6 ⟨A2, n2, c2, rfl, hns2, hb6⟩
    have hns1 := (hns1.below hb5 (Nat.le_refl _)).below hb6 (Nat.le_refl _)
    have hB6 := bel_chain (bel_chain (bel_chain (bel_chain hB2 hb3) hb4) hb5) hb6
    have hn1 : n1 ≤ 90000 := by rw [← hns1.len]; exact HLA.out
    have hn2 : n2 ≤ 90000 := by rw [← hns2.len]; exact HLB.out
    have HDI := Lib.hid (r2divide_any A1 n1 c1 A2 n2 c2 _ _ w6 hns1 hns2 hbn (by omega) (by omega))
    clear hB2 hb3 hb4 hb5 hb6 hns1 hns2
    go_wp2_with fail
    refine HDI.out.mono ?_
    rintro e w7 ⟨Aq, nq, cq, Ar, nr, cr, rfl, hq, hr, hb7⟩
    have hB7 := bel_chain hB6 hb7
    have hnq : nq ≤ 90000 := by rw [← hq.len]; exact Nat.le_trans (lims_len_mono (Nat.div_le_self _ _)) HLA.out
    have hnr : nr ≤ 90000 := by rw [← hr.len]; exact Nat.le_trans (lims_len_mono (Nat.le_of_lt (Nat.mod_lt _ hbn))) HLB.out
    have HSQ := Lib.hid (fun bb wz (h : Below w7.heap.size w7 wz) => r2signed_hid bb Aq nq cq _ _ wz (hamb.below (bel_chain hB7 h)) (hq.below h (Nat.le_refl _)) (Lims_lims _) (lv_lims _) (by omega) (by have := HQD.out; omega))
    have HSR := Lib.hid (fun bb wz (h : Below w7.heap.size w7 wz) => r2signed_hid bb Ar nr cr _ _ wz (hamb.below (bel_chain hB7 h)) (hr.below h (Nat.le_refl _)) (Lims_lims _) (lv_lims _) (by omega) (by have := HRD.out; omega))
    clear hq hr hB6 hb7 HDI
    have hb7 := Below.refl w7.heap.size w7
    by_cases hs : (a < 0) ↔ (b < 0)
    · have hse : (sideZ a == sideZ b) = true := by rw [side_eq, decide_eq_decide.2 hs]; exact beq_self_eq_true _
      have hse2 : (sideZ a != sideZ b) = false := by rw [bne, hse]; rfl
      have HR := Lib.hid (fd_same HB0.out hs)
      have HQZ := Lib.hid (sgnT_nz false (a.natAbs / b.natAbs))
      clear hs
      go_wp2_with fail
      refine (r2side_any a _ (by omega)).mono ?_
      rintro e w8 ⟨rfl, hb8⟩
      go_wp2_with fail
      refine (r2side_any b _ (by omega)).mono ?_
      rintro e w9 ⟨rfl, hb9⟩
      have hb9' := bel_chain (bel_chain hb7 hb8) hb9
      go_wp2_with fail
      refine (HSQ.out _ _ hb9').mono ?_
      rintro e w10 ⟨rfl, hb10⟩
      have hb10' := bel_chain hb9' hb10
      go_wp2_with fail
      refine (r2side_any a _ (by omega)).mono ?_
      rintro e w11 ⟨rfl, hb11⟩
      have hb11' := bel_chain hb10' hb11
      go_wp2_with fail
      refine (HSR.out _ _ hb11').mono ?_
      rintro e w12 ⟨rfl, hb12⟩
      have hB12 := bel_chain hB7 (bel_chain hb11' hb12)
      clear hb8 hb9 hb10 hb11 hb12 hb9' hb10' hb11' hb7 HSQ HSR
      rw [← HR.out.1, ← HR.out.2]
      go_upto_region 10 with fail
      go_cut [84] (fun s84 wx => s84 = .bool false ∧ Below w.heap.size w wx)
      case first =>
        by_cases hz : fr a b = 0
        · have hz1 : ((itx (fr a b)).toList == [48]) = true := by rw [hz]; exact itx_zero_same
          have hz2 : (!(itx (fr a b)).toList == [48]) = false := by rw [hz1]; rfl
          have hz3 : ((itx (fr a b)).toList != [48]) = false := by rw [bne, hz1]; rfl
          clear hz
          go_wp2_with fail
          go_meet
          exact ⟨rfl, hB12⟩
        · have hz1 := itx_zero_test hz
          have hz2 : (!(itx (fr a b)).toList == [48]) = true := by rw [hz1]; rfl
          have hz3 : ((itx (fr a b)).toList != [48]) = true := by rw [bne, hz1]; rfl
          go_wp2_with fail
          refine (r2side_any a _ (by omega)).mono ?_
          rintro e w13 ⟨rfl, hb13⟩
          go_wp2_with fail
          refine (r2side_any b _ (by omega)).mono ?_
          rintro e w14 ⟨rfl, hb14⟩
          go_wp2_with fail
          go_meet
          exact ⟨rfl, bel_chain (bel_chain hB12 hb13) hb14⟩
      case rest =>
        obtain ⟨rfl, hB13⟩ := hcut
        go_wp2_with fail
        go_ret2
        exact ⟨rfl, hB13⟩
    · have hse : (sideZ a == sideZ b) = false := by
        rw [side_eq, beq_eq_false_iff_ne]; exact fun e => hs (decide_eq_decide.1 e)
      have hse2 : (sideZ a != sideZ b) = true := by rw [bne, hse]; rfl
      have HS := Lib.hid hs
      clear hs
      go_wp2_with fail
      refine (r2side_any a _ (by omega)).mono ?_
      rintro e w8 ⟨rfl, hb8⟩
      go_wp2_with fail
      refine (r2side_any b _ (by omega)).mono ?_
      rintro e w9 ⟨rfl, hb9⟩
      have hb9' := bel_chain (bel_chain hb7 hb8) hb9
      go_wp2_with fail
      refine (HSQ.out _ _ hb9').mono ?_
      rintro e w10 ⟨rfl, hb10⟩
      have hb10' := bel_chain hb9' hb10
      go_wp2_with fail
      refine (r2side_any a _ (by omega)).mono ?_
      rintro e w11 ⟨rfl, hb11⟩
      have hb11' := bel_chain hb10' hb11
      go_wp2_with fail
      refine (HSR.out _ _ hb11').mono ?_
      rintro e w12 ⟨rfl, hb12⟩
      have hB12 := bel_chain hB7 (bel_chain hb11' hb12)
      clear hb8 hb9 hb10 hb11 hb12 hb9' hb10' hb11' hb7 HSQ HSR
      by_cases hz : a.natAbs % b.natAbs = 0
      · have HR := Lib.hid (fd_zero HB0.out HS.out hz)
        have hz1 : ((itx (fr a b)).toList == [48]) = true := by rw [HR.out.2, hz, (sgnT_zero_iff _ 0).2 rfl]; exact itx_zero_same
        have hz2 : (!(itx (fr a b)).toList == [48]) = false := by rw [hz1]; rfl
        have hz3 : ((itx (fr a b)).toList != [48]) = false := by rw [bne, hz1]; rfl
        rw [← HR.out.1, ← HR.out.2]
        go_wp2_with fail
        go_ret2
        exact ⟨rfl, hB12⟩
      · have HR := Lib.hid (fd_more HB0.out HS.out hz)
        have HQN := Lib.hid (sgnT_nz true (a.natAbs / b.natAbs))
        have HRN := Lib.hid (sgnT_nz (decide (sideZ a < 0)) (a.natAbs % b.natAbs))
        have hz0 : sgnT (decide (sideZ a < 0)) (a.natAbs % b.natAbs) ≠ 0 := fun e => hz ((sgnT_zero_iff _ _).1 e)
        obtain ⟨q0, hq0⟩ : ∃ q0, sgnT true (a.natAbs / b.natAbs) = q0 := ⟨_, rfl⟩
        obtain ⟨r0, hr0⟩ : ∃ r0, sgnT (decide (sideZ a < 0)) (a.natAbs % b.natAbs) = r0 := ⟨_, rfl⟩
        rw [hq0] at HQN HR ⊢
        rw [hr0] at HRN hz0 HR ⊢
        have hz1 := itx_zero_test hz0
        have hz2 : (!(itx r0).toList == [48]) = true := by rw [hz1]; rfl
        have hz3 : ((itx r0).toList != [48]) = true := by rw [bne, hz1]; rfl
        have HSB := Lib.hid (fun w1 (h : Amb w1) => itx_lit_one ▸ r2sub_any q0 1 w1 h (by have := HQN.out; have := HQD.out; omega) (by unfold nz; rw [show (1 : Int).natAbs = 1 from rfl, Lib.nDigits_small (by omega)]; omega))
        have HAD := Lib.hid (fun w1 (h : Amb w1) => r2add_any r0 b w1 h (by have := HRN.out; have := HRD.out; omega) (by omega))
        clear hq0 hr0 hz hz0
        go_wp2_with fail
        refine (r2side_any a _ (by omega)).mono ?_
        rintro e w13 ⟨rfl, hb13⟩
        go_wp2_with fail
        refine (r2side_any b _ (by omega)).mono ?_
        rintro e w14 ⟨rfl, hb14⟩
        have hB14 := bel_chain (bel_chain hB12 hb13) hb14
        clear hb13 hb14 hB12
        go_wp2_with fail
        refine (HSB.out _ (hamb.below hB14)).mono ?_
        rintro e w15 ⟨rfl, hb15⟩
        have hB15 := bel_chain hB14 hb15
        go_wp2_with fail
        refine (HAD.out _ (hamb.below hB15)).mono ?_
        rintro e w16 ⟨rfl, hb16⟩
        go_wp2_with fail
        go_ret2
        exact ⟨by rw [HR.out.1, HR.out.2]; rfl, bel_chain hB15 hb16⟩
/-- schismaref02.DivMod. -/
theorem r2divmod_any (a b : Int) (w : World) (hamb : Amb w) (hb0 : b ≠ 0) (ha : nz a ≤ 90000) (hb : nz b ≤ 90000) :
    Calls Tryz.prog 18 #[.string (itx a), .string (itx b)] w (SmallRes (.tuple #[.string (itx (fq a b)), .string (itx (fr a b))]) w) := by
  by_cases h18 : nz a ≤ 18 ∧ nz b ≤ 18
  · exact r2divmod_short a b w hamb hb0 h18.1 h18.2
  · exact r2divmod_long a b w hamb hb0 ha hb h18
end Go.Proofs.YtjglooeljdpadaaGreatDoor
