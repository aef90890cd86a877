/- The second chapter's reference: Add, Sub, Mul. -/
import Derived.Test.YtebcmefbpfcgmaaGreatDoorRE
import Derived.Test.YtebcmefbpfcgmaaGreatDoorW2
namespace Go.Proofs.YtebcmefbpfcgmaaGreatDoor
open Go.RowKit Go.PlainAid

theorem quickV_form (z : Int) : ∃ (va : Int) (fa : Bool), quickV z = .tuple #[.int .i64 va, .bool fa] ∧ (fa = true → nz z ≤ 18) := by
  unfold quickV
  by_cases h : nz z ≤ 18
  · rw [if_pos h]; exact ⟨_, _, rfl, fun _ => h⟩
  · rw [if_neg h]; exact ⟨_, _, rfl, fun e => by cases e⟩
theorem quickV_yes {z : Int} (h : nz z ≤ 18) : quickV z = .tuple #[.int .i64 z, .bool true] := by unfold quickV; rw [if_pos h]
theorem side_lt (z : Int) : decide (sideZ z < 0) = decide (z < 0) := by
  unfold sideZ
  by_cases h : z < 0
  · rw [if_pos h, decide_eq_true h]; decide
  · rw [if_neg h, decide_eq_false h]; decide
theorem side_eq (a b : Int) : (sideZ a == sideZ b) = (decide (a < 0) == decide (b < 0)) := by
  unfold sideZ
  by_cases h : a < 0 <;> by_cases h2 : b < 0 <;> simp [h, h2]
theorem side_ne (a b : Int) : (sideZ a != sideZ b) = (!(decide (a < 0) == decide (b < 0))) := by rw [← side_eq]; rfl
/-- A sign and a magnitude. -/
def sgnT (b : Bool) (m : Nat) : Int := if b then -(m : Int) else m
theorem r2signed_hid (b : Bool) (A : Option Addr) (n cap a : Nat) (xs : List Nat) (w : World) (hamb : Amb w) (h : Ns w A n cap xs) (hx : Lims xs) (hv : lv xs = a) (hn : n ≤ 1000000) (ha : Lib.nDigits a ≤ 1000000000) :
    Calls Tryz.prog 25 #[.bool b, .slice A n cap] w (SmallRes (.string (itx (sgnT b a))) w) := r2signed_any b A n cap a xs w hamb h hx hv hn ha
theorem lims_nz {z : Int} {k : Nat} (h : nz z ≤ k) (hk : 0 < k) : (lims z.natAbs).length ≤ k := lims_len_nd _ _ h hk
theorem sum_digits {a b : Int} (ha : nz a ≤ 100000) (hb : nz b ≤ 100000) : Lib.nDigits (a.natAbs + b.natAbs) ≤ 100001 := by
  have e1 := (nz_le_iff a 99999).1 ha
  have e2 := (nz_le_iff b 99999).1 hb
  refine (nd_le_iff (a.natAbs + b.natAbs) 100000).2 ?_
  obtain ⟨K, hK⟩ : ∃ K, 99999 + 1 = K := ⟨_, rfl⟩
  rw [hK] at e1 e2
  rw [show 100000 + 1 = K + 1 by omega, Nat.pow_succ]
  omega
set_option maxRecDepth 100000 in
set_option maxHeartbeats 1000000 in
/-- schismaref02.Add. -/
theorem r2add_any (a b : Int) (w : World) (hamb : Amb w) (ha : nz a ≤ 100000) (hb : nz b ≤ 100000) :
    Calls Tryz.prog 7 #[.string (itx a), .string (itx b)] w (SmallRes (.string (itx (a + b))) w) := by
  by_cases h18 : nz a ≤ 18 ∧ nz b ≤ 18
  · have h1 := (nz_le_iff a 17).1 h18.1
    have h2 := (nz_le_iff b 17).1 h18.2
    have HQA := Lib.hid (quickV_yes h18.1)
    have HQB := Lib.hid (quickV_yes h18.2)
    have h3 : -1000000000000000000 < a ∧ a < 1000000000000000000 := by have : (10 : Nat) ^ (17 + 1) = 1000000000000000000 := by decide
                                                                       omega
    have h4 : -1000000000000000000 < b ∧ b < 1000000000000000000 := by have : (10 : Nat) ^ (17 + 1) = 1000000000000000000 := by decide
                                                                       omega
    clear h1 h2 h18
    go_enter Tryz.func7, Tryz.ntmps7
    go_wp2_with fail
    refine (r2quick_any a _ (by omega)).mono ?_
    rintro e w1 ⟨rfl, hb1⟩
    rw [HQA.out]
    go_wp2_with fail
    refine (r2quick_any b _ (by omega)).mono ?_
    rintro e w2 ⟨rfl, hb2⟩
    rw [HQB.out]
    have hB2 := bel_chain hb1 hb2
    go_wp2_with fail
    refine (r2of_any (a + b) _ (hamb.below hB2) (by omega) (by omega)).mono ?_
    rintro e w3 ⟨rfl, hb3⟩
    go_wp2_with fail
    go_ret
    exact ⟨rfl, bel_chain hB2 hb3⟩
  · obtain ⟨va, fa, hqa, hfa⟩ := quickV_form a
    obtain ⟨vb, fb, hqb, hfb⟩ := quickV_form b
    have HQA := Lib.hid hqa
    have HQB := Lib.hid hqb
    have HF := Lib.hid (show ¬ (fa = true ∧ fb = true) from fun h => h18 ⟨hfa h.1, hfb h.2⟩)
    have HSD := Lib.hid (sum_digits ha hb)
    have HA := Lib.hid (show Lib.nDigits a.natAbs ≤ 100000 from ha)
    have HB := Lib.hid (show Lib.nDigits b.natAbs ≤ 100000 from hb)
    have HLA := Lib.hid (lims_nz ha (by omega))
    have HLB := Lib.hid (lims_nz hb (by omega))
    clear hqa hfa hqb hfb h18
    go_enter Tryz.func7, Tryz.ntmps7
    go_wp2_with fail
    refine (r2quick_any a _ (by omega)).mono ?_
    rintro e w1 ⟨rfl, hb1⟩
    rw [HQA.out]
    go_wp2_with fail
    refine (r2quick_any b _ (by omega)).mono ?_
    rintro e w2 ⟨rfl, hb2⟩
    rw [HQB.out]
    have hB2 := bel_chain hb1 hb2
    go_upto_region 3 with fail
    go_cut [24] (fun s24 wx => s24 = .bool false ∧ w2 = wx)
    case first =>
      cases fa with
      | true =>
        cases fb with
        | true => exact absurd ⟨rfl, rfl⟩ HF.out
        | false =>
          go_wp2_with fail
          go_meet
          exact ⟨rfl, rfl⟩
      | false =>
        go_wp2_with fail
        go_meet
        exact ⟨rfl, rfl⟩
    case rest =>
      obtain ⟨rfl, rfl⟩ := hcut
      clear HQA HQB HF hb1 hb2
      go_wp2_with fail
      refine (r2digits_any a _ (by omega)).mono ?_
      rintro e w3 ⟨rfl, hb3⟩
      go_wp2_with fail
      refine (r2split_any a.natAbs _ (by have := HA.out; omega)).mono ?_
      rintro e w4 ⟨A1, n1, c1, rfl, hns1, hb4⟩
      go_wp2_with fail
      refine (r2digits_any b _ (by omega)).mono ?_
      rintro e w5 ⟨rfl, hb5⟩
      go_wp2_with fail
      refine (r2split_any b.natAbs _ (by have := HB.out; omega)).mono ?_
      rintro e w6 ⟨A2, n2, c2, rfl, hns2, hb6⟩
      have hns1 := (hns1.below hb5 (Nat.le_refl _)).below hb6 (Nat.le_refl _)
      have hB6 := bel_chain (bel_chain (bel_chain (bel_chain hB2 hb3) hb4) hb5) hb6
      have hn1 : n1 ≤ 100000 := by rw [← hns1.len]; exact HLA.out
      have hn2 : n2 ≤ 100000 := by rw [← hns2.len]; exact HLB.out
      clear hB2 hb3 hb4 hb5 hb6
      go_wp2_with fail
      refine (r2side_any a _ (by omega)).mono ?_
      rintro e w7 ⟨rfl, hb7⟩
      go_wp2_with fail
      refine (r2side_any b _ (by omega)).mono ?_
      rintro e w8 ⟨rfl, hb8⟩
      have hns1 := (hns1.below hb7 (Nat.le_refl _)).below hb8 (Nat.le_refl _)
      have hns2 := (hns2.below hb7 (Nat.le_refl _)).below hb8 (Nat.le_refl _)
      have hB8 := bel_chain (bel_chain hB6 hb7) hb8
      clear hb7 hb8 hB6
      by_cases hs : decide (a < 0) = decide (b < 0)
      · have hse : (sideZ a == sideZ b) = true := by rw [side_eq, hs]; exact beq_self_eq_true _
        have HR := Lib.hid (show sgnT (decide (sideZ a < 0)) (a.natAbs + b.natAbs) = a + b by rw [side_lt]; exact sum_same hs)
        clear hs
        go_wp2_with fail
        refine (r2side_any a _ (by omega)).mono ?_
        rintro e w9 ⟨rfl, hb9⟩
        go_wp2_with fail
        refine (r2plus_any A1 n1 c1 A2 n2 c2 _ _ _ (hns1.below hb9 (Nat.le_refl _)) (hns2.below hb9 (Nat.le_refl _)) (by omega) (by omega)).mono ?_
        rintro e w10 ⟨A3, n3, c3, xs, rfl, hns3, hlx, hvx, hn3, hb10⟩
        have hB10 := bel_chain (bel_chain hB8 hb9) hb10
        have hsg := fun bb => r2signed_hid bb A3 n3 c3 _ xs w10 (hamb.below hB10) hns3 hlx hvx (by omega) (by have := HSD.out; omega)
        have HSG := Lib.hid hsg
        clear hsg hns3 hns1 hns2 hlx hvx hb9 hb10
        go_wp2_with fail
        refine (HSG.out _).mono ?_
        rintro e w11 ⟨rfl, hb11⟩
        go_wp2_with fail
        go_ret
        exact ⟨by rw [← HR.out]; rfl, bel_chain hB10 hb11⟩
      · have hse : (sideZ a == sideZ b) = false := by rw [side_eq, beq_eq_false_iff_ne]; exact hs
        have HS := Lib.hid hs
        clear hs
        go_wp2_with fail
        refine (r2order_any A1 n1 c1 A2 n2 c2 _ _ _ hns1 hns2).mono ?_
        rintro e w9 ⟨rfl, hb9⟩
        have hns1 := hns1.below hb9 (Nat.le_refl _)
        have hns2 := hns2.below hb9 (Nat.le_refl _)
        have hB9 := bel_chain hB8 hb9
        clear hb9 hB8
        by_cases hlt : b.natAbs ≤ a.natAbs
        · have hcm : 0 ≤ cmpI a.natAbs b.natAbs := by
            rcases Nat.lt_or_eq_of_le hlt with h | h
            · rw [cmpI_gt h]; decide
            · rw [h, cmpI_eq]; decide
          generalize cmpI a.natAbs b.natAbs = cm at *
          have HR := Lib.hid (show sgnT (decide (sideZ a < 0)) (a.natAbs - b.natAbs) = a + b by rw [side_lt]; exact sum_diff HS.out hlt)
          have HLT := Lib.hid hlt
          clear hlt
          go_wp2_with fail
          refine (r2side_any a _ (by omega)).mono ?_
          rintro e w10 ⟨rfl, hb10⟩
          go_wp2_with fail
          refine (r2minus_any A1 n1 c1 A2 n2 c2 _ _ _ (hns1.below hb10 (Nat.le_refl _)) (hns2.below hb10 (Nat.le_refl _)) (by omega) HLT.out).mono ?_
          rintro e w11 ⟨v3, rfl, hown3, hb11⟩
          obtain ⟨A3, c3, rfl, hns3⟩ := hown3.ns
          have hB11 := bel_chain (bel_chain hB9 hb10) hb11
          have hsz3 : (lims (a.natAbs - b.natAbs)).length ≤ 100000 := Nat.le_trans (lims_len_mono (Nat.sub_le _ _)) HLA.out
          have hsg := fun bb => r2signed_hid bb A3 _ c3 _ _ w11 (hamb.below hB11) hns3 (Lims_lims _) (lv_lims _) (by omega) (by have := HA.out; have := nd_mono (Nat.sub_le a.natAbs b.natAbs); omega)
          have HSG := Lib.hid hsg
          clear hsg hns3 hns1 hns2 hown3 hb10 hb11
          go_wp2_with fail
          refine (HSG.out _).mono ?_
          rintro e w12 ⟨rfl, hb12⟩
          go_wp2_with fail
          go_ret
          exact ⟨by rw [← HR.out]; rfl, bel_chain hB11 hb12⟩
        · have hcm : cmpI a.natAbs b.natAbs = -1 := cmpI_lt (by omega)
          rw [hcm]
          have HR := Lib.hid (show sgnT (decide (sideZ b < 0)) (b.natAbs - a.natAbs) = a + b by rw [side_lt, Int.add_comm]; exact sum_diff (a := b) (b := a) (fun h => HS.out h.symm) (by omega))
          have HLT := Lib.hid (show a.natAbs ≤ b.natAbs by omega)
          clear hlt hcm
          go_wp2_with fail
          refine (r2side_any b _ (by omega)).mono ?_
          rintro e w10 ⟨rfl, hb10⟩
          go_wp2_with fail
          refine (r2minus_any A2 n2 c2 A1 n1 c1 _ _ _ (hns2.below hb10 (Nat.le_refl _)) (hns1.below hb10 (Nat.le_refl _)) (by omega) HLT.out).mono ?_
          rintro e w11 ⟨v3, rfl, hown3, hb11⟩
          obtain ⟨A3, c3, rfl, hns3⟩ := hown3.ns
          have hB11 := bel_chain (bel_chain hB9 hb10) hb11
          have hsz3 : (lims (b.natAbs - a.natAbs)).length ≤ 100000 := Nat.le_trans (lims_len_mono (Nat.sub_le _ _)) HLB.out
          have hsg := fun bb => r2signed_hid bb A3 _ c3 _ _ w11 (hamb.below hB11) hns3 (Lims_lims _) (lv_lims _) (by omega) (by have := HB.out; have := nd_mono (Nat.sub_le b.natAbs a.natAbs); omega)
          have HSG := Lib.hid hsg
          clear hsg hns3 hns1 hns2 hown3 hb10 hb11
          go_wp2_with fail
          refine (HSG.out _).mono ?_
          rintro e w12 ⟨rfl, hb12⟩
          go_wp2_with fail
          go_ret
          exact ⟨by rw [← HR.out]; rfl, bel_chain hB11 hb12⟩
/-- schismaref02.Sub. -/
theorem r2sub_any (a b : Int) (w : World) (hamb : Amb w) (ha : nz a ≤ 100000) (hb : nz b ≤ 100000) :
    Calls Tryz.prog 10 #[.string (itx a), .string (itx b)] w (SmallRes (.string (itx (a - b))) w) := by
  have hnb : nz (-b) ≤ 100000 := by rw [nz_neg]; exact hb
  rw [Int.sub_eq_add_neg]
  go_enter Tryz.func10, Tryz.ntmps10
  go_wp2_with fail
  refine (r2neg_any b _ (by omega)).mono ?_
  rintro e w1 ⟨rfl, hb1⟩
  go_wp2_with fail
  refine (r2add_any a (-b) _ (hamb.below hb1) ha hnb).mono ?_
  rintro e w2 ⟨rfl, hb2⟩
  go_wp2_with fail
  go_ret
  exact ⟨rfl, bel_chain hb1 hb2⟩
set_option maxRecDepth 100000 in
set_option maxHeartbeats 1000000 in
/-- schismaref02.Mul. -/
theorem r2mul_any (a b : Int) (w : World) (hamb : Amb w) (ha : nz a ≤ 100000) (hb : nz b ≤ 100000) :
    Calls Tryz.prog 39 #[.string (itx a), .string (itx b)] w (SmallRes (.string (itx (a * b))) w) := by
  have hsa : ((dec a.natAbs).size : Int) = (nz a : Int) := by rw [dec_size]; rfl
  have hsb : ((dec b.natAbs).size : Int) = (nz b : Int) := by rw [dec_size]; rfl
  by_cases h18 : nz a + nz b ≤ 18
  · have HQA := Lib.hid (quickV_yes (z := a) (by omega))
    have HQB := Lib.hid (quickV_yes (z := b) (by omega))
    have hm := (nz_le_iff (a * b) 17).1 (Nat.le_trans (nz_mul a b) h18)
    have h3 : -1000000000000000000 < a * b ∧ a * b < 1000000000000000000 := by have : (10 : Nat) ^ (17 + 1) = 1000000000000000000 := by decide
                                                                               omega
    have hle : ((dec a.natAbs).size : Int) + ((dec b.natAbs).size : Int) ≤ 18 := by omega
    clear hm
    go_enter Tryz.func39, Tryz.ntmps39
    go_wp2_with fail
    refine (r2digits_any a _ (by omega)).mono ?_
    rintro e w1 ⟨rfl, hb1⟩
    go_wp2_with fail
    refine (r2digits_any b _ (by omega)).mono ?_
    rintro e w2 ⟨rfl, hb2⟩
    go_wp2_with fail
    refine (r2quick_any a _ (by omega)).mono ?_
    rintro e w3 ⟨rfl, hb3⟩
    rw [HQA.out]
    go_wp2_with fail
    refine (r2quick_any b _ (by omega)).mono ?_
    rintro e w4 ⟨rfl, hb4⟩
    rw [HQB.out]
    have hB4 := bel_chain (bel_chain (bel_chain hb1 hb2) hb3) hb4
    go_wp2_with fail
    refine (r2of_any (a * b) _ (hamb.below hB4) (by omega) (by omega)).mono ?_
    rintro e w5 ⟨rfl, hb5⟩
    go_wp2_with fail
    go_ret
    exact ⟨rfl, bel_chain hB4 hb5⟩
  · have hgt : 18 < ((dec a.natAbs).size : Int) + ((dec b.natAbs).size : Int) := by omega
    have HA := Lib.hid (show Lib.nDigits a.natAbs ≤ 100000 from ha)
    have HB := Lib.hid (show Lib.nDigits b.natAbs ≤ 100000 from hb)
    have HLA := Lib.hid (lims_nz ha (by omega))
    have HLB := Lib.hid (lims_nz hb (by omega))
    have HMD := Lib.hid (show Lib.nDigits (a.natAbs * b.natAbs) ≤ 200000 from by
      have := nz_mul a b
      unfold nz at this
      rw [Int.natAbs_mul] at this
      have e1 : Lib.nDigits a.natAbs ≤ 100000 := ha
      have e2 : Lib.nDigits b.natAbs ≤ 100000 := hb
      omega)
    have HML := Lib.hid (lims_mul_le a.natAbs b.natAbs)
    have HR := Lib.hid (show sgnT (sideZ a != sideZ b) (a.natAbs * b.natAbs) = a * b by rw [side_ne]; exact mul_sign a b)
    clear h18
    go_enter Tryz.func39, Tryz.ntmps39
    go_wp2_with fail
    refine (r2digits_any a _ (by omega)).mono ?_
    rintro e w1 ⟨rfl, hb1⟩
    go_wp2_with fail
    refine (r2digits_any b _ (by omega)).mono ?_
    rintro e w2 ⟨rfl, hb2⟩
    have hB2 := bel_chain hb1 hb2
    clear hb1 hb2
    go_wp2_with fail
    refine (r2side_any a _ (by omega)).mono ?_
    rintro e w3 ⟨rfl, hb3⟩
    go_wp2_with fail
    refine (r2side_any b _ (by omega)).mono ?_
    rintro e w4 ⟨rfl, hb4⟩
    have hB4 := bel_chain (bel_chain hB2 hb3) hb4
    clear hb3 hb4 hB2
    go_wp2_with fail
    refine (r2digits_any a _ (by omega)).mono ?_
    rintro e w5 ⟨rfl, hb5⟩
    go_wp2_with fail
    refine (r2split_any a.natAbs _ (by have := HA.out; omega)).mono ?_
    rintro e w6 ⟨A1, n1, c1, rfl, hns1, hb6⟩
    go_wp2_with fail
    refine (r2digits_any b _ (by omega)).mono ?_
    rintro e w7 ⟨rfl, hb7⟩
    go_wp2_with fail
    refine (r2split_any b.natAbs _ (by have := HB.out; omega)).mono ?_
    rintro e w8 ⟨A2, n2, c2, rfl, hns2, hb8⟩
    have hns1 := (hns1.below hb7 (Nat.le_refl _)).below hb8 (Nat.le_refl _)
    have hB8 := bel_chain (bel_chain (bel_chain (bel_chain hB4 hb5) hb6) hb7) hb8
    have hn1 : n1 ≤ 100000 := by rw [← hns1.len]; exact HLA.out
    have hn2 : n2 ≤ 100000 := by rw [← hns2.len]; exact HLB.out
    clear hB4 hb5 hb6 hb7 hb8
    have hti := r2times_any A1 n1 c1 A2 n2 c2 _ _ w8 hns1 hns2 (Lims_lims _) (Lims_lims _) (by omega) (by omega)
    rw [lv_lims, lv_lims] at hti
    have HTI := Lib.hid hti
    clear hti hns1 hns2
    go_wp2_with fail
    refine HTI.out.mono ?_
    rintro e w9 ⟨A3, n3, c3, rfl, hns3, hb9⟩
    have hB9 := bel_chain hB8 hb9
    have hn3 : n3 ≤ 200000 := by
      have e1 := HML.out
      have e2 := HLA.out
      have e3 := HLB.out
      rw [← hns3.len]; omega
    have HSG := Lib.hid (fun bb => r2signed_hid bb A3 n3 c3 _ _ w9 (hamb.below hB9) hns3 (Lims_lims _) (lv_lims _) (by omega) (by have := HMD.out; omega))
    clear hns3 hB8 hb9
    go_wp2_with fail
    refine (HSG.out _).mono ?_
    rintro e w10 ⟨rfl, hb10⟩
    go_wp2_with fail
    go_ret
    refine ⟨?_, bel_chain hB9 hb10⟩
    rw [← HR.out]
    rfl
end Go.Proofs.YtebcmefbpfcgmaaGreatDoor
