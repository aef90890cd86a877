/- Greater text, out of: V42. -/
import Derived.Test.YtfokdhpccajmbaaGreatDoorV41
import Derived.Test.YtfokdhpccajmbaaGreatDoorK46
import Derived.Test.YtfokdhpccajmbaaGreatDoorK48
import Derived.Test.YtfokdhpccajmbaaGreatDoorK49
import Derived.Deep.DrawnRows
namespace Go.Proofs.YtfokdhpccajmbaaGreatDoor
open Go.RowKit Go.PlainAid
attribute [local go_sem] field_rat0 field_rat1
/-- What r4convs_any asks of the terms of a short fraction. -/
theorem convs_bounds {n d : Int} (hd : 0 < d) (hg : Int.gcd n d = 1) (hn : n.natAbs ≤ 1000000000000000) (hdd : d ≤ 1000000000000000) :
    (∀ i, 1 ≤ i → i ≤ (tms n d).length → ∀ j, j ≤ i → (cv (((tms n d).take i).drop j)).1.natAbs ≤ 4000000000000000000 ∧ (cv (((tms n d).take i).drop j)).2.natAbs ≤ 4000000000000000000) ∧ (∀ i, 1 ≤ i → i ≤ (tms n d).length → 1 ≤ (cv ((tms n d).take i)).2) := by
  refine ⟨fun i h1 _ j _ => ?_, fun i h1 _ => ?_⟩
  · have := cv_parts hd hg i h1 j
    omega
  · have := cv_take hd hg (i - 1)
    rw [Nat.sub_add_cancel h1] at this
    exact this.1
/-- The last convergent is the number. -/
theorem convs_last (q : Rat) (m : Nat) (hm : (tms q.num (q.den : Int)).length = m + 1) : ((cvs beg (tms q.num (q.den : Int))).map tr).getD m 0 = q := by
  have h := cvs_beg (tms q.num (q.den : Int)) m (by omega)
  rw [List.take_of_length_le (by omega)] at h
  obtain ⟨e1, e2⟩ := cv_right (rden_pos q) (rat_gcd q)
  rw [List.getD_eq_getElem?_getD, List.getElem?_map, h]
  show Rat.divInt (cv (tms q.num (q.den : Int))).1 (cv (tms q.num (q.den : Int))).2 = q
  rw [e1, e2, Rat.num_divInt_den]
set_option maxRecDepth 100000 in
set_option maxHeartbeats 4000000 in
/-- too long. -/
theorem lawTerms_long (n0 d0 : ByteArray) (w : World) (hamb : Amb w) (h : ¬ (n0.size ≤ 13 ∧ d0.size ≤ 13)) :
    Calls Tryz.prog 4 #[.agg #[.string n0, .string d0]] w (SmallRes (.bool true) w) := by
  have HSH := Lib.hid (fun w => show Calls Tryz.prog 18 #[.agg #[.string n0, .string d0]] w (SmallRes (.bool false) w) from by
    have := short4_all n0 d0 w
    rw [show (decide (n0.size ≤ 13) && decide (d0.size ≤ 13)) = false by rw [Bool.and_eq_false_iff, decide_eq_false_iff_not, decide_eq_false_iff_not]; omega] at this
    exact this)
  have HAMB := Lib.hid hamb
  clear hamb h
  go_enter Tryz.func4, Tryz.ntmps4
  go_wp2_with fail
  obtain ⟨W, hW⟩ : ∃ W, w.alloc (.cells #[.string n0, .string d0] 24) = W := ⟨_, rfl⟩
  rw [hW]
  obtain ⟨hX, hBW⟩ := B1.of hW
  clear hW
  have HX := Lib.hid (fun wz (hb : Below W.heap.size W wz) => hX.later hb)
  have HB := Lib.hid hBW
  have HA := Lib.hid (fun wz (hb : Below W.heap.size W wz) => HAMB.out.below (bel_chain HB.out hb))
  clear hX hBW
  refine (known04_any W (HA.out _ (Below.refl _ _))).mono ?_
  rintro e w1 ⟨rfl, hb1⟩
  obtain ⟨_, x0, x1, _, _⟩ := HX.out _ hb1
  go_wp2_with fail
  refine (HSH.out w1).mono ?_
  rintro e w2 ⟨rfl, hb2⟩
  have hz2 := bel_chain hb1 hb2
  clear x0 x1 hb1 hb2
  go_wp2_with fail
  refine (known04_any w2 (HA.out _ hz2)).mono ?_
  rintro e w3 ⟨rfl, hb3⟩
  have hz3 := bel_chain hz2 hb3
  go_wp2_with fail
  go_ret
  exact ⟨rfl, bel_chain HB.out hz3⟩
set_option maxRecDepth 100000 in
set_option maxHeartbeats 4000000 in
/-- short, but not right. -/
theorem lawTerms_err (n0 d0 : ByteArray) (w : World) (hamb : Amb w) (h0 : n0.size ≤ 13) (h1 : d0.size ≤ 13) (hr : RB n0 d0 = false) :
    Calls Tryz.prog 4 #[.agg #[.string n0, .string d0]] w (SmallRes (.bool true) w) := by
  have HSH := Lib.hid (fun w => show Calls Tryz.prog 18 #[.agg #[.string n0, .string d0]] w (SmallRes (.bool true) w) from by
    have := short4_all n0 d0 w
    rw [decide_eq_true h0, decide_eq_true h1] at this
    exact this)
  have HP1 := Lib.hid (fun w => r4parts_no n0 d0 w (by omega) (by omega) hr)
  have HTM := Lib.hid (fun w h => Terms_no n0 d0 w h (by omega) (by omega) hr)
  have HCV := Lib.hid (fun w h => Convergents_no n0 d0 w h (by omega) (by omega) hr)
  have HAMB := Lib.hid hamb
  clear hamb h0 h1 hr
  go_enter Tryz.func4, Tryz.ntmps4
  go_wp2_with fail
  obtain ⟨W, hW⟩ : ∃ W, w.alloc (.cells #[.string n0, .string d0] 24) = W := ⟨_, rfl⟩
  rw [hW]
  obtain ⟨hX, hBW⟩ := B1.of hW
  clear hW
  have HX := Lib.hid (fun wz (hb : Below W.heap.size W wz) => hX.later hb)
  have HB := Lib.hid hBW
  have HA := Lib.hid (fun wz (hb : Below W.heap.size W wz) => HAMB.out.below (bel_chain HB.out hb))
  clear hX hBW
  refine (known04_any W (HA.out _ (Below.refl _ _))).mono ?_
  rintro e w1 ⟨rfl, hb1⟩
  obtain ⟨_, x0, x1, _, _⟩ := HX.out _ hb1
  go_wp2_with fail
  refine (HSH.out w1).mono ?_
  rintro e w2 ⟨rfl, hb2⟩
  have hz2 := bel_chain hb1 hb2
  clear x0 x1 hb1 hb2
  obtain ⟨_, x0, x1, _, _⟩ := HX.out _ hz2
  go_wp2_with fail
  refine (HTM.out w2 (HA.out _ hz2)).mono ?_
  rintro e w3 ⟨rfl, hb3⟩
  have hz3 := bel_chain hz2 hb3
  clear x0 x1 hz2 hb3
  obtain ⟨_, x0, x1, _, _⟩ := HX.out _ hz3
  go_wp2_with fail
  refine (HCV.out w3 (HA.out _ hz3)).mono ?_
  rintro e w4 ⟨rfl, hb4⟩
  have hz4 := bel_chain hz3 hb4
  clear x0 x1 hz3 hb4
  obtain ⟨_, x0, x1, _, _⟩ := HX.out _ hz4
  go_wp2_with fail
  refine (HP1.out w4).mono ?_
  rintro e w5 ⟨rfl, hb5⟩
  have hz5 := bel_chain hz4 hb5
  go_wp2_with fail
  go_ret
  exact ⟨rfl, bel_chain HB.out hz5⟩
set_option maxRecDepth 100000 in
set_option maxHeartbeats 4000000 in
/-- right. -/
theorem lawTerms_yes (q : Rat) (w : World) (hamb : Amb w) (h0 : (itx q.num).size ≤ 13) (h1 : (itx (q.den : Int)).size ≤ 13) :
    Calls Tryz.prog 4 #[.agg #[.string (itx q.num), .string (itx (q.den : Int))]] w (SmallRes (.bool true) w) := by
  have hq : NQ q 13 := ⟨Nat.le_trans (itx_size_ge _) h0, Nat.le_trans (itx_size_ge _) h1⟩
  have hd := rden_pos q
  have hg := rat_gcd q
  have p1 := (nz_le_iff q.num 12).1 hq.1
  have p2 := (nz_le_iff (q.den : Int) 12).1 hq.2
  have HSH := Lib.hid (fun w => show Calls Tryz.prog 18 #[.agg #[.string (itx q.num), .string (itx (q.den : Int))]] w (SmallRes (.bool true) w) from by
    have := short4_all (itx q.num) (itx (q.den : Int)) w
    rw [decide_eq_true h0, decide_eq_true h1] at this
    exact this)
  have HP1 := Lib.hid (fun w => r4parts_yes q w (hq.mono (by omega)))
  have hl1 := tms_short14 (n := q.num) (d := (q.den : Int)) (by have := hq.2; omega)
  have HTM := Lib.hid (fun w h => Terms_any q.num (q.den : Int) w h hd (by have := hq.1; omega) (by have := hq.2; omega) (RB_q q (hq.mono (by omega))))
  have HCV := Lib.hid (fun w h => Convergents_any q.num (q.den : Int) w h hd hg (by have := hq.1; omega) (by have := hq.2; omega) (RB_q q (hq.mono (by omega))))
  have HT := Lib.hid (fun w => r4terms_any q.num (q.den : Int) w hd (by omega) (by omega) (by omega))
  obtain ⟨hcb, hcp⟩ := convs_bounds hd hg (by omega) (by omega)
  have hti : ∀ x ∈ tms q.num (q.den : Int), I62 x := fun x hx => by
    have := tms_bd 10000000000000 q.num (q.den : Int) (by omega) (by omega) x hx
    exact ⟨by omega, by omega⟩
  have hne : tms q.num (q.den : Int) ≠ [] := tms_ne hd
  have hlast := convs_last q
  have hcl : (cvs beg (tms q.num (q.den : Int))).length = (tms q.num (q.den : Int)).length := cvs_len _ _
  obtain ⟨T, hT⟩ : ∃ T, tms q.num (q.den : Int) = T := ⟨_, rfl⟩
  rw [hT] at hl1 HTM HCV HT hcb hcp hti hne hlast hcl
  obtain ⟨m, hm⟩ : ∃ m, T.length = m + 1 := ⟨T.length - 1, by have := List.length_pos_iff.2 hne; omega⟩
  have HLAST := Lib.hid (hlast m hm)
  have HTI := Lib.hid hti
  have HM := Lib.hid hm
  have HRC := Lib.hid (fun A cap w (hin : InZ w A (m + 1) cap T) => r4convs_any A (m + 1) cap T w hin (by omega) (fun i a b => hcb i a (by omega)) (fun i a b => hcp i a (by omega)))
  have HIE := Lib.hid (fun A B cap cap' w (hin : InJ w A (m + 1) cap T) (hin2 : InZ w B (m + 1) cap' T) => ints4_eq A B (m + 1) cap cap' T w hin hin2 hti)
  obtain ⟨CS, hCS⟩ : ∃ CS, (cvs beg T).map tr = CS := ⟨_, rfl⟩
  have HCL := Lib.hid (show CS.length = m + 1 by rw [← hCS, List.length_map, hcl, hm])
  rw [hCS] at HCV HRC HLAST
  have HAMB := Lib.hid hamb
  clear hamb h0 h1 hq hd hg p1 p2 hl1 hcb hcp hti hne hlast hcl hT hm hCS
  go_enter Tryz.func4, Tryz.ntmps4
  go_wp2_with fail
  obtain ⟨W, hW⟩ : ∃ W, w.alloc (.cells #[.string (itx q.num), .string (itx (q.den : Int))] 24) = W := ⟨_, rfl⟩
  rw [hW]
  obtain ⟨hX, hBW⟩ := B1.of hW
  clear hW
  have HX := Lib.hid (fun wz (hb : Below W.heap.size W wz) => hX.later hb)
  have HB := Lib.hid hBW
  have HA := Lib.hid (fun wz (hb : Below W.heap.size W wz) => HAMB.out.below (bel_chain HB.out hb))
  clear hX hBW
  refine (known04_any W (HA.out _ (Below.refl _ _))).mono ?_
  rintro e w1 ⟨rfl, hb1⟩
  obtain ⟨_, x0, x1, _, _⟩ := HX.out _ hb1
  go_wp2_with fail
  refine (HSH.out w1).mono ?_
  rintro e w2 ⟨rfl, hb2⟩
  have hz2 := bel_chain hb1 hb2
  clear x0 x1 hb1 hb2
  obtain ⟨_, x0, x1, _, _⟩ := HX.out _ hz2
  go_wp2_with fail
  refine (HTM.out w2 (HA.out _ hz2)).mono ?_
  rintro e w3 ⟨v3, rfl, hown, hb3⟩
  have hz3 := bel_chain hz2 hb3
  obtain ⟨A, cap, rfl, hin3⟩ := hown.ins
  rw [HM.out] at hin3
  have hmm := HM.out
  rw [hmm]
  clear hmm hown x0 x1 hz2 hb3
  obtain ⟨_, x0, x1, _, _⟩ := HX.out _ hz3
  have HIN3 := Lib.hid hin3
  clear hin3
  go_wp2_with fail
  refine (HCV.out w3 (HA.out _ hz3)).mono ?_
  rintro e w4 ⟨A4, n4, c4, rfl, hin4, hb4⟩
  have hz4 := bel_chain hz3 hb4
  have hn4 : n4 = m + 1 := by rw [← hin4.1, HCL.out]
  subst hn4
  have HIN4 := Lib.hid hin4
  have HIJ4 := Lib.hid (HIN3.out.below hb4)
  clear x0 x1 hz3 hb4 hin4 HIN3
  obtain ⟨_, x0, x1, _, _⟩ := HX.out _ hz4
  go_wp2_with fail
  refine (HP1.out w4).mono ?_
  rintro e w5 ⟨rfl, hb5⟩
  have hz5 := bel_chain hz4 hb5
  have HIN5 := Lib.hid (HIN4.out.below hb5)
  have HIJ5 := Lib.hid (HIJ4.out.below hb5)
  clear x0 x1 hz4 hb5 HIN4 HIJ4
  go_wp2_with fail
  refine (HT.out w5).mono ?_
  rintro e w6 ⟨v6, rfl, hown, hb6⟩
  obtain ⟨A6, c6, rfl, hin6⟩ := hown.ins
  rw [HM.out] at hin6
  have hmm := HM.out
  rw [hmm]
  have hz6 := bel_chain hz5 hb6
  have HIN6 := Lib.hid (HIN5.out.below hb6)
  have HIJ6 := Lib.hid (HIJ5.out.below hb6)
  have HIZ6 := Lib.hid hin6
  clear hmm hown hin6 hz5 hb6 HIN5 HIJ5
  have hle := HIN6.out.2.1
  have hcap := HIN6.out.2.2.1
  obtain ⟨b, off, hbe, hbl, hc⟩ := HIN6.out.2.2.2 (by omega)
  subst hbe
  have HCC := Lib.hid (fun wz (hb : Below w6.heap.size w6 wz) => show (wz.cell? ⟨b, off + m * 2, none⟩ = some (.string (itx q.num)) ∧ wz.cell? ⟨b, off + m * 2 + 1, none⟩ = some (.string (itx (q.den : Int)))) from by
    obtain ⟨y0, y1⟩ := hc m (by omega)
    rw [HLAST.out] at y0 y1
    exact ⟨(hb.cell (p := ⟨b, off + m * 2, none⟩) hbl).trans y0, (hb.cell (p := ⟨b, off + m * 2 + 1, none⟩) hbl).trans y1⟩)
  have hmi : ((m : Int) + 1 - 1) = (m : Int) := by omega
  have hmw : IntKind.i64.wrap ((m : Int)) = (m : Int) := IntWalk.i64_in _ (by omega)
  have hmw2 : IntKind.i64.wrap ((m : Int) + 1 - 1) = (m : Int) := by rw [hmi]; exact hmw
  have hm0 : (0 : Int) ≤ (m : Int) := by omega
  have hm1 : (m : Int) < (m : Int) + 1 := by omega
  have hm2 : (m : Int) ≤ (m : Int) + 1 := by omega
  have HZ6 := Lib.hid hz6
  have hzd : Below w6.heap.size w6 w6.drew := (Below.refl _ _).drew
  have HC1 := Lib.hid (HIE.out _ _ _ _ w6.drew (HIJ6.out.below hzd) (HIZ6.out.below hzd))
  clear hc hbl hz6
  obtain ⟨_, x0, x1, _, _⟩ := HX.out _ (bel_chain HZ6.out hzd)
  obtain ⟨y0, y1⟩ := HCC.out _ hzd
  go_upto_region 9 with fail
  go_region_held3 (fun w' => w'.cell? ⟨w.heap.size, 0, none⟩ = some (.string (itx q.num)) ∧ w'.cell? ⟨w.heap.size, 1, none⟩ = some (.string (itx (q.den : Int))) ∧ w'.cell? ⟨b, off + m * 2, none⟩ = some (.string (itx q.num)) ∧ w'.cell? ⟨b, off + m * 2 + 1, none⟩ = some (.string (itx (q.den : Int)))) (go_keep)
   (first
    | ((with_reducible refine HC3.out.mono ?_); rintro e w9 ⟨rfl, hb9⟩; have hz9 := bel_chain hz8 hb9; obtain ⟨_, x0, x1, _, _⟩ := HX.out _ (bel_chain HZ6.out hz9); obtain ⟨y0, y1⟩ := HCC.out _ hz9)
    | ((with_reducible refine HC2.out.mono ?_); rintro e w8 ⟨A8, n8, c8, rfl, hin8, hb8⟩; have hz8 := bel_chain hz7 hb8; obtain ⟨_, x0, x1, _, _⟩ := HX.out _ (bel_chain HZ6.out hz8); obtain ⟨y0, y1⟩ := HCC.out _ hz8; obtain rfl : n8 = m + 1 := (by rw [← hin8.1, HCL.out]); have HC3 := Lib.hid (same4_eq (some ⟨b, off, none⟩) A8 (m + 1) c4 c8 _ w8 (HIN6.out.below hz8) hin8))
    | ((with_reducible refine HC1.out.mono ?_); rintro e w7 ⟨rfl, hb7⟩; have hz7 := bel_chain hzd hb7; obtain ⟨_, x0, x1, _, _⟩ := HX.out _ (bel_chain HZ6.out hz7); obtain ⟨y0, y1⟩ := HCC.out _ hz7; have HC2 := Lib.hid (HRC.out _ _ w7 (HIZ6.out.below hz7))))
  all_goals
    go_wp2_with fail
    go_ret
    exact ⟨rfl, bel_chain HB.out (bel_chain HZ6.out hz9)⟩
theorem lawTerms_walk (n0 d0 : ByteArray) (w : World) (hamb : Amb w) :
    Calls Tryz.prog 4 #[.agg #[.string n0, .string d0]] w (SmallRes (.bool true) w) := by
  by_cases h : n0.size ≤ 13 ∧ d0.size ≤ 13
  · obtain ⟨h0, h1⟩ := h
    cases hr : RB n0 d0 with
    | false => exact lawTerms_err n0 d0 w hamb h0 h1 hr
    | true =>
      obtain ⟨q, rfl, rfl, _⟩ := rightB_rat hr
      exact lawTerms_yes q w hamb h0 h1
  · exact lawTerms_long n0 d0 w hamb h
end Go.Proofs.YtfokdhpccajmbaaGreatDoor
