/- Greater text, out of: V2. -/
import Derived.Test.YtnofikanepbfhaaGreatDoorGn
namespace Go.Proofs.YtnofikanepbfhaaGreatDoor
open Go.RowKit Go.PlainAid
attribute [local go_sem] field_rat0 field_rat1

theorem fsum_three (p q r : Rat) (w : World) (hamb : Amb w) (hp : NQ p 400) (hq : NQ q 400) (hr : NQ r 400) :
    Calls Tryz.prog 34 #[.slice (some ⟨w.heap.size, 0, none⟩) 3 3] (w.alloc (.cells #[.string (itx p.num), .string (itx (p.den : Int)), .string (itx q.num), .string (itx (q.den : Int)), .string (itx r.num), .string (itx (r.den : Int))] 27)) (SmallRes (rv (p + q + r)) (w.alloc (.cells #[.string (itx p.num), .string (itx (p.den : Int)), .string (itx q.num), .string (itx (q.den : Int)), .string (itx r.num), .string (itx (r.den : Int))] 27))) := by
  have e1 : sumQ [p, q, r] 1 = p := by rw [sumQ_succ _ _ (by simp), sumQ_zero, Rat.zero_add]; rfl
  have e2 : sumQ [p, q, r] 2 = p + q := by rw [sumQ_succ _ _ (by simp), e1]; rfl
  have e3 : sumQ [p, q, r] 3 = p + q + r := by rw [sumQ_succ _ _ (by simp), e2]; rfl
  have n2 := hp.add hq
  have n3 := n2.add hr
  have h := fsum_any (some ⟨w.heap.size, 0, none⟩) 3 3 [p, q, r] _ (hamb.below (al1 w _)) (InQ.made3 w _ _ _ _ _ _ 27) rfl
    (fun i hi => by
      rcases (show i = 0 ∨ i = 1 ∨ i = 2 by omega) with rfl | rfl | rfl
      · exact hp.mono (by omega)
      · exact hq.mono (by omega)
      · exact hr.mono (by omega))
    (fun i hi => by
      rcases (show i = 0 ∨ i = 1 ∨ i = 2 ∨ i = 3 by omega) with rfl | rfl | rfl | rfl
      · rw [sumQ_zero]; exact ⟨Nat.le_trans ((nz_le_iff 0 0).2 (by decide)) (by omega), Nat.le_trans ((nz_le_iff 1 0).2 (by decide)) (by omega)⟩
      · rw [e1]; exact hp.mono (by omega)
      · rw [e2]; exact n2.mono (by omega)
      · rw [e3]; exact n3.mono (by omega))
  rw [e3] at h
  exact h
theorem fsum_none (w : World) (hamb : Amb w) : Calls Tryz.prog 34 #[.slice none 0 0] w (SmallRes (rv (0 : Rat)) w) := by
  have h := fsum_any none 0 0 [] w hamb ⟨by simp, fun h => absurd h (by simp)⟩ rfl (fun i hi => by omega) (fun i hi => by
    obtain rfl : i = 0 := by omega
    rw [sumQ_zero]; exact ⟨Nat.le_trans ((nz_le_iff 0 0).2 (by decide)) (by omega), Nat.le_trans ((nz_le_iff 1 0).2 (by decide)) (by omega)⟩)
  rw [sumQ_zero] at h
  exact h
theorem t3frac_zero (w : World) (hamb : Amb w) : Calls Tryz.prog 17 #[.int .i64 0, .int .i64 1] w (SmallRes (rv (0 : Rat)) w) := by
  have h := t3frac_any 0 1 w hamb (by decide) (by decide) (by decide) (by decide) (by decide)
  rw [show Rat.divInt 0 1 = 0 from by decide +kernel] at h
  exact h
set_option maxRecDepth 100000 in
set_option maxHeartbeats 4000000 in
/-- schismalaw03.FractionAdds, of texts that are not right. -/
theorem lawAdds_no (n0 d0 n1 d1 n2 d2 : ByteArray) (w : World) (hamb : Amb w) (hf : [(n0, d0), (n1, d1), (n2, d2)].all fitB = false) :
    Calls Tryz.prog 6 #[.agg #[.string n0, .string d0], .agg #[.string n1, .string d1], .agg #[.string n2, .string d2]] w (SmallRes (.bool true) w) := by
  have HFB := Lib.hid hf
  clear hf
  have HAMB := Lib.hid hamb
  clear hamb
  go_enter Tryz.func6, Tryz.ntmps6
  go_wp2_with fail
  obtain ⟨W, hW⟩ : ∃ W, (((w.alloc (.cells #[.string n0, .string d0] 27)).alloc (.cells #[.string n1, .string d1] 27)).alloc (.cells #[.string n2, .string d2] 27)) = W := ⟨_, rfl⟩
  rw [hW]
  obtain ⟨hX, hBW⟩ := B3.of hW
  clear hW
  have HX := Lib.hid (fun wz (hb : Below W.heap.size W wz) => hX.later hb)
  have HB := Lib.hid hBW
  have HA := Lib.hid (fun wz (hb : Below W.heap.size W wz) => HAMB.out.below (bel_chain HB.out hb))
  have hz0 : Below W.heap.size W W := Below.refl _ _
  clear hBW
  obtain ⟨⟨_, c000, c001, f000, f001⟩, ⟨_, c010, c011, f010, f011⟩, ⟨_, c020, c021, f020, f021⟩⟩ := hX
  go_wp2_with fail
  refine (known3_any _ (HA.out _ hz0)).mono ?_
  rintro e w1 ⟨rfl, hb1⟩
  have hz1 := bel_chain hz0 hb1
  obtain ⟨⟨_, c100, c101, f100, f101⟩, ⟨_, c110, c111, f110, f111⟩, ⟨_, c120, c121, f120, f121⟩⟩ := HX.out _ hz1
  go_wp2_with fail
  refine (tfits_any _ 3 3 [(n0, d0), (n1, d1), (n2, d2)] _ ((HA.out _ hz1).below (al1 _ _)) (InQ.made3 w1 n0 d0 n1 d1 n2 d2 27) rfl).mono ?_
  rw [HFB.out]
  rintro e w2 ⟨rfl, hbx2⟩
  have hb2 := bel_chain (al1 _ _) hbx2
  have hz2 := bel_chain hz1 hb2
  clear hbx2
  obtain ⟨⟨_, c200, c201, f200, f201⟩, ⟨_, c210, c211, f210, f211⟩, ⟨_, c220, c221, f220, f221⟩⟩ := HX.out _ hz2
  go_wp2_with fail
  refine (known3_any _ (HA.out _ hz2)).mono ?_
  rintro e w3 ⟨rfl, hb3⟩
  have hz3 := bel_chain hz2 hb3
  obtain ⟨⟨_, c300, c301, f300, f301⟩, ⟨_, c310, c311, f310, f311⟩, ⟨_, c320, c321, f320, f321⟩⟩ := HX.out _ hz3
  go_wp2_with fail
  go_ret
  exact ⟨rfl, bel_chain HB.out hz3⟩

set_option maxRecDepth 100000 in
set_option maxHeartbeats 4000000 in
/-- schismalaw03.FractionAdds, of right fractions. -/
theorem lawAdds_yes (p q r : Rat) (w : World) (hamb : Amb w) (hp : NQ p 400) (hq : NQ q 400) (hr : NQ r 400) (hf : [(itx p.num, itx (p.den : Int)), (itx q.num, itx (q.den : Int)), (itx r.num, itx (r.den : Int))].all fitB = true) :
    Calls Tryz.prog 6 #[rv p, rv q, rv r] w (SmallRes (.bool true) w) := by
  have HFB := Lib.hid hf
  clear hf
  have np := hp.mono (show 400 ≤ 20000 by omega)
  have nq := hq.mono (show 400 ≤ 20000 by omega)
  have nr := hr.mono (show 400 ≤ 20000 by omega)
  have npq := (hp.add hq).mono (show 400 + 400 + 1 ≤ 20000 by omega)
  have HAMB := Lib.hid hamb
  clear hamb
  go_enter Tryz.func6, Tryz.ntmps6
  go_wp2_with fail
  obtain ⟨W, hW⟩ : ∃ W, (((w.alloc (.cells #[.string (itx p.num), .string (itx (p.den : Int))] 27)).alloc (.cells #[.string (itx q.num), .string (itx (q.den : Int))] 27)).alloc (.cells #[.string (itx r.num), .string (itx (r.den : Int))] 27)) = W := ⟨_, rfl⟩
  rw [hW]
  obtain ⟨hX, hBW⟩ := B3.of hW
  clear hW
  have HX := Lib.hid (fun wz (hb : Below W.heap.size W wz) => hX.later hb)
  have HB := Lib.hid hBW
  have HA := Lib.hid (fun wz (hb : Below W.heap.size W wz) => HAMB.out.below (bel_chain HB.out hb))
  have hz0 : Below W.heap.size W W := Below.refl _ _
  clear hBW
  obtain ⟨⟨_, c000, c001, f000, f001⟩, ⟨_, c010, c011, f010, f011⟩, ⟨_, c020, c021, f020, f021⟩⟩ := hX
  go_wp2_with fail
  refine (known3_any _ (HA.out _ hz0)).mono ?_
  rintro e w1 ⟨rfl, hb1⟩
  have hz1 := bel_chain hz0 hb1
  obtain ⟨⟨_, c100, c101, f100, f101⟩, ⟨_, c110, c111, f110, f111⟩, ⟨_, c120, c121, f120, f121⟩⟩ := HX.out _ hz1
  go_wp2_with fail
  refine (tfits_any _ 3 3 [(itx p.num, itx (p.den : Int)), (itx q.num, itx (q.den : Int)), (itx r.num, itx (r.den : Int))] _ ((HA.out _ hz1).below (al1 _ _)) (InQ.made3 w1 (itx p.num) (itx (p.den : Int)) (itx q.num) (itx (q.den : Int)) (itx r.num) (itx (r.den : Int)) 27) rfl).mono ?_
  rw [HFB.out]
  rintro e w2 ⟨rfl, hbx2⟩
  have hb2 := bel_chain (al1 _ _) hbx2
  have hz2 := bel_chain hz1 hb2
  clear hbx2
  obtain ⟨⟨_, c200, c201, f200, f201⟩, ⟨_, c210, c211, f210, f211⟩, ⟨_, c220, c221, f220, f221⟩⟩ := HX.out _ hz2
  go_wp2_with fail
  refine (t3radd_any p q _ (HA.out _ hz2) np nq).mono ?_
  rintro e w3 ⟨rfl, hb3⟩
  have hz3 := bel_chain hz2 hb3
  obtain ⟨⟨_, c300, c301, f300, f301⟩, ⟨_, c310, c311, f310, f311⟩, ⟨_, c320, c321, f320, f321⟩⟩ := HX.out _ hz3
  go_upto_region 4 with fail
  obtain ⟨w4, hW4⟩ : ∃ W, (w3.alloc (.cells #[.string (itx (p + q).num), .string (itx ((p + q).den : Int))] 27)) = W := ⟨_, rfl⟩
  rw [hW4]
  obtain ⟨hY4, hb4⟩ := B1.of hW4
  clear hW4
  have HX4 := Lib.hid (fun wz (hb : Below w4.heap.size w4 wz) => And.intro (HX.out wz (bel_chain (bel_chain hz3 hb4) hb)) (hY4.later hb))
  have HB4 := Lib.hid (bel_chain HB.out (bel_chain hz3 hb4))
  have HA4 := Lib.hid (fun wz (hb : Below w4.heap.size w4 wz) => HA.out _ (bel_chain (bel_chain hz3 hb4) hb))
  have hz4 : Below w4.heap.size w4 w4 := Below.refl _ _
  clear hY4 hb4
  obtain ⟨⟨⟨_, c400, c401, f400, f401⟩, ⟨_, c410, c411, f410, f411⟩, ⟨_, c420, c421, f420, f421⟩⟩, ⟨_, c430, c431, f430, f431⟩⟩ := HX4.out _ hz4
  have hzd := hz4.drew
  have HC1 := Lib.hid (fadd_any p q w4.drew (HA4.out _ hzd) np nq)
  go_region_held3 (fun w' => w'.cell? ⟨w.heap.size, 0, none⟩ = some (.string (itx p.num)) ∧ w'.cell? ⟨w.heap.size, 1, none⟩ = some (.string (itx (p.den : Int))) ∧ w'.cell? ⟨w.heap.size + 1, 0, none⟩ = some (.string (itx q.num)) ∧ w'.cell? ⟨w.heap.size + 1, 1, none⟩ = some (.string (itx (q.den : Int))) ∧ w'.cell? ⟨w.heap.size + 1 + 1, 0, none⟩ = some (.string (itx r.num)) ∧ w'.cell? ⟨w.heap.size + 1 + 1, 1, none⟩ = some (.string (itx (r.den : Int))) ∧ w'.cell? ⟨w3.heap.size, 0, none⟩ = some (.string (itx (p + q).num)) ∧ w'.cell? ⟨w3.heap.size, 1, none⟩ = some (.string (itx ((p + q).den : Int)))) (go_keep)
    (first
      | ((with_reducible refine HC11.out.mono ?_); rintro e w15 ⟨rfl, hb15⟩; have hz15 := bel_chain hz14 hb15; obtain ⟨⟨⟨_, c1500, c1501, f1500, f1501⟩, ⟨_, c1510, c1511, f1510, f1511⟩, ⟨_, c1520, c1521, f1520, f1521⟩⟩, ⟨_, c1530, c1531, f1530, f1531⟩⟩ := HX4.out _ hz15; have HXL := Lib.hid (HX4.out _ hz15))
      | ((with_reducible refine HC10.out.mono ?_); rintro e w14 ⟨rfl, hb14⟩; have hz14 := bel_chain hz13 hb14; obtain ⟨⟨⟨_, c1400, c1401, f1400, f1401⟩, ⟨_, c1410, c1411, f1410, f1411⟩, ⟨_, c1420, c1421, f1420, f1421⟩⟩, ⟨_, c1430, c1431, f1430, f1431⟩⟩ := HX4.out _ hz14; have HC11 := Lib.hid (t3frac_zero w14 (HA4.out _ hz14)))
      | ((with_reducible refine HC9.out.mono ?_); rintro e w13 ⟨rfl, hb13⟩; have hz13 := bel_chain hz12 hb13; obtain ⟨⟨⟨_, c1300, c1301, f1300, f1301⟩, ⟨_, c1310, c1311, f1310, f1311⟩, ⟨_, c1320, c1321, f1320, f1321⟩⟩, ⟨_, c1330, c1331, f1330, f1331⟩⟩ := HX4.out _ hz13; have HC10 := Lib.hid (fsum_none w13 (HA4.out _ hz13)))
      | ((with_reducible refine HC8.out.mono ?_); rintro e w12 ⟨rfl, hbx12⟩; have hb12 := bel_chain (al1 _ _) hbx12; have hz12 := bel_chain hz11 hb12; obtain ⟨⟨⟨_, c1200, c1201, f1200, f1201⟩, ⟨_, c1210, c1211, f1210, f1211⟩, ⟨_, c1220, c1221, f1220, f1221⟩⟩, ⟨_, c1230, c1231, f1230, f1231⟩⟩ := HX4.out _ hz12; have HC9 := Lib.hid (t3radd_any (p + q) r w12 (HA4.out _ hz12) npq nr))
      | ((with_reducible refine HC7.out.mono ?_); rintro e w11 ⟨rfl, hb11⟩; have hz11 := bel_chain hz10 hb11; obtain ⟨⟨⟨_, c1100, c1101, f1100, f1101⟩, ⟨_, c1110, c1111, f1110, f1111⟩, ⟨_, c1120, c1121, f1120, f1121⟩⟩, ⟨_, c1130, c1131, f1130, f1131⟩⟩ := HX4.out _ hz11; have HC8 := Lib.hid (fsum_three p q r w11 (HA4.out _ hz11) hp hq hr))
      | ((with_reducible refine HC6.out.mono ?_); rintro e w10 ⟨rfl, hb10⟩; have hz10 := bel_chain hz9 hb10; obtain ⟨⟨⟨_, c1000, c1001, f1000, f1001⟩, ⟨_, c1010, c1011, f1010, f1011⟩, ⟨_, c1020, c1021, f1020, f1021⟩⟩, ⟨_, c1030, c1031, f1030, f1031⟩⟩ := HX4.out _ hz10; have HC7 := Lib.hid (t3rabs_any p w10 (HA4.out _ hz10) np))
      | ((with_reducible refine HC5.out.mono ?_); rintro e w9 ⟨rfl, hb9⟩; have hz9 := bel_chain hz8 hb9; obtain ⟨⟨⟨_, c900, c901, f900, f901⟩, ⟨_, c910, c911, f910, f911⟩, ⟨_, c920, c921, f920, f921⟩⟩, ⟨_, c930, c931, f930, f931⟩⟩ := HX4.out _ hz9; have HC6 := Lib.hid (fabs_any p w9 np))
      | ((with_reducible refine HC4.out.mono ?_); rintro e w8 ⟨rfl, hb8⟩; have hz8 := bel_chain hz7 hb8; obtain ⟨⟨⟨_, c800, c801, f800, f801⟩, ⟨_, c810, c811, f810, f811⟩, ⟨_, c820, c821, f820, f821⟩⟩, ⟨_, c830, c831, f830, f831⟩⟩ := HX4.out _ hz8; have HC5 := Lib.hid (t3rneg_any p w8 (HA4.out _ hz8) np))
      | ((with_reducible refine HC3.out.mono ?_); rintro e w7 ⟨rfl, hb7⟩; have hz7 := bel_chain hz6 hb7; obtain ⟨⟨⟨_, c700, c701, f700, f701⟩, ⟨_, c710, c711, f710, f711⟩, ⟨_, c720, c721, f720, f721⟩⟩, ⟨_, c730, c731, f730, f731⟩⟩ := HX4.out _ hz7; have HC4 := Lib.hid (fneg_any p w7 np))
      | ((with_reducible refine HC2.out.mono ?_); rintro e w6 ⟨rfl, hb6⟩; have hz6 := bel_chain hz5 hb6; obtain ⟨⟨⟨_, c600, c601, f600, f601⟩, ⟨_, c610, c611, f610, f611⟩, ⟨_, c620, c621, f620, f621⟩⟩, ⟨_, c630, c631, f630, f631⟩⟩ := HX4.out _ hz6; have HC3 := Lib.hid (t3rsub_any p q w6 (HA4.out _ hz6) np nq))
      | ((with_reducible refine HC1.out.mono ?_); rintro e w5 ⟨rfl, hb5⟩; have hz5 := bel_chain hzd hb5; obtain ⟨⟨⟨_, c500, c501, f500, f501⟩, ⟨_, c510, c511, f510, f511⟩, ⟨_, c520, c521, f520, f521⟩⟩, ⟨_, c530, c531, f530, f531⟩⟩ := HX4.out _ hz5; have HC2 := Lib.hid (fsub_any p q w5 (HA4.out _ hz5) np nq)))
  go_wp2_with fail
  go_ret
  exact ⟨rfl, bel_chain HB4.out hz15⟩

theorem lawAdds_walk (n0 d0 n1 d1 n2 d2 : ByteArray) (w : World) (hamb : Amb w) :
    Calls Tryz.prog 6 #[.agg #[.string n0, .string d0], .agg #[.string n1, .string d1], .agg #[.string n2, .string d2]] w (SmallRes (.bool true) w) := by
  cases hf : [(n0, d0), (n1, d1), (n2, d2)].all fitB with
  | false => exact lawAdds_no n0 d0 n1 d1 n2 d2 w hamb hf
  | true =>
    have hf2 := hf
    simp only [List.all_cons, List.all_nil, Bool.and_true, Bool.and_eq_true] at hf2
    obtain ⟨p, rfl, rfl, hp⟩ := fitB_rat hf2.1
    obtain ⟨q, rfl, rfl, hq⟩ := fitB_rat hf2.2.1
    obtain ⟨r, rfl, rfl, hr⟩ := fitB_rat hf2.2.2
    exact lawAdds_yes p q r w hamb hp hq hr hf
end Go.Proofs.YtnofikanepbfhaaGreatDoor
