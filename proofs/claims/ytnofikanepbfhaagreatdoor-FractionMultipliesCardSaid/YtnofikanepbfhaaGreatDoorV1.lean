/- Greater text, out of: V1. -/
import Derived.Test.YtnofikanepbfhaaGreatDoorGn
namespace Go.Proofs.YtnofikanepbfhaaGreatDoor
open Go.RowKit Go.PlainAid
attribute [local go_sem] field_rat0 field_rat1

set_option maxRecDepth 100000 in
set_option maxHeartbeats 4000000 in
/-- schismalaw03.FractionMultiplies, of texts that are not right. -/
theorem lawMultiplies_no (n0 d0 n1 d1 : ByteArray) (w : World) (hamb : Amb w) (hf : [(n0, d0), (n1, d1)].all fitB = false) :
    Calls Tryz.prog 7 #[.agg #[.string n0, .string d0], .agg #[.string n1, .string d1]] w (SmallRes (.bool true) w) := by
  have HFB := Lib.hid hf
  clear hf
  have HAMB := Lib.hid hamb
  clear hamb
  go_enter Tryz.func7, Tryz.ntmps7
  go_wp2_with fail
  obtain ⟨W, hW⟩ : ∃ W, ((w.alloc (.cells #[.string n0, .string d0] 27)).alloc (.cells #[.string n1, .string d1] 27)) = W := ⟨_, rfl⟩
  rw [hW]
  obtain ⟨hX, hBW⟩ := B2.of hW
  clear hW
  have HX := Lib.hid (fun wz (hb : Below W.heap.size W wz) => hX.later hb)
  have HB := Lib.hid hBW
  have HA := Lib.hid (fun wz (hb : Below W.heap.size W wz) => HAMB.out.below (bel_chain HB.out hb))
  have hz0 : Below W.heap.size W W := Below.refl _ _
  clear hBW
  obtain ⟨⟨_, c000, c001, f000, f001⟩, ⟨_, c010, c011, f010, f011⟩⟩ := hX
  go_wp2_with fail
  refine (known3_any _ (HA.out _ hz0)).mono ?_
  rintro e w1 ⟨rfl, hb1⟩
  have hz1 := bel_chain hz0 hb1
  obtain ⟨⟨_, c100, c101, f100, f101⟩, ⟨_, c110, c111, f110, f111⟩⟩ := HX.out _ hz1
  go_wp2_with fail
  refine (tfits_any _ 2 2 [(n0, d0), (n1, d1)] _ ((HA.out _ hz1).below (al1 _ _)) (InQ.made2 w1 n0 d0 n1 d1 27) rfl).mono ?_
  rw [HFB.out]
  rintro e w2 ⟨rfl, hbx2⟩
  have hb2 := bel_chain (al1 _ _) hbx2
  have hz2 := bel_chain hz1 hb2
  clear hbx2
  obtain ⟨⟨_, c200, c201, f200, f201⟩, ⟨_, c210, c211, f210, f211⟩⟩ := HX.out _ hz2
  go_wp2_with fail
  refine (known3_any _ (HA.out _ hz2)).mono ?_
  rintro e w3 ⟨rfl, hb3⟩
  have hz3 := bel_chain hz2 hb3
  obtain ⟨⟨_, c300, c301, f300, f301⟩, ⟨_, c310, c311, f310, f311⟩⟩ := HX.out _ hz3
  go_wp2_with fail
  go_ret
  exact ⟨rfl, bel_chain HB.out hz3⟩

set_option maxRecDepth 100000 in
set_option maxHeartbeats 4000000 in
/-- schismalaw03.FractionMultiplies, of right fractions. -/
theorem lawMultiplies_yes (p q : Rat) (w : World) (hamb : Amb w) (hp : NQ p 400) (hq : NQ q 400) (hf : [(itx p.num, itx (p.den : Int)), (itx q.num, itx (q.den : Int))].all fitB = true) (h0 : ¬ q.num = 0) :
    Calls Tryz.prog 7 #[rv p, rv q] w (SmallRes (.bool true) w) := by
  have HFB := Lib.hid hf
  clear hf
  have np := hp.mono (show 400 ≤ 20000 by omega)
  have nq := hq.mono (show 400 ≤ 20000 by omega)
  have h0q : q ≠ 0 := fun e => h0 (Rat.num_eq_zero.2 e)
  have hsb : (q.num.sign == 0) = false := by rw [beq_eq_false_iff_ne]; exact fun h => h0 (Int.sign_eq_zero_iff_zero.1 h)
  have hdb : (q.num == 0) = false := by rw [beq_eq_false_iff_ne]; exact h0
  have H0 := Lib.hid h0
  have H0Q := Lib.hid h0q
  clear h0 h0q
  have HAMB := Lib.hid hamb
  clear hamb
  go_enter Tryz.func7, Tryz.ntmps7
  go_wp2_with fail
  obtain ⟨W, hW⟩ : ∃ W, ((w.alloc (.cells #[.string (itx p.num), .string (itx (p.den : Int))] 27)).alloc (.cells #[.string (itx q.num), .string (itx (q.den : Int))] 27)) = W := ⟨_, rfl⟩
  rw [hW]
  obtain ⟨hX, hBW⟩ := B2.of hW
  clear hW
  have HX := Lib.hid (fun wz (hb : Below W.heap.size W wz) => hX.later hb)
  have HB := Lib.hid hBW
  have HA := Lib.hid (fun wz (hb : Below W.heap.size W wz) => HAMB.out.below (bel_chain HB.out hb))
  have hz0 : Below W.heap.size W W := Below.refl _ _
  clear hBW
  obtain ⟨⟨_, c000, c001, f000, f001⟩, ⟨_, c010, c011, f010, f011⟩⟩ := hX
  go_wp2_with fail
  refine (known3_any _ (HA.out _ hz0)).mono ?_
  rintro e w1 ⟨rfl, hb1⟩
  have hz1 := bel_chain hz0 hb1
  obtain ⟨⟨_, c100, c101, f100, f101⟩, ⟨_, c110, c111, f110, f111⟩⟩ := HX.out _ hz1
  go_wp2_with fail
  refine (tfits_any _ 2 2 [(itx p.num, itx (p.den : Int)), (itx q.num, itx (q.den : Int))] _ ((HA.out _ hz1).below (al1 _ _)) (InQ.made2 w1 (itx p.num) (itx (p.den : Int)) (itx q.num) (itx (q.den : Int)) 27) rfl).mono ?_
  rw [HFB.out]
  rintro e w2 ⟨rfl, hbx2⟩
  have hb2 := bel_chain (al1 _ _) hbx2
  have hz2 := bel_chain hz1 hb2
  clear hbx2
  obtain ⟨⟨_, c200, c201, f200, f201⟩, ⟨_, c210, c211, f210, f211⟩⟩ := HX.out _ hz2
  go_wp2_with fail
  refine (fdiv_any p q _ (HA.out _ hz2) np nq H0.out).mono ?_
  rintro e w3 ⟨rfl, hb3⟩
  have hz3 := bel_chain hz2 hb3
  obtain ⟨⟨_, c300, c301, f300, f301⟩, ⟨_, c310, c311, f310, f311⟩⟩ := HX.out _ hz3
  go_upto_region 4 with fail
  obtain ⟨w4, hW4⟩ : ∃ W, (w3.alloc (.cells #[.string (itx (p / q).num), .string (itx ((p / q).den : Int))] 27)) = W := ⟨_, rfl⟩
  rw [hW4]
  obtain ⟨hY4, hb4⟩ := B1.of hW4
  clear hW4
  have HX4 := Lib.hid (fun wz (hb : Below w4.heap.size w4 wz) => And.intro (HX.out wz (bel_chain (bel_chain hz3 hb4) hb)) (hY4.later hb))
  have HB4 := Lib.hid (bel_chain HB.out (bel_chain hz3 hb4))
  have HA4 := Lib.hid (fun wz (hb : Below w4.heap.size w4 wz) => HA.out _ (bel_chain (bel_chain hz3 hb4) hb))
  have hz4 : Below w4.heap.size w4 w4 := Below.refl _ _
  clear hY4 hb4
  obtain ⟨⟨⟨_, c400, c401, f400, f401⟩, ⟨_, c410, c411, f410, f411⟩⟩, ⟨_, c420, c421, f420, f421⟩⟩ := HX4.out _ hz4
  have hzd := hz4.drew
  have HC1 := Lib.hid (fmul_any p q w4.drew (HA4.out _ hzd) np nq)
  go_region_held3 (fun w' => w'.cell? ⟨w.heap.size, 0, none⟩ = some (.string (itx p.num)) ∧ w'.cell? ⟨w.heap.size, 1, none⟩ = some (.string (itx (p.den : Int))) ∧ w'.cell? ⟨w.heap.size + 1, 0, none⟩ = some (.string (itx q.num)) ∧ w'.cell? ⟨w.heap.size + 1, 1, none⟩ = some (.string (itx (q.den : Int))) ∧ w'.cell? ⟨w3.heap.size, 0, none⟩ = some (.string (itx (p / q).num)) ∧ w'.cell? ⟨w3.heap.size, 1, none⟩ = some (.string (itx ((p / q).den : Int)))) (go_keep)
    (first
      | ((with_reducible refine HC2.out.mono ?_); rintro e w6 ⟨rfl, hb6⟩; have hz6 := bel_chain hz5 hb6; obtain ⟨⟨⟨_, c600, c601, f600, f601⟩, ⟨_, c610, c611, f610, f611⟩⟩, ⟨_, c620, c621, f620, f621⟩⟩ := HX4.out _ hz6; have HXL := Lib.hid (HX4.out _ hz6))
      | ((with_reducible refine HC1.out.mono ?_); rintro e w5 ⟨rfl, hb5⟩; have hz5 := bel_chain hzd hb5; obtain ⟨⟨⟨_, c500, c501, f500, f501⟩, ⟨_, c510, c511, f510, f511⟩⟩, ⟨_, c520, c521, f520, f521⟩⟩ := HX4.out _ hz5; have HC2 := Lib.hid (t3rmul_any p q w5 (HA4.out _ hz5) np nq)))
  go_wp2_with fail
  refine (t3rsign_any q _ nq).mono ?_
  rintro e w7 ⟨rfl, hb7⟩
  have hz7 := bel_chain hz6 hb7
  obtain ⟨⟨⟨_, c700, c701, f700, f701⟩, ⟨_, c710, c711, f710, f711⟩⟩, ⟨_, c720, c721, f720, f721⟩⟩ := HX4.out _ hz7
  go_wp2_with fail
  have hzd := hz7.drew
  have HC3 := Lib.hid (t3rdiv_any p q w7.drew (HA4.out _ hzd) np nq H0Q.out)
  go_region_held3 (fun w' => w'.cell? ⟨w.heap.size, 0, none⟩ = some (.string (itx p.num)) ∧ w'.cell? ⟨w.heap.size, 1, none⟩ = some (.string (itx (p.den : Int))) ∧ w'.cell? ⟨w.heap.size + 1, 0, none⟩ = some (.string (itx q.num)) ∧ w'.cell? ⟨w.heap.size + 1, 1, none⟩ = some (.string (itx (q.den : Int))) ∧ w'.cell? ⟨w3.heap.size, 0, none⟩ = some (.string (itx (p / q).num)) ∧ w'.cell? ⟨w3.heap.size, 1, none⟩ = some (.string (itx ((p / q).den : Int)))) (go_keep)
    (first
      | ((with_reducible refine HC3.out.mono ?_); rintro e w8 ⟨rfl, hb8⟩; have hz8 := bel_chain hzd hb8; obtain ⟨⟨⟨_, c800, c801, f800, f801⟩, ⟨_, c810, c811, f810, f811⟩⟩, ⟨_, c820, c821, f820, f821⟩⟩ := HX4.out _ hz8; have HXL := Lib.hid (HX4.out _ hz8)))
  go_wp2_with fail
  go_ret
  exact ⟨rfl, bel_chain HB4.out hz8⟩

set_option maxRecDepth 100000 in
set_option maxHeartbeats 4000000 in
/-- schismalaw03.FractionMultiplies, of right fractions. -/
theorem lawMultiplies_zero (p q : Rat) (w : World) (hamb : Amb w) (hp : NQ p 400) (hq : NQ q 400) (hf : [(itx p.num, itx (p.den : Int)), (itx q.num, itx (q.den : Int))].all fitB = true) (h0 : q.num = 0) :
    Calls Tryz.prog 7 #[rv p, rv q] w (SmallRes (.bool true) w) := by
  have HFB := Lib.hid hf
  clear hf
  have np := hp.mono (show 400 ≤ 20000 by omega)
  have nq := hq.mono (show 400 ≤ 20000 by omega)
  have H0 := Lib.hid h0
  have hs : q.num.sign = 0 := by rw [h0]; rfl
  clear h0
  have HAMB := Lib.hid hamb
  clear hamb
  go_enter Tryz.func7, Tryz.ntmps7
  go_wp2_with fail
  obtain ⟨W, hW⟩ : ∃ W, ((w.alloc (.cells #[.string (itx p.num), .string (itx (p.den : Int))] 27)).alloc (.cells #[.string (itx q.num), .string (itx (q.den : Int))] 27)) = W := ⟨_, rfl⟩
  rw [hW]
  obtain ⟨hX, hBW⟩ := B2.of hW
  clear hW
  have HX := Lib.hid (fun wz (hb : Below W.heap.size W wz) => hX.later hb)
  have HB := Lib.hid hBW
  have HA := Lib.hid (fun wz (hb : Below W.heap.size W wz) => HAMB.out.below (bel_chain HB.out hb))
  have hz0 : Below W.heap.size W W := Below.refl _ _
  clear hBW
  obtain ⟨⟨_, c000, c001, f000, f001⟩, ⟨_, c010, c011, f010, f011⟩⟩ := hX
  go_wp2_with fail
  refine (known3_any _ (HA.out _ hz0)).mono ?_
  rintro e w1 ⟨rfl, hb1⟩
  have hz1 := bel_chain hz0 hb1
  obtain ⟨⟨_, c100, c101, f100, f101⟩, ⟨_, c110, c111, f110, f111⟩⟩ := HX.out _ hz1
  go_wp2_with fail
  refine (tfits_any _ 2 2 [(itx p.num, itx (p.den : Int)), (itx q.num, itx (q.den : Int))] _ ((HA.out _ hz1).below (al1 _ _)) (InQ.made2 w1 (itx p.num) (itx (p.den : Int)) (itx q.num) (itx (q.den : Int)) 27) rfl).mono ?_
  rw [HFB.out]
  rintro e w2 ⟨rfl, hbx2⟩
  have hb2 := bel_chain (al1 _ _) hbx2
  have hz2 := bel_chain hz1 hb2
  clear hbx2
  obtain ⟨⟨_, c200, c201, f200, f201⟩, ⟨_, c210, c211, f210, f211⟩⟩ := HX.out _ hz2
  go_wp2_with fail
  refine (fdiv_zero p q _ np nq H0.out).mono ?_
  rintro e w3 ⟨rfl, hb3⟩
  have hz3 := bel_chain hz2 hb3
  obtain ⟨⟨_, c300, c301, f300, f301⟩, ⟨_, c310, c311, f310, f311⟩⟩ := HX.out _ hz3
  go_upto_region 4 with fail
  obtain ⟨w4, hW4⟩ : ∃ W, (w3.alloc (.cells #[.string ⟨#[]⟩, .string ⟨#[]⟩] 27)) = W := ⟨_, rfl⟩
  rw [hW4]
  obtain ⟨hY4, hb4⟩ := B1.of hW4
  clear hW4
  have HX4 := Lib.hid (fun wz (hb : Below w4.heap.size w4 wz) => And.intro (HX.out wz (bel_chain (bel_chain hz3 hb4) hb)) (hY4.later hb))
  have HB4 := Lib.hid (bel_chain HB.out (bel_chain hz3 hb4))
  have HA4 := Lib.hid (fun wz (hb : Below w4.heap.size w4 wz) => HA.out _ (bel_chain (bel_chain hz3 hb4) hb))
  have hz4 : Below w4.heap.size w4 w4 := Below.refl _ _
  clear hY4 hb4
  obtain ⟨⟨⟨_, c400, c401, f400, f401⟩, ⟨_, c410, c411, f410, f411⟩⟩, ⟨_, c420, c421, f420, f421⟩⟩ := HX4.out _ hz4
  have hzd := hz4.drew
  have HC1 := Lib.hid (fmul_any p q w4.drew (HA4.out _ hzd) np nq)
  go_region_held3 (fun w' => w'.cell? ⟨w.heap.size, 0, none⟩ = some (.string (itx p.num)) ∧ w'.cell? ⟨w.heap.size, 1, none⟩ = some (.string (itx (p.den : Int))) ∧ w'.cell? ⟨w.heap.size + 1, 0, none⟩ = some (.string (itx q.num)) ∧ w'.cell? ⟨w.heap.size + 1, 1, none⟩ = some (.string (itx (q.den : Int))) ∧ w'.cell? ⟨w3.heap.size, 0, none⟩ = some (.string ⟨#[]⟩) ∧ w'.cell? ⟨w3.heap.size, 1, none⟩ = some (.string ⟨#[]⟩)) (go_keep)
    (first
      | ((with_reducible refine HC2.out.mono ?_); rintro e w6 ⟨rfl, hb6⟩; have hz6 := bel_chain hz5 hb6; obtain ⟨⟨⟨_, c600, c601, f600, f601⟩, ⟨_, c610, c611, f610, f611⟩⟩, ⟨_, c620, c621, f620, f621⟩⟩ := HX4.out _ hz6; have HXL := Lib.hid (HX4.out _ hz6))
      | ((with_reducible refine HC1.out.mono ?_); rintro e w5 ⟨rfl, hb5⟩; have hz5 := bel_chain hzd hb5; obtain ⟨⟨⟨_, c500, c501, f500, f501⟩, ⟨_, c510, c511, f510, f511⟩⟩, ⟨_, c520, c521, f520, f521⟩⟩ := HX4.out _ hz5; have HC2 := Lib.hid (t3rmul_any p q w5 (HA4.out _ hz5) np nq)))
  go_wp2_with fail
  refine (t3rsign_any q _ nq).mono ?_
  rintro e w7 ⟨rfl, hb7⟩
  have hz7 := bel_chain hz6 hb7
  obtain ⟨⟨⟨_, c700, c701, f700, f701⟩, ⟨_, c710, c711, f710, f711⟩⟩, ⟨_, c720, c721, f720, f721⟩⟩ := HX4.out _ hz7
  go_wp2_with fail
  go_ret
  exact ⟨rfl, bel_chain HB4.out hz7⟩

theorem lawMultiplies_walk (n0 d0 n1 d1 : ByteArray) (w : World) (hamb : Amb w) :
    Calls Tryz.prog 7 #[.agg #[.string n0, .string d0], .agg #[.string n1, .string d1]] w (SmallRes (.bool true) w) := by
  cases hf : [(n0, d0), (n1, d1)].all fitB with
  | false => exact lawMultiplies_no n0 d0 n1 d1 w hamb hf
  | true =>
    have hf2 := hf
    simp only [List.all_cons, List.all_nil, Bool.and_true, Bool.and_eq_true] at hf2
    obtain ⟨p, rfl, rfl, hp⟩ := fitB_rat hf2.1
    obtain ⟨q, rfl, rfl, hq⟩ := fitB_rat hf2.2
    by_cases h0 : q.num = 0
    · exact lawMultiplies_zero p q w hamb hp hq hf h0
    · exact lawMultiplies_yes p q w hamb hp hq hf h0
end Go.Proofs.YtnofikanepbfhaaGreatDoor
