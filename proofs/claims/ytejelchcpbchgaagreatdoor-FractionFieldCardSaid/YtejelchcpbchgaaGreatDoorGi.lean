/- Greater text, out of: T17. -/
import Derived.Test.YtejelchcpbchgaaGreatDoorGh
namespace Go.Proofs.YtejelchcpbchgaaGreatDoor
open Go.RowKit Go.PlainAid
attribute [local go_sem] field_whole0 field_whole1 field_rat0 field_rat1

theorem t3make_eq (v1 v2 : Value) (a b : Int) {Q : Rat} (w : World) (hamb : Amb w) (h1 : W3 w v1 a) (h2 : W3 w v2 b) (hb0 : b ≠ 0) (ha : nz a ≤ 90000) (hb : nz b ≤ 90000) (hQ : Rat.divInt a b = Q) :
    Calls Tryz.prog 27 #[v1, v2] w (SmallRes (rv Q) w) := by
  have h := t3make_any v1 v2 a b w hamb h1 h2 hb0 ha hb
  rw [hQ] at h
  exact h
theorem beq_den_yes {p q : Rat} (h : p.den = q.den) : ((itx (p.den : Int)).toList == (itx (q.den : Int)).toList) = true := by rw [itx_beq, h]; simp
theorem beq_den_no {p q : Rat} (h : ¬ p.den = q.den) : ((itx (p.den : Int)).toList == (itx (q.den : Int)).toList) = false := by
  rw [itx_beq]; simp; omega
set_option maxRecDepth 100000 in
set_option maxHeartbeats 4000000 in
/-- schismaref03.Mul. -/
theorem t3rmul_any (p q : Rat) (w : World) (hamb : Amb w) (hp : NQ p 20000) (hq : NQ q 20000) :
    Calls Tryz.prog 25 #[rv p, rv q] w (SmallRes (rv (p * q)) w) := by
  obtain ⟨hp1, hp2⟩ := hp
  obtain ⟨hq1, hq2⟩ := hq
  obtain ⟨Q, hQ⟩ : ∃ Q, p * q = Q := ⟨_, rfl⟩
  have HQ := Lib.hid (show Rat.divInt (p.num * q.num) (p.den * q.den) = Q by rw [← hQ, ratMul])
  rw [hQ]
  clear hQ
  have HD0 := Lib.hid (Int.mul_ne_zero (rden_ne p) (rden_ne q))
  have hn1 := nz_mul_le hp1 hq1
  have hn2 := nz_mul_le hp2 hq2
  have HAMB := Lib.hid hamb
  clear hamb
  go_enter Tryz.func25, Tryz.ntmps25
  go_wp2_with fail
  obtain ⟨W, hW⟩ : ∃ W, (((w.alloc (.cells #[.string (itx p.num), .string (itx (p.den : Int))] 27)).alloc (.cells #[.string (itx q.num), .string (itx (q.den : Int))] 27)).alloc (.cells #[.string ⟨#[]⟩, .string ⟨#[]⟩] 27)) = W := ⟨_, rfl⟩
  rw [hW]
  obtain ⟨hX, hBW⟩ := B3.of hW
  clear hW
  have HX := Lib.hid (fun wz (hb : Below W.heap.size W wz) => hX.later hb)
  have HB := Lib.hid hBW
  have HA := Lib.hid (fun wz (hb : Below W.heap.size W wz) => HAMB.out.below (bel_chain HB.out hb))
  have hz0 : Below W.heap.size W W := Below.refl _ _
  clear hBW
  obtain ⟨⟨_, c000, c001, f000, f001⟩, ⟨_, c010, c011, f010, f011⟩, ⟨_, c020, c021, f020, f021⟩⟩ := hX
  have hzd := hz0.drew
  have HC1 := Lib.hid (t3to_any (p.num) W.drew (by omega))
  go_region_held3 (fun w' => w'.cell? ⟨w.heap.size, 0, none⟩ = some (.string (itx p.num)) ∧ w'.cell? ⟨w.heap.size, 1, none⟩ = some (.string (itx (p.den : Int))) ∧ w'.cell? ⟨w.heap.size + 1, 0, none⟩ = some (.string (itx q.num)) ∧ w'.cell? ⟨w.heap.size + 1, 1, none⟩ = some (.string (itx (q.den : Int)))) (first | exact ⟨(HXL.out.store2 _ _).1.2.1, (HXL.out.store2 _ _).1.2.2.1, (HXL.out.store2 _ _).2.1.2.1, (HXL.out.store2 _ _).2.1.2.2.1⟩ | go_keep)
    (first
      | ((with_reducible refine HC7.out.mono ?_); rintro e w7 ⟨rfl, hb7⟩; have hz7 := bel_chain hz6 hb7; obtain ⟨⟨_, c700, c701, f700, f701⟩, ⟨_, c710, c711, f710, f711⟩, ⟨_, c720, c721, f720, f721⟩⟩ := HX.out _ hz7; have HXL := Lib.hid (HX.out _ hz7))
      | ((with_reducible refine HC6.out.mono ?_); rintro e w6 ⟨v6, rfl, hv6_6, hb6⟩; have hz6 := bel_chain hz5 hb6; have hv3_6 := (hv3_5).below hb6; obtain ⟨⟨_, c600, c601, f600, f601⟩, ⟨_, c610, c611, f610, f611⟩, ⟨_, c620, c621, f620, f621⟩⟩ := HX.out _ hz6; have HC7 := Lib.hid (t3make_eq _ _ (p.num * q.num) (p.den * q.den) w6 (HA.out _ hz6) hv3_6 hv6_6 HD0.out (by omega) (by omega) HQ.out))
      | ((with_reducible refine HC5.out.mono ?_); rintro e w5 ⟨v5, rfl, hv5_5, hb5⟩; have hz5 := bel_chain hz4 hb5; have hv3_5 := (hv3_4).below hb5; have hv4_5 := (hv4_4).below hb5; obtain ⟨⟨_, c500, c501, f500, f501⟩, ⟨_, c510, c511, f510, f511⟩, ⟨_, c520, c521, f520, f521⟩⟩ := HX.out _ hz5; have HC6 := Lib.hid (t3mul_any _ _ (p.den) (q.den) w5 hv4_5 hv5_5 (by omega) (by omega)))
      | ((with_reducible refine HC4.out.mono ?_); rintro e w4 ⟨v4, rfl, hv4_4, hb4⟩; have hz4 := bel_chain hz3 hb4; have hv3_4 := (hv3_3).below hb4; obtain ⟨⟨_, c400, c401, f400, f401⟩, ⟨_, c410, c411, f410, f411⟩, ⟨_, c420, c421, f420, f421⟩⟩ := HX.out _ hz4; have HC5 := Lib.hid (t3to_any (q.den) w4 (by omega)))
      | ((with_reducible refine HC3.out.mono ?_); rintro e w3 ⟨v3, rfl, hv3_3, hb3⟩; have hz3 := bel_chain hz2 hb3; obtain ⟨⟨_, c300, c301, f300, f301⟩, ⟨_, c310, c311, f310, f311⟩, ⟨_, c320, c321, f320, f321⟩⟩ := HX.out _ hz3; have HC4 := Lib.hid (t3to_any (p.den) w3 (by omega)))
      | ((with_reducible refine HC2.out.mono ?_); rintro e w2 ⟨v2, rfl, hv2_2, hb2⟩; have hz2 := bel_chain hz1 hb2; have hv1_2 := (hv1_1).below hb2; obtain ⟨⟨_, c200, c201, f200, f201⟩, ⟨_, c210, c211, f210, f211⟩, ⟨_, c220, c221, f220, f221⟩⟩ := HX.out _ hz2; have HC3 := Lib.hid (t3mul_any _ _ (p.num) (q.num) w2 hv1_2 hv2_2 (by omega) (by omega)))
      | ((with_reducible refine HC1.out.mono ?_); rintro e w1 ⟨v1, rfl, hv1_1, hb1⟩; have hz1 := bel_chain hzd hb1; obtain ⟨⟨_, c100, c101, f100, f101⟩, ⟨_, c110, c111, f110, f111⟩, ⟨_, c120, c121, f120, f121⟩⟩ := HX.out _ hz1; have HC2 := Lib.hid (t3to_any (q.num) w1 (by omega))))
  go_wp2_with fail
  refine ret_cell rfl rfl (load_rat (g := w.heap.size + 1 + 1) ((HX.out _ hz7).store2 _ _).2.2) rfl ?_
  exact ⟨rfl, ((bel_chain HB.out hz7).setCell (by simp <;> omega) _).setCell (by simp <;> omega) _⟩

set_option maxRecDepth 100000 in
set_option maxHeartbeats 4000000 in
/-- schismaref03.Add. -/
theorem t3radd_same (p q : Rat) (w : World) (hamb : Amb w) (hp : NQ p 20000) (hq : NQ q 20000) (hden : p.den = q.den) :
    Calls Tryz.prog 63 #[rv p, rv q] w (SmallRes (rv (p + q)) w) := by
  obtain ⟨hp1, hp2⟩ := hp
  obtain ⟨hq1, hq2⟩ := hq
  obtain ⟨Q, hQ⟩ : ∃ Q, p + q = Q := ⟨_, rfl⟩
  have HQ := Lib.hid (show Rat.divInt (p.num + q.num) p.den = Q by rw [← hQ, ratAdd_same p q hden])
  have HD0 := Lib.hid (rden_ne p)
  have hn5 := nz_add_le hp1 hq1
  have ht := beq_den_yes hden
  clear hden
  rw [hQ]
  clear hQ
  have HAMB := Lib.hid hamb
  clear hamb
  go_enter Tryz.func63, Tryz.ntmps63
  go_wp2_with fail
  obtain ⟨W, hW⟩ : ∃ W, (((w.alloc (.cells #[.string (itx p.num), .string (itx (p.den : Int))] 27)).alloc (.cells #[.string (itx q.num), .string (itx (q.den : Int))] 27)).alloc (.cells #[.string ⟨#[]⟩, .string ⟨#[]⟩] 27)) = W := ⟨_, rfl⟩
  rw [hW]
  obtain ⟨hX, hBW⟩ := B3.of hW
  clear hW
  have HX := Lib.hid (fun wz (hb : Below W.heap.size W wz) => hX.later hb)
  have HB := Lib.hid hBW
  have HA := Lib.hid (fun wz (hb : Below W.heap.size W wz) => HAMB.out.below (bel_chain HB.out hb))
  have hz0 : Below W.heap.size W W := Below.refl _ _
  clear hBW
  obtain ⟨⟨_, c000, c001, f000, f001⟩, ⟨_, c010, c011, f010, f011⟩, ⟨_, c020, c021, f020, f021⟩⟩ := hX
  have hzd := hz0.drew
  have HC1 := Lib.hid (t3to_any (p.num) W.drew (by omega))
  go_region_held3 (fun w' => w'.cell? ⟨w.heap.size, 0, none⟩ = some (.string (itx p.num)) ∧ w'.cell? ⟨w.heap.size + 1, 0, none⟩ = some (.string (itx q.num)) ∧ w'.cell? ⟨w.heap.size, 1, none⟩ = some (.string (itx (p.den : Int)))) (first | exact ⟨(HXL.out.store2 _ _).1.2.1, (HXL.out.store2 _ _).2.1.2.1, (HXL.out.store2 _ _).1.2.2.1⟩ | go_keep)
    (first
      | ((with_reducible refine HC5.out.mono ?_); rintro e w5 ⟨rfl, hb5⟩; have hz5 := bel_chain hz4 hb5; obtain ⟨⟨_, c500, c501, f500, f501⟩, ⟨_, c510, c511, f510, f511⟩, ⟨_, c520, c521, f520, f521⟩⟩ := HX.out _ hz5; have HXL := Lib.hid (HX.out _ hz5))
      | ((with_reducible refine HC4.out.mono ?_); rintro e w4 ⟨v4, rfl, hv4_4, hb4⟩; have hz4 := bel_chain hz3 hb4; have hv3_4 := (hv3_3).below hb4; obtain ⟨⟨_, c400, c401, f400, f401⟩, ⟨_, c410, c411, f410, f411⟩, ⟨_, c420, c421, f420, f421⟩⟩ := HX.out _ hz4; have HC5 := Lib.hid (t3make_eq _ _ (p.num + q.num) (p.den) w4 (HA.out _ hz4) hv3_4 hv4_4 HD0.out (by omega) (by omega) HQ.out))
      | ((with_reducible refine HC3.out.mono ?_); rintro e w3 ⟨v3, rfl, hv3_3, hb3⟩; have hz3 := bel_chain hz2 hb3; obtain ⟨⟨_, c300, c301, f300, f301⟩, ⟨_, c310, c311, f310, f311⟩, ⟨_, c320, c321, f320, f321⟩⟩ := HX.out _ hz3; have HC4 := Lib.hid (t3to_any (p.den) w3 (by omega)))
      | ((with_reducible refine HC2.out.mono ?_); rintro e w2 ⟨v2, rfl, hv2_2, hb2⟩; have hz2 := bel_chain hz1 hb2; have hv1_2 := (hv1_1).below hb2; obtain ⟨⟨_, c200, c201, f200, f201⟩, ⟨_, c210, c211, f210, f211⟩, ⟨_, c220, c221, f220, f221⟩⟩ := HX.out _ hz2; have HC3 := Lib.hid (t3add_any _ _ (p.num) (q.num) w2 hv1_2 hv2_2 (by omega) (by omega)))
      | ((with_reducible refine HC1.out.mono ?_); rintro e w1 ⟨v1, rfl, hv1_1, hb1⟩; have hz1 := bel_chain hzd hb1; obtain ⟨⟨_, c100, c101, f100, f101⟩, ⟨_, c110, c111, f110, f111⟩, ⟨_, c120, c121, f120, f121⟩⟩ := HX.out _ hz1; have HC2 := Lib.hid (t3to_any (q.num) w1 (by omega))))
  go_wp2_with fail
  refine ret_cell rfl rfl (load_rat (g := w.heap.size + 1 + 1) ((HX.out _ hz5).store2 _ _).2.2) rfl ?_
  exact ⟨rfl, ((bel_chain HB.out hz5).setCell (by simp <;> omega) _).setCell (by simp <;> omega) _⟩

set_option maxRecDepth 100000 in
set_option maxHeartbeats 4000000 in
/-- schismaref03.Add. -/
theorem t3radd_diff (p q : Rat) (w : World) (hamb : Amb w) (hp : NQ p 20000) (hq : NQ q 20000) (hden : ¬ p.den = q.den) :
    Calls Tryz.prog 63 #[rv p, rv q] w (SmallRes (rv (p + q)) w) := by
  obtain ⟨hp1, hp2⟩ := hp
  obtain ⟨hq1, hq2⟩ := hq
  obtain ⟨Q, hQ⟩ : ∃ Q, p + q = Q := ⟨_, rfl⟩
  have HQ := Lib.hid (show Rat.divInt (p.num * q.den + q.num * p.den) (p.den * q.den) = Q by rw [← hQ, ratAdd])
  have HD0 := Lib.hid (Int.mul_ne_zero (rden_ne p) (rden_ne q))
  have hn1 := nz_mul_le hp1 hq2
  have hn2 := nz_mul_le hq1 hp2
  have hn3 := nz_mul_le hp2 hq2
  have hn4 := nz_add_le (k := 40000) hn1 hn2
  have ht := beq_den_no hden
  clear hden
  rw [hQ]
  clear hQ
  have HAMB := Lib.hid hamb
  clear hamb
  go_enter Tryz.func63, Tryz.ntmps63
  go_wp2_with fail
  obtain ⟨W, hW⟩ : ∃ W, (((w.alloc (.cells #[.string (itx p.num), .string (itx (p.den : Int))] 27)).alloc (.cells #[.string (itx q.num), .string (itx (q.den : Int))] 27)).alloc (.cells #[.string ⟨#[]⟩, .string ⟨#[]⟩] 27)) = W := ⟨_, rfl⟩
  rw [hW]
  obtain ⟨hX, hBW⟩ := B3.of hW
  clear hW
  have HX := Lib.hid (fun wz (hb : Below W.heap.size W wz) => hX.later hb)
  have HB := Lib.hid hBW
  have HA := Lib.hid (fun wz (hb : Below W.heap.size W wz) => HAMB.out.below (bel_chain HB.out hb))
  have hz0 : Below W.heap.size W W := Below.refl _ _
  clear hBW
  obtain ⟨⟨_, c000, c001, f000, f001⟩, ⟨_, c010, c011, f010, f011⟩, ⟨_, c020, c021, f020, f021⟩⟩ := hX
  have hzd := hz0.drew
  have HC1 := Lib.hid (t3to_any (p.num) W.drew (by omega))
  go_region_held3 (fun w' => w'.cell? ⟨w.heap.size, 0, none⟩ = some (.string (itx p.num)) ∧ w'.cell? ⟨w.heap.size, 1, none⟩ = some (.string (itx (p.den : Int))) ∧ w'.cell? ⟨w.heap.size + 1, 0, none⟩ = some (.string (itx q.num)) ∧ w'.cell? ⟨w.heap.size + 1, 1, none⟩ = some (.string (itx (q.den : Int)))) (first | exact ⟨(HXL.out.store2 _ _).1.2.1, (HXL.out.store2 _ _).1.2.2.1, (HXL.out.store2 _ _).2.1.2.1, (HXL.out.store2 _ _).2.1.2.2.1⟩ | go_keep)
    (first
      | ((with_reducible refine HC11.out.mono ?_); rintro e w11 ⟨rfl, hb11⟩; have hz11 := bel_chain hz10 hb11; obtain ⟨⟨_, c1100, c1101, f1100, f1101⟩, ⟨_, c1110, c1111, f1110, f1111⟩, ⟨_, c1120, c1121, f1120, f1121⟩⟩ := HX.out _ hz11; have HXL := Lib.hid (HX.out _ hz11))
      | ((with_reducible refine HC10.out.mono ?_); rintro e w10 ⟨v10, rfl, hv10_10, hb10⟩; have hz10 := bel_chain hz9 hb10; have hv7_10 := (hv7_9).below hb10; obtain ⟨⟨_, c1000, c1001, f1000, f1001⟩, ⟨_, c1010, c1011, f1010, f1011⟩, ⟨_, c1020, c1021, f1020, f1021⟩⟩ := HX.out _ hz10; have HC11 := Lib.hid (t3make_eq _ _ (p.num * q.den + q.num * p.den) (p.den * q.den) w10 (HA.out _ hz10) hv7_10 hv10_10 HD0.out (by omega) (by omega) HQ.out))
      | ((with_reducible refine HC9.out.mono ?_); rintro e w9 ⟨v9, rfl, hv9_9, hb9⟩; have hz9 := bel_chain hz8 hb9; have hv7_9 := (hv7_8).below hb9; have hv8_9 := (hv8_8).below hb9; obtain ⟨⟨_, c900, c901, f900, f901⟩, ⟨_, c910, c911, f910, f911⟩, ⟨_, c920, c921, f920, f921⟩⟩ := HX.out _ hz9; have HC10 := Lib.hid (t3mul_any _ _ (p.den) (q.den) w9 hv8_9 hv9_9 (by omega) (by omega)))
      | ((with_reducible refine HC8.out.mono ?_); rintro e w8 ⟨v8, rfl, hv8_8, hb8⟩; have hz8 := bel_chain hz7 hb8; have hv7_8 := (hv7_7).below hb8; obtain ⟨⟨_, c800, c801, f800, f801⟩, ⟨_, c810, c811, f810, f811⟩, ⟨_, c820, c821, f820, f821⟩⟩ := HX.out _ hz8; have HC9 := Lib.hid (t3to_any (q.den) w8 (by omega)))
      | ((with_reducible refine HC7.out.mono ?_); rintro e w7 ⟨v7, rfl, hv7_7, hb7⟩; have hz7 := bel_chain hz6 hb7; obtain ⟨⟨_, c700, c701, f700, f701⟩, ⟨_, c710, c711, f710, f711⟩, ⟨_, c720, c721, f720, f721⟩⟩ := HX.out _ hz7; have HC8 := Lib.hid (t3to_any (p.den) w7 (by omega)))
      | ((with_reducible refine HC6.out.mono ?_); rintro e w6 ⟨v6, rfl, hv6_6, hb6⟩; have hz6 := bel_chain hz5 hb6; have hv3_6 := (hv3_5).below hb6; obtain ⟨⟨_, c600, c601, f600, f601⟩, ⟨_, c610, c611, f610, f611⟩, ⟨_, c620, c621, f620, f621⟩⟩ := HX.out _ hz6; have HC7 := Lib.hid (t3add_any _ _ (p.num * q.den) (q.num * p.den) w6 hv3_6 hv6_6 (by omega) (by omega)))
      | ((with_reducible refine HC5.out.mono ?_); rintro e w5 ⟨v5, rfl, hv5_5, hb5⟩; have hz5 := bel_chain hz4 hb5; have hv3_5 := (hv3_4).below hb5; have hv4_5 := (hv4_4).below hb5; obtain ⟨⟨_, c500, c501, f500, f501⟩, ⟨_, c510, c511, f510, f511⟩, ⟨_, c520, c521, f520, f521⟩⟩ := HX.out _ hz5; have HC6 := Lib.hid (t3mul_any _ _ (q.num) (p.den) w5 hv4_5 hv5_5 (by omega) (by omega)))
      | ((with_reducible refine HC4.out.mono ?_); rintro e w4 ⟨v4, rfl, hv4_4, hb4⟩; have hz4 := bel_chain hz3 hb4; have hv3_4 := (hv3_3).below hb4; obtain ⟨⟨_, c400, c401, f400, f401⟩, ⟨_, c410, c411, f410, f411⟩, ⟨_, c420, c421, f420, f421⟩⟩ := HX.out _ hz4; have HC5 := Lib.hid (t3to_any (p.den) w4 (by omega)))
      | ((with_reducible refine HC3.out.mono ?_); rintro e w3 ⟨v3, rfl, hv3_3, hb3⟩; have hz3 := bel_chain hz2 hb3; obtain ⟨⟨_, c300, c301, f300, f301⟩, ⟨_, c310, c311, f310, f311⟩, ⟨_, c320, c321, f320, f321⟩⟩ := HX.out _ hz3; have HC4 := Lib.hid (t3to_any (q.num) w3 (by omega)))
      | ((with_reducible refine HC2.out.mono ?_); rintro e w2 ⟨v2, rfl, hv2_2, hb2⟩; have hz2 := bel_chain hz1 hb2; have hv1_2 := (hv1_1).below hb2; obtain ⟨⟨_, c200, c201, f200, f201⟩, ⟨_, c210, c211, f210, f211⟩, ⟨_, c220, c221, f220, f221⟩⟩ := HX.out _ hz2; have HC3 := Lib.hid (t3mul_any _ _ (p.num) (q.den) w2 hv1_2 hv2_2 (by omega) (by omega)))
      | ((with_reducible refine HC1.out.mono ?_); rintro e w1 ⟨v1, rfl, hv1_1, hb1⟩; have hz1 := bel_chain hzd hb1; obtain ⟨⟨_, c100, c101, f100, f101⟩, ⟨_, c110, c111, f110, f111⟩, ⟨_, c120, c121, f120, f121⟩⟩ := HX.out _ hz1; have HC2 := Lib.hid (t3to_any (q.den) w1 (by omega))))
  go_wp2_with fail
  refine ret_cell rfl rfl (load_rat (g := w.heap.size + 1 + 1) ((HX.out _ hz11).store2 _ _).2.2) rfl ?_
  exact ⟨rfl, ((bel_chain HB.out hz11).setCell (by simp <;> omega) _).setCell (by simp <;> omega) _⟩

/-- schismaref03.Add. -/
theorem t3radd_any (p q : Rat) (w : World) (hamb : Amb w) (hp : NQ p 20000) (hq : NQ q 20000) :
    Calls Tryz.prog 63 #[rv p, rv q] w (SmallRes (rv (p + q)) w) := by
  by_cases h : p.den = q.den
  · exact t3radd_same p q w hamb hp hq h
  · exact t3radd_diff p q w hamb hp hq h

set_option maxRecDepth 100000 in
set_option maxHeartbeats 4000000 in
/-- schismaref03.Neg. -/
theorem t3rneg_any (p : Rat) (w : World) (hamb : Amb w) (hp : NQ p 20000) :
    Calls Tryz.prog 17 #[rv p] w (SmallRes (rv (-p)) w) := by
  obtain ⟨hp1, hp2⟩ := hp
  obtain ⟨Q, hQ⟩ : ∃ Q, -p = Q := ⟨_, rfl⟩
  have HQ := Lib.hid (show Q.num = -p.num by rw [← hQ, Rat.neg_num])
  have HQ2 := Lib.hid (show (Q.den : Int) = (p.den : Int) by rw [← hQ, Rat.neg_den])
  rw [hQ]
  clear hQ
  have hnn : nz (-p.num) ≤ 20000 := by rw [nz_neg]; exact hp1
  have HAMB := Lib.hid hamb
  clear hamb
  go_enter Tryz.func17, Tryz.ntmps17
  go_wp2_with fail
  obtain ⟨W, hW⟩ : ∃ W, ((w.alloc (.cells #[.string (itx p.num), .string (itx (p.den : Int))] 27)).alloc (.cells #[.string ⟨#[]⟩, .string ⟨#[]⟩] 27)) = W := ⟨_, rfl⟩
  rw [hW]
  obtain ⟨hX, hBW⟩ := B2.of hW
  clear hW
  have HX := Lib.hid (fun wz (hb : Below W.heap.size W wz) => hX.later hb)
  have HB := Lib.hid hBW
  have HA := Lib.hid (fun wz (hb : Below W.heap.size W wz) => HAMB.out.below (bel_chain HB.out hb))
  have hz0 : Below W.heap.size W W := Below.refl _ _
  clear hBW
  obtain ⟨⟨_, c000, c001, f000, f001⟩, ⟨_, c010, c011, f010, f011⟩⟩ := hX
  have hzd := hz0.drew
  have HC1 := Lib.hid (t3to_any (p.num) W.drew (by omega))
  go_region_held3 (fun w' => w'.cell? ⟨w.heap.size, 0, none⟩ = some (.string (itx p.num)) ∧ w'.cell? ⟨w.heap.size, 1, none⟩ = some (.string (itx (p.den : Int)))) (first | exact ⟨(HXL.out.store1 _ _).1.2.1, (HXL.out.store1 _ _).1.2.2.1⟩ | go_keep)
    (first
      | ((with_reducible refine HC3.out.mono ?_); rintro e w3 ⟨rfl, hb3⟩; have hz3 := bel_chain hz2 hb3; obtain ⟨⟨_, c300, c301, f300, f301⟩, ⟨_, c310, c311, f310, f311⟩⟩ := HX.out _ hz3; have HXL := Lib.hid (HX.out _ hz3))
      | ((with_reducible refine HC2.out.mono ?_); rintro e w2 ⟨v2, rfl, hv2_2, hb2⟩; have hz2 := bel_chain hz1 hb2; obtain ⟨⟨_, c200, c201, f200, f201⟩, ⟨_, c210, c211, f210, f211⟩⟩ := HX.out _ hz2; have HC3 := Lib.hid (t3from_any _ (-p.num) w2 (HA.out _ hz2) hv2_2 (by omega)))
      | ((with_reducible refine HC1.out.mono ?_); rintro e w1 ⟨v1, rfl, hv1_1, hb1⟩; have hz1 := bel_chain hzd hb1; obtain ⟨⟨_, c100, c101, f100, f101⟩, ⟨_, c110, c111, f110, f111⟩⟩ := HX.out _ hz1; have HC2 := Lib.hid (t3neg_any _ (p.num) w1 hv1_1)))
  go_wp2_with fail
  refine ret_cell rfl rfl (load_rat (g := w.heap.size + 1) ((HX.out _ hz3).store1 _ _).2) rfl ?_
  exact ⟨by show Ending.returned (.agg #[.string (itx (-p.num)), .string (itx (p.den : Int))]) = _; rw [← HQ.out, ← HQ2.out], ((bel_chain HB.out hz3).setCell (by simp <;> omega) _).setCell (by simp <;> omega) _⟩

set_option maxRecDepth 100000 in
set_option maxHeartbeats 4000000 in
/-- schismaref03.Sub. -/
theorem t3rsub_any (p q : Rat) (w : World) (hamb : Amb w) (hp : NQ p 20000) (hq : NQ q 20000) :
    Calls Tryz.prog 18 #[rv p, rv q] w (SmallRes (rv (p - q)) w) := by
  obtain ⟨hp1, hp2⟩ := hp
  obtain ⟨hq1, hq2⟩ := hq
  obtain ⟨Q, hQ⟩ : ∃ Q, p - q = Q := ⟨_, rfl⟩
  have HQ := Lib.hid (show p + -q = Q by rw [← hQ, Rat.sub_eq_add_neg])
  rw [hQ]
  clear hQ
  have HAMB := Lib.hid hamb
  clear hamb
  go_enter Tryz.func18, Tryz.ntmps18
  go_wp2_with fail
  obtain ⟨W, hW⟩ : ∃ W, (((w.alloc (.cells #[.string (itx p.num), .string (itx (p.den : Int))] 27)).alloc (.cells #[.string (itx q.num), .string (itx (q.den : Int))] 27)).alloc (.cells #[.string ⟨#[]⟩, .string ⟨#[]⟩] 27)) = W := ⟨_, rfl⟩
  rw [hW]
  obtain ⟨hX, hBW⟩ := B3.of hW
  clear hW
  have HX := Lib.hid (fun wz (hb : Below W.heap.size W wz) => hX.later hb)
  have HB := Lib.hid hBW
  have HA := Lib.hid (fun wz (hb : Below W.heap.size W wz) => HAMB.out.below (bel_chain HB.out hb))
  have hz0 : Below W.heap.size W W := Below.refl _ _
  clear hBW
  obtain ⟨⟨_, c000, c001, f000, f001⟩, ⟨_, c010, c011, f010, f011⟩, ⟨_, c020, c021, f020, f021⟩⟩ := hX
  have hzd := hz0.drew
  have HC1 := Lib.hid (t3rneg_any q W.drew (HA.out _ hzd) ⟨hq1, hq2⟩)
  go_region_held3 (fun w' => w'.cell? ⟨w.heap.size, 0, none⟩ = some (.string (itx p.num)) ∧ w'.cell? ⟨w.heap.size, 1, none⟩ = some (.string (itx (p.den : Int))) ∧ w'.cell? ⟨w.heap.size + 1, 0, none⟩ = some (.string (itx q.num)) ∧ w'.cell? ⟨w.heap.size + 1, 1, none⟩ = some (.string (itx (q.den : Int)))) (first | exact ⟨(HXL.out.store2 _ _).1.2.1, (HXL.out.store2 _ _).1.2.2.1, (HXL.out.store2 _ _).2.1.2.1, (HXL.out.store2 _ _).2.1.2.2.1⟩ | go_keep)
    (first
      | ((with_reducible refine HC2.out.mono ?_); rintro e w2 ⟨rfl, hb2⟩; have hz2 := bel_chain hz1 hb2; obtain ⟨⟨_, c200, c201, f200, f201⟩, ⟨_, c210, c211, f210, f211⟩, ⟨_, c220, c221, f220, f221⟩⟩ := HX.out _ hz2; have HXL := Lib.hid (HX.out _ hz2))
      | ((with_reducible refine HC1.out.mono ?_); rintro e w1 ⟨rfl, hb1⟩; have hz1 := bel_chain hzd hb1; obtain ⟨⟨_, c100, c101, f100, f101⟩, ⟨_, c110, c111, f110, f111⟩, ⟨_, c120, c121, f120, f121⟩⟩ := HX.out _ hz1; have HC2 := Lib.hid ((show Calls _ _ _ w1 (SmallRes (rv Q) w1) from HQ.out ▸ t3radd_any p (-q) w1 (HA.out _ hz1) ⟨hp1, hp2⟩ (NQ.neg ⟨hq1, hq2⟩)))))
  go_wp2_with fail
  refine ret_cell rfl rfl (load_rat (g := w.heap.size + 1 + 1) ((HX.out _ hz2).store2 _ _).2.2) rfl ?_
  exact ⟨rfl, ((bel_chain HB.out hz2).setCell (by simp <;> omega) _).setCell (by simp <;> omega) _⟩

set_option maxRecDepth 100000 in
set_option maxHeartbeats 4000000 in
/-- schismaref03.Frac. -/
theorem t3frac_any (n d : Int) (w : World) (hamb : Amb w) (hn0 : -9223372036854775808 ≤ n) (hn1 : n ≤ 9223372036854775807) (hd0 : -9223372036854775808 ≤ d) (hd1 : d ≤ 9223372036854775807) (h0 : d ≠ 0) :
    Calls Tryz.prog 26 #[.int .i64 n, .int .i64 d] w (SmallRes (rv (Rat.divInt n d)) w) := by
  have HI := Lib.hid (And.intro (And.intro hn0 hn1) (And.intro hd0 hd1))
  have hnn := nz_i64 hn0 hn1
  have hnd := nz_i64 hd0 hd1
  have H0 := Lib.hid h0
  clear h0
  have HAMB := Lib.hid hamb
  clear hamb
  go_enter Tryz.func26, Tryz.ntmps26
  go_wp2_with fail
  obtain ⟨W, hW⟩ : ∃ W, (w.alloc (.cells #[.string ⟨#[]⟩, .string ⟨#[]⟩] 27)) = W := ⟨_, rfl⟩
  rw [hW]
  obtain ⟨hX, hBW⟩ := B1.of hW
  clear hW
  have HX := Lib.hid (fun wz (hb : Below W.heap.size W wz) => hX.later hb)
  have HB := Lib.hid hBW
  have HA := Lib.hid (fun wz (hb : Below W.heap.size W wz) => HAMB.out.below (bel_chain HB.out hb))
  have hz0 : Below W.heap.size W W := Below.refl _ _
  clear hBW
  obtain ⟨_, c000, c001, f000, f001⟩ := hX
  go_wp2_with fail
  refine (t3of_any n _ (HA.out _ hz0) HI.out.1.1 HI.out.1.2).mono ?_
  rintro e w1 ⟨v1, rfl, hv1_1, hb1⟩
  have hz1 := bel_chain hz0 hb1
  obtain ⟨_, c100, c101, f100, f101⟩ := HX.out _ hz1
  go_wp2_with fail
  refine (t3of_any d _ (HA.out _ hz1) HI.out.2.1 HI.out.2.2).mono ?_
  rintro e w2 ⟨v2, rfl, hv2_2, hb2⟩
  have hz2 := bel_chain hz1 hb2
  have hv1_2 := (hv1_1).below hb2
  obtain ⟨_, c200, c201, f200, f201⟩ := HX.out _ hz2
  go_wp2_with fail
  refine (t3make_any _ _ n d _ (HA.out _ hz2) hv1_2 hv2_2 H0.out (by omega) (by omega)).mono ?_
  rintro e w3 ⟨rfl, hb3⟩
  have hz3 := bel_chain hz2 hb3
  have hv1_3 := (hv1_2).below hb3
  have hv2_3 := (hv2_2).below hb3
  obtain ⟨_, c300, c301, f300, f301⟩ := HX.out _ hz3
  go_wp2_with fail
  refine ret_cell rfl rfl (load_rat (g := w.heap.size) ((HX.out _ hz3).store0 _ _)) rfl ?_
  exact ⟨rfl, ((bel_chain HB.out hz3).setCell (by simp <;> omega) _).setCell (by simp <;> omega) _⟩
end Go.Proofs.YtejelchcpbchgaaGreatDoor
