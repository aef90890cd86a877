/- Greater text, out of: V7. -/
import Derived.Test.YtejelchcpbchgaaGreatDoorGn
import Derived.Test.YtejelchcpbchgaaGreatDoorGt
import Derived.Test.YtejelchcpbchgaaGreatDoorGu
namespace Go.Proofs.YtejelchcpbchgaaGreatDoor
open Go.RowKit Go.PlainAid
attribute [local go_sem] field_rat0 field_rat1

theorem frac_grid (g : Nat) (hg : g ≤ 1000000) (w : World) (hamb : Amb w) : Calls Tryz.prog 26 #[.int .i64 (g : Int), .int .i64 1] w (SmallRes (rv ((g : Int) : Rat)) w) := by
  have h := t3frac_any (g : Int) 1 w hamb (by omega) (by omega) (by decide) (by decide) (by decide)
  rw [rat_int] at h
  exact h
theorem rsub_floor (p : Rat) (w : World) (hamb : Amb w) (hp : NQ p 20000) :
    Calls Tryz.prog 18 #[rv p, .agg #[.string (itx p.floor), .string ⟨#[49]⟩]] w (SmallRes (rv (p - (p.floor : Rat))) w) := by
  have h := t3rsub_any p (p.floor : Rat) w hamb hp (NQ.int (nz_floor p hp.1) (by omega))
  rw [rv_int] at h
  exact h
set_option maxRecDepth 100000 in
set_option maxHeartbeats 4000000 in
/-- schismalaw03.FractionRounds. -/
theorem lawRounds_no (n0 d0 : ByteArray) (gr : Int) (w : World) (hamb : Amb w) (hf : [(n0, d0)].all fitB = false) :
    Calls Tryz.prog 4 #[.agg #[.string n0, .string d0], .int .i64 gr] w (SmallRes (.bool true) w) := by
  have HFB := Lib.hid hf
  clear hf
  have HAMB := Lib.hid hamb
  clear hamb
  go_enter Tryz.func4, Tryz.ntmps4
  go_wp2_with fail
  obtain ⟨W, hW⟩ : ∃ W, (w.alloc (.cells #[.string n0, .string d0] 27)) = W := ⟨_, rfl⟩
  rw [hW]
  obtain ⟨hX, hBW⟩ := B1.of hW
  clear hW
  have HX := Lib.hid (fun wz (hb : Below W.heap.size W wz) => hX.later hb)
  have HB := Lib.hid hBW
  have HA := Lib.hid (fun wz (hb : Below W.heap.size W wz) => HAMB.out.below (bel_chain HB.out hb))
  have hz0 : Below W.heap.size W W := Below.refl _ _
  clear hBW
  obtain ⟨_, c000, c001, f000, f001⟩ := hX
  go_wp2_with fail
  refine (known3_any _ (HA.out _ hz0)).mono ?_
  rintro e w1 ⟨rfl, hb1⟩
  have hz1 := bel_chain hz0 hb1
  obtain ⟨_, c100, c101, f100, f101⟩ := HX.out _ hz1
  go_wp2_with fail
  refine (tfits_any _ 1 1 [(n0, d0)] _ ((HA.out _ hz1).below (al1 _ _)) (InQ.made1 w1 n0 d0 27) rfl).mono ?_
  rw [HFB.out]
  rintro e w2 ⟨rfl, hbx2⟩
  have hb2 := bel_chain (al1 _ _) hbx2
  have hz2 := bel_chain hz1 hb2
  clear hbx2
  obtain ⟨_, c200, c201, f200, f201⟩ := HX.out _ hz2
  go_wp2_with fail
  refine (known3_any _ (HA.out _ hz2)).mono ?_
  rintro e w3 ⟨rfl, hb3⟩
  have hz3 := bel_chain hz2 hb3
  obtain ⟨_, c300, c301, f300, f301⟩ := HX.out _ hz3
  go_wp2_with fail
  go_ret
  exact ⟨rfl, bel_chain HB.out hz3⟩

set_option maxRecDepth 100000 in
set_option maxHeartbeats 4000000 in
/-- schismalaw03.FractionRounds. -/
theorem lawRounds_low (p : Rat) (gr : Int) (w : World) (hamb : Amb w) (hp : NQ p 400) (hf : [(itx p.num, itx (p.den : Int))].all fitB = true) (h : gr < 1) :
    Calls Tryz.prog 4 #[rv p, .int .i64 gr] w (SmallRes (.bool true) w) := by
  have HFB := Lib.hid hf
  clear hf
  have np := hp.mono (show 400 ≤ 20000 by omega)
  have nn : NQ (-p) 20000 := np.neg
  have n9 := hp.mono (show 400 ≤ 19998 by omega)
  have nf := Lib.hid (Nat.le_trans (nz_floor (-p) (k := 20000) nn.1) (show 20000 ≤ 1000000 by omega))
  have HB1 := Lib.hid h
  have HAMB := Lib.hid hamb
  clear hamb
  go_enter Tryz.func4, Tryz.ntmps4
  go_wp2_with fail
  obtain ⟨W, hW⟩ : ∃ W, (w.alloc (.cells #[.string (itx p.num), .string (itx (p.den : Int))] 27)) = W := ⟨_, rfl⟩
  rw [hW]
  obtain ⟨hX, hBW⟩ := B1.of hW
  clear hW
  have HX := Lib.hid (fun wz (hb : Below W.heap.size W wz) => hX.later hb)
  have HB := Lib.hid hBW
  have HA := Lib.hid (fun wz (hb : Below W.heap.size W wz) => HAMB.out.below (bel_chain HB.out hb))
  have hz0 : Below W.heap.size W W := Below.refl _ _
  clear hBW
  obtain ⟨_, c000, c001, f000, f001⟩ := hX
  go_wp2_with fail
  refine (known3_any _ (HA.out _ hz0)).mono ?_
  rintro e w1 ⟨rfl, hb1⟩
  have hz1 := bel_chain hz0 hb1
  obtain ⟨_, c100, c101, f100, f101⟩ := HX.out _ hz1
  go_wp2_with fail
  refine (tfits_any _ 1 1 [(itx p.num, itx (p.den : Int))] _ ((HA.out _ hz1).below (al1 _ _)) (InQ.made1 w1 (itx p.num) (itx (p.den : Int)) 27) rfl).mono ?_
  rw [HFB.out]
  rintro e w2 ⟨rfl, hbx2⟩
  have hb2 := bel_chain (al1 _ _) hbx2
  have hz2 := bel_chain hz1 hb2
  clear hbx2
  obtain ⟨_, c200, c201, f200, f201⟩ := HX.out _ hz2
  go_wp2_with fail
  refine (t3rfloor_any p _ (HA.out _ hz2) np).mono ?_
  rintro e w3 ⟨rfl, hb3⟩
  have hz3 := bel_chain hz2 hb3
  obtain ⟨_, c300, c301, f300, f301⟩ := HX.out _ hz3
  go_wp2_with fail
  refine (t3rneg_any p _ (HA.out _ hz3) np).mono ?_
  rintro e w4 ⟨rfl, hb4⟩
  have hz4 := bel_chain hz3 hb4
  obtain ⟨_, c400, c401, f400, f401⟩ := HX.out _ hz4
  go_wp2_with fail
  refine (t3rfloor_any (-p) _ (HA.out _ hz4) nn).mono ?_
  rintro e w5 ⟨rfl, hb5⟩
  have hz5 := bel_chain hz4 hb5
  obtain ⟨_, c500, c501, f500, f501⟩ := HX.out _ hz5
  go_wp2_with fail
  refine (t3to_any (-p).floor _ nf.out).mono ?_
  rintro e w6 ⟨v6, rfl, hv6_6, hb6⟩
  have hz6 := bel_chain hz5 hb6
  obtain ⟨_, c600, c601, f600, f601⟩ := HX.out _ hz6
  go_wp2_with fail
  refine (t3neg_any _ (-p).floor _ hv6_6).mono ?_
  rintro e w7 ⟨v7, rfl, hv7_7, hb7⟩
  have hz7 := bel_chain hz6 hb7
  have hv6_7 := (hv6_6).below hb7
  obtain ⟨_, c700, c701, f700, f701⟩ := HX.out _ hz7
  go_wp2_with fail
  refine (t3from_any _ (-(-p).floor) _ (HA.out _ hz7) hv7_7 (by rw [nz_neg]; exact nf.out)).mono ?_
  rintro e w8 ⟨rfl, hb8⟩
  have hz8 := bel_chain hz7 hb8
  have hv6_8 := (hv6_7).below hb8
  have hv7_8 := (hv7_7).below hb8
  obtain ⟨_, c800, c801, f800, f801⟩ := HX.out _ hz8
  go_wp2_with fail
  refine (rsub_floor p _ (HA.out _ hz8) np).mono ?_
  rintro e w9 ⟨rfl, hb9⟩
  have hz9 := bel_chain hz8 hb9
  obtain ⟨_, c900, c901, f900, f901⟩ := HX.out _ hz9
  go_upto_region 6 with fail
  obtain ⟨w10, hW10⟩ : ∃ W, (w9.alloc (.cells #[.string (itx (p - (p.floor : Rat)).num), .string (itx ((p - (p.floor : Rat)).den : Int))] 27)) = W := ⟨_, rfl⟩
  rw [hW10]
  obtain ⟨hY10, hb10⟩ := B1.of hW10
  clear hW10
  have HX10 := Lib.hid (fun wz (hb : Below w10.heap.size w10 wz) => And.intro (HX.out wz (bel_chain (bel_chain hz9 hb10) hb)) (hY10.later hb))
  have HB10 := Lib.hid (bel_chain HB.out (bel_chain hz9 hb10))
  have HA10 := Lib.hid (fun wz (hb : Below w10.heap.size w10 wz) => HA.out _ (bel_chain (bel_chain hz9 hb10) hb))
  have hz10 : Below w10.heap.size w10 w10 := Below.refl _ _
  clear hY10 hb10
  obtain ⟨⟨_, c1000, c1001, f1000, f1001⟩, ⟨_, c1010, c1011, f1010, f1011⟩⟩ := HX10.out _ hz10
  have hzd := hz10.drew
  have HC1 := Lib.hid (ffloor_any p w10.drew (HA10.out _ hzd) np)
  go_region_held3 (fun w' => w'.cell? ⟨w.heap.size, 0, none⟩ = some (.string (itx p.num)) ∧ w'.cell? ⟨w.heap.size, 1, none⟩ = some (.string (itx (p.den : Int))) ∧ w'.cell? ⟨w9.heap.size, 0, none⟩ = some (.string (itx (p - (p.floor : Rat)).num)) ∧ w'.cell? ⟨w9.heap.size, 1, none⟩ = some (.string (itx ((p - (p.floor : Rat)).den : Int)))) (go_keep)
    (first
      | ((with_reducible refine HC5.out.mono ?_); rintro e w15 ⟨rfl, hb15⟩; have hz15 := bel_chain hz14 hb15; obtain ⟨⟨_, c1500, c1501, f1500, f1501⟩, ⟨_, c1510, c1511, f1510, f1511⟩⟩ := HX10.out _ hz15; have HXL := Lib.hid (HX10.out _ hz15))
      | ((with_reducible refine HC4.out.mono ?_); rintro e w14 ⟨rfl, hb14⟩; have hz14 := bel_chain hz13 hb14; obtain ⟨⟨_, c1400, c1401, f1400, f1401⟩, ⟨_, c1410, c1411, f1410, f1411⟩⟩ := HX10.out _ hz14; have HC5 := Lib.hid (frest_any p w14 (HA10.out _ hz14) np))
      | ((with_reducible refine HC3.out.mono ?_); rintro e w13 ⟨rfl, hb13⟩; have hz13 := bel_chain hz12 hb13; obtain ⟨⟨_, c1300, c1301, f1300, f1301⟩, ⟨_, c1310, c1311, f1310, f1311⟩⟩ := HX10.out _ hz13; have HC4 := Lib.hid (t3rnearest_any p w13 (HA10.out _ hz13) n9))
      | ((with_reducible refine HC2.out.mono ?_); rintro e w12 ⟨rfl, hb12⟩; have hz12 := bel_chain hz11 hb12; obtain ⟨⟨_, c1200, c1201, f1200, f1201⟩, ⟨_, c1210, c1211, f1210, f1211⟩⟩ := HX10.out _ hz12; have HC3 := Lib.hid (fnearest_any p w12 (HA10.out _ hz12) n9))
      | ((with_reducible refine HC1.out.mono ?_); rintro e w11 ⟨rfl, hb11⟩; have hz11 := bel_chain hzd hb11; obtain ⟨⟨_, c1100, c1101, f1100, f1101⟩, ⟨_, c1110, c1111, f1110, f1111⟩⟩ := HX10.out _ hz11; have HC2 := Lib.hid (fceil_any p w11 (HA10.out _ hz11) np)))
  go_wp2_with fail
  refine (fround_bad0 p gr _ (by have := HB1.out; omega)).mono ?_
  rintro e w16 ⟨rfl, hb16⟩
  have hz16 := bel_chain hz15 hb16
  obtain ⟨⟨_, c1600, c1601, f1600, f1601⟩, ⟨_, c1610, c1611, f1610, f1611⟩⟩ := HX10.out _ hz16
  go_upto_region 9 with fail
  obtain ⟨w17, hW17⟩ : ∃ W, (w16.alloc (.cells #[.string ⟨#[]⟩, .string ⟨#[]⟩] 27)) = W := ⟨_, rfl⟩
  rw [hW17]
  obtain ⟨hY17, hb17⟩ := B1.of hW17
  clear hW17
  have HX17 := Lib.hid (fun wz (hb : Below w17.heap.size w17 wz) => And.intro (HX10.out wz (bel_chain (bel_chain hz16 hb17) hb)) (hY17.later hb))
  have HB17 := Lib.hid (bel_chain HB10.out (bel_chain hz16 hb17))
  have HA17 := Lib.hid (fun wz (hb : Below w17.heap.size w17 wz) => HA10.out _ (bel_chain (bel_chain hz16 hb17) hb))
  have hz17 : Below w17.heap.size w17 w17 := Below.refl _ _
  clear hY17 hb17
  obtain ⟨⟨⟨_, c1700, c1701, f1700, f1701⟩, ⟨_, c1710, c1711, f1710, f1711⟩⟩, ⟨_, c1720, c1721, f1720, f1721⟩⟩ := HX17.out _ hz17
  go_wp2_with fail
  go_ret
  exact ⟨rfl, bel_chain HB17.out hz17⟩

set_option maxRecDepth 100000 in
set_option maxHeartbeats 4000000 in
/-- schismalaw03.FractionRounds. -/
theorem lawRounds_high (p : Rat) (gr : Int) (w : World) (hamb : Amb w) (hp : NQ p 400) (hf : [(itx p.num, itx (p.den : Int))].all fitB = true) (h1 : ¬ gr < 1) (h : 1000000 < gr) :
    Calls Tryz.prog 4 #[rv p, .int .i64 gr] w (SmallRes (.bool true) w) := by
  have HFB := Lib.hid hf
  clear hf
  have np := hp.mono (show 400 ≤ 20000 by omega)
  have nn : NQ (-p) 20000 := np.neg
  have n9 := hp.mono (show 400 ≤ 19998 by omega)
  have nf := Lib.hid (Nat.le_trans (nz_floor (-p) (k := 20000) nn.1) (show 20000 ≤ 1000000 by omega))
  have HB1 := Lib.hid h1
  have HB2 := Lib.hid h
  have HAMB := Lib.hid hamb
  clear hamb
  go_enter Tryz.func4, Tryz.ntmps4
  go_wp2_with fail
  obtain ⟨W, hW⟩ : ∃ W, (w.alloc (.cells #[.string (itx p.num), .string (itx (p.den : Int))] 27)) = W := ⟨_, rfl⟩
  rw [hW]
  obtain ⟨hX, hBW⟩ := B1.of hW
  clear hW
  have HX := Lib.hid (fun wz (hb : Below W.heap.size W wz) => hX.later hb)
  have HB := Lib.hid hBW
  have HA := Lib.hid (fun wz (hb : Below W.heap.size W wz) => HAMB.out.below (bel_chain HB.out hb))
  have hz0 : Below W.heap.size W W := Below.refl _ _
  clear hBW
  obtain ⟨_, c000, c001, f000, f001⟩ := hX
  go_wp2_with fail
  refine (known3_any _ (HA.out _ hz0)).mono ?_
  rintro e w1 ⟨rfl, hb1⟩
  have hz1 := bel_chain hz0 hb1
  obtain ⟨_, c100, c101, f100, f101⟩ := HX.out _ hz1
  go_wp2_with fail
  refine (tfits_any _ 1 1 [(itx p.num, itx (p.den : Int))] _ ((HA.out _ hz1).below (al1 _ _)) (InQ.made1 w1 (itx p.num) (itx (p.den : Int)) 27) rfl).mono ?_
  rw [HFB.out]
  rintro e w2 ⟨rfl, hbx2⟩
  have hb2 := bel_chain (al1 _ _) hbx2
  have hz2 := bel_chain hz1 hb2
  clear hbx2
  obtain ⟨_, c200, c201, f200, f201⟩ := HX.out _ hz2
  go_wp2_with fail
  refine (t3rfloor_any p _ (HA.out _ hz2) np).mono ?_
  rintro e w3 ⟨rfl, hb3⟩
  have hz3 := bel_chain hz2 hb3
  obtain ⟨_, c300, c301, f300, f301⟩ := HX.out _ hz3
  go_wp2_with fail
  refine (t3rneg_any p _ (HA.out _ hz3) np).mono ?_
  rintro e w4 ⟨rfl, hb4⟩
  have hz4 := bel_chain hz3 hb4
  obtain ⟨_, c400, c401, f400, f401⟩ := HX.out _ hz4
  go_wp2_with fail
  refine (t3rfloor_any (-p) _ (HA.out _ hz4) nn).mono ?_
  rintro e w5 ⟨rfl, hb5⟩
  have hz5 := bel_chain hz4 hb5
  obtain ⟨_, c500, c501, f500, f501⟩ := HX.out _ hz5
  go_wp2_with fail
  refine (t3to_any (-p).floor _ nf.out).mono ?_
  rintro e w6 ⟨v6, rfl, hv6_6, hb6⟩
  have hz6 := bel_chain hz5 hb6
  obtain ⟨_, c600, c601, f600, f601⟩ := HX.out _ hz6
  go_wp2_with fail
  refine (t3neg_any _ (-p).floor _ hv6_6).mono ?_
  rintro e w7 ⟨v7, rfl, hv7_7, hb7⟩
  have hz7 := bel_chain hz6 hb7
  have hv6_7 := (hv6_6).below hb7
  obtain ⟨_, c700, c701, f700, f701⟩ := HX.out _ hz7
  go_wp2_with fail
  refine (t3from_any _ (-(-p).floor) _ (HA.out _ hz7) hv7_7 (by rw [nz_neg]; exact nf.out)).mono ?_
  rintro e w8 ⟨rfl, hb8⟩
  have hz8 := bel_chain hz7 hb8
  have hv6_8 := (hv6_7).below hb8
  have hv7_8 := (hv7_7).below hb8
  obtain ⟨_, c800, c801, f800, f801⟩ := HX.out _ hz8
  go_wp2_with fail
  refine (rsub_floor p _ (HA.out _ hz8) np).mono ?_
  rintro e w9 ⟨rfl, hb9⟩
  have hz9 := bel_chain hz8 hb9
  obtain ⟨_, c900, c901, f900, f901⟩ := HX.out _ hz9
  go_upto_region 6 with fail
  obtain ⟨w10, hW10⟩ : ∃ W, (w9.alloc (.cells #[.string (itx (p - (p.floor : Rat)).num), .string (itx ((p - (p.floor : Rat)).den : Int))] 27)) = W := ⟨_, rfl⟩
  rw [hW10]
  obtain ⟨hY10, hb10⟩ := B1.of hW10
  clear hW10
  have HX10 := Lib.hid (fun wz (hb : Below w10.heap.size w10 wz) => And.intro (HX.out wz (bel_chain (bel_chain hz9 hb10) hb)) (hY10.later hb))
  have HB10 := Lib.hid (bel_chain HB.out (bel_chain hz9 hb10))
  have HA10 := Lib.hid (fun wz (hb : Below w10.heap.size w10 wz) => HA.out _ (bel_chain (bel_chain hz9 hb10) hb))
  have hz10 : Below w10.heap.size w10 w10 := Below.refl _ _
  clear hY10 hb10
  obtain ⟨⟨_, c1000, c1001, f1000, f1001⟩, ⟨_, c1010, c1011, f1010, f1011⟩⟩ := HX10.out _ hz10
  have hzd := hz10.drew
  have HC1 := Lib.hid (ffloor_any p w10.drew (HA10.out _ hzd) np)
  go_region_held3 (fun w' => w'.cell? ⟨w.heap.size, 0, none⟩ = some (.string (itx p.num)) ∧ w'.cell? ⟨w.heap.size, 1, none⟩ = some (.string (itx (p.den : Int))) ∧ w'.cell? ⟨w9.heap.size, 0, none⟩ = some (.string (itx (p - (p.floor : Rat)).num)) ∧ w'.cell? ⟨w9.heap.size, 1, none⟩ = some (.string (itx ((p - (p.floor : Rat)).den : Int)))) (go_keep)
    (first
      | ((with_reducible refine HC5.out.mono ?_); rintro e w15 ⟨rfl, hb15⟩; have hz15 := bel_chain hz14 hb15; obtain ⟨⟨_, c1500, c1501, f1500, f1501⟩, ⟨_, c1510, c1511, f1510, f1511⟩⟩ := HX10.out _ hz15; have HXL := Lib.hid (HX10.out _ hz15))
      | ((with_reducible refine HC4.out.mono ?_); rintro e w14 ⟨rfl, hb14⟩; have hz14 := bel_chain hz13 hb14; obtain ⟨⟨_, c1400, c1401, f1400, f1401⟩, ⟨_, c1410, c1411, f1410, f1411⟩⟩ := HX10.out _ hz14; have HC5 := Lib.hid (frest_any p w14 (HA10.out _ hz14) np))
      | ((with_reducible refine HC3.out.mono ?_); rintro e w13 ⟨rfl, hb13⟩; have hz13 := bel_chain hz12 hb13; obtain ⟨⟨_, c1300, c1301, f1300, f1301⟩, ⟨_, c1310, c1311, f1310, f1311⟩⟩ := HX10.out _ hz13; have HC4 := Lib.hid (t3rnearest_any p w13 (HA10.out _ hz13) n9))
      | ((with_reducible refine HC2.out.mono ?_); rintro e w12 ⟨rfl, hb12⟩; have hz12 := bel_chain hz11 hb12; obtain ⟨⟨_, c1200, c1201, f1200, f1201⟩, ⟨_, c1210, c1211, f1210, f1211⟩⟩ := HX10.out _ hz12; have HC3 := Lib.hid (fnearest_any p w12 (HA10.out _ hz12) n9))
      | ((with_reducible refine HC1.out.mono ?_); rintro e w11 ⟨rfl, hb11⟩; have hz11 := bel_chain hzd hb11; obtain ⟨⟨_, c1100, c1101, f1100, f1101⟩, ⟨_, c1110, c1111, f1110, f1111⟩⟩ := HX10.out _ hz11; have HC2 := Lib.hid (fceil_any p w11 (HA10.out _ hz11) np)))
  go_wp2_with fail
  refine (fround_bad1 p gr _ (by have := HB1.out; omega) (by have := HB2.out; omega)).mono ?_
  rintro e w16 ⟨rfl, hb16⟩
  have hz16 := bel_chain hz15 hb16
  obtain ⟨⟨_, c1600, c1601, f1600, f1601⟩, ⟨_, c1610, c1611, f1610, f1611⟩⟩ := HX10.out _ hz16
  go_upto_region 9 with fail
  obtain ⟨w17, hW17⟩ : ∃ W, (w16.alloc (.cells #[.string ⟨#[]⟩, .string ⟨#[]⟩] 27)) = W := ⟨_, rfl⟩
  rw [hW17]
  obtain ⟨hY17, hb17⟩ := B1.of hW17
  clear hW17
  have HX17 := Lib.hid (fun wz (hb : Below w17.heap.size w17 wz) => And.intro (HX10.out wz (bel_chain (bel_chain hz16 hb17) hb)) (hY17.later hb))
  have HB17 := Lib.hid (bel_chain HB10.out (bel_chain hz16 hb17))
  have HA17 := Lib.hid (fun wz (hb : Below w17.heap.size w17 wz) => HA10.out _ (bel_chain (bel_chain hz16 hb17) hb))
  have hz17 : Below w17.heap.size w17 w17 := Below.refl _ _
  clear hY17 hb17
  obtain ⟨⟨⟨_, c1700, c1701, f1700, f1701⟩, ⟨_, c1710, c1711, f1710, f1711⟩⟩, ⟨_, c1720, c1721, f1720, f1721⟩⟩ := HX17.out _ hz17
  go_wp2_with fail
  go_ret
  exact ⟨rfl, bel_chain HB17.out hz17⟩

set_option maxRecDepth 100000 in
set_option maxHeartbeats 4000000 in
/-- schismalaw03.FractionRounds. -/
theorem lawRounds_in (p : Rat) (gr : Int) (w : World) (hamb : Amb w) (hp : NQ p 400) (hf : [(itx p.num, itx (p.den : Int))].all fitB = true) (g : Nat) (hg : gr = (g : Int)) (hg1 : 1 ≤ g) (hg2 : g ≤ 1000000) :
    Calls Tryz.prog 4 #[rv p, .int .i64 gr] w (SmallRes (.bool true) w) := by
  have HFB := Lib.hid hf
  clear hf
  have np := hp.mono (show 400 ≤ 20000 by omega)
  have nn : NQ (-p) 20000 := np.neg
  have n9 := hp.mono (show 400 ≤ 19998 by omega)
  have nf := Lib.hid (Nat.le_trans (nz_floor (-p) (k := 20000) nn.1) (show 20000 ≤ 1000000 by omega))
  subst hg
  have HG := Lib.hid (And.intro hg1 hg2)
  have i1 : ¬ (g : Int) < 1 := by omega
  have i2 : ¬ (1000000 : Int) < (g : Int) := by omega
  have HAMB := Lib.hid hamb
  clear hamb
  go_enter Tryz.func4, Tryz.ntmps4
  go_wp2_with fail
  obtain ⟨W, hW⟩ : ∃ W, (w.alloc (.cells #[.string (itx p.num), .string (itx (p.den : Int))] 27)) = W := ⟨_, rfl⟩
  rw [hW]
  obtain ⟨hX, hBW⟩ := B1.of hW
  clear hW
  have HX := Lib.hid (fun wz (hb : Below W.heap.size W wz) => hX.later hb)
  have HB := Lib.hid hBW
  have HA := Lib.hid (fun wz (hb : Below W.heap.size W wz) => HAMB.out.below (bel_chain HB.out hb))
  have hz0 : Below W.heap.size W W := Below.refl _ _
  clear hBW
  obtain ⟨_, c000, c001, f000, f001⟩ := hX
  go_wp2_with fail
  refine (known3_any _ (HA.out _ hz0)).mono ?_
  rintro e w1 ⟨rfl, hb1⟩
  have hz1 := bel_chain hz0 hb1
  obtain ⟨_, c100, c101, f100, f101⟩ := HX.out _ hz1
  go_wp2_with fail
  refine (tfits_any _ 1 1 [(itx p.num, itx (p.den : Int))] _ ((HA.out _ hz1).below (al1 _ _)) (InQ.made1 w1 (itx p.num) (itx (p.den : Int)) 27) rfl).mono ?_
  rw [HFB.out]
  rintro e w2 ⟨rfl, hbx2⟩
  have hb2 := bel_chain (al1 _ _) hbx2
  have hz2 := bel_chain hz1 hb2
  clear hbx2
  obtain ⟨_, c200, c201, f200, f201⟩ := HX.out _ hz2
  go_wp2_with fail
  refine (t3rfloor_any p _ (HA.out _ hz2) np).mono ?_
  rintro e w3 ⟨rfl, hb3⟩
  have hz3 := bel_chain hz2 hb3
  obtain ⟨_, c300, c301, f300, f301⟩ := HX.out _ hz3
  go_wp2_with fail
  refine (t3rneg_any p _ (HA.out _ hz3) np).mono ?_
  rintro e w4 ⟨rfl, hb4⟩
  have hz4 := bel_chain hz3 hb4
  obtain ⟨_, c400, c401, f400, f401⟩ := HX.out _ hz4
  go_wp2_with fail
  refine (t3rfloor_any (-p) _ (HA.out _ hz4) nn).mono ?_
  rintro e w5 ⟨rfl, hb5⟩
  have hz5 := bel_chain hz4 hb5
  obtain ⟨_, c500, c501, f500, f501⟩ := HX.out _ hz5
  go_wp2_with fail
  refine (t3to_any (-p).floor _ nf.out).mono ?_
  rintro e w6 ⟨v6, rfl, hv6_6, hb6⟩
  have hz6 := bel_chain hz5 hb6
  obtain ⟨_, c600, c601, f600, f601⟩ := HX.out _ hz6
  go_wp2_with fail
  refine (t3neg_any _ (-p).floor _ hv6_6).mono ?_
  rintro e w7 ⟨v7, rfl, hv7_7, hb7⟩
  have hz7 := bel_chain hz6 hb7
  have hv6_7 := (hv6_6).below hb7
  obtain ⟨_, c700, c701, f700, f701⟩ := HX.out _ hz7
  go_wp2_with fail
  refine (t3from_any _ (-(-p).floor) _ (HA.out _ hz7) hv7_7 (by rw [nz_neg]; exact nf.out)).mono ?_
  rintro e w8 ⟨rfl, hb8⟩
  have hz8 := bel_chain hz7 hb8
  have hv6_8 := (hv6_7).below hb8
  have hv7_8 := (hv7_7).below hb8
  obtain ⟨_, c800, c801, f800, f801⟩ := HX.out _ hz8
  go_wp2_with fail
  refine (rsub_floor p _ (HA.out _ hz8) np).mono ?_
  rintro e w9 ⟨rfl, hb9⟩
  have hz9 := bel_chain hz8 hb9
  obtain ⟨_, c900, c901, f900, f901⟩ := HX.out _ hz9
  go_upto_region 6 with fail
  obtain ⟨w10, hW10⟩ : ∃ W, (w9.alloc (.cells #[.string (itx (p - (p.floor : Rat)).num), .string (itx ((p - (p.floor : Rat)).den : Int))] 27)) = W := ⟨_, rfl⟩
  rw [hW10]
  obtain ⟨hY10, hb10⟩ := B1.of hW10
  clear hW10
  have HX10 := Lib.hid (fun wz (hb : Below w10.heap.size w10 wz) => And.intro (HX.out wz (bel_chain (bel_chain hz9 hb10) hb)) (hY10.later hb))
  have HB10 := Lib.hid (bel_chain HB.out (bel_chain hz9 hb10))
  have HA10 := Lib.hid (fun wz (hb : Below w10.heap.size w10 wz) => HA.out _ (bel_chain (bel_chain hz9 hb10) hb))
  have hz10 : Below w10.heap.size w10 w10 := Below.refl _ _
  clear hY10 hb10
  obtain ⟨⟨_, c1000, c1001, f1000, f1001⟩, ⟨_, c1010, c1011, f1010, f1011⟩⟩ := HX10.out _ hz10
  have hzd := hz10.drew
  have HC1 := Lib.hid (ffloor_any p w10.drew (HA10.out _ hzd) np)
  go_region_held3 (fun w' => w'.cell? ⟨w.heap.size, 0, none⟩ = some (.string (itx p.num)) ∧ w'.cell? ⟨w.heap.size, 1, none⟩ = some (.string (itx (p.den : Int))) ∧ w'.cell? ⟨w9.heap.size, 0, none⟩ = some (.string (itx (p - (p.floor : Rat)).num)) ∧ w'.cell? ⟨w9.heap.size, 1, none⟩ = some (.string (itx ((p - (p.floor : Rat)).den : Int)))) (go_keep)
    (first
      | ((with_reducible refine HC5.out.mono ?_); rintro e w15 ⟨rfl, hb15⟩; have hz15 := bel_chain hz14 hb15; obtain ⟨⟨_, c1500, c1501, f1500, f1501⟩, ⟨_, c1510, c1511, f1510, f1511⟩⟩ := HX10.out _ hz15; have HXL := Lib.hid (HX10.out _ hz15))
      | ((with_reducible refine HC4.out.mono ?_); rintro e w14 ⟨rfl, hb14⟩; have hz14 := bel_chain hz13 hb14; obtain ⟨⟨_, c1400, c1401, f1400, f1401⟩, ⟨_, c1410, c1411, f1410, f1411⟩⟩ := HX10.out _ hz14; have HC5 := Lib.hid (frest_any p w14 (HA10.out _ hz14) np))
      | ((with_reducible refine HC3.out.mono ?_); rintro e w13 ⟨rfl, hb13⟩; have hz13 := bel_chain hz12 hb13; obtain ⟨⟨_, c1300, c1301, f1300, f1301⟩, ⟨_, c1310, c1311, f1310, f1311⟩⟩ := HX10.out _ hz13; have HC4 := Lib.hid (t3rnearest_any p w13 (HA10.out _ hz13) n9))
      | ((with_reducible refine HC2.out.mono ?_); rintro e w12 ⟨rfl, hb12⟩; have hz12 := bel_chain hz11 hb12; obtain ⟨⟨_, c1200, c1201, f1200, f1201⟩, ⟨_, c1210, c1211, f1210, f1211⟩⟩ := HX10.out _ hz12; have HC3 := Lib.hid (fnearest_any p w12 (HA10.out _ hz12) n9))
      | ((with_reducible refine HC1.out.mono ?_); rintro e w11 ⟨rfl, hb11⟩; have hz11 := bel_chain hzd hb11; obtain ⟨⟨_, c1100, c1101, f1100, f1101⟩, ⟨_, c1110, c1111, f1110, f1111⟩⟩ := HX10.out _ hz11; have HC2 := Lib.hid (fceil_any p w11 (HA10.out _ hz11) np)))
  go_wp2_with fail
  refine (fround_any p g _ (HA10.out _ hz15) (hp.mono (by omega)) HG.out.1 HG.out.2).mono ?_
  rintro e w16 ⟨rfl, hb16⟩
  have hz16 := bel_chain hz15 hb16
  obtain ⟨⟨_, c1600, c1601, f1600, f1601⟩, ⟨_, c1610, c1611, f1610, f1611⟩⟩ := HX10.out _ hz16
  go_upto_region 9 with fail
  obtain ⟨w17, hW17⟩ : ∃ W, (w16.alloc (.cells #[.string (itx (roundQ p (g : Int)).num), .string (itx ((roundQ p (g : Int)).den : Int))] 27)) = W := ⟨_, rfl⟩
  rw [hW17]
  obtain ⟨hY17, hb17⟩ := B1.of hW17
  clear hW17
  have HX17 := Lib.hid (fun wz (hb : Below w17.heap.size w17 wz) => And.intro (HX10.out wz (bel_chain (bel_chain hz16 hb17) hb)) (hY17.later hb))
  have HB17 := Lib.hid (bel_chain HB10.out (bel_chain hz16 hb17))
  have HA17 := Lib.hid (fun wz (hb : Below w17.heap.size w17 wz) => HA10.out _ (bel_chain (bel_chain hz16 hb17) hb))
  have hz17 : Below w17.heap.size w17 w17 := Below.refl _ _
  clear hY17 hb17
  obtain ⟨⟨⟨_, c1700, c1701, f1700, f1701⟩, ⟨_, c1710, c1711, f1710, f1711⟩⟩, ⟨_, c1720, c1721, f1720, f1721⟩⟩ := HX17.out _ hz17
  go_wp2_with fail
  have hzd := hz17.drew
  have HC6 := Lib.hid (frac_grid g HG.out.2 w17.drew (HA17.out _ hzd))
  go_region_held3 (fun w' => w'.cell? ⟨w.heap.size, 0, none⟩ = some (.string (itx p.num)) ∧ w'.cell? ⟨w.heap.size, 1, none⟩ = some (.string (itx (p.den : Int)))) (go_keep)
    (first
      | ((with_reducible refine HC8.out.mono ?_); rintro e w20 ⟨rfl, hb20⟩; have hz20 := bel_chain hz19 hb20; obtain ⟨⟨⟨_, c2000, c2001, f2000, f2001⟩, ⟨_, c2010, c2011, f2010, f2011⟩⟩, ⟨_, c2020, c2021, f2020, f2021⟩⟩ := HX17.out _ hz20; have HXL := Lib.hid (HX17.out _ hz20))
      | ((with_reducible refine HC7.out.mono ?_); rintro e w19 ⟨rfl, hb19⟩; have hz19 := bel_chain hz18 hb19; obtain ⟨⟨⟨_, c1900, c1901, f1900, f1901⟩, ⟨_, c1910, c1911, f1910, f1911⟩⟩, ⟨_, c1920, c1921, f1920, f1921⟩⟩ := HX17.out _ hz19; have HC8 := Lib.hid (t3rnearest_any (p * ((g : Int) : Rat)) w19 (HA17.out _ hz19) ((hp.mul (NQ.int (k := 7) (nz_grid HG.out.2) (by omega))).mono (by omega))))
      | ((with_reducible refine HC6.out.mono ?_); rintro e w18 ⟨rfl, hb18⟩; have hz18 := bel_chain hzd hb18; obtain ⟨⟨⟨_, c1800, c1801, f1800, f1801⟩, ⟨_, c1810, c1811, f1810, f1811⟩⟩, ⟨_, c1820, c1821, f1820, f1821⟩⟩ := HX17.out _ hz18; have HC7 := Lib.hid (t3rmul_any p ((g : Int) : Rat) w18 (HA17.out _ hz18) np (NQ.int (Nat.le_trans (nz_grid HG.out.2) (by omega)) (by omega)))))
  have HNR := Lib.hid (Nat.le_trans (nz_near (hp.mul (NQ.int (k := 7) (nz_grid HG.out.2) (by omega)))) (show 400 + 7 + 2 ≤ 90000 by omega))
  have HGN := Lib.hid (Nat.le_trans (nz_grid HG.out.2) (show 7 ≤ 90000 by omega))
  go_wp2_with fail
  have hzd := hz20.drew
  have HC9 := Lib.hid (t3to_any (nearZ (p * ((g : Int) : Rat))) w20.drew (Nat.le_trans HNR.out (by omega)))
  go_region_held3 (fun w' => w'.cell? ⟨w16.heap.size, 0, none⟩ = some (.string (itx (roundQ p (g : Int)).num)) ∧ w'.cell? ⟨w16.heap.size, 1, none⟩ = some (.string (itx ((roundQ p (g : Int)).den : Int)))) (go_keep)
    (first
      | ((with_reducible refine HC11.out.mono ?_); rintro e w23 ⟨rfl, hb23⟩; have hz23 := bel_chain hz22 hb23; obtain ⟨⟨⟨_, c2300, c2301, f2300, f2301⟩, ⟨_, c2310, c2311, f2310, f2311⟩⟩, ⟨_, c2320, c2321, f2320, f2321⟩⟩ := HX17.out _ hz23; have HXL := Lib.hid (HX17.out _ hz23))
      | ((with_reducible refine HC10.out.mono ?_); rintro e w22 ⟨v22, rfl, hv22_22, hb22⟩; have hz22 := bel_chain hz21 hb22; have hv21_22 := (hv21_21).below hb22; obtain ⟨⟨⟨_, c2200, c2201, f2200, f2201⟩, ⟨_, c2210, c2211, f2210, f2211⟩⟩, ⟨_, c2220, c2221, f2220, f2221⟩⟩ := HX17.out _ hz22; have HC11 := Lib.hid (t3make_eq _ _ (nearZ (p * ((g : Int) : Rat))) (g : Int) w22 (HA17.out _ hz22) hv21_22 hv22_22 (by have := HG.out; omega) HNR.out HGN.out (show Rat.divInt (nearZ (p * ((g : Int) : Rat))) (g : Int) = roundQ p (g : Int) from rfl)))
      | ((with_reducible refine HC9.out.mono ?_); rintro e w21 ⟨v21, rfl, hv21_21, hb21⟩; have hz21 := bel_chain hzd hb21; obtain ⟨⟨⟨_, c2100, c2101, f2100, f2101⟩, ⟨_, c2110, c2111, f2110, f2111⟩⟩, ⟨_, c2120, c2121, f2120, f2121⟩⟩ := HX17.out _ hz21; have HC10 := Lib.hid (t3of_any (g : Int) w21 (HA17.out _ hz21) (by have := HG.out; omega) (by have := HG.out; omega))))
  go_wp2_with fail
  go_ret
  exact ⟨rfl, bel_chain HB17.out hz23⟩

theorem lawRounds_walk (n0 d0 : ByteArray) (gr : Int) (w : World) (hamb : Amb w) :
    Calls Tryz.prog 4 #[.agg #[.string n0, .string d0], .int .i64 gr] w (SmallRes (.bool true) w) := by
  cases hf : [(n0, d0)].all fitB with
  | false => exact lawRounds_no n0 d0 gr w hamb hf
  | true =>
    have hf2 := hf
    simp only [List.all_cons, List.all_nil, Bool.and_true] at hf2
    obtain ⟨p, rfl, rfl, hp⟩ := fitB_rat hf2
    by_cases h1 : gr < 1
    · exact lawRounds_low p gr w hamb hp hf h1
    · by_cases h2 : 1000000 < gr
      · exact lawRounds_high p gr w hamb hp hf h1 h2
      · exact lawRounds_in p gr w hamb hp hf gr.toNat (by omega) (by omega) (by omega)
end Go.Proofs.YtejelchcpbchgaaGreatDoor
