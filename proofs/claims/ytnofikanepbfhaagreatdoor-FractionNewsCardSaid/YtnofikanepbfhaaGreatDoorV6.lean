/- Greater text, out of: V6. -/
import Derived.Test.YtnofikanepbfhaaGreatDoorGn
namespace Go.Proofs.YtnofikanepbfhaaGreatDoor
open Go.RowKit Go.PlainAid
attribute [local go_sem] field_rat0 field_rat1

theorem itx_zero_yes {b : Int} (h : b = 0) : ((itx b).toList == [48]) = true := by rw [h]; exact itx_zero_same
set_option maxRecDepth 100000 in
set_option maxHeartbeats 4000000 in
/-- schismalaw03.FractionNews. -/
theorem lawNews_long1 (x y : ByteArray) (n0 n1 : Int) (w : World) (hamb : Amb w) (h1 : 60 < x.size) :
    Calls Tryz.prog 3 #[.string x, .string y, .agg #[.int .i64 n0, .int .i64 n1]] w (SmallRes (.bool true) w) := by
  have k1 : (60 : Int) < (x.size : Int) := by omega
  clear h1
  have HAMB := Lib.hid hamb
  clear hamb
  go_enter Tryz.func3, Tryz.ntmps3
  go_wp2_with fail
  obtain ⟨W, hW⟩ : ∃ W, (w.alloc (.cells #[.int .i64 n0, .int .i64 n1] 23)) = W := ⟨_, rfl⟩
  rw [hW]
  obtain ⟨hX, hBW⟩ := B1.of hW
  clear hW
  have HX := Lib.hid (fun wz (hb : Below W.heap.size W wz) => hX.later hb)
  have HB := Lib.hid hBW
  have HA := Lib.hid (fun wz (hb : Below W.heap.size W wz) => HAMB.out.below (bel_chain HB.out hb))
  have hz0 : Below W.heap.size W W := Below.refl _ _
  clear hBW
  obtain ⟨_, c000, c001, f000, f001⟩ := hX
  go_wp2_with fail
  refine (known3_any _ (HA.out _ hz0)).mono ?_
  rintro e w1 ⟨rfl, hb1⟩
  have hz1 := bel_chain hz0 hb1
  obtain ⟨_, c100, c101, f100, f101⟩ := HX.out _ hz1
  go_wp2_with fail
  refine (known3_any _ (HA.out _ hz1)).mono ?_
  rintro e w2 ⟨rfl, hb2⟩
  have hz2 := bel_chain hz1 hb2
  obtain ⟨_, c200, c201, f200, f201⟩ := HX.out _ hz2
  go_wp2_with fail
  go_ret
  exact ⟨rfl, bel_chain HB.out hz2⟩

set_option maxRecDepth 100000 in
set_option maxHeartbeats 4000000 in
/-- schismalaw03.FractionNews. -/
theorem lawNews_long2 (x y : ByteArray) (n0 n1 : Int) (w : World) (hamb : Amb w) (h1 : ¬ 60 < x.size) (h2 : 60 < y.size) :
    Calls Tryz.prog 3 #[.string x, .string y, .agg #[.int .i64 n0, .int .i64 n1]] w (SmallRes (.bool true) w) := by
  have k1 : ¬ (60 : Int) < (x.size : Int) := by omega
  have k2 : (60 : Int) < (y.size : Int) := by omega
  clear h1 h2
  have HAMB := Lib.hid hamb
  clear hamb
  go_enter Tryz.func3, Tryz.ntmps3
  go_wp2_with fail
  obtain ⟨W, hW⟩ : ∃ W, (w.alloc (.cells #[.int .i64 n0, .int .i64 n1] 23)) = W := ⟨_, rfl⟩
  rw [hW]
  obtain ⟨hX, hBW⟩ := B1.of hW
  clear hW
  have HX := Lib.hid (fun wz (hb : Below W.heap.size W wz) => hX.later hb)
  have HB := Lib.hid hBW
  have HA := Lib.hid (fun wz (hb : Below W.heap.size W wz) => HAMB.out.below (bel_chain HB.out hb))
  have hz0 : Below W.heap.size W W := Below.refl _ _
  clear hBW
  obtain ⟨_, c000, c001, f000, f001⟩ := hX
  go_wp2_with fail
  refine (known3_any _ (HA.out _ hz0)).mono ?_
  rintro e w1 ⟨rfl, hb1⟩
  have hz1 := bel_chain hz0 hb1
  obtain ⟨_, c100, c101, f100, f101⟩ := HX.out _ hz1
  go_wp2_with fail
  refine (known3_any _ (HA.out _ hz1)).mono ?_
  rintro e w2 ⟨rfl, hb2⟩
  have hz2 := bel_chain hz1 hb2
  obtain ⟨_, c200, c201, f200, f201⟩ := HX.out _ hz2
  go_wp2_with fail
  go_ret
  exact ⟨rfl, bel_chain HB.out hz2⟩

set_option maxRecDepth 100000 in
set_option maxHeartbeats 4000000 in
/-- schismalaw03.FractionNews. -/
theorem lawNews_bad1 (x y : ByteArray) (n0 n1 : Int) (w : World) (hamb : Amb w) (h1 : ¬ 60 < x.size) (h2 : ¬ 60 < y.size) (cx : canonR x.data.toList = false) :
    Calls Tryz.prog 3 #[.string x, .string y, .agg #[.int .i64 n0, .int .i64 n1]] w (SmallRes (.bool true) w) := by
  have k1 : ¬ (60 : Int) < (x.size : Int) := by omega
  have k2 : ¬ (60 : Int) < (y.size : Int) := by omega
  clear h1 h2
  have HCx := Lib.hid (fun w => show Calls _ _ _ w (SmallRes (.bool false) w) from cx ▸ t3canon_any x w)
  clear cx
  have HAMB := Lib.hid hamb
  clear hamb
  go_enter Tryz.func3, Tryz.ntmps3
  go_wp2_with fail
  obtain ⟨W, hW⟩ : ∃ W, (w.alloc (.cells #[.int .i64 n0, .int .i64 n1] 23)) = W := ⟨_, rfl⟩
  rw [hW]
  obtain ⟨hX, hBW⟩ := B1.of hW
  clear hW
  have HX := Lib.hid (fun wz (hb : Below W.heap.size W wz) => hX.later hb)
  have HB := Lib.hid hBW
  have HA := Lib.hid (fun wz (hb : Below W.heap.size W wz) => HAMB.out.below (bel_chain HB.out hb))
  have hz0 : Below W.heap.size W W := Below.refl _ _
  clear hBW
  obtain ⟨_, c000, c001, f000, f001⟩ := hX
  go_wp2_with fail
  refine (known3_any _ (HA.out _ hz0)).mono ?_
  rintro e w1 ⟨rfl, hb1⟩
  have hz1 := bel_chain hz0 hb1
  obtain ⟨_, c100, c101, f100, f101⟩ := HX.out _ hz1
  go_wp2_with fail
  refine (HCx.out _).mono ?_
  rintro e w2 ⟨rfl, hb2⟩
  have hz2 := bel_chain hz1 hb2
  obtain ⟨_, c200, c201, f200, f201⟩ := HX.out _ hz2
  go_wp2_with fail
  refine (known3_any _ (HA.out _ hz2)).mono ?_
  rintro e w3 ⟨rfl, hb3⟩
  have hz3 := bel_chain hz2 hb3
  obtain ⟨_, c300, c301, f300, f301⟩ := HX.out _ hz3
  go_wp2_with fail
  go_ret
  exact ⟨rfl, bel_chain HB.out hz3⟩

set_option maxRecDepth 100000 in
set_option maxHeartbeats 4000000 in
/-- schismalaw03.FractionNews. -/
theorem lawNews_bad2 (x y : ByteArray) (n0 n1 : Int) (w : World) (hamb : Amb w) (h1 : ¬ 60 < x.size) (h2 : ¬ 60 < y.size) (cx : canonR x.data.toList = true) (cy : canonR y.data.toList = false) :
    Calls Tryz.prog 3 #[.string x, .string y, .agg #[.int .i64 n0, .int .i64 n1]] w (SmallRes (.bool true) w) := by
  have k1 : ¬ (60 : Int) < (x.size : Int) := by omega
  have k2 : ¬ (60 : Int) < (y.size : Int) := by omega
  clear h1 h2
  have HCx := Lib.hid (fun w => show Calls _ _ _ w (SmallRes (.bool true) w) from cx ▸ t3canon_any x w)
  clear cx
  have HCy := Lib.hid (fun w => show Calls _ _ _ w (SmallRes (.bool false) w) from cy ▸ t3canon_any y w)
  clear cy
  have HAMB := Lib.hid hamb
  clear hamb
  go_enter Tryz.func3, Tryz.ntmps3
  go_wp2_with fail
  obtain ⟨W, hW⟩ : ∃ W, (w.alloc (.cells #[.int .i64 n0, .int .i64 n1] 23)) = W := ⟨_, rfl⟩
  rw [hW]
  obtain ⟨hX, hBW⟩ := B1.of hW
  clear hW
  have HX := Lib.hid (fun wz (hb : Below W.heap.size W wz) => hX.later hb)
  have HB := Lib.hid hBW
  have HA := Lib.hid (fun wz (hb : Below W.heap.size W wz) => HAMB.out.below (bel_chain HB.out hb))
  have hz0 : Below W.heap.size W W := Below.refl _ _
  clear hBW
  obtain ⟨_, c000, c001, f000, f001⟩ := hX
  go_wp2_with fail
  refine (known3_any _ (HA.out _ hz0)).mono ?_
  rintro e w1 ⟨rfl, hb1⟩
  have hz1 := bel_chain hz0 hb1
  obtain ⟨_, c100, c101, f100, f101⟩ := HX.out _ hz1
  go_wp2_with fail
  refine (HCx.out _).mono ?_
  rintro e w2 ⟨rfl, hb2⟩
  have hz2 := bel_chain hz1 hb2
  obtain ⟨_, c200, c201, f200, f201⟩ := HX.out _ hz2
  go_wp2_with fail
  refine (HCy.out _).mono ?_
  rintro e w3 ⟨rfl, hb3⟩
  have hz3 := bel_chain hz2 hb3
  obtain ⟨_, c300, c301, f300, f301⟩ := HX.out _ hz3
  go_wp2_with fail
  refine (known3_any _ (HA.out _ hz3)).mono ?_
  rintro e w4 ⟨rfl, hb4⟩
  have hz4 := bel_chain hz3 hb4
  obtain ⟨_, c400, c401, f400, f401⟩ := HX.out _ hz4
  go_wp2_with fail
  go_ret
  exact ⟨rfl, bel_chain HB.out hz4⟩

set_option maxRecDepth 100000 in
set_option maxHeartbeats 4000000 in
/-- schismalaw03.FractionNews. -/
theorem lawNews_right00 (a b : Int) (n0 n1 : Int) (w : World) (hamb : Amb w) (ha : nz a ≤ 400) (hb : nz b ≤ 400) (h1 : ¬ 60 < (itx a).size) (h2 : ¬ 60 < (itx b).size) (cx : canonR (itx a).data.toList = true) (cy : canonR (itx b).data.toList = true) (i0 : -9223372036854775808 ≤ n0 ∧ n0 ≤ 9223372036854775807) (i1 : -9223372036854775808 ≤ n1 ∧ n1 ≤ 9223372036854775807) (hb0 : ¬ b = 0) (hn0 : ¬ n1 = 0) :
    Calls Tryz.prog 3 #[.string (itx a), .string (itx b), .agg #[.int .i64 n0, .int .i64 n1]] w (SmallRes (.bool true) w) := by
  have k1 : ¬ (60 : Int) < ((itx a).size : Int) := by omega
  have k2 : ¬ (60 : Int) < ((itx b).size : Int) := by omega
  clear h1 h2
  have HCx := Lib.hid (fun w => show Calls _ _ _ w (SmallRes (.bool true) w) from cx ▸ t3canon_any (itx a) w)
  have HCy := Lib.hid (fun w => show Calls _ _ _ w (SmallRes (.bool true) w) from cy ▸ t3canon_any (itx b) w)
  have HI := Lib.hid (And.intro i0 i1)
  have ht := itx_zero_test hb0
  have HB0 := Lib.hid hb0
  obtain ⟨Q, hQ⟩ : ∃ Q, Rat.divInt a b = Q := ⟨_, rfl⟩
  have HQ := Lib.hid hQ
  clear hQ
  have hn1 : (n1 == 0) = false := by rw [beq_eq_false_iff_ne]; exact hn0
  have HN0 := Lib.hid hn0
  obtain ⟨R, hR⟩ : ∃ R, Rat.divInt n0 n1 = R := ⟨_, rfl⟩
  have HR := Lib.hid hR
  clear hR
  have HOF := Lib.hid (fun w h => show Calls Tryz.prog 16 #[.int .i64 n0, .int .i64 n1] w (SmallRes (.tuple #[rv R, .int .i64 0]) w) from HR.out ▸ fOf_any n0 n1 w h HI.out.1.1 HI.out.1.2 HI.out.2.1 HI.out.2.2 HN0.out)
  have HFR := Lib.hid (fun w h => show Calls Tryz.prog 17 #[.int .i64 n0, .int .i64 n1] w (SmallRes (rv R) w) from HR.out ▸ t3frac_any n0 n1 w h HI.out.1.1 HI.out.1.2 HI.out.2.1 HI.out.2.2 HN0.out)
  clear cx cy i0 i1 hb0 hn0
  have HAMB := Lib.hid hamb
  clear hamb
  go_enter Tryz.func3, Tryz.ntmps3
  go_wp2_with fail
  obtain ⟨W, hW⟩ : ∃ W, (w.alloc (.cells #[.int .i64 n0, .int .i64 n1] 23)) = W := ⟨_, rfl⟩
  rw [hW]
  obtain ⟨hX, hBW⟩ := B1.of hW
  clear hW
  have HX := Lib.hid (fun wz (hb : Below W.heap.size W wz) => hX.later hb)
  have HB := Lib.hid hBW
  have HA := Lib.hid (fun wz (hb : Below W.heap.size W wz) => HAMB.out.below (bel_chain HB.out hb))
  have hz0 : Below W.heap.size W W := Below.refl _ _
  clear hBW
  obtain ⟨_, c000, c001, f000, f001⟩ := hX
  go_wp2_with fail
  refine (known3_any _ (HA.out _ hz0)).mono ?_
  rintro e w1 ⟨rfl, hb1⟩
  have hz1 := bel_chain hz0 hb1
  obtain ⟨_, c100, c101, f100, f101⟩ := HX.out _ hz1
  go_wp2_with fail
  refine (HCx.out _).mono ?_
  rintro e w2 ⟨rfl, hb2⟩
  have hz2 := bel_chain hz1 hb2
  obtain ⟨_, c200, c201, f200, f201⟩ := HX.out _ hz2
  go_wp2_with fail
  refine (HCy.out _).mono ?_
  rintro e w3 ⟨rfl, hb3⟩
  have hz3 := bel_chain hz2 hb3
  obtain ⟨_, c300, c301, f300, f301⟩ := HX.out _ hz3
  go_wp2_with fail
  refine (fnew_eq a b Q _ (HA.out _ hz3) HB0.out (by omega) (by omega) HQ.out).mono ?_
  rintro e w4 ⟨rfl, hb4⟩
  have hz4 := bel_chain hz3 hb4
  obtain ⟨_, c400, c401, f400, f401⟩ := HX.out _ hz4
  go_upto_region 4 with fail
  obtain ⟨w5, hW5⟩ : ∃ W, (w4.alloc (.cells #[.string (itx Q.num), .string (itx (Q.den : Int))] 27)) = W := ⟨_, rfl⟩
  rw [hW5]
  obtain ⟨hY5, hb5⟩ := B1.of hW5
  clear hW5
  have HX5 := Lib.hid (fun wz (hb : Below w5.heap.size w5 wz) => And.intro (HX.out wz (bel_chain (bel_chain hz4 hb5) hb)) (hY5.later hb))
  have HB5 := Lib.hid (bel_chain HB.out (bel_chain hz4 hb5))
  have HA5 := Lib.hid (fun wz (hb : Below w5.heap.size w5 wz) => HA.out _ (bel_chain (bel_chain hz4 hb5) hb))
  have hz5 : Below w5.heap.size w5 w5 := Below.refl _ _
  clear hY5 hb5
  obtain ⟨⟨_, c500, c501, f500, f501⟩, ⟨_, c510, c511, f510, f511⟩⟩ := HX5.out _ hz5
  go_wp2_with fail
  refine (HOF.out _ (HA5.out _ hz5)).mono ?_
  rintro e w6 ⟨rfl, hb6⟩
  have hz6 := bel_chain hz5 hb6
  obtain ⟨⟨_, c600, c601, f600, f601⟩, ⟨_, c610, c611, f610, f611⟩⟩ := HX5.out _ hz6
  go_upto_region 5 with fail
  obtain ⟨w7, hW7⟩ : ∃ W, (w6.alloc (.cells #[.string (itx R.num), .string (itx (R.den : Int))] 27)) = W := ⟨_, rfl⟩
  rw [hW7]
  obtain ⟨hY7, hb7⟩ := B1.of hW7
  clear hW7
  have HX7 := Lib.hid (fun wz (hb : Below w7.heap.size w7 wz) => And.intro (HX5.out wz (bel_chain (bel_chain hz6 hb7) hb)) (hY7.later hb))
  have HB7 := Lib.hid (bel_chain HB5.out (bel_chain hz6 hb7))
  have HA7 := Lib.hid (fun wz (hb : Below w7.heap.size w7 wz) => HA5.out _ (bel_chain (bel_chain hz6 hb7) hb))
  have hz7 : Below w7.heap.size w7 w7 := Below.refl _ _
  clear hY7 hb7
  obtain ⟨⟨⟨_, c700, c701, f700, f701⟩, ⟨_, c710, c711, f710, f711⟩⟩, ⟨_, c720, c721, f720, f721⟩⟩ := HX7.out _ hz7
  go_wp2_with fail
  have hzd := hz7.drew
  have HC1 := Lib.hid (HFR.out w7.drew (HA7.out _ hzd))
  go_region_held3 (fun w' => w'.cell? ⟨w.heap.size, 0, none⟩ = some (.int .i64 n0) ∧ w'.cell? ⟨w.heap.size, 1, none⟩ = some (.int .i64 n1) ∧ w'.cell? ⟨w6.heap.size, 0, none⟩ = some (.string (itx R.num)) ∧ w'.cell? ⟨w6.heap.size, 1, none⟩ = some (.string (itx (R.den : Int)))) (go_keep)
    (first
      | ((with_reducible refine HC1.out.mono ?_); rintro e w8 ⟨rfl, hb8⟩; have hz8 := bel_chain hzd hb8; obtain ⟨⟨⟨_, c800, c801, f800, f801⟩, ⟨_, c810, c811, f810, f811⟩⟩, ⟨_, c820, c821, f820, f821⟩⟩ := HX7.out _ hz8; have HXL := Lib.hid (HX7.out _ hz8)))
  go_wp2_with fail
  have hzd := hz8.drew
  have HC2 := Lib.hid (t3to_any a w8.drew (by omega))
  go_region_held3 (fun w' => w'.cell? ⟨w4.heap.size, 0, none⟩ = some (.string (itx Q.num)) ∧ w'.cell? ⟨w4.heap.size, 1, none⟩ = some (.string (itx (Q.den : Int)))) (go_keep)
    (first
      | ((with_reducible refine HC4.out.mono ?_); rintro e w11 ⟨rfl, hb11⟩; have hz11 := bel_chain hz10 hb11; obtain ⟨⟨⟨_, c1100, c1101, f1100, f1101⟩, ⟨_, c1110, c1111, f1110, f1111⟩⟩, ⟨_, c1120, c1121, f1120, f1121⟩⟩ := HX7.out _ hz11; have HXL := Lib.hid (HX7.out _ hz11))
      | ((with_reducible refine HC3.out.mono ?_); rintro e w10 ⟨v10, rfl, hv10_10, hb10⟩; have hz10 := bel_chain hz9 hb10; have hv9_10 := (hv9_9).below hb10; obtain ⟨⟨⟨_, c1000, c1001, f1000, f1001⟩, ⟨_, c1010, c1011, f1010, f1011⟩⟩, ⟨_, c1020, c1021, f1020, f1021⟩⟩ := HX7.out _ hz10; have HC4 := Lib.hid (t3make_eq _ _ a b w10 (HA7.out _ hz10) hv9_10 hv10_10 HB0.out (by omega) (by omega) HQ.out))
      | ((with_reducible refine HC2.out.mono ?_); rintro e w9 ⟨v9, rfl, hv9_9, hb9⟩; have hz9 := bel_chain hzd hb9; obtain ⟨⟨⟨_, c900, c901, f900, f901⟩, ⟨_, c910, c911, f910, f911⟩⟩, ⟨_, c920, c921, f920, f921⟩⟩ := HX7.out _ hz9; have HC3 := Lib.hid (t3to_any b w9 (by omega))))
  go_wp2_with fail
  go_ret
  exact ⟨rfl, bel_chain HB7.out hz11⟩

set_option maxRecDepth 100000 in
set_option maxHeartbeats 4000000 in
/-- schismalaw03.FractionNews. -/
theorem lawNews_right01 (a b : Int) (n0 n1 : Int) (w : World) (hamb : Amb w) (ha : nz a ≤ 400) (hb : nz b ≤ 400) (h1 : ¬ 60 < (itx a).size) (h2 : ¬ 60 < (itx b).size) (cx : canonR (itx a).data.toList = true) (cy : canonR (itx b).data.toList = true) (i0 : -9223372036854775808 ≤ n0 ∧ n0 ≤ 9223372036854775807) (i1 : -9223372036854775808 ≤ n1 ∧ n1 ≤ 9223372036854775807) (hb0 : ¬ b = 0) (hn0 : n1 = 0) :
    Calls Tryz.prog 3 #[.string (itx a), .string (itx b), .agg #[.int .i64 n0, .int .i64 n1]] w (SmallRes (.bool true) w) := by
  have k1 : ¬ (60 : Int) < ((itx a).size : Int) := by omega
  have k2 : ¬ (60 : Int) < ((itx b).size : Int) := by omega
  clear h1 h2
  have HCx := Lib.hid (fun w => show Calls _ _ _ w (SmallRes (.bool true) w) from cx ▸ t3canon_any (itx a) w)
  have HCy := Lib.hid (fun w => show Calls _ _ _ w (SmallRes (.bool true) w) from cy ▸ t3canon_any (itx b) w)
  have HI := Lib.hid (And.intro i0 i1)
  have ht := itx_zero_test hb0
  have HB0 := Lib.hid hb0
  obtain ⟨Q, hQ⟩ : ∃ Q, Rat.divInt a b = Q := ⟨_, rfl⟩
  have HQ := Lib.hid hQ
  clear hQ
  have hn1 : (n1 == 0) = true := by rw [hn0]; rfl
  have HOF := Lib.hid (fun w h => show Calls Tryz.prog 16 #[.int .i64 n0, .int .i64 n1] w (SmallRes (.tuple #[noRat, .int .i64 17]) w) from hn0.symm ▸ fOf_zero n0 w h HI.out.1.1 HI.out.1.2)
  clear cx cy i0 i1 hb0 hn0
  have HAMB := Lib.hid hamb
  clear hamb
  go_enter Tryz.func3, Tryz.ntmps3
  go_wp2_with fail
  obtain ⟨W, hW⟩ : ∃ W, (w.alloc (.cells #[.int .i64 n0, .int .i64 n1] 23)) = W := ⟨_, rfl⟩
  rw [hW]
  obtain ⟨hX, hBW⟩ := B1.of hW
  clear hW
  have HX := Lib.hid (fun wz (hb : Below W.heap.size W wz) => hX.later hb)
  have HB := Lib.hid hBW
  have HA := Lib.hid (fun wz (hb : Below W.heap.size W wz) => HAMB.out.below (bel_chain HB.out hb))
  have hz0 : Below W.heap.size W W := Below.refl _ _
  clear hBW
  obtain ⟨_, c000, c001, f000, f001⟩ := hX
  go_wp2_with fail
  refine (known3_any _ (HA.out _ hz0)).mono ?_
  rintro e w1 ⟨rfl, hb1⟩
  have hz1 := bel_chain hz0 hb1
  obtain ⟨_, c100, c101, f100, f101⟩ := HX.out _ hz1
  go_wp2_with fail
  refine (HCx.out _).mono ?_
  rintro e w2 ⟨rfl, hb2⟩
  have hz2 := bel_chain hz1 hb2
  obtain ⟨_, c200, c201, f200, f201⟩ := HX.out _ hz2
  go_wp2_with fail
  refine (HCy.out _).mono ?_
  rintro e w3 ⟨rfl, hb3⟩
  have hz3 := bel_chain hz2 hb3
  obtain ⟨_, c300, c301, f300, f301⟩ := HX.out _ hz3
  go_wp2_with fail
  refine (fnew_eq a b Q _ (HA.out _ hz3) HB0.out (by omega) (by omega) HQ.out).mono ?_
  rintro e w4 ⟨rfl, hb4⟩
  have hz4 := bel_chain hz3 hb4
  obtain ⟨_, c400, c401, f400, f401⟩ := HX.out _ hz4
  go_upto_region 4 with fail
  obtain ⟨w5, hW5⟩ : ∃ W, (w4.alloc (.cells #[.string (itx Q.num), .string (itx (Q.den : Int))] 27)) = W := ⟨_, rfl⟩
  rw [hW5]
  obtain ⟨hY5, hb5⟩ := B1.of hW5
  clear hW5
  have HX5 := Lib.hid (fun wz (hb : Below w5.heap.size w5 wz) => And.intro (HX.out wz (bel_chain (bel_chain hz4 hb5) hb)) (hY5.later hb))
  have HB5 := Lib.hid (bel_chain HB.out (bel_chain hz4 hb5))
  have HA5 := Lib.hid (fun wz (hb : Below w5.heap.size w5 wz) => HA.out _ (bel_chain (bel_chain hz4 hb5) hb))
  have hz5 : Below w5.heap.size w5 w5 := Below.refl _ _
  clear hY5 hb5
  obtain ⟨⟨_, c500, c501, f500, f501⟩, ⟨_, c510, c511, f510, f511⟩⟩ := HX5.out _ hz5
  go_wp2_with fail
  refine (HOF.out _ (HA5.out _ hz5)).mono ?_
  rintro e w6 ⟨rfl, hb6⟩
  have hz6 := bel_chain hz5 hb6
  obtain ⟨⟨_, c600, c601, f600, f601⟩, ⟨_, c610, c611, f610, f611⟩⟩ := HX5.out _ hz6
  go_upto_region 5 with fail
  obtain ⟨w7, hW7⟩ : ∃ W, (w6.alloc (.cells #[.string ⟨#[]⟩, .string ⟨#[]⟩] 27)) = W := ⟨_, rfl⟩
  rw [hW7]
  obtain ⟨hY7, hb7⟩ := B1.of hW7
  clear hW7
  have HX7 := Lib.hid (fun wz (hb : Below w7.heap.size w7 wz) => And.intro (HX5.out wz (bel_chain (bel_chain hz6 hb7) hb)) (hY7.later hb))
  have HB7 := Lib.hid (bel_chain HB5.out (bel_chain hz6 hb7))
  have HA7 := Lib.hid (fun wz (hb : Below w7.heap.size w7 wz) => HA5.out _ (bel_chain (bel_chain hz6 hb7) hb))
  have hz7 : Below w7.heap.size w7 w7 := Below.refl _ _
  clear hY7 hb7
  obtain ⟨⟨⟨_, c700, c701, f700, f701⟩, ⟨_, c710, c711, f710, f711⟩⟩, ⟨_, c720, c721, f720, f721⟩⟩ := HX7.out _ hz7
  go_wp2_with fail
  have hzd := hz7.drew
  have HC1 := Lib.hid (t3to_any a w7.drew (by omega))
  go_region_held3 (fun w' => w'.cell? ⟨w4.heap.size, 0, none⟩ = some (.string (itx Q.num)) ∧ w'.cell? ⟨w4.heap.size, 1, none⟩ = some (.string (itx (Q.den : Int)))) (go_keep)
    (first
      | ((with_reducible refine HC3.out.mono ?_); rintro e w10 ⟨rfl, hb10⟩; have hz10 := bel_chain hz9 hb10; obtain ⟨⟨⟨_, c1000, c1001, f1000, f1001⟩, ⟨_, c1010, c1011, f1010, f1011⟩⟩, ⟨_, c1020, c1021, f1020, f1021⟩⟩ := HX7.out _ hz10; have HXL := Lib.hid (HX7.out _ hz10))
      | ((with_reducible refine HC2.out.mono ?_); rintro e w9 ⟨v9, rfl, hv9_9, hb9⟩; have hz9 := bel_chain hz8 hb9; have hv8_9 := (hv8_8).below hb9; obtain ⟨⟨⟨_, c900, c901, f900, f901⟩, ⟨_, c910, c911, f910, f911⟩⟩, ⟨_, c920, c921, f920, f921⟩⟩ := HX7.out _ hz9; have HC3 := Lib.hid (t3make_eq _ _ a b w9 (HA7.out _ hz9) hv8_9 hv9_9 HB0.out (by omega) (by omega) HQ.out))
      | ((with_reducible refine HC1.out.mono ?_); rintro e w8 ⟨v8, rfl, hv8_8, hb8⟩; have hz8 := bel_chain hzd hb8; obtain ⟨⟨⟨_, c800, c801, f800, f801⟩, ⟨_, c810, c811, f810, f811⟩⟩, ⟨_, c820, c821, f820, f821⟩⟩ := HX7.out _ hz8; have HC2 := Lib.hid (t3to_any b w8 (by omega))))
  go_wp2_with fail
  go_ret
  exact ⟨rfl, bel_chain HB7.out hz10⟩

set_option maxRecDepth 100000 in
set_option maxHeartbeats 4000000 in
/-- schismalaw03.FractionNews. -/
theorem lawNews_right10 (a b : Int) (n0 n1 : Int) (w : World) (hamb : Amb w) (h1 : ¬ 60 < (itx a).size) (h2 : ¬ 60 < (itx b).size) (cx : canonR (itx a).data.toList = true) (cy : canonR (itx b).data.toList = true) (i0 : -9223372036854775808 ≤ n0 ∧ n0 ≤ 9223372036854775807) (i1 : -9223372036854775808 ≤ n1 ∧ n1 ≤ 9223372036854775807) (hb0 : b = 0) (hn0 : ¬ n1 = 0) :
    Calls Tryz.prog 3 #[.string (itx a), .string (itx b), .agg #[.int .i64 n0, .int .i64 n1]] w (SmallRes (.bool true) w) := by
  have k1 : ¬ (60 : Int) < ((itx a).size : Int) := by omega
  have k2 : ¬ (60 : Int) < ((itx b).size : Int) := by omega
  clear h1 h2
  have HCx := Lib.hid (fun w => show Calls _ _ _ w (SmallRes (.bool true) w) from cx ▸ t3canon_any (itx a) w)
  have HCy := Lib.hid (fun w => show Calls _ _ _ w (SmallRes (.bool true) w) from cy ▸ t3canon_any (itx b) w)
  have HI := Lib.hid (And.intro i0 i1)
  have ht := itx_zero_yes hb0
  have HNW := Lib.hid (fun w => show Calls _ _ _ w (SmallRes (.tuple #[noRat, .int .i64 17]) w) from hb0 ▸ fnew_zero a w)
  have hn1 : (n1 == 0) = false := by rw [beq_eq_false_iff_ne]; exact hn0
  have HN0 := Lib.hid hn0
  obtain ⟨R, hR⟩ : ∃ R, Rat.divInt n0 n1 = R := ⟨_, rfl⟩
  have HR := Lib.hid hR
  clear hR
  have HOF := Lib.hid (fun w h => show Calls Tryz.prog 16 #[.int .i64 n0, .int .i64 n1] w (SmallRes (.tuple #[rv R, .int .i64 0]) w) from HR.out ▸ fOf_any n0 n1 w h HI.out.1.1 HI.out.1.2 HI.out.2.1 HI.out.2.2 HN0.out)
  have HFR := Lib.hid (fun w h => show Calls Tryz.prog 17 #[.int .i64 n0, .int .i64 n1] w (SmallRes (rv R) w) from HR.out ▸ t3frac_any n0 n1 w h HI.out.1.1 HI.out.1.2 HI.out.2.1 HI.out.2.2 HN0.out)
  clear cx cy i0 i1 hb0 hn0
  have HAMB := Lib.hid hamb
  clear hamb
  go_enter Tryz.func3, Tryz.ntmps3
  go_wp2_with fail
  obtain ⟨W, hW⟩ : ∃ W, (w.alloc (.cells #[.int .i64 n0, .int .i64 n1] 23)) = W := ⟨_, rfl⟩
  rw [hW]
  obtain ⟨hX, hBW⟩ := B1.of hW
  clear hW
  have HX := Lib.hid (fun wz (hb : Below W.heap.size W wz) => hX.later hb)
  have HB := Lib.hid hBW
  have HA := Lib.hid (fun wz (hb : Below W.heap.size W wz) => HAMB.out.below (bel_chain HB.out hb))
  have hz0 : Below W.heap.size W W := Below.refl _ _
  clear hBW
  obtain ⟨_, c000, c001, f000, f001⟩ := hX
  go_wp2_with fail
  refine (known3_any _ (HA.out _ hz0)).mono ?_
  rintro e w1 ⟨rfl, hb1⟩
  have hz1 := bel_chain hz0 hb1
  obtain ⟨_, c100, c101, f100, f101⟩ := HX.out _ hz1
  go_wp2_with fail
  refine (HCx.out _).mono ?_
  rintro e w2 ⟨rfl, hb2⟩
  have hz2 := bel_chain hz1 hb2
  obtain ⟨_, c200, c201, f200, f201⟩ := HX.out _ hz2
  go_wp2_with fail
  refine (HCy.out _).mono ?_
  rintro e w3 ⟨rfl, hb3⟩
  have hz3 := bel_chain hz2 hb3
  obtain ⟨_, c300, c301, f300, f301⟩ := HX.out _ hz3
  go_wp2_with fail
  refine (HNW.out _).mono ?_
  rintro e w4 ⟨rfl, hb4⟩
  have hz4 := bel_chain hz3 hb4
  obtain ⟨_, c400, c401, f400, f401⟩ := HX.out _ hz4
  go_upto_region 4 with fail
  obtain ⟨w5, hW5⟩ : ∃ W, (w4.alloc (.cells #[.string ⟨#[]⟩, .string ⟨#[]⟩] 27)) = W := ⟨_, rfl⟩
  rw [hW5]
  obtain ⟨hY5, hb5⟩ := B1.of hW5
  clear hW5
  have HX5 := Lib.hid (fun wz (hb : Below w5.heap.size w5 wz) => And.intro (HX.out wz (bel_chain (bel_chain hz4 hb5) hb)) (hY5.later hb))
  have HB5 := Lib.hid (bel_chain HB.out (bel_chain hz4 hb5))
  have HA5 := Lib.hid (fun wz (hb : Below w5.heap.size w5 wz) => HA.out _ (bel_chain (bel_chain hz4 hb5) hb))
  have hz5 : Below w5.heap.size w5 w5 := Below.refl _ _
  clear hY5 hb5
  obtain ⟨⟨_, c500, c501, f500, f501⟩, ⟨_, c510, c511, f510, f511⟩⟩ := HX5.out _ hz5
  go_wp2_with fail
  refine (HOF.out _ (HA5.out _ hz5)).mono ?_
  rintro e w6 ⟨rfl, hb6⟩
  have hz6 := bel_chain hz5 hb6
  obtain ⟨⟨_, c600, c601, f600, f601⟩, ⟨_, c610, c611, f610, f611⟩⟩ := HX5.out _ hz6
  go_upto_region 5 with fail
  obtain ⟨w7, hW7⟩ : ∃ W, (w6.alloc (.cells #[.string (itx R.num), .string (itx (R.den : Int))] 27)) = W := ⟨_, rfl⟩
  rw [hW7]
  obtain ⟨hY7, hb7⟩ := B1.of hW7
  clear hW7
  have HX7 := Lib.hid (fun wz (hb : Below w7.heap.size w7 wz) => And.intro (HX5.out wz (bel_chain (bel_chain hz6 hb7) hb)) (hY7.later hb))
  have HB7 := Lib.hid (bel_chain HB5.out (bel_chain hz6 hb7))
  have HA7 := Lib.hid (fun wz (hb : Below w7.heap.size w7 wz) => HA5.out _ (bel_chain (bel_chain hz6 hb7) hb))
  have hz7 : Below w7.heap.size w7 w7 := Below.refl _ _
  clear hY7 hb7
  obtain ⟨⟨⟨_, c700, c701, f700, f701⟩, ⟨_, c710, c711, f710, f711⟩⟩, ⟨_, c720, c721, f720, f721⟩⟩ := HX7.out _ hz7
  go_wp2_with fail
  have hzd := hz7.drew
  have HC1 := Lib.hid (HFR.out w7.drew (HA7.out _ hzd))
  go_region_held3 (fun w' => w'.cell? ⟨w.heap.size, 0, none⟩ = some (.int .i64 n0) ∧ w'.cell? ⟨w.heap.size, 1, none⟩ = some (.int .i64 n1) ∧ w'.cell? ⟨w6.heap.size, 0, none⟩ = some (.string (itx R.num)) ∧ w'.cell? ⟨w6.heap.size, 1, none⟩ = some (.string (itx (R.den : Int)))) (go_keep)
    (first
      | ((with_reducible refine HC1.out.mono ?_); rintro e w8 ⟨rfl, hb8⟩; have hz8 := bel_chain hzd hb8; obtain ⟨⟨⟨_, c800, c801, f800, f801⟩, ⟨_, c810, c811, f810, f811⟩⟩, ⟨_, c820, c821, f820, f821⟩⟩ := HX7.out _ hz8; have HXL := Lib.hid (HX7.out _ hz8)))
  go_wp2_with fail
  go_ret
  exact ⟨rfl, bel_chain HB7.out hz8⟩

set_option maxRecDepth 100000 in
set_option maxHeartbeats 4000000 in
/-- schismalaw03.FractionNews. -/
theorem lawNews_right11 (a b : Int) (n0 n1 : Int) (w : World) (hamb : Amb w) (h1 : ¬ 60 < (itx a).size) (h2 : ¬ 60 < (itx b).size) (cx : canonR (itx a).data.toList = true) (cy : canonR (itx b).data.toList = true) (i0 : -9223372036854775808 ≤ n0 ∧ n0 ≤ 9223372036854775807) (i1 : -9223372036854775808 ≤ n1 ∧ n1 ≤ 9223372036854775807) (hb0 : b = 0) (hn0 : n1 = 0) :
    Calls Tryz.prog 3 #[.string (itx a), .string (itx b), .agg #[.int .i64 n0, .int .i64 n1]] w (SmallRes (.bool true) w) := by
  have k1 : ¬ (60 : Int) < ((itx a).size : Int) := by omega
  have k2 : ¬ (60 : Int) < ((itx b).size : Int) := by omega
  clear h1 h2
  have HCx := Lib.hid (fun w => show Calls _ _ _ w (SmallRes (.bool true) w) from cx ▸ t3canon_any (itx a) w)
  have HCy := Lib.hid (fun w => show Calls _ _ _ w (SmallRes (.bool true) w) from cy ▸ t3canon_any (itx b) w)
  have HI := Lib.hid (And.intro i0 i1)
  have ht := itx_zero_yes hb0
  have HNW := Lib.hid (fun w => show Calls _ _ _ w (SmallRes (.tuple #[noRat, .int .i64 17]) w) from hb0 ▸ fnew_zero a w)
  have hn1 : (n1 == 0) = true := by rw [hn0]; rfl
  have HOF := Lib.hid (fun w h => show Calls Tryz.prog 16 #[.int .i64 n0, .int .i64 n1] w (SmallRes (.tuple #[noRat, .int .i64 17]) w) from hn0.symm ▸ fOf_zero n0 w h HI.out.1.1 HI.out.1.2)
  clear cx cy i0 i1 hb0 hn0
  have HAMB := Lib.hid hamb
  clear hamb
  go_enter Tryz.func3, Tryz.ntmps3
  go_wp2_with fail
  obtain ⟨W, hW⟩ : ∃ W, (w.alloc (.cells #[.int .i64 n0, .int .i64 n1] 23)) = W := ⟨_, rfl⟩
  rw [hW]
  obtain ⟨hX, hBW⟩ := B1.of hW
  clear hW
  have HX := Lib.hid (fun wz (hb : Below W.heap.size W wz) => hX.later hb)
  have HB := Lib.hid hBW
  have HA := Lib.hid (fun wz (hb : Below W.heap.size W wz) => HAMB.out.below (bel_chain HB.out hb))
  have hz0 : Below W.heap.size W W := Below.refl _ _
  clear hBW
  obtain ⟨_, c000, c001, f000, f001⟩ := hX
  go_wp2_with fail
  refine (known3_any _ (HA.out _ hz0)).mono ?_
  rintro e w1 ⟨rfl, hb1⟩
  have hz1 := bel_chain hz0 hb1
  obtain ⟨_, c100, c101, f100, f101⟩ := HX.out _ hz1
  go_wp2_with fail
  refine (HCx.out _).mono ?_
  rintro e w2 ⟨rfl, hb2⟩
  have hz2 := bel_chain hz1 hb2
  obtain ⟨_, c200, c201, f200, f201⟩ := HX.out _ hz2
  go_wp2_with fail
  refine (HCy.out _).mono ?_
  rintro e w3 ⟨rfl, hb3⟩
  have hz3 := bel_chain hz2 hb3
  obtain ⟨_, c300, c301, f300, f301⟩ := HX.out _ hz3
  go_wp2_with fail
  refine (HNW.out _).mono ?_
  rintro e w4 ⟨rfl, hb4⟩
  have hz4 := bel_chain hz3 hb4
  obtain ⟨_, c400, c401, f400, f401⟩ := HX.out _ hz4
  go_upto_region 4 with fail
  obtain ⟨w5, hW5⟩ : ∃ W, (w4.alloc (.cells #[.string ⟨#[]⟩, .string ⟨#[]⟩] 27)) = W := ⟨_, rfl⟩
  rw [hW5]
  obtain ⟨hY5, hb5⟩ := B1.of hW5
  clear hW5
  have HX5 := Lib.hid (fun wz (hb : Below w5.heap.size w5 wz) => And.intro (HX.out wz (bel_chain (bel_chain hz4 hb5) hb)) (hY5.later hb))
  have HB5 := Lib.hid (bel_chain HB.out (bel_chain hz4 hb5))
  have HA5 := Lib.hid (fun wz (hb : Below w5.heap.size w5 wz) => HA.out _ (bel_chain (bel_chain hz4 hb5) hb))
  have hz5 : Below w5.heap.size w5 w5 := Below.refl _ _
  clear hY5 hb5
  obtain ⟨⟨_, c500, c501, f500, f501⟩, ⟨_, c510, c511, f510, f511⟩⟩ := HX5.out _ hz5
  go_wp2_with fail
  refine (HOF.out _ (HA5.out _ hz5)).mono ?_
  rintro e w6 ⟨rfl, hb6⟩
  have hz6 := bel_chain hz5 hb6
  obtain ⟨⟨_, c600, c601, f600, f601⟩, ⟨_, c610, c611, f610, f611⟩⟩ := HX5.out _ hz6
  go_upto_region 5 with fail
  obtain ⟨w7, hW7⟩ : ∃ W, (w6.alloc (.cells #[.string ⟨#[]⟩, .string ⟨#[]⟩] 27)) = W := ⟨_, rfl⟩
  rw [hW7]
  obtain ⟨hY7, hb7⟩ := B1.of hW7
  clear hW7
  have HX7 := Lib.hid (fun wz (hb : Below w7.heap.size w7 wz) => And.intro (HX5.out wz (bel_chain (bel_chain hz6 hb7) hb)) (hY7.later hb))
  have HB7 := Lib.hid (bel_chain HB5.out (bel_chain hz6 hb7))
  have HA7 := Lib.hid (fun wz (hb : Below w7.heap.size w7 wz) => HA5.out _ (bel_chain (bel_chain hz6 hb7) hb))
  have hz7 : Below w7.heap.size w7 w7 := Below.refl _ _
  clear hY7 hb7
  obtain ⟨⟨⟨_, c700, c701, f700, f701⟩, ⟨_, c710, c711, f710, f711⟩⟩, ⟨_, c720, c721, f720, f721⟩⟩ := HX7.out _ hz7
  go_wp2_with fail
  go_wp2_with fail
  go_ret
  exact ⟨rfl, bel_chain HB7.out hz7⟩

theorem lawNews_walk (x y : ByteArray) (n0 n1 : Int) (i0 : -9223372036854775808 ≤ n0 ∧ n0 ≤ 9223372036854775807) (i1 : -9223372036854775808 ≤ n1 ∧ n1 ≤ 9223372036854775807) (w : World) (hamb : Amb w) :
    Calls Tryz.prog 3 #[.string x, .string y, .agg #[.int .i64 n0, .int .i64 n1]] w (SmallRes (.bool true) w) := by
  by_cases h1 : 60 < x.size
  · exact lawNews_long1 x y n0 n1 w hamb h1
  by_cases h2 : 60 < y.size
  · exact lawNews_long2 x y n0 n1 w hamb h1 h2
  cases cx : canonR x.data.toList with
  | false => exact lawNews_bad1 x y n0 n1 w hamb h1 h2 cx
  | true =>
    cases cy : canonR y.data.toList with
    | false => exact lawNews_bad2 x y n0 n1 w hamb h1 h2 cx cy
    | true =>
      obtain ⟨e1, m1⟩ := canonR_itx cx
      obtain ⟨e2, m2⟩ := canonR_itx cy
      generalize ivalT x.data.toList = a at *
      generalize ivalT y.data.toList = b at *
      subst e1
      subst e2
      by_cases hb0 : b = 0
      · by_cases hn0 : n1 = 0
        · exact lawNews_right11 a b n0 n1 w hamb h1 h2 cx cy i0 i1 hb0 hn0
        · exact lawNews_right10 a b n0 n1 w hamb h1 h2 cx cy i0 i1 hb0 hn0
      · by_cases hn0 : n1 = 0
        · exact lawNews_right01 a b n0 n1 w hamb m1 m2 h1 h2 cx cy i0 i1 hb0 hn0
        · exact lawNews_right00 a b n0 n1 w hamb m1 m2 h1 h2 cx cy i0 i1 hb0 hn0
end Go.Proofs.YtnofikanepbfhaaGreatDoor
