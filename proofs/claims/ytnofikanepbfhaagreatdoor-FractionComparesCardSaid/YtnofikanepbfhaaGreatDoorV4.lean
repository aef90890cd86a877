/- Greater text, out of: V4. -/
import Derived.Test.YtnofikanepbfhaaGreatDoorGn
namespace Go.Proofs.YtnofikanepbfhaaGreatDoor
open Go.RowKit Go.PlainAid
attribute [local go_sem] field_rat0 field_rat1

/-- Two blocks of their own hold the lesser and the greater one. -/
def CmpMid (w3 : World) (s6 s7 x0 x1 y0 y1 : Value) (wx : World) : Prop := ∃ g6 g7, s6 = .pointer (some ⟨g6, 0, none⟩) ∧ s7 = .pointer (some ⟨g7, 0, none⟩) ∧ g6 ≠ g7 ∧ w3.heap.size ≤ g6 ∧ w3.heap.size ≤ g7 ∧
  Box2 wx g6 x0 x1 ∧ Box2 wx g7 y0 y1 ∧ Below w3.heap.size w3 wx
theorem cmpMid_ab (w3 : World) (x0 x1 y0 y1 : Value) (T : TypeId) : CmpMid w3 (.pointer (some ⟨w3.heap.size, 0, none⟩)) (.pointer (some ⟨w3.heap.size + 1, 0, none⟩)) x0 x1 y0 y1 (((w3.alloc (.cells #[x0, x1] T)).alloc (.cells #[y0, y1] T)).drew) := by
  obtain ⟨h, hb⟩ := B2.of (w := w3) (x0 := x0) (x1 := x1) (y0 := y0) (y1 := y1) (T1 := T) (T2 := T) rfl
  exact ⟨_, _, rfl, rfl, by omega, Nat.le_refl _, by omega, h.1, h.2, hb.drew⟩
theorem cmpMid_ba (w3 : World) (x0 x1 y0 y1 : Value) (T : TypeId) : CmpMid w3 (.pointer (some ⟨w3.heap.size + 1, 0, none⟩)) (.pointer (some ⟨w3.heap.size, 0, none⟩)) x0 x1 y0 y1 (((w3.alloc (.cells #[y0, y1] T)).alloc (.cells #[x0, x1] T)).drew) := by
  obtain ⟨h, hb⟩ := B2.of (w := w3) (x0 := y0) (x1 := y1) (y0 := x0) (y1 := x1) (T1 := T) (T2 := T) rfl
  exact ⟨_, _, rfl, rfl, by omega, by omega, Nat.le_refl _, h.2, h.1, hb.drew⟩
theorem fmax_eq (p q : Rat) (w : World) (hamb : Amb w) (hp : NQ p 20000) (hq : NQ q 20000) (h : p = q) :
    Calls Tryz.prog 55 #[rv p, rv q] w (SmallRes (rv q) w) := by
  subst h; exact fmax_1 p p w hamb hp hq Rat.lt_irrefl
/-- The two blocks, their places known. -/
def CmpEnd (w3 : World) (g6 g7 : Nat) (x0 x1 y0 y1 : Value) (wx : World) : Prop := Box2 wx g6 x0 x1 ∧ Box2 wx g7 y0 y1 ∧ Below w3.heap.size w3 wx
set_option maxRecDepth 100000 in
set_option maxHeartbeats 4000000 in
/-- schismalaw03.FractionCompares, of texts that are not right. -/
theorem lawCompares_no (n0 d0 n1 d1 : ByteArray) (w : World) (hamb : Amb w) (hf : [(n0, d0), (n1, d1)].all fitB = false) :
    Calls Tryz.prog 11 #[.agg #[.string n0, .string d0], .agg #[.string n1, .string d1]] w (SmallRes (.bool true) w) := by
  have HFB := Lib.hid hf
  clear hf
  have HAMB := Lib.hid hamb
  clear hamb
  go_enter Tryz.func11, Tryz.ntmps11
  go_wp2_with fail
  obtain ⟨W, hW⟩ : ∃ W, ((w.alloc (.cells #[.string n0, .string d0] 27)).alloc (.cells #[.string n1, .string d1] 27)) = W := ⟨_, rfl⟩
  rw [hW]
  obtain ⟨hX, hBW⟩ := B2.of hW
  clear hW
  have HX := Lib.hid (fun wz (hb : Below W.heap.size W wz) => hX.later hb)
  have HB := Lib.hid hBW
  have HA := Lib.hid (fun wz (hb : Below W.heap.size W wz) => HAMB.out.below (bel_chain HB.out hb))
  have hz0 : Below W.heap.size W W := Below.refl _ _
  clear hBW
  obtain ⟨⟨_, c000, c001, f000, f001⟩, ⟨_, c010, c011, f010, f011⟩⟩ := hX
  go_wp2_with fail
  refine (known3_any _ (HA.out _ hz0)).mono ?_
  rintro e w1 ⟨rfl, hb1⟩
  have hz1 := bel_chain hz0 hb1
  obtain ⟨⟨_, c100, c101, f100, f101⟩, ⟨_, c110, c111, f110, f111⟩⟩ := HX.out _ hz1
  go_wp2_with fail
  refine (tfits_any _ 2 2 [(n0, d0), (n1, d1)] _ ((HA.out _ hz1).below (al1 _ _)) (InQ.made2 w1 n0 d0 n1 d1 27) rfl).mono ?_
  rw [HFB.out]
  rintro e w2 ⟨rfl, hbx2⟩
  have hb2 := bel_chain (al1 _ _) hbx2
  have hz2 := bel_chain hz1 hb2
  clear hbx2
  obtain ⟨⟨_, c200, c201, f200, f201⟩, ⟨_, c210, c211, f210, f211⟩⟩ := HX.out _ hz2
  go_wp2_with fail
  refine (known3_any _ (HA.out _ hz2)).mono ?_
  rintro e w3 ⟨rfl, hb3⟩
  have hz3 := bel_chain hz2 hb3
  obtain ⟨⟨_, c300, c301, f300, f301⟩, ⟨_, c310, c311, f310, f311⟩⟩ := HX.out _ hz3
  go_wp2_with fail
  go_ret
  exact ⟨rfl, bel_chain HB.out hz3⟩

set_option maxRecDepth 100000 in
set_option maxHeartbeats 4000000 in
/-- schismalaw03.FractionCompares, of right fractions. -/
theorem lawCompares_gt (p q : Rat) (w : World) (hamb : Amb w) (hp : NQ p 400) (hq : NQ q 400) (hf : [(itx p.num, itx (p.den : Int)), (itx q.num, itx (q.den : Int))].all fitB = true) (h0 : cmpQ p q = 1) (h1 : q < p) :
    Calls Tryz.prog 11 #[rv p, rv q] w (SmallRes (.bool true) w) := by
  have HFB := Lib.hid hf
  clear hf
  have np := hp.mono (show 400 ≤ 20000 by omega)
  have nq := hq.mono (show 400 ≤ 20000 by omega)
  have HC := Lib.hid h0
  have HP := Lib.hid h1
  have HN := Lib.hid (show ¬ p < q from by have h2 := h1; grind)
  clear h0 h1
  have HAMB := Lib.hid hamb
  clear hamb
  go_enter Tryz.func11, Tryz.ntmps11
  go_wp2_with fail
  obtain ⟨W, hW⟩ : ∃ W, ((w.alloc (.cells #[.string (itx p.num), .string (itx (p.den : Int))] 27)).alloc (.cells #[.string (itx q.num), .string (itx (q.den : Int))] 27)) = W := ⟨_, rfl⟩
  rw [hW]
  obtain ⟨hX, hBW⟩ := B2.of hW
  clear hW
  have HX := Lib.hid (fun wz (hb : Below W.heap.size W wz) => hX.later hb)
  have HB := Lib.hid hBW
  have HA := Lib.hid (fun wz (hb : Below W.heap.size W wz) => HAMB.out.below (bel_chain HB.out hb))
  have hz0 : Below W.heap.size W W := Below.refl _ _
  clear hBW
  obtain ⟨⟨_, c000, c001, f000, f001⟩, ⟨_, c010, c011, f010, f011⟩⟩ := hX
  go_wp2_with fail
  refine (known3_any _ (HA.out _ hz0)).mono ?_
  rintro e w1 ⟨rfl, hb1⟩
  have hz1 := bel_chain hz0 hb1
  obtain ⟨⟨_, c100, c101, f100, f101⟩, ⟨_, c110, c111, f110, f111⟩⟩ := HX.out _ hz1
  go_wp2_with fail
  refine (tfits_any _ 2 2 [(itx p.num, itx (p.den : Int)), (itx q.num, itx (q.den : Int))] _ ((HA.out _ hz1).below (al1 _ _)) (InQ.made2 w1 (itx p.num) (itx (p.den : Int)) (itx q.num) (itx (q.den : Int)) 27) rfl).mono ?_
  rw [HFB.out]
  rintro e w2 ⟨rfl, hbx2⟩
  have hb2 := bel_chain (al1 _ _) hbx2
  have hz2 := bel_chain hz1 hb2
  clear hbx2
  obtain ⟨⟨_, c200, c201, f200, f201⟩, ⟨_, c210, c211, f210, f211⟩⟩ := HX.out _ hz2
  go_wp2_with fail
  refine ((show Calls _ _ _ _ (SmallRes (.int .i64 (1)) _) from HC.out ▸ t3rcompare_any p q w2 np nq)).mono ?_
  rintro e w3 ⟨rfl, hb3⟩
  have hz3 := bel_chain hz2 hb3
  obtain ⟨⟨_, c300, c301, f300, f301⟩, ⟨_, c310, c311, f310, f311⟩⟩ := HX.out _ hz3
  go_upto_region 4 with fail
  go_cut [6, 7] (fun s6 s7 wx => CmpMid w3 s6 s7 (.string (itx p.num)) (.string (itx (p.den : Int))) (.string (itx q.num)) (.string (itx (q.den : Int))) wx)
  case first =>
    go_region
    all_goals
      go_wp2_with fail
      go_meet
      first
        | exact cmpMid_ab _ _ _ _ _ _
        | exact cmpMid_ba _ _ _ _ _ _
  case rest =>
    obtain ⟨g6, g7, rfl, rfl, hne, h6, h7, hx6, hx7, hbc⟩ := hcut
    have hz4 := bel_chain hz3 hbc
    have hlt3 : w.heap.size + 1 < w3.heap.size := (HX.out _ hz3).2.1
    obtain ⟨⟨_, c400, c401, f400, f401⟩, ⟨_, c410, c411, f410, f411⟩⟩ := HX.out _ hz4
    obtain ⟨_, d60, d61, e60, e61⟩ := hx6
    obtain ⟨_, d70, d71, e70, e71⟩ := hx7
    have HX6 := Lib.hid (show Box2 wc g6 (.string (itx p.num)) (.string (itx (p.den : Int))) from ⟨by assumption, d60, d61, e60, e61⟩)
    have HX7 := Lib.hid (show Box2 wc g7 (.string (itx q.num)) (.string (itx (q.den : Int))) from ⟨by assumption, d70, d71, e70, e71⟩)
    have HB3 := Lib.hid hbc
    have n1 : ¬ w.heap.size = g6 := by omega
    have n2 : ¬ w.heap.size = g7 := by omega
    have n3 : ¬ w.heap.size + 1 = g6 := by omega
    have n4 : ¬ w.heap.size + 1 = g7 := by omega
    have n5 : ¬ g7 = g6 := fun h => hne h.symm
    go_upto_region 6 with fail
    go_cut [40] (fun s40 wx => s40 = s40 ∧ CmpEnd w3 g6 g7 (.string (itx q.num)) (.string (itx (q.den : Int))) (.string (itx p.num)) (.string (itx (p.den : Int))) wx)
    case first =>
      go_region
      all_goals
        go_wp2_with fail
        go_meet
        first
          | exact ⟨trivial, (((HX6.out.set0 _).set1 _).far (by simpa using hne) _).far (by simpa using hne) _, (((HX7.out.far (by simpa using n5) _).far (by simpa using n5) _).set0 _).set1 _, ((((HB3.out.setCell (by simpa using h6) _).setCell (by simpa using h6) _).setCell (by simpa using h7) _).setCell (by simpa using h7) _).drew⟩
          | exact ⟨trivial, (((HX6.out.far (by simpa using hne) _).far (by simpa using hne) _).set0 _).set1 _, (((HX7.out.set0 _).set1 _).far (by simpa using n5) _).far (by simpa using n5) _, ((((HB3.out.setCell (by simpa using h7) _).setCell (by simpa using h7) _).setCell (by simpa using h6) _).setCell (by simpa using h6) _).drew⟩
    case rest =>
      obtain ⟨_, hx6, hx7, hbc2⟩ := hcut
      clear hz4
      have hz4 := bel_chain hz3 hbc2
      have HXc := Lib.hid (fun wz (hb : Below wc.heap.size wc wz) => And.intro (HX.out wz (bel_chain hz4 hb)) (And.intro (hx6.later hb) (hx7.later hb)))
      have HBc := Lib.hid (bel_chain HB.out hz4)
      have HAc := Lib.hid (fun wz (hb : Below wc.heap.size wc wz) => HA.out _ (bel_chain hz4 hb))
      clear hz4
      have hz4 : Below wc.heap.size wc wc := Below.refl _ _
      obtain ⟨⟨⟨_, c400, c401, f400, f401⟩, ⟨_, c410, c411, f410, f411⟩⟩, ⟨_, c420, c421, f420, f421⟩, ⟨_, c430, c431, f430, f431⟩⟩ := HXc.out _ hz4
      go_wp2_with fail
      have hzd := hz4.drew
      have HC1 := Lib.hid ((show Calls _ _ _ wc.drew (SmallRes (.int .i64 (1)) wc.drew) from HC.out ▸ fcompare_any p q wc.drew (HAc.out _ hzd) np nq))
      go_region_held3 (fun w' => w'.cell? ⟨w.heap.size, 0, none⟩ = some (.string (itx p.num)) ∧ w'.cell? ⟨w.heap.size, 1, none⟩ = some (.string (itx (p.den : Int))) ∧ w'.cell? ⟨w.heap.size + 1, 0, none⟩ = some (.string (itx q.num)) ∧ w'.cell? ⟨w.heap.size + 1, 1, none⟩ = some (.string (itx (q.den : Int))) ∧ w'.cell? ⟨g6, 0, none⟩ = some (.string (itx q.num)) ∧ w'.cell? ⟨g6, 1, none⟩ = some (.string (itx (q.den : Int))) ∧ w'.cell? ⟨g7, 0, none⟩ = some (.string (itx p.num)) ∧ w'.cell? ⟨g7, 1, none⟩ = some (.string (itx (p.den : Int)))) (go_keep)
        (first
          | ((with_reducible refine HC5.out.mono ?_); rintro e w9 ⟨rfl, hb9⟩; have hz9 := bel_chain hz8 hb9; obtain ⟨⟨⟨_, c900, c901, f900, f901⟩, ⟨_, c910, c911, f910, f911⟩⟩, ⟨_, c920, c921, f920, f921⟩, ⟨_, c930, c931, f930, f931⟩⟩ := HXc.out _ hz9; have HXL := Lib.hid (HXc.out _ hz9))
          | ((with_reducible refine HC4.out.mono ?_); rintro e w8 ⟨rfl, hb8⟩; have hz8 := bel_chain hz7 hb8; obtain ⟨⟨⟨_, c800, c801, f800, f801⟩, ⟨_, c810, c811, f810, f811⟩⟩, ⟨_, c820, c821, f820, f821⟩, ⟨_, c830, c831, f830, f831⟩⟩ := HXc.out _ hz8; have HC5 := Lib.hid (fmax_1 p q w8 (HAc.out _ hz8) np nq HN.out))
          | ((with_reducible refine HC3.out.mono ?_); rintro e w7 ⟨rfl, hb7⟩; have hz7 := bel_chain hz6 hb7; obtain ⟨⟨⟨_, c700, c701, f700, f701⟩, ⟨_, c710, c711, f710, f711⟩⟩, ⟨_, c720, c721, f720, f721⟩, ⟨_, c730, c731, f730, f731⟩⟩ := HXc.out _ hz7; have HC4 := Lib.hid (fmin_0 p q w7 (HAc.out _ hz7) np nq HP.out))
          | ((with_reducible refine HC2.out.mono ?_); rintro e w6 ⟨rfl, hb6⟩; have hz6 := bel_chain hz5 hb6; obtain ⟨⟨⟨_, c600, c601, f600, f601⟩, ⟨_, c610, c611, f610, f611⟩⟩, ⟨_, c620, c621, f620, f621⟩, ⟨_, c630, c631, f630, f631⟩⟩ := HXc.out _ hz6; have HC3 := Lib.hid (t3rsign_any p w6 np))
          | ((with_reducible refine HC1.out.mono ?_); rintro e w5 ⟨rfl, hb5⟩; have hz5 := bel_chain hzd hb5; obtain ⟨⟨⟨_, c500, c501, f500, f501⟩, ⟨_, c510, c511, f510, f511⟩⟩, ⟨_, c520, c521, f520, f521⟩, ⟨_, c530, c531, f530, f531⟩⟩ := HXc.out _ hz5; have HC2 := Lib.hid (fsign_any p w5 np)))
      go_wp2_with fail
      go_ret
      exact ⟨rfl, bel_chain HBc.out hz9⟩

set_option maxRecDepth 100000 in
set_option maxHeartbeats 4000000 in
/-- schismalaw03.FractionCompares, of right fractions. -/
theorem lawCompares_lt (p q : Rat) (w : World) (hamb : Amb w) (hp : NQ p 400) (hq : NQ q 400) (hf : [(itx p.num, itx (p.den : Int)), (itx q.num, itx (q.den : Int))].all fitB = true) (h0 : cmpQ p q = -1) (h1 : p < q) :
    Calls Tryz.prog 11 #[rv p, rv q] w (SmallRes (.bool true) w) := by
  have HFB := Lib.hid hf
  clear hf
  have np := hp.mono (show 400 ≤ 20000 by omega)
  have nq := hq.mono (show 400 ≤ 20000 by omega)
  have HC := Lib.hid h0
  have HP := Lib.hid h1
  have HN := Lib.hid (show ¬ q < p from by have h2 := h1; grind)
  clear h0 h1
  have HAMB := Lib.hid hamb
  clear hamb
  go_enter Tryz.func11, Tryz.ntmps11
  go_wp2_with fail
  obtain ⟨W, hW⟩ : ∃ W, ((w.alloc (.cells #[.string (itx p.num), .string (itx (p.den : Int))] 27)).alloc (.cells #[.string (itx q.num), .string (itx (q.den : Int))] 27)) = W := ⟨_, rfl⟩
  rw [hW]
  obtain ⟨hX, hBW⟩ := B2.of hW
  clear hW
  have HX := Lib.hid (fun wz (hb : Below W.heap.size W wz) => hX.later hb)
  have HB := Lib.hid hBW
  have HA := Lib.hid (fun wz (hb : Below W.heap.size W wz) => HAMB.out.below (bel_chain HB.out hb))
  have hz0 : Below W.heap.size W W := Below.refl _ _
  clear hBW
  obtain ⟨⟨_, c000, c001, f000, f001⟩, ⟨_, c010, c011, f010, f011⟩⟩ := hX
  go_wp2_with fail
  refine (known3_any _ (HA.out _ hz0)).mono ?_
  rintro e w1 ⟨rfl, hb1⟩
  have hz1 := bel_chain hz0 hb1
  obtain ⟨⟨_, c100, c101, f100, f101⟩, ⟨_, c110, c111, f110, f111⟩⟩ := HX.out _ hz1
  go_wp2_with fail
  refine (tfits_any _ 2 2 [(itx p.num, itx (p.den : Int)), (itx q.num, itx (q.den : Int))] _ ((HA.out _ hz1).below (al1 _ _)) (InQ.made2 w1 (itx p.num) (itx (p.den : Int)) (itx q.num) (itx (q.den : Int)) 27) rfl).mono ?_
  rw [HFB.out]
  rintro e w2 ⟨rfl, hbx2⟩
  have hb2 := bel_chain (al1 _ _) hbx2
  have hz2 := bel_chain hz1 hb2
  clear hbx2
  obtain ⟨⟨_, c200, c201, f200, f201⟩, ⟨_, c210, c211, f210, f211⟩⟩ := HX.out _ hz2
  go_wp2_with fail
  refine ((show Calls _ _ _ _ (SmallRes (.int .i64 (-1)) _) from HC.out ▸ t3rcompare_any p q w2 np nq)).mono ?_
  rintro e w3 ⟨rfl, hb3⟩
  have hz3 := bel_chain hz2 hb3
  obtain ⟨⟨_, c300, c301, f300, f301⟩, ⟨_, c310, c311, f310, f311⟩⟩ := HX.out _ hz3
  go_upto_region 4 with fail
  go_cut [6, 7] (fun s6 s7 wx => CmpMid w3 s6 s7 (.string (itx p.num)) (.string (itx (p.den : Int))) (.string (itx q.num)) (.string (itx (q.den : Int))) wx)
  case first =>
    go_region
    all_goals
      go_wp2_with fail
      go_meet
      first
        | exact cmpMid_ab _ _ _ _ _ _
        | exact cmpMid_ba _ _ _ _ _ _
  case rest =>
    obtain ⟨g6, g7, rfl, rfl, hne, h6, h7, hx6, hx7, hbc⟩ := hcut
    have hz4 := bel_chain hz3 hbc
    have hlt3 : w.heap.size + 1 < w3.heap.size := (HX.out _ hz3).2.1
    have HXc := Lib.hid (fun wz (hb : Below wc.heap.size wc wz) => And.intro (HX.out wz (bel_chain hz4 hb)) (And.intro (hx6.later hb) (hx7.later hb)))
    have HBc := Lib.hid (bel_chain HB.out hz4)
    have HAc := Lib.hid (fun wz (hb : Below wc.heap.size wc wz) => HA.out _ (bel_chain hz4 hb))
    clear hz4
    have hz4 : Below wc.heap.size wc wc := Below.refl _ _
    obtain ⟨⟨⟨_, c400, c401, f400, f401⟩, ⟨_, c410, c411, f410, f411⟩⟩, ⟨_, c420, c421, f420, f421⟩, ⟨_, c430, c431, f430, f431⟩⟩ := HXc.out _ hz4
    go_wp2_with fail
    have hzd := hz4.drew
    have HC1 := Lib.hid ((show Calls _ _ _ wc.drew (SmallRes (.int .i64 (-1)) wc.drew) from HC.out ▸ fcompare_any p q wc.drew (HAc.out _ hzd) np nq))
    go_region_held3 (fun w' => w'.cell? ⟨w.heap.size, 0, none⟩ = some (.string (itx p.num)) ∧ w'.cell? ⟨w.heap.size, 1, none⟩ = some (.string (itx (p.den : Int))) ∧ w'.cell? ⟨w.heap.size + 1, 0, none⟩ = some (.string (itx q.num)) ∧ w'.cell? ⟨w.heap.size + 1, 1, none⟩ = some (.string (itx (q.den : Int))) ∧ w'.cell? ⟨g6, 0, none⟩ = some (.string (itx p.num)) ∧ w'.cell? ⟨g6, 1, none⟩ = some (.string (itx (p.den : Int))) ∧ w'.cell? ⟨g7, 0, none⟩ = some (.string (itx q.num)) ∧ w'.cell? ⟨g7, 1, none⟩ = some (.string (itx (q.den : Int)))) (go_keep)
      (first
        | ((with_reducible refine HC5.out.mono ?_); rintro e w9 ⟨rfl, hb9⟩; have hz9 := bel_chain hz8 hb9; obtain ⟨⟨⟨_, c900, c901, f900, f901⟩, ⟨_, c910, c911, f910, f911⟩⟩, ⟨_, c920, c921, f920, f921⟩, ⟨_, c930, c931, f930, f931⟩⟩ := HXc.out _ hz9; have HXL := Lib.hid (HXc.out _ hz9))
        | ((with_reducible refine HC4.out.mono ?_); rintro e w8 ⟨rfl, hb8⟩; have hz8 := bel_chain hz7 hb8; obtain ⟨⟨⟨_, c800, c801, f800, f801⟩, ⟨_, c810, c811, f810, f811⟩⟩, ⟨_, c820, c821, f820, f821⟩, ⟨_, c830, c831, f830, f831⟩⟩ := HXc.out _ hz8; have HC5 := Lib.hid (fmax_0 p q w8 (HAc.out _ hz8) np nq HP.out))
        | ((with_reducible refine HC3.out.mono ?_); rintro e w7 ⟨rfl, hb7⟩; have hz7 := bel_chain hz6 hb7; obtain ⟨⟨⟨_, c700, c701, f700, f701⟩, ⟨_, c710, c711, f710, f711⟩⟩, ⟨_, c720, c721, f720, f721⟩, ⟨_, c730, c731, f730, f731⟩⟩ := HXc.out _ hz7; have HC4 := Lib.hid (fmin_1 p q w7 (HAc.out _ hz7) np nq HN.out))
        | ((with_reducible refine HC2.out.mono ?_); rintro e w6 ⟨rfl, hb6⟩; have hz6 := bel_chain hz5 hb6; obtain ⟨⟨⟨_, c600, c601, f600, f601⟩, ⟨_, c610, c611, f610, f611⟩⟩, ⟨_, c620, c621, f620, f621⟩, ⟨_, c630, c631, f630, f631⟩⟩ := HXc.out _ hz6; have HC3 := Lib.hid (t3rsign_any p w6 np))
        | ((with_reducible refine HC1.out.mono ?_); rintro e w5 ⟨rfl, hb5⟩; have hz5 := bel_chain hzd hb5; obtain ⟨⟨⟨_, c500, c501, f500, f501⟩, ⟨_, c510, c511, f510, f511⟩⟩, ⟨_, c520, c521, f520, f521⟩, ⟨_, c530, c531, f530, f531⟩⟩ := HXc.out _ hz5; have HC2 := Lib.hid (fsign_any p w5 np)))
    go_wp2_with fail
    go_ret
    exact ⟨rfl, bel_chain HBc.out hz9⟩

set_option maxRecDepth 100000 in
set_option maxHeartbeats 4000000 in
/-- schismalaw03.FractionCompares, of right fractions. -/
theorem lawCompares_eq (p q : Rat) (w : World) (hamb : Amb w) (hp : NQ p 400) (hq : NQ q 400) (hf : [(itx p.num, itx (p.den : Int)), (itx q.num, itx (q.den : Int))].all fitB = true) (h0 : cmpQ p q = 0) (h1 : p = q) :
    Calls Tryz.prog 11 #[rv p, rv q] w (SmallRes (.bool true) w) := by
  have HFB := Lib.hid hf
  clear hf
  have np := hp.mono (show 400 ≤ 20000 by omega)
  have nq := hq.mono (show 400 ≤ 20000 by omega)
  have HC := Lib.hid h0
  have HP := Lib.hid h1
  have HN := Lib.hid (show ¬ q < p from by have h2 := h1; grind)
  clear h0 h1
  have HAMB := Lib.hid hamb
  clear hamb
  go_enter Tryz.func11, Tryz.ntmps11
  go_wp2_with fail
  obtain ⟨W, hW⟩ : ∃ W, ((w.alloc (.cells #[.string (itx p.num), .string (itx (p.den : Int))] 27)).alloc (.cells #[.string (itx q.num), .string (itx (q.den : Int))] 27)) = W := ⟨_, rfl⟩
  rw [hW]
  obtain ⟨hX, hBW⟩ := B2.of hW
  clear hW
  have HX := Lib.hid (fun wz (hb : Below W.heap.size W wz) => hX.later hb)
  have HB := Lib.hid hBW
  have HA := Lib.hid (fun wz (hb : Below W.heap.size W wz) => HAMB.out.below (bel_chain HB.out hb))
  have hz0 : Below W.heap.size W W := Below.refl _ _
  clear hBW
  obtain ⟨⟨_, c000, c001, f000, f001⟩, ⟨_, c010, c011, f010, f011⟩⟩ := hX
  go_wp2_with fail
  refine (known3_any _ (HA.out _ hz0)).mono ?_
  rintro e w1 ⟨rfl, hb1⟩
  have hz1 := bel_chain hz0 hb1
  obtain ⟨⟨_, c100, c101, f100, f101⟩, ⟨_, c110, c111, f110, f111⟩⟩ := HX.out _ hz1
  go_wp2_with fail
  refine (tfits_any _ 2 2 [(itx p.num, itx (p.den : Int)), (itx q.num, itx (q.den : Int))] _ ((HA.out _ hz1).below (al1 _ _)) (InQ.made2 w1 (itx p.num) (itx (p.den : Int)) (itx q.num) (itx (q.den : Int)) 27) rfl).mono ?_
  rw [HFB.out]
  rintro e w2 ⟨rfl, hbx2⟩
  have hb2 := bel_chain (al1 _ _) hbx2
  have hz2 := bel_chain hz1 hb2
  clear hbx2
  obtain ⟨⟨_, c200, c201, f200, f201⟩, ⟨_, c210, c211, f210, f211⟩⟩ := HX.out _ hz2
  go_wp2_with fail
  refine ((show Calls _ _ _ _ (SmallRes (.int .i64 (0)) _) from HC.out ▸ t3rcompare_any p q w2 np nq)).mono ?_
  rintro e w3 ⟨rfl, hb3⟩
  have hz3 := bel_chain hz2 hb3
  obtain ⟨⟨_, c300, c301, f300, f301⟩, ⟨_, c310, c311, f310, f311⟩⟩ := HX.out _ hz3
  go_upto_region 4 with fail
  go_cut [6, 7] (fun s6 s7 wx => CmpMid w3 s6 s7 (.string (itx p.num)) (.string (itx (p.den : Int))) (.string (itx q.num)) (.string (itx (q.den : Int))) wx)
  case first =>
    go_region
    all_goals
      go_wp2_with fail
      go_meet
      first
        | exact cmpMid_ab _ _ _ _ _ _
        | exact cmpMid_ba _ _ _ _ _ _
  case rest =>
    obtain ⟨g6, g7, rfl, rfl, hne, h6, h7, hx6, hx7, hbc⟩ := hcut
    have hz4 := bel_chain hz3 hbc
    have hlt3 : w.heap.size + 1 < w3.heap.size := (HX.out _ hz3).2.1
    have HXc := Lib.hid (fun wz (hb : Below wc.heap.size wc wz) => And.intro (HX.out wz (bel_chain hz4 hb)) (And.intro (hx6.later hb) (hx7.later hb)))
    have HBc := Lib.hid (bel_chain HB.out hz4)
    have HAc := Lib.hid (fun wz (hb : Below wc.heap.size wc wz) => HA.out _ (bel_chain hz4 hb))
    clear hz4
    have hz4 : Below wc.heap.size wc wc := Below.refl _ _
    obtain ⟨⟨⟨_, c400, c401, f400, f401⟩, ⟨_, c410, c411, f410, f411⟩⟩, ⟨_, c420, c421, f420, f421⟩, ⟨_, c430, c431, f430, f431⟩⟩ := HXc.out _ hz4
    go_wp2_with fail
    have hzd := hz4.drew
    have HC1 := Lib.hid ((show Calls _ _ _ wc.drew (SmallRes (.int .i64 (0)) wc.drew) from HC.out ▸ fcompare_any p q wc.drew (HAc.out _ hzd) np nq))
    go_region_held3 (fun w' => w'.cell? ⟨w.heap.size, 0, none⟩ = some (.string (itx p.num)) ∧ w'.cell? ⟨w.heap.size, 1, none⟩ = some (.string (itx (p.den : Int))) ∧ w'.cell? ⟨w.heap.size + 1, 0, none⟩ = some (.string (itx q.num)) ∧ w'.cell? ⟨w.heap.size + 1, 1, none⟩ = some (.string (itx (q.den : Int))) ∧ w'.cell? ⟨g6, 0, none⟩ = some (.string (itx p.num)) ∧ w'.cell? ⟨g6, 1, none⟩ = some (.string (itx (p.den : Int))) ∧ w'.cell? ⟨g7, 0, none⟩ = some (.string (itx q.num)) ∧ w'.cell? ⟨g7, 1, none⟩ = some (.string (itx (q.den : Int)))) (go_keep)
      (first
        | ((with_reducible refine HC5.out.mono ?_); rintro e w9 ⟨rfl, hb9⟩; have hz9 := bel_chain hz8 hb9; obtain ⟨⟨⟨_, c900, c901, f900, f901⟩, ⟨_, c910, c911, f910, f911⟩⟩, ⟨_, c920, c921, f920, f921⟩, ⟨_, c930, c931, f930, f931⟩⟩ := HXc.out _ hz9; have HXL := Lib.hid (HXc.out _ hz9))
        | ((with_reducible refine HC4.out.mono ?_); rintro e w8 ⟨rfl, hb8⟩; have hz8 := bel_chain hz7 hb8; obtain ⟨⟨⟨_, c800, c801, f800, f801⟩, ⟨_, c810, c811, f810, f811⟩⟩, ⟨_, c820, c821, f820, f821⟩, ⟨_, c830, c831, f830, f831⟩⟩ := HXc.out _ hz8; have HC5 := Lib.hid (fmax_eq p q w8 (HAc.out _ hz8) np nq HP.out))
        | ((with_reducible refine HC3.out.mono ?_); rintro e w7 ⟨rfl, hb7⟩; have hz7 := bel_chain hz6 hb7; obtain ⟨⟨⟨_, c700, c701, f700, f701⟩, ⟨_, c710, c711, f710, f711⟩⟩, ⟨_, c720, c721, f720, f721⟩, ⟨_, c730, c731, f730, f731⟩⟩ := HXc.out _ hz7; have HC4 := Lib.hid (fmin_1 p q w7 (HAc.out _ hz7) np nq HN.out))
        | ((with_reducible refine HC2.out.mono ?_); rintro e w6 ⟨rfl, hb6⟩; have hz6 := bel_chain hz5 hb6; obtain ⟨⟨⟨_, c600, c601, f600, f601⟩, ⟨_, c610, c611, f610, f611⟩⟩, ⟨_, c620, c621, f620, f621⟩, ⟨_, c630, c631, f630, f631⟩⟩ := HXc.out _ hz6; have HC3 := Lib.hid (t3rsign_any p w6 np))
        | ((with_reducible refine HC1.out.mono ?_); rintro e w5 ⟨rfl, hb5⟩; have hz5 := bel_chain hzd hb5; obtain ⟨⟨⟨_, c500, c501, f500, f501⟩, ⟨_, c510, c511, f510, f511⟩⟩, ⟨_, c520, c521, f520, f521⟩, ⟨_, c530, c531, f530, f531⟩⟩ := HXc.out _ hz5; have HC2 := Lib.hid (fsign_any p w5 np)))
    go_wp2_with fail
    go_ret
    exact ⟨rfl, bel_chain HBc.out hz9⟩

theorem lawCompares_walk (n0 d0 n1 d1 : ByteArray) (w : World) (hamb : Amb w) :
    Calls Tryz.prog 11 #[.agg #[.string n0, .string d0], .agg #[.string n1, .string d1]] w (SmallRes (.bool true) w) := by
  cases hf : [(n0, d0), (n1, d1)].all fitB with
  | false => exact lawCompares_no n0 d0 n1 d1 w hamb hf
  | true =>
    have hf2 := hf
    simp only [List.all_cons, List.all_nil, Bool.and_true, Bool.and_eq_true] at hf2
    obtain ⟨p, rfl, rfl, hp⟩ := fitB_rat hf2.1
    obtain ⟨q, rfl, rfl, hq⟩ := fitB_rat hf2.2
    by_cases h1 : q < p
    · exact lawCompares_gt p q w hamb hp hq hf (by unfold cmpQ; rw [if_neg (by grind), if_pos h1]) h1
    · by_cases h2 : p < q
      · exact lawCompares_lt p q w hamb hp hq hf (by unfold cmpQ; rw [if_pos h2]) h2
      · exact lawCompares_eq p q w hamb hp hq hf (by unfold cmpQ; rw [if_neg h2, if_neg h1]) (by grind)
end Go.Proofs.YtnofikanepbfhaaGreatDoor
