/- Greater text, out of: U4. -/
import Derived.Test.YtpafocfpofnkpaaGreatDoorGk
namespace Go.Proofs.YtpafocfpofnkpaaGreatDoor
open Go.RowKit Go.PlainAid
attribute [local go_sem] field_rat0 field_rat1
theorem fbeq_den_yes {p q : Rat} (h : p.den = q.den) : ((itx (p.den : Int)).toList == (itx (q.den : Int)).toList) = true := by rw [itx_beq, h]; simp
theorem fbeq_den_no {p q : Rat} (h : ¬ p.den = q.den) : ((itx (p.den : Int)).toList == (itx (q.den : Int)).toList) = false := by
  rw [itx_beq]; simp; omega
set_option maxRecDepth 100000 in
set_option maxHeartbeats 4000000 in
/-- fraction.Div. -/
theorem fdiv_zero (p q : Rat) (w : World) (hp : NQ p 20000) (hq : NQ q 20000) (h0 : q.num = 0) :
    Calls Tryz.prog 84 #[rv p, rv q] w (SmallRes (.tuple #[noRat, .int .i64 17]) w) := by
  obtain ⟨hp1, hp2⟩ := hp
  obtain ⟨hq1, hq2⟩ := hq
  have hs : q.num.sign = 0 := by rw [h0]; rfl
  clear h0
  go_enter Tryz.func84, Tryz.ntmps84
  go_wp2_with fail
  obtain ⟨W, hW⟩ : ∃ W, (((w.alloc (.cells #[.string (itx p.num), .string (itx (p.den : Int))] 24)).alloc (.cells #[.string (itx q.num), .string (itx (q.den : Int))] 24)).alloc (.cells #[.string ⟨#[]⟩, .string ⟨#[]⟩] 24)) = W := ⟨_, rfl⟩
  rw [hW]
  obtain ⟨hX, hBW⟩ := B3.of hW
  clear hW
  have HX := Lib.hid (fun wz (hb : Below W.heap.size W wz) => hX.later hb)
  have HB := Lib.hid hBW
  have hz0 : Below W.heap.size W W := Below.refl _ _
  clear hBW
  obtain ⟨⟨_, c000, c001, f000, f001⟩, ⟨_, c010, c011, f010, f011⟩, ⟨_, c020, c021, f020, f021⟩⟩ := hX
  go_wp2_with fail
  refine (fsign_any q _ ⟨hq1, hq2⟩).mono ?_
  rintro e w1 ⟨rfl, hb1⟩
  have hz1 := bel_chain hz0 hb1
  obtain ⟨⟨_, c100, c101, f100, f101⟩, ⟨_, c110, c111, f110, f111⟩, ⟨_, c120, c121, f120, f121⟩⟩ := HX.out _ hz1
  go_wp2_with fail
  refine ret_cell_tmp rfl rfl (load_rat (g := w.heap.size + 1 + 1) ((HX.out _ hz1).store2 _ _).2.2) rfl ?_
  exact ⟨rfl, ((bel_chain HB.out hz1).setCell (by simp <;> omega) _).setCell (by simp <;> omega) _⟩

set_option maxRecDepth 100000 in
set_option maxHeartbeats 4000000 in
/-- fraction.Div. -/
theorem fdiv_any (p q : Rat) (w : World) (hamb : Amb w) (hp : NQ p 20000) (hq : NQ q 20000) (h0 : q.num ≠ 0) :
    Calls Tryz.prog 84 #[rv p, rv q] w (SmallRes (.tuple #[rv (p / q), .int .i64 0]) w) := by
  obtain ⟨hp1, hp2⟩ := hp
  obtain ⟨hq1, hq2⟩ := hq
  obtain ⟨Q, hQ⟩ : ∃ Q, p / q = Q := ⟨_, rfl⟩
  have HQ := Lib.hid (show Rat.divInt (p.num * q.den) (p.den * q.num) = Q by rw [← hQ, ratDiv])
  rw [hQ]
  clear hQ
  have HD0 := Lib.hid (Int.mul_ne_zero (rden_ne p) h0)
  have hn1 := nz_mul_le hp1 hq2
  have hn2 := nz_mul_le hp2 hq1
  have hsb : (q.num.sign == 0) = false := by rw [beq_eq_false_iff_ne]; exact fun h => h0 (Int.sign_eq_zero_iff_zero.1 h)
  have hdb : (q.num == 0) = false := by rw [beq_eq_false_iff_ne]; exact h0
  clear h0
  have HAMB := Lib.hid hamb
  clear hamb
  go_enter Tryz.func84, Tryz.ntmps84
  go_wp2_with fail
  obtain ⟨W, hW⟩ : ∃ W, (((w.alloc (.cells #[.string (itx p.num), .string (itx (p.den : Int))] 24)).alloc (.cells #[.string (itx q.num), .string (itx (q.den : Int))] 24)).alloc (.cells #[.string ⟨#[]⟩, .string ⟨#[]⟩] 24)) = W := ⟨_, rfl⟩
  rw [hW]
  obtain ⟨hX, hBW⟩ := B3.of hW
  clear hW
  have HX := Lib.hid (fun wz (hb : Below W.heap.size W wz) => hX.later hb)
  have HB := Lib.hid hBW
  have HA := Lib.hid (fun wz (hb : Below W.heap.size W wz) => HAMB.out.below (bel_chain HB.out hb))
  have hz0 : Below W.heap.size W W := Below.refl _ _
  clear hBW
  obtain ⟨⟨_, c000, c001, f000, f001⟩, ⟨_, c010, c011, f010, f011⟩, ⟨_, c020, c021, f020, f021⟩⟩ := hX
  go_wp2_with fail
  refine (fsign_any q _ ⟨hq1, hq2⟩).mono ?_
  rintro e w1 ⟨rfl, hb1⟩
  have hz1 := bel_chain hz0 hb1
  obtain ⟨⟨_, c100, c101, f100, f101⟩, ⟨_, c110, c111, f110, f111⟩, ⟨_, c120, c121, f120, f121⟩⟩ := HX.out _ hz1
  go_wp2_with fail
  have hzd := hz1.drew
  have HC1 := Lib.hid (wmul_any (p.num) (q.den) w1.drew (HA.out _ hzd) (by omega) (by omega))
  go_region_held3 (fun w' => w'.cell? ⟨w.heap.size, 0, none⟩ = some (.string (itx p.num)) ∧ w'.cell? ⟨w.heap.size, 1, none⟩ = some (.string (itx (p.den : Int))) ∧ w'.cell? ⟨w.heap.size + 1, 0, none⟩ = some (.string (itx q.num)) ∧ w'.cell? ⟨w.heap.size + 1, 1, none⟩ = some (.string (itx (q.den : Int)))) (first | exact ⟨(HXL.out.store2 _ _).1.2.1, (HXL.out.store2 _ _).1.2.2.1, (HXL.out.store2 _ _).2.1.2.1, (HXL.out.store2 _ _).2.1.2.2.1⟩ | go_keep)
    (first
      | ((with_reducible refine HC3.out.mono ?_); rintro e w4 ⟨rfl, hb4⟩; have hz4 := bel_chain hz3 hb4; obtain ⟨⟨_, c400, c401, f400, f401⟩, ⟨_, c410, c411, f410, f411⟩, ⟨_, c420, c421, f420, f421⟩⟩ := HX.out _ hz4; have HXL := Lib.hid (HX.out _ hz4))
      | ((with_reducible refine HC2.out.mono ?_); rintro e w3 ⟨rfl, hb3⟩; have hz3 := bel_chain hz2 hb3; obtain ⟨⟨_, c300, c301, f300, f301⟩, ⟨_, c310, c311, f310, f311⟩, ⟨_, c320, c321, f320, f321⟩⟩ := HX.out _ hz3; have HC3 := Lib.hid (flowest_eq (p.num * q.den) (p.den * q.num) Q w3 (HA.out _ hz3) HD0.out (by omega) (by omega) HQ.out))
      | ((with_reducible refine HC1.out.mono ?_); rintro e w2 ⟨rfl, hb2⟩; have hz2 := bel_chain hzd hb2; obtain ⟨⟨_, c200, c201, f200, f201⟩, ⟨_, c210, c211, f210, f211⟩, ⟨_, c220, c221, f220, f221⟩⟩ := HX.out _ hz2; have HC2 := Lib.hid (wmul_any (p.den) (q.num) w2 (HA.out _ hz2) (by omega) (by omega))))
  go_wp2_with fail
  refine ret_cell_tmp rfl rfl (load_rat (g := w.heap.size + 1 + 1) ((HX.out _ hz4).store2 _ _).2.2) rfl ?_
  exact ⟨rfl, ((bel_chain HB.out hz4).setCell (by simp <;> omega) _).setCell (by simp <;> omega) _⟩

set_option maxRecDepth 100000 in
set_option maxHeartbeats 4000000 in
/-- fraction.Add. -/
theorem fadd_ints (p q : Rat) (w : World) (hamb : Amb w) (hp : NQ p 20000) (hq : NQ q 20000) (h1 : p.den = 1) (h2 : q.den = 1) :
    Calls Tryz.prog 111 #[rv p, rv q] w (SmallRes (rv (p + q)) w) := by
  obtain ⟨hp1, hp2⟩ := hp
  obtain ⟨hq1, hq2⟩ := hq
  obtain ⟨Q, hQ⟩ : ∃ Q, p + q = Q := ⟨_, rfl⟩
  have HQ := Lib.hid (show Q.num = p.num + q.num ∧ (Q.den : Int) = 1 by rw [← hQ, ratAdd_same p q (h1.trans h2.symm), h1]; exact rat_one)
  rw [hQ]
  clear hQ
  have ht1 := den_one_yes h1
  have ht2 := den_one_yes h2
  clear h1 h2
  have HAMB := Lib.hid hamb
  clear hamb
  go_enter Tryz.func111, Tryz.ntmps111
  go_wp2_with fail
  obtain ⟨W, hW⟩ : ∃ W, (((w.alloc (.cells #[.string (itx p.num), .string (itx (p.den : Int))] 24)).alloc (.cells #[.string (itx q.num), .string (itx (q.den : Int))] 24)).alloc (.cells #[.string ⟨#[]⟩, .string ⟨#[]⟩] 24)) = W := ⟨_, rfl⟩
  rw [hW]
  obtain ⟨hX, hBW⟩ := B3.of hW
  clear hW
  have HX := Lib.hid (fun wz (hb : Below W.heap.size W wz) => hX.later hb)
  have HB := Lib.hid hBW
  have HA := Lib.hid (fun wz (hb : Below W.heap.size W wz) => HAMB.out.below (bel_chain HB.out hb))
  have hz0 : Below W.heap.size W W := Below.refl _ _
  clear hBW
  obtain ⟨⟨_, c000, c001, f000, f001⟩, ⟨_, c010, c011, f010, f011⟩, ⟨_, c020, c021, f020, f021⟩⟩ := hX
  go_wp2_with fail
  refine (wadd_any p.num q.num _ (HA.out _ hz0) (by omega) (by omega)).mono ?_
  rintro e w1 ⟨rfl, hb1⟩
  have hz1 := bel_chain hz0 hb1
  obtain ⟨⟨_, c100, c101, f100, f101⟩, ⟨_, c110, c111, f110, f111⟩, ⟨_, c120, c121, f120, f121⟩⟩ := HX.out _ hz1
  go_wp2_with fail
  refine ret_cell rfl rfl (load_rat (g := w.heap.size + 1 + 1) ((HX.out _ hz1).store2 _ _).2.2) rfl ?_
  exact ⟨by rw [lit_one, ← HQ.out.1, ← HQ.out.2], ((bel_chain HB.out hz1).setCell (by simp <;> omega) _).setCell (by simp <;> omega) _⟩

set_option maxRecDepth 100000 in
set_option maxHeartbeats 4000000 in
/-- fraction.Add. -/
theorem fadd_a_short (p q : Rat) (w : World) (hamb : Amb w) (hp : NQ p 20000) (hq : NQ q 20000) (h1 : ¬ p.den = 1) (hs1 : ShortQ p) (hs2 : ShortQ q) :
    Calls Tryz.prog 111 #[rv p, rv q] w (SmallRes (rv (p + q)) w) := by
  obtain ⟨hp1, hp2⟩ := hp
  obtain ⟨hq1, hq2⟩ := hq
  obtain ⟨Q, hQ⟩ : ∃ Q, p + q = Q := ⟨_, rfl⟩
  have HQ := Lib.hid (show Rat.divInt (p.num * q.den + q.num * p.den) (p.den * q.den) = Q by rw [← hQ, ratAdd])
  rw [hQ]
  clear hQ
  have k1 := hs1.bd
  have k2 := hs2.bd
  have b1 := mul_bd9 (a := p.num) (b := (q.den : Int)) (by omega) (by omega)
  have b2 := mul_bd9 (a := q.num) (b := (p.den : Int)) (by omega) (by omega)
  have b4 := mul_bd9 (a := (p.den : Int)) (b := (q.den : Int)) (by omega) (by omega)
  have b3 : (0 : Int) < (p.den : Int) * (q.den : Int) := Int.mul_pos (by omega) (by omega)
  have HS1 := Lib.hid hs1
  have HS2 := Lib.hid hs2
  clear hs1 hs2
  have ht1 := den_one_no h1
  clear h1
  have HAMB := Lib.hid hamb
  clear hamb
  go_enter Tryz.func111, Tryz.ntmps111
  go_wp2_with fail
  obtain ⟨W, hW⟩ : ∃ W, (((w.alloc (.cells #[.string (itx p.num), .string (itx (p.den : Int))] 24)).alloc (.cells #[.string (itx q.num), .string (itx (q.den : Int))] 24)).alloc (.cells #[.string ⟨#[]⟩, .string ⟨#[]⟩] 24)) = W := ⟨_, rfl⟩
  rw [hW]
  obtain ⟨hX, hBW⟩ := B3.of hW
  clear hW
  have HX := Lib.hid (fun wz (hb : Below W.heap.size W wz) => hX.later hb)
  have HB := Lib.hid hBW
  have HA := Lib.hid (fun wz (hb : Below W.heap.size W wz) => HAMB.out.below (bel_chain HB.out hb))
  have hz0 : Below W.heap.size W W := Below.refl _ _
  clear hBW
  obtain ⟨⟨_, c000, c001, f000, f001⟩, ⟨_, c010, c011, f010, f011⟩, ⟨_, c020, c021, f020, f021⟩⟩ := hX
  go_wp2_with fail
  refine (fboth_yes p _ HS1.out).mono ?_
  rintro e w1 ⟨rfl, hb1⟩
  have hz1 := bel_chain hz0 hb1
  obtain ⟨⟨_, c100, c101, f100, f101⟩, ⟨_, c110, c111, f110, f111⟩, ⟨_, c120, c121, f120, f121⟩⟩ := HX.out _ hz1
  go_wp2_with fail
  refine (fboth_yes q _ HS2.out).mono ?_
  rintro e w2 ⟨rfl, hb2⟩
  have hz2 := bel_chain hz1 hb2
  obtain ⟨⟨_, c200, c201, f200, f201⟩, ⟨_, c210, c211, f210, f211⟩, ⟨_, c220, c221, f220, f221⟩⟩ := HX.out _ hz2
  go_wp2_with fail
  refine (fof_eq (p.num * q.den + q.num * p.den) (p.den * q.den) Q _ (HA.out _ hz2) (by omega) (by omega) (by omega) (by omega) HQ.out).mono ?_
  rintro e w3 ⟨rfl, hb3⟩
  have hz3 := bel_chain hz2 hb3
  obtain ⟨⟨_, c300, c301, f300, f301⟩, ⟨_, c310, c311, f310, f311⟩, ⟨_, c320, c321, f320, f321⟩⟩ := HX.out _ hz3
  go_wp2_with fail
  refine ret_cell rfl rfl (load_rat (g := w.heap.size + 1 + 1) ((HX.out _ hz3).store2 _ _).2.2) rfl ?_
  exact ⟨rfl, ((bel_chain HB.out hz3).setCell (by simp <;> omega) _).setCell (by simp <;> omega) _⟩

set_option maxRecDepth 100000 in
set_option maxHeartbeats 4000000 in
/-- fraction.Add. -/
theorem fadd_a_long1 (p q : Rat) (w : World) (hamb : Amb w) (hp : NQ p 20000) (hq : NQ q 20000) (h1 : ¬ p.den = 1) (hs : ¬ ShortQ p) :
    Calls Tryz.prog 111 #[rv p, rv q] w (SmallRes (rv (p + q)) w) := by
  obtain ⟨hp1, hp2⟩ := hp
  obtain ⟨hq1, hq2⟩ := hq
  obtain ⟨Q, hQ⟩ : ∃ Q, p + q = Q := ⟨_, rfl⟩
  have HQ := Lib.hid (show Rat.divInt (p.num * q.den + q.num * p.den) (p.den * q.den) = Q by rw [← hQ, ratAdd])
  rw [hQ]
  clear hQ
  have HD0 := Lib.hid (Int.mul_ne_zero (rden_ne p) (rden_ne q))
  have hn1 := nz_mul_le hp1 hq2
  have hn2 := nz_mul_le hq1 hp2
  have hn3 := nz_mul_le hp2 hq2
  have hn4 := nz_add_le (k := 40000) hn1 hn2
  have ht1 := den_one_no h1
  clear h1
  have HS := Lib.hid hs
  clear hs
  have HAMB := Lib.hid hamb
  clear hamb
  go_enter Tryz.func111, Tryz.ntmps111
  go_wp2_with fail
  obtain ⟨W, hW⟩ : ∃ W, (((w.alloc (.cells #[.string (itx p.num), .string (itx (p.den : Int))] 24)).alloc (.cells #[.string (itx q.num), .string (itx (q.den : Int))] 24)).alloc (.cells #[.string ⟨#[]⟩, .string ⟨#[]⟩] 24)) = W := ⟨_, rfl⟩
  rw [hW]
  obtain ⟨hX, hBW⟩ := B3.of hW
  clear hW
  have HX := Lib.hid (fun wz (hb : Below W.heap.size W wz) => hX.later hb)
  have HB := Lib.hid hBW
  have HA := Lib.hid (fun wz (hb : Below W.heap.size W wz) => HAMB.out.below (bel_chain HB.out hb))
  have hz0 : Below W.heap.size W W := Below.refl _ _
  clear hBW
  obtain ⟨⟨_, c000, c001, f000, f001⟩, ⟨_, c010, c011, f010, f011⟩, ⟨_, c020, c021, f020, f021⟩⟩ := hX
  go_wp2_with fail
  refine (fboth_no p _ HS.out).mono ?_
  rintro e w1 ⟨n1, d1, rfl, hb1⟩
  have hz1 := bel_chain hz0 hb1
  obtain ⟨⟨_, c100, c101, f100, f101⟩, ⟨_, c110, c111, f110, f111⟩, ⟨_, c120, c121, f120, f121⟩⟩ := HX.out _ hz1
  go_wp2_with fail
  have hzd := hz1.drew
  have HC1 := Lib.hid (wmul_any (p.num) (q.den) w1.drew (HA.out _ hzd) (by omega) (by omega))
  go_region_held3 (fun w' => w'.cell? ⟨w.heap.size, 0, none⟩ = some (.string (itx p.num)) ∧ w'.cell? ⟨w.heap.size, 1, none⟩ = some (.string (itx (p.den : Int))) ∧ w'.cell? ⟨w.heap.size + 1, 0, none⟩ = some (.string (itx q.num)) ∧ w'.cell? ⟨w.heap.size + 1, 1, none⟩ = some (.string (itx (q.den : Int)))) (first | exact ⟨(HXL.out.store2 _ _).1.2.1, (HXL.out.store2 _ _).1.2.2.1, (HXL.out.store2 _ _).2.1.2.1, (HXL.out.store2 _ _).2.1.2.2.1⟩ | go_keep)
    (first
      | ((with_reducible refine HC5.out.mono ?_); rintro e w6 ⟨rfl, hb6⟩; have hz6 := bel_chain hz5 hb6; obtain ⟨⟨_, c600, c601, f600, f601⟩, ⟨_, c610, c611, f610, f611⟩, ⟨_, c620, c621, f620, f621⟩⟩ := HX.out _ hz6; have HXL := Lib.hid (HX.out _ hz6))
      | ((with_reducible refine HC4.out.mono ?_); rintro e w5 ⟨rfl, hb5⟩; have hz5 := bel_chain hz4 hb5; obtain ⟨⟨_, c500, c501, f500, f501⟩, ⟨_, c510, c511, f510, f511⟩, ⟨_, c520, c521, f520, f521⟩⟩ := HX.out _ hz5; have HC5 := Lib.hid (flowest_eq (p.num * q.den + q.num * p.den) (p.den * q.den) Q w5 (HA.out _ hz5) HD0.out (by omega) (by omega) HQ.out))
      | ((with_reducible refine HC3.out.mono ?_); rintro e w4 ⟨rfl, hb4⟩; have hz4 := bel_chain hz3 hb4; obtain ⟨⟨_, c400, c401, f400, f401⟩, ⟨_, c410, c411, f410, f411⟩, ⟨_, c420, c421, f420, f421⟩⟩ := HX.out _ hz4; have HC4 := Lib.hid (wmul_any (p.den) (q.den) w4 (HA.out _ hz4) (by omega) (by omega)))
      | ((with_reducible refine HC2.out.mono ?_); rintro e w3 ⟨rfl, hb3⟩; have hz3 := bel_chain hz2 hb3; obtain ⟨⟨_, c300, c301, f300, f301⟩, ⟨_, c310, c311, f310, f311⟩, ⟨_, c320, c321, f320, f321⟩⟩ := HX.out _ hz3; have HC3 := Lib.hid (wadd_any (p.num * q.den) (q.num * p.den) w3 (HA.out _ hz3) (by omega) (by omega)))
      | ((with_reducible refine HC1.out.mono ?_); rintro e w2 ⟨rfl, hb2⟩; have hz2 := bel_chain hzd hb2; obtain ⟨⟨_, c200, c201, f200, f201⟩, ⟨_, c210, c211, f210, f211⟩, ⟨_, c220, c221, f220, f221⟩⟩ := HX.out _ hz2; have HC2 := Lib.hid (wmul_any (q.num) (p.den) w2 (HA.out _ hz2) (by omega) (by omega))))
  go_wp2_with fail
  refine ret_cell rfl rfl (load_rat (g := w.heap.size + 1 + 1) ((HX.out _ hz6).store2 _ _).2.2) rfl ?_
  exact ⟨rfl, ((bel_chain HB.out hz6).setCell (by simp <;> omega) _).setCell (by simp <;> omega) _⟩

set_option maxRecDepth 100000 in
set_option maxHeartbeats 4000000 in
/-- fraction.Add. -/
theorem fadd_a_long2 (p q : Rat) (w : World) (hamb : Amb w) (hp : NQ p 20000) (hq : NQ q 20000) (h1 : ¬ p.den = 1) (hs1 : ShortQ p) (hs : ¬ ShortQ q) :
    Calls Tryz.prog 111 #[rv p, rv q] w (SmallRes (rv (p + q)) w) := by
  obtain ⟨hp1, hp2⟩ := hp
  obtain ⟨hq1, hq2⟩ := hq
  obtain ⟨Q, hQ⟩ : ∃ Q, p + q = Q := ⟨_, rfl⟩
  have HQ := Lib.hid (show Rat.divInt (p.num * q.den + q.num * p.den) (p.den * q.den) = Q by rw [← hQ, ratAdd])
  rw [hQ]
  clear hQ
  have HD0 := Lib.hid (Int.mul_ne_zero (rden_ne p) (rden_ne q))
  have hn1 := nz_mul_le hp1 hq2
  have hn2 := nz_mul_le hq1 hp2
  have hn3 := nz_mul_le hp2 hq2
  have hn4 := nz_add_le (k := 40000) hn1 hn2
  have ht1 := den_one_no h1
  clear h1
  have HS1 := Lib.hid hs1
  have HS := Lib.hid hs
  clear hs hs1
  have HAMB := Lib.hid hamb
  clear hamb
  go_enter Tryz.func111, Tryz.ntmps111
  go_wp2_with fail
  obtain ⟨W, hW⟩ : ∃ W, (((w.alloc (.cells #[.string (itx p.num), .string (itx (p.den : Int))] 24)).alloc (.cells #[.string (itx q.num), .string (itx (q.den : Int))] 24)).alloc (.cells #[.string ⟨#[]⟩, .string ⟨#[]⟩] 24)) = W := ⟨_, rfl⟩
  rw [hW]
  obtain ⟨hX, hBW⟩ := B3.of hW
  clear hW
  have HX := Lib.hid (fun wz (hb : Below W.heap.size W wz) => hX.later hb)
  have HB := Lib.hid hBW
  have HA := Lib.hid (fun wz (hb : Below W.heap.size W wz) => HAMB.out.below (bel_chain HB.out hb))
  have hz0 : Below W.heap.size W W := Below.refl _ _
  clear hBW
  obtain ⟨⟨_, c000, c001, f000, f001⟩, ⟨_, c010, c011, f010, f011⟩, ⟨_, c020, c021, f020, f021⟩⟩ := hX
  go_wp2_with fail
  refine (fboth_yes p _ HS1.out).mono ?_
  rintro e w1 ⟨rfl, hb1⟩
  have hz1 := bel_chain hz0 hb1
  obtain ⟨⟨_, c100, c101, f100, f101⟩, ⟨_, c110, c111, f110, f111⟩, ⟨_, c120, c121, f120, f121⟩⟩ := HX.out _ hz1
  go_wp2_with fail
  refine (fboth_no q _ HS.out).mono ?_
  rintro e w2 ⟨n1, d1, rfl, hb2⟩
  have hz2 := bel_chain hz1 hb2
  obtain ⟨⟨_, c200, c201, f200, f201⟩, ⟨_, c210, c211, f210, f211⟩, ⟨_, c220, c221, f220, f221⟩⟩ := HX.out _ hz2
  go_wp2_with fail
  have hzd := hz2.drew
  have HC1 := Lib.hid (wmul_any (p.num) (q.den) w2.drew (HA.out _ hzd) (by omega) (by omega))
  go_region_held3 (fun w' => w'.cell? ⟨w.heap.size, 0, none⟩ = some (.string (itx p.num)) ∧ w'.cell? ⟨w.heap.size, 1, none⟩ = some (.string (itx (p.den : Int))) ∧ w'.cell? ⟨w.heap.size + 1, 0, none⟩ = some (.string (itx q.num)) ∧ w'.cell? ⟨w.heap.size + 1, 1, none⟩ = some (.string (itx (q.den : Int)))) (first | exact ⟨(HXL.out.store2 _ _).1.2.1, (HXL.out.store2 _ _).1.2.2.1, (HXL.out.store2 _ _).2.1.2.1, (HXL.out.store2 _ _).2.1.2.2.1⟩ | go_keep)
    (first
      | ((with_reducible refine HC5.out.mono ?_); rintro e w7 ⟨rfl, hb7⟩; have hz7 := bel_chain hz6 hb7; obtain ⟨⟨_, c700, c701, f700, f701⟩, ⟨_, c710, c711, f710, f711⟩, ⟨_, c720, c721, f720, f721⟩⟩ := HX.out _ hz7; have HXL := Lib.hid (HX.out _ hz7))
      | ((with_reducible refine HC4.out.mono ?_); rintro e w6 ⟨rfl, hb6⟩; have hz6 := bel_chain hz5 hb6; obtain ⟨⟨_, c600, c601, f600, f601⟩, ⟨_, c610, c611, f610, f611⟩, ⟨_, c620, c621, f620, f621⟩⟩ := HX.out _ hz6; have HC5 := Lib.hid (flowest_eq (p.num * q.den + q.num * p.den) (p.den * q.den) Q w6 (HA.out _ hz6) HD0.out (by omega) (by omega) HQ.out))
      | ((with_reducible refine HC3.out.mono ?_); rintro e w5 ⟨rfl, hb5⟩; have hz5 := bel_chain hz4 hb5; obtain ⟨⟨_, c500, c501, f500, f501⟩, ⟨_, c510, c511, f510, f511⟩, ⟨_, c520, c521, f520, f521⟩⟩ := HX.out _ hz5; have HC4 := Lib.hid (wmul_any (p.den) (q.den) w5 (HA.out _ hz5) (by omega) (by omega)))
      | ((with_reducible refine HC2.out.mono ?_); rintro e w4 ⟨rfl, hb4⟩; have hz4 := bel_chain hz3 hb4; obtain ⟨⟨_, c400, c401, f400, f401⟩, ⟨_, c410, c411, f410, f411⟩, ⟨_, c420, c421, f420, f421⟩⟩ := HX.out _ hz4; have HC3 := Lib.hid (wadd_any (p.num * q.den) (q.num * p.den) w4 (HA.out _ hz4) (by omega) (by omega)))
      | ((with_reducible refine HC1.out.mono ?_); rintro e w3 ⟨rfl, hb3⟩; have hz3 := bel_chain hzd hb3; obtain ⟨⟨_, c300, c301, f300, f301⟩, ⟨_, c310, c311, f310, f311⟩, ⟨_, c320, c321, f320, f321⟩⟩ := HX.out _ hz3; have HC2 := Lib.hid (wmul_any (q.num) (p.den) w3 (HA.out _ hz3) (by omega) (by omega))))
  go_wp2_with fail
  refine ret_cell rfl rfl (load_rat (g := w.heap.size + 1 + 1) ((HX.out _ hz7).store2 _ _).2.2) rfl ?_
  exact ⟨rfl, ((bel_chain HB.out hz7).setCell (by simp <;> omega) _).setCell (by simp <;> omega) _⟩

set_option maxRecDepth 100000 in
set_option maxHeartbeats 4000000 in
/-- fraction.Add. -/
theorem fadd_b_short (p q : Rat) (w : World) (hamb : Amb w) (hp : NQ p 20000) (hq : NQ q 20000) (h1 : p.den = 1) (h2 : ¬ q.den = 1) (hs1 : ShortQ p) (hs2 : ShortQ q) :
    Calls Tryz.prog 111 #[rv p, rv q] w (SmallRes (rv (p + q)) w) := by
  obtain ⟨hp1, hp2⟩ := hp
  obtain ⟨hq1, hq2⟩ := hq
  obtain ⟨Q, hQ⟩ : ∃ Q, p + q = Q := ⟨_, rfl⟩
  have HQ := Lib.hid (show Rat.divInt (p.num * q.den + q.num * p.den) (p.den * q.den) = Q by rw [← hQ, ratAdd])
  rw [hQ]
  clear hQ
  have k1 := hs1.bd
  have k2 := hs2.bd
  have b1 := mul_bd9 (a := p.num) (b := (q.den : Int)) (by omega) (by omega)
  have b2 := mul_bd9 (a := q.num) (b := (p.den : Int)) (by omega) (by omega)
  have b4 := mul_bd9 (a := (p.den : Int)) (b := (q.den : Int)) (by omega) (by omega)
  have b3 : (0 : Int) < (p.den : Int) * (q.den : Int) := Int.mul_pos (by omega) (by omega)
  have HS1 := Lib.hid hs1
  have HS2 := Lib.hid hs2
  clear hs1 hs2
  have ht1 := den_one_yes h1
  have ht2 := den_one_no h2
  clear h1 h2
  have HAMB := Lib.hid hamb
  clear hamb
  go_enter Tryz.func111, Tryz.ntmps111
  go_wp2_with fail
  obtain ⟨W, hW⟩ : ∃ W, (((w.alloc (.cells #[.string (itx p.num), .string (itx (p.den : Int))] 24)).alloc (.cells #[.string (itx q.num), .string (itx (q.den : Int))] 24)).alloc (.cells #[.string ⟨#[]⟩, .string ⟨#[]⟩] 24)) = W := ⟨_, rfl⟩
  rw [hW]
  obtain ⟨hX, hBW⟩ := B3.of hW
  clear hW
  have HX := Lib.hid (fun wz (hb : Below W.heap.size W wz) => hX.later hb)
  have HB := Lib.hid hBW
  have HA := Lib.hid (fun wz (hb : Below W.heap.size W wz) => HAMB.out.below (bel_chain HB.out hb))
  have hz0 : Below W.heap.size W W := Below.refl _ _
  clear hBW
  obtain ⟨⟨_, c000, c001, f000, f001⟩, ⟨_, c010, c011, f010, f011⟩, ⟨_, c020, c021, f020, f021⟩⟩ := hX
  go_wp2_with fail
  refine (fboth_yes p _ HS1.out).mono ?_
  rintro e w1 ⟨rfl, hb1⟩
  have hz1 := bel_chain hz0 hb1
  obtain ⟨⟨_, c100, c101, f100, f101⟩, ⟨_, c110, c111, f110, f111⟩, ⟨_, c120, c121, f120, f121⟩⟩ := HX.out _ hz1
  go_wp2_with fail
  refine (fboth_yes q _ HS2.out).mono ?_
  rintro e w2 ⟨rfl, hb2⟩
  have hz2 := bel_chain hz1 hb2
  obtain ⟨⟨_, c200, c201, f200, f201⟩, ⟨_, c210, c211, f210, f211⟩, ⟨_, c220, c221, f220, f221⟩⟩ := HX.out _ hz2
  go_wp2_with fail
  refine (fof_eq (p.num * q.den + q.num * p.den) (p.den * q.den) Q _ (HA.out _ hz2) (by omega) (by omega) (by omega) (by omega) HQ.out).mono ?_
  rintro e w3 ⟨rfl, hb3⟩
  have hz3 := bel_chain hz2 hb3
  obtain ⟨⟨_, c300, c301, f300, f301⟩, ⟨_, c310, c311, f310, f311⟩, ⟨_, c320, c321, f320, f321⟩⟩ := HX.out _ hz3
  go_wp2_with fail
  refine ret_cell rfl rfl (load_rat (g := w.heap.size + 1 + 1) ((HX.out _ hz3).store2 _ _).2.2) rfl ?_
  exact ⟨rfl, ((bel_chain HB.out hz3).setCell (by simp <;> omega) _).setCell (by simp <;> omega) _⟩

set_option maxRecDepth 100000 in
set_option maxHeartbeats 4000000 in
/-- fraction.Add. -/
theorem fadd_b_long1 (p q : Rat) (w : World) (hamb : Amb w) (hp : NQ p 20000) (hq : NQ q 20000) (h1 : p.den = 1) (h2 : ¬ q.den = 1) (hs : ¬ ShortQ p) :
    Calls Tryz.prog 111 #[rv p, rv q] w (SmallRes (rv (p + q)) w) := by
  obtain ⟨hp1, hp2⟩ := hp
  obtain ⟨hq1, hq2⟩ := hq
  obtain ⟨Q, hQ⟩ : ∃ Q, p + q = Q := ⟨_, rfl⟩
  have HQ := Lib.hid (show Rat.divInt (p.num * q.den + q.num * p.den) (p.den * q.den) = Q by rw [← hQ, ratAdd])
  rw [hQ]
  clear hQ
  have HD0 := Lib.hid (Int.mul_ne_zero (rden_ne p) (rden_ne q))
  have hn1 := nz_mul_le hp1 hq2
  have hn2 := nz_mul_le hq1 hp2
  have hn3 := nz_mul_le hp2 hq2
  have hn4 := nz_add_le (k := 40000) hn1 hn2
  have ht1 := den_one_yes h1
  have ht2 := den_one_no h2
  clear h1 h2
  have HS := Lib.hid hs
  clear hs
  have HAMB := Lib.hid hamb
  clear hamb
  go_enter Tryz.func111, Tryz.ntmps111
  go_wp2_with fail
  obtain ⟨W, hW⟩ : ∃ W, (((w.alloc (.cells #[.string (itx p.num), .string (itx (p.den : Int))] 24)).alloc (.cells #[.string (itx q.num), .string (itx (q.den : Int))] 24)).alloc (.cells #[.string ⟨#[]⟩, .string ⟨#[]⟩] 24)) = W := ⟨_, rfl⟩
  rw [hW]
  obtain ⟨hX, hBW⟩ := B3.of hW
  clear hW
  have HX := Lib.hid (fun wz (hb : Below W.heap.size W wz) => hX.later hb)
  have HB := Lib.hid hBW
  have HA := Lib.hid (fun wz (hb : Below W.heap.size W wz) => HAMB.out.below (bel_chain HB.out hb))
  have hz0 : Below W.heap.size W W := Below.refl _ _
  clear hBW
  obtain ⟨⟨_, c000, c001, f000, f001⟩, ⟨_, c010, c011, f010, f011⟩, ⟨_, c020, c021, f020, f021⟩⟩ := hX
  go_wp2_with fail
  refine (fboth_no p _ HS.out).mono ?_
  rintro e w1 ⟨n1, d1, rfl, hb1⟩
  have hz1 := bel_chain hz0 hb1
  obtain ⟨⟨_, c100, c101, f100, f101⟩, ⟨_, c110, c111, f110, f111⟩, ⟨_, c120, c121, f120, f121⟩⟩ := HX.out _ hz1
  go_wp2_with fail
  have hzd := hz1.drew
  have HC1 := Lib.hid (wmul_any (p.num) (q.den) w1.drew (HA.out _ hzd) (by omega) (by omega))
  go_region_held3 (fun w' => w'.cell? ⟨w.heap.size, 0, none⟩ = some (.string (itx p.num)) ∧ w'.cell? ⟨w.heap.size, 1, none⟩ = some (.string (itx (p.den : Int))) ∧ w'.cell? ⟨w.heap.size + 1, 0, none⟩ = some (.string (itx q.num)) ∧ w'.cell? ⟨w.heap.size + 1, 1, none⟩ = some (.string (itx (q.den : Int)))) (first | exact ⟨(HXL.out.store2 _ _).1.2.1, (HXL.out.store2 _ _).1.2.2.1, (HXL.out.store2 _ _).2.1.2.1, (HXL.out.store2 _ _).2.1.2.2.1⟩ | go_keep)
    (first
      | ((with_reducible refine HC5.out.mono ?_); rintro e w6 ⟨rfl, hb6⟩; have hz6 := bel_chain hz5 hb6; obtain ⟨⟨_, c600, c601, f600, f601⟩, ⟨_, c610, c611, f610, f611⟩, ⟨_, c620, c621, f620, f621⟩⟩ := HX.out _ hz6; have HXL := Lib.hid (HX.out _ hz6))
      | ((with_reducible refine HC4.out.mono ?_); rintro e w5 ⟨rfl, hb5⟩; have hz5 := bel_chain hz4 hb5; obtain ⟨⟨_, c500, c501, f500, f501⟩, ⟨_, c510, c511, f510, f511⟩, ⟨_, c520, c521, f520, f521⟩⟩ := HX.out _ hz5; have HC5 := Lib.hid (flowest_eq (p.num * q.den + q.num * p.den) (p.den * q.den) Q w5 (HA.out _ hz5) HD0.out (by omega) (by omega) HQ.out))
      | ((with_reducible refine HC3.out.mono ?_); rintro e w4 ⟨rfl, hb4⟩; have hz4 := bel_chain hz3 hb4; obtain ⟨⟨_, c400, c401, f400, f401⟩, ⟨_, c410, c411, f410, f411⟩, ⟨_, c420, c421, f420, f421⟩⟩ := HX.out _ hz4; have HC4 := Lib.hid (wmul_any (p.den) (q.den) w4 (HA.out _ hz4) (by omega) (by omega)))
      | ((with_reducible refine HC2.out.mono ?_); rintro e w3 ⟨rfl, hb3⟩; have hz3 := bel_chain hz2 hb3; obtain ⟨⟨_, c300, c301, f300, f301⟩, ⟨_, c310, c311, f310, f311⟩, ⟨_, c320, c321, f320, f321⟩⟩ := HX.out _ hz3; have HC3 := Lib.hid (wadd_any (p.num * q.den) (q.num * p.den) w3 (HA.out _ hz3) (by omega) (by omega)))
      | ((with_reducible refine HC1.out.mono ?_); rintro e w2 ⟨rfl, hb2⟩; have hz2 := bel_chain hzd hb2; obtain ⟨⟨_, c200, c201, f200, f201⟩, ⟨_, c210, c211, f210, f211⟩, ⟨_, c220, c221, f220, f221⟩⟩ := HX.out _ hz2; have HC2 := Lib.hid (wmul_any (q.num) (p.den) w2 (HA.out _ hz2) (by omega) (by omega))))
  go_wp2_with fail
  refine ret_cell rfl rfl (load_rat (g := w.heap.size + 1 + 1) ((HX.out _ hz6).store2 _ _).2.2) rfl ?_
  exact ⟨rfl, ((bel_chain HB.out hz6).setCell (by simp <;> omega) _).setCell (by simp <;> omega) _⟩

set_option maxRecDepth 100000 in
set_option maxHeartbeats 4000000 in
/-- fraction.Add. -/
theorem fadd_b_long2 (p q : Rat) (w : World) (hamb : Amb w) (hp : NQ p 20000) (hq : NQ q 20000) (h1 : p.den = 1) (h2 : ¬ q.den = 1) (hs1 : ShortQ p) (hs : ¬ ShortQ q) :
    Calls Tryz.prog 111 #[rv p, rv q] w (SmallRes (rv (p + q)) w) := by
  obtain ⟨hp1, hp2⟩ := hp
  obtain ⟨hq1, hq2⟩ := hq
  obtain ⟨Q, hQ⟩ : ∃ Q, p + q = Q := ⟨_, rfl⟩
  have HQ := Lib.hid (show Rat.divInt (p.num * q.den + q.num * p.den) (p.den * q.den) = Q by rw [← hQ, ratAdd])
  rw [hQ]
  clear hQ
  have HD0 := Lib.hid (Int.mul_ne_zero (rden_ne p) (rden_ne q))
  have hn1 := nz_mul_le hp1 hq2
  have hn2 := nz_mul_le hq1 hp2
  have hn3 := nz_mul_le hp2 hq2
  have hn4 := nz_add_le (k := 40000) hn1 hn2
  have ht1 := den_one_yes h1
  have ht2 := den_one_no h2
  clear h1 h2
  have HS1 := Lib.hid hs1
  have HS := Lib.hid hs
  clear hs hs1
  have HAMB := Lib.hid hamb
  clear hamb
  go_enter Tryz.func111, Tryz.ntmps111
  go_wp2_with fail
  obtain ⟨W, hW⟩ : ∃ W, (((w.alloc (.cells #[.string (itx p.num), .string (itx (p.den : Int))] 24)).alloc (.cells #[.string (itx q.num), .string (itx (q.den : Int))] 24)).alloc (.cells #[.string ⟨#[]⟩, .string ⟨#[]⟩] 24)) = W := ⟨_, rfl⟩
  rw [hW]
  obtain ⟨hX, hBW⟩ := B3.of hW
  clear hW
  have HX := Lib.hid (fun wz (hb : Below W.heap.size W wz) => hX.later hb)
  have HB := Lib.hid hBW
  have HA := Lib.hid (fun wz (hb : Below W.heap.size W wz) => HAMB.out.below (bel_chain HB.out hb))
  have hz0 : Below W.heap.size W W := Below.refl _ _
  clear hBW
  obtain ⟨⟨_, c000, c001, f000, f001⟩, ⟨_, c010, c011, f010, f011⟩, ⟨_, c020, c021, f020, f021⟩⟩ := hX
  go_wp2_with fail
  refine (fboth_yes p _ HS1.out).mono ?_
  rintro e w1 ⟨rfl, hb1⟩
  have hz1 := bel_chain hz0 hb1
  obtain ⟨⟨_, c100, c101, f100, f101⟩, ⟨_, c110, c111, f110, f111⟩, ⟨_, c120, c121, f120, f121⟩⟩ := HX.out _ hz1
  go_wp2_with fail
  refine (fboth_no q _ HS.out).mono ?_
  rintro e w2 ⟨n1, d1, rfl, hb2⟩
  have hz2 := bel_chain hz1 hb2
  obtain ⟨⟨_, c200, c201, f200, f201⟩, ⟨_, c210, c211, f210, f211⟩, ⟨_, c220, c221, f220, f221⟩⟩ := HX.out _ hz2
  go_wp2_with fail
  have hzd := hz2.drew
  have HC1 := Lib.hid (wmul_any (p.num) (q.den) w2.drew (HA.out _ hzd) (by omega) (by omega))
  go_region_held3 (fun w' => w'.cell? ⟨w.heap.size, 0, none⟩ = some (.string (itx p.num)) ∧ w'.cell? ⟨w.heap.size, 1, none⟩ = some (.string (itx (p.den : Int))) ∧ w'.cell? ⟨w.heap.size + 1, 0, none⟩ = some (.string (itx q.num)) ∧ w'.cell? ⟨w.heap.size + 1, 1, none⟩ = some (.string (itx (q.den : Int)))) (first | exact ⟨(HXL.out.store2 _ _).1.2.1, (HXL.out.store2 _ _).1.2.2.1, (HXL.out.store2 _ _).2.1.2.1, (HXL.out.store2 _ _).2.1.2.2.1⟩ | go_keep)
    (first
      | ((with_reducible refine HC5.out.mono ?_); rintro e w7 ⟨rfl, hb7⟩; have hz7 := bel_chain hz6 hb7; obtain ⟨⟨_, c700, c701, f700, f701⟩, ⟨_, c710, c711, f710, f711⟩, ⟨_, c720, c721, f720, f721⟩⟩ := HX.out _ hz7; have HXL := Lib.hid (HX.out _ hz7))
      | ((with_reducible refine HC4.out.mono ?_); rintro e w6 ⟨rfl, hb6⟩; have hz6 := bel_chain hz5 hb6; obtain ⟨⟨_, c600, c601, f600, f601⟩, ⟨_, c610, c611, f610, f611⟩, ⟨_, c620, c621, f620, f621⟩⟩ := HX.out _ hz6; have HC5 := Lib.hid (flowest_eq (p.num * q.den + q.num * p.den) (p.den * q.den) Q w6 (HA.out _ hz6) HD0.out (by omega) (by omega) HQ.out))
      | ((with_reducible refine HC3.out.mono ?_); rintro e w5 ⟨rfl, hb5⟩; have hz5 := bel_chain hz4 hb5; obtain ⟨⟨_, c500, c501, f500, f501⟩, ⟨_, c510, c511, f510, f511⟩, ⟨_, c520, c521, f520, f521⟩⟩ := HX.out _ hz5; have HC4 := Lib.hid (wmul_any (p.den) (q.den) w5 (HA.out _ hz5) (by omega) (by omega)))
      | ((with_reducible refine HC2.out.mono ?_); rintro e w4 ⟨rfl, hb4⟩; have hz4 := bel_chain hz3 hb4; obtain ⟨⟨_, c400, c401, f400, f401⟩, ⟨_, c410, c411, f410, f411⟩, ⟨_, c420, c421, f420, f421⟩⟩ := HX.out _ hz4; have HC3 := Lib.hid (wadd_any (p.num * q.den) (q.num * p.den) w4 (HA.out _ hz4) (by omega) (by omega)))
      | ((with_reducible refine HC1.out.mono ?_); rintro e w3 ⟨rfl, hb3⟩; have hz3 := bel_chain hzd hb3; obtain ⟨⟨_, c300, c301, f300, f301⟩, ⟨_, c310, c311, f310, f311⟩, ⟨_, c320, c321, f320, f321⟩⟩ := HX.out _ hz3; have HC2 := Lib.hid (wmul_any (q.num) (p.den) w3 (HA.out _ hz3) (by omega) (by omega))))
  go_wp2_with fail
  refine ret_cell rfl rfl (load_rat (g := w.heap.size + 1 + 1) ((HX.out _ hz7).store2 _ _).2.2) rfl ?_
  exact ⟨rfl, ((bel_chain HB.out hz7).setCell (by simp <;> omega) _).setCell (by simp <;> omega) _⟩

/-- fraction.Add. -/
theorem fadd_any (p q : Rat) (w : World) (hamb : Amb w) (hp : NQ p 20000) (hq : NQ q 20000) :
    Calls Tryz.prog 111 #[rv p, rv q] w (SmallRes (rv (p + q)) w) := by
  by_cases h1 : p.den = 1
  · by_cases h2 : q.den = 1
    · exact fadd_ints p q w hamb hp hq h1 h2
    · by_cases hs1 : ShortQ p
      · by_cases hs2 : ShortQ q
        · exact fadd_b_short p q w hamb hp hq h1 h2 hs1 hs2
        · exact fadd_b_long2 p q w hamb hp hq h1 h2 hs1 hs2
      · exact fadd_b_long1 p q w hamb hp hq h1 h2 hs1
  · by_cases hs1 : ShortQ p
    · by_cases hs2 : ShortQ q
      · exact fadd_a_short p q w hamb hp hq h1 hs1 hs2
      · exact fadd_a_long2 p q w hamb hp hq h1 hs1 hs2
    · exact fadd_a_long1 p q w hamb hp hq h1 hs1

set_option maxRecDepth 100000 in
set_option maxHeartbeats 4000000 in
/-- fraction.Sub. -/
theorem fsub_any (p q : Rat) (w : World) (hamb : Amb w) (hp : NQ p 20000) (hq : NQ q 20000) :
    Calls Tryz.prog 75 #[rv p, rv q] w (SmallRes (rv (p - q)) w) := by
  obtain ⟨hp1, hp2⟩ := hp
  obtain ⟨hq1, hq2⟩ := hq
  obtain ⟨Q, hQ⟩ : ∃ Q, p - q = Q := ⟨_, rfl⟩
  have HQ := Lib.hid (show p + -q = Q by rw [← hQ, Rat.sub_eq_add_neg])
  rw [hQ]
  clear hQ
  have HAMB := Lib.hid hamb
  clear hamb
  go_enter Tryz.func75, Tryz.ntmps75
  go_wp2_with fail
  obtain ⟨W, hW⟩ : ∃ W, (((w.alloc (.cells #[.string (itx p.num), .string (itx (p.den : Int))] 24)).alloc (.cells #[.string (itx q.num), .string (itx (q.den : Int))] 24)).alloc (.cells #[.string ⟨#[]⟩, .string ⟨#[]⟩] 24)) = W := ⟨_, rfl⟩
  rw [hW]
  obtain ⟨hX, hBW⟩ := B3.of hW
  clear hW
  have HX := Lib.hid (fun wz (hb : Below W.heap.size W wz) => hX.later hb)
  have HB := Lib.hid hBW
  have HA := Lib.hid (fun wz (hb : Below W.heap.size W wz) => HAMB.out.below (bel_chain HB.out hb))
  have hz0 : Below W.heap.size W W := Below.refl _ _
  clear hBW
  obtain ⟨⟨_, c000, c001, f000, f001⟩, ⟨_, c010, c011, f010, f011⟩, ⟨_, c020, c021, f020, f021⟩⟩ := hX
  have hzd := hz0.drew
  have HC1 := Lib.hid (fneg_any q W.drew ⟨hq1, hq2⟩)
  go_region_held3 (fun w' => w'.cell? ⟨w.heap.size, 0, none⟩ = some (.string (itx p.num)) ∧ w'.cell? ⟨w.heap.size, 1, none⟩ = some (.string (itx (p.den : Int))) ∧ w'.cell? ⟨w.heap.size + 1, 0, none⟩ = some (.string (itx q.num)) ∧ w'.cell? ⟨w.heap.size + 1, 1, none⟩ = some (.string (itx (q.den : Int)))) (first | exact ⟨(HXL.out.store2 _ _).1.2.1, (HXL.out.store2 _ _).1.2.2.1, (HXL.out.store2 _ _).2.1.2.1, (HXL.out.store2 _ _).2.1.2.2.1⟩ | go_keep)
    (first
      | ((with_reducible refine HC2.out.mono ?_); rintro e w2 ⟨rfl, hb2⟩; have hz2 := bel_chain hz1 hb2; obtain ⟨⟨_, c200, c201, f200, f201⟩, ⟨_, c210, c211, f210, f211⟩, ⟨_, c220, c221, f220, f221⟩⟩ := HX.out _ hz2; have HXL := Lib.hid (HX.out _ hz2))
      | ((with_reducible refine HC1.out.mono ?_); rintro e w1 ⟨rfl, hb1⟩; have hz1 := bel_chain hzd hb1; obtain ⟨⟨_, c100, c101, f100, f101⟩, ⟨_, c110, c111, f110, f111⟩, ⟨_, c120, c121, f120, f121⟩⟩ := HX.out _ hz1; have HC2 := Lib.hid ((show Calls _ _ _ w1 (SmallRes (rv Q) w1) from HQ.out ▸ fadd_any p (-q) w1 (HA.out _ hz1) ⟨hp1, hp2⟩ (NQ.neg ⟨hq1, hq2⟩)))))
  go_wp2_with fail
  refine ret_cell rfl rfl (load_rat (g := w.heap.size + 1 + 1) ((HX.out _ hz2).store2 _ _).2.2) rfl ?_
  exact ⟨rfl, ((bel_chain HB.out hz2).setCell (by simp <;> omega) _).setCell (by simp <;> omega) _⟩

set_option maxRecDepth 100000 in
set_option maxHeartbeats 4000000 in
/-- fraction.Compare. -/
theorem fcompare_short (p q : Rat) (w : World) (hp : NQ p 20000) (hq : NQ q 20000) (hs1 : ShortQ p) (hs2 : ShortQ q) :
    Calls Tryz.prog 37 #[rv p, rv q] w (SmallRes (.int .i64 (cmpQ p q)) w) := by
  obtain ⟨hp1, hp2⟩ := hp
  obtain ⟨hq1, hq2⟩ := hq
  have HC := Lib.hid (cmpQ_cross p q)
  have h1 := hs1.bd
  have h2 := hs2.bd
  have b1 := mul_bd9 (a := p.num) (b := (q.den : Int)) (by omega) (by omega)
  have b2 := mul_bd9 (a := q.num) (b := (p.den : Int)) (by omega) (by omega)
  have HS1 := Lib.hid hs1
  have HS2 := Lib.hid hs2
  clear hs1 hs2
  rw [← HC.out]
  unfold cmpZ
  clear HC
  by_cases hlt : p.num * (q.den : Int) < q.num * (p.den : Int)
  · rw [if_pos hlt]
    go_enter Tryz.func37, Tryz.ntmps37
    go_wp2_with fail
    obtain ⟨W, hW⟩ : ∃ W, ((w.alloc (.cells #[.string (itx p.num), .string (itx (p.den : Int))] 24)).alloc (.cells #[.string (itx q.num), .string (itx (q.den : Int))] 24)) = W := ⟨_, rfl⟩
    rw [hW]
    obtain ⟨hX, hBW⟩ := B2.of hW
    clear hW
    have HX := Lib.hid (fun wz (hb : Below W.heap.size W wz) => hX.later hb)
    have HB := Lib.hid hBW
    have hz0 : Below W.heap.size W W := Below.refl _ _
    clear hBW
    obtain ⟨⟨_, c000, c001, f000, f001⟩, ⟨_, c010, c011, f010, f011⟩⟩ := hX
    go_wp2_with fail
    refine (fboth_yes p _ HS1.out).mono ?_
    rintro e w1 ⟨rfl, hb1⟩
    have hz1 := bel_chain hz0 hb1
    obtain ⟨⟨_, c100, c101, f100, f101⟩, ⟨_, c110, c111, f110, f111⟩⟩ := HX.out _ hz1
    go_wp2_with fail
    refine (fboth_yes q _ HS2.out).mono ?_
    rintro e w2 ⟨rfl, hb2⟩
    have hz2 := bel_chain hz1 hb2
    obtain ⟨⟨_, c200, c201, f200, f201⟩, ⟨_, c210, c211, f210, f211⟩⟩ := HX.out _ hz2
    go_wp2_with fail
    go_ret
    exact ⟨rfl, bel_chain HB.out hz2⟩
  · rw [if_neg hlt]
    by_cases hgt : q.num * (p.den : Int) < p.num * (q.den : Int)
    · rw [if_pos hgt]
      go_enter Tryz.func37, Tryz.ntmps37
      go_wp2_with fail
      obtain ⟨W, hW⟩ : ∃ W, ((w.alloc (.cells #[.string (itx p.num), .string (itx (p.den : Int))] 24)).alloc (.cells #[.string (itx q.num), .string (itx (q.den : Int))] 24)) = W := ⟨_, rfl⟩
      rw [hW]
      obtain ⟨hX, hBW⟩ := B2.of hW
      clear hW
      have HX := Lib.hid (fun wz (hb : Below W.heap.size W wz) => hX.later hb)
      have HB := Lib.hid hBW
      have hz0 : Below W.heap.size W W := Below.refl _ _
      clear hBW
      obtain ⟨⟨_, c000, c001, f000, f001⟩, ⟨_, c010, c011, f010, f011⟩⟩ := hX
      go_wp2_with fail
      refine (fboth_yes p _ HS1.out).mono ?_
      rintro e w1 ⟨rfl, hb1⟩
      have hz1 := bel_chain hz0 hb1
      obtain ⟨⟨_, c100, c101, f100, f101⟩, ⟨_, c110, c111, f110, f111⟩⟩ := HX.out _ hz1
      go_wp2_with fail
      refine (fboth_yes q _ HS2.out).mono ?_
      rintro e w2 ⟨rfl, hb2⟩
      have hz2 := bel_chain hz1 hb2
      obtain ⟨⟨_, c200, c201, f200, f201⟩, ⟨_, c210, c211, f210, f211⟩⟩ := HX.out _ hz2
      go_wp2_with fail
      go_ret
      exact ⟨rfl, bel_chain HB.out hz2⟩
    · rw [if_neg hgt]
      go_enter Tryz.func37, Tryz.ntmps37
      go_wp2_with fail
      obtain ⟨W, hW⟩ : ∃ W, ((w.alloc (.cells #[.string (itx p.num), .string (itx (p.den : Int))] 24)).alloc (.cells #[.string (itx q.num), .string (itx (q.den : Int))] 24)) = W := ⟨_, rfl⟩
      rw [hW]
      obtain ⟨hX, hBW⟩ := B2.of hW
      clear hW
      have HX := Lib.hid (fun wz (hb : Below W.heap.size W wz) => hX.later hb)
      have HB := Lib.hid hBW
      have hz0 : Below W.heap.size W W := Below.refl _ _
      clear hBW
      obtain ⟨⟨_, c000, c001, f000, f001⟩, ⟨_, c010, c011, f010, f011⟩⟩ := hX
      go_wp2_with fail
      refine (fboth_yes p _ HS1.out).mono ?_
      rintro e w1 ⟨rfl, hb1⟩
      have hz1 := bel_chain hz0 hb1
      obtain ⟨⟨_, c100, c101, f100, f101⟩, ⟨_, c110, c111, f110, f111⟩⟩ := HX.out _ hz1
      go_wp2_with fail
      refine (fboth_yes q _ HS2.out).mono ?_
      rintro e w2 ⟨rfl, hb2⟩
      have hz2 := bel_chain hz1 hb2
      obtain ⟨⟨_, c200, c201, f200, f201⟩, ⟨_, c210, c211, f210, f211⟩⟩ := HX.out _ hz2
      go_wp2_with fail
      go_ret
      exact ⟨rfl, bel_chain HB.out hz2⟩

set_option maxRecDepth 100000 in
set_option maxHeartbeats 4000000 in
/-- fraction.Compare. -/
theorem fcompare_s_long1 (p q : Rat) (w : World) (hamb : Amb w) (hp : NQ p 20000) (hq : NQ q 20000) (hd : p.den = q.den) (hs : ¬ ShortQ p) :
    Calls Tryz.prog 37 #[rv p, rv q] w (SmallRes (.int .i64 (cmpQ p q)) w) := by
  obtain ⟨hp1, hp2⟩ := hp
  obtain ⟨hq1, hq2⟩ := hq
  have ht := fbeq_den_yes hd
  have HC := Lib.hid (cmpQ_same p q hd)
  have hn1 := nz_mul_le hp1 hq2
  have hn2 := nz_mul_le hq1 hp2
  generalize cmpQ p q = c at *
  clear hd
  have HS := Lib.hid hs
  clear hs
  have HAMB := Lib.hid hamb
  clear hamb
  go_enter Tryz.func37, Tryz.ntmps37
  go_wp2_with fail
  obtain ⟨W, hW⟩ : ∃ W, ((w.alloc (.cells #[.string (itx p.num), .string (itx (p.den : Int))] 24)).alloc (.cells #[.string (itx q.num), .string (itx (q.den : Int))] 24)) = W := ⟨_, rfl⟩
  rw [hW]
  obtain ⟨hX, hBW⟩ := B2.of hW
  clear hW
  have HX := Lib.hid (fun wz (hb : Below W.heap.size W wz) => hX.later hb)
  have HB := Lib.hid hBW
  have HA := Lib.hid (fun wz (hb : Below W.heap.size W wz) => HAMB.out.below (bel_chain HB.out hb))
  have hz0 : Below W.heap.size W W := Below.refl _ _
  clear hBW
  obtain ⟨⟨_, c000, c001, f000, f001⟩, ⟨_, c010, c011, f010, f011⟩⟩ := hX
  go_wp2_with fail
  refine (fboth_no p _ HS.out).mono ?_
  rintro e w1 ⟨n1, d1, rfl, hb1⟩
  have hz1 := bel_chain hz0 hb1
  obtain ⟨⟨_, c100, c101, f100, f101⟩, ⟨_, c110, c111, f110, f111⟩⟩ := HX.out _ hz1
  go_wp2_with fail
  refine (wcompare_any p.num q.num _ (by omega) (by omega)).mono ?_
  rintro e w2 ⟨rfl, hb2⟩
  have hz2 := bel_chain hz1 hb2
  obtain ⟨⟨_, c200, c201, f200, f201⟩, ⟨_, c210, c211, f210, f211⟩⟩ := HX.out _ hz2
  go_wp2_with fail
  go_ret
  exact ⟨by rw [← HC.out]; rfl, bel_chain HB.out hz2⟩

set_option maxRecDepth 100000 in
set_option maxHeartbeats 4000000 in
/-- fraction.Compare. -/
theorem fcompare_s_long2 (p q : Rat) (w : World) (hamb : Amb w) (hp : NQ p 20000) (hq : NQ q 20000) (hd : p.den = q.den) (hs1 : ShortQ p) (hs : ¬ ShortQ q) :
    Calls Tryz.prog 37 #[rv p, rv q] w (SmallRes (.int .i64 (cmpQ p q)) w) := by
  obtain ⟨hp1, hp2⟩ := hp
  obtain ⟨hq1, hq2⟩ := hq
  have ht := fbeq_den_yes hd
  have HC := Lib.hid (cmpQ_same p q hd)
  have hn1 := nz_mul_le hp1 hq2
  have hn2 := nz_mul_le hq1 hp2
  generalize cmpQ p q = c at *
  clear hd
  have HS1 := Lib.hid hs1
  have HS := Lib.hid hs
  clear hs hs1
  have HAMB := Lib.hid hamb
  clear hamb
  go_enter Tryz.func37, Tryz.ntmps37
  go_wp2_with fail
  obtain ⟨W, hW⟩ : ∃ W, ((w.alloc (.cells #[.string (itx p.num), .string (itx (p.den : Int))] 24)).alloc (.cells #[.string (itx q.num), .string (itx (q.den : Int))] 24)) = W := ⟨_, rfl⟩
  rw [hW]
  obtain ⟨hX, hBW⟩ := B2.of hW
  clear hW
  have HX := Lib.hid (fun wz (hb : Below W.heap.size W wz) => hX.later hb)
  have HB := Lib.hid hBW
  have HA := Lib.hid (fun wz (hb : Below W.heap.size W wz) => HAMB.out.below (bel_chain HB.out hb))
  have hz0 : Below W.heap.size W W := Below.refl _ _
  clear hBW
  obtain ⟨⟨_, c000, c001, f000, f001⟩, ⟨_, c010, c011, f010, f011⟩⟩ := hX
  go_wp2_with fail
  refine (fboth_yes p _ HS1.out).mono ?_
  rintro e w1 ⟨rfl, hb1⟩
  have hz1 := bel_chain hz0 hb1
  obtain ⟨⟨_, c100, c101, f100, f101⟩, ⟨_, c110, c111, f110, f111⟩⟩ := HX.out _ hz1
  go_wp2_with fail
  refine (fboth_no q _ HS.out).mono ?_
  rintro e w2 ⟨n1, d1, rfl, hb2⟩
  have hz2 := bel_chain hz1 hb2
  obtain ⟨⟨_, c200, c201, f200, f201⟩, ⟨_, c210, c211, f210, f211⟩⟩ := HX.out _ hz2
  go_wp2_with fail
  refine (wcompare_any p.num q.num _ (by omega) (by omega)).mono ?_
  rintro e w3 ⟨rfl, hb3⟩
  have hz3 := bel_chain hz2 hb3
  obtain ⟨⟨_, c300, c301, f300, f301⟩, ⟨_, c310, c311, f310, f311⟩⟩ := HX.out _ hz3
  go_wp2_with fail
  go_ret
  exact ⟨by rw [← HC.out]; rfl, bel_chain HB.out hz3⟩

set_option maxRecDepth 100000 in
set_option maxHeartbeats 4000000 in
/-- fraction.Compare. -/
theorem fcompare_d_long1 (p q : Rat) (w : World) (hamb : Amb w) (hp : NQ p 20000) (hq : NQ q 20000) (hd : ¬ p.den = q.den) (hs : ¬ ShortQ p) :
    Calls Tryz.prog 37 #[rv p, rv q] w (SmallRes (.int .i64 (cmpQ p q)) w) := by
  obtain ⟨hp1, hp2⟩ := hp
  obtain ⟨hq1, hq2⟩ := hq
  have ht := fbeq_den_no hd
  have HC := Lib.hid (cmpQ_cross p q)
  have hn1 := nz_mul_le hp1 hq2
  have hn2 := nz_mul_le hq1 hp2
  generalize cmpQ p q = c at *
  clear hd
  have HS := Lib.hid hs
  clear hs
  have HAMB := Lib.hid hamb
  clear hamb
  go_enter Tryz.func37, Tryz.ntmps37
  go_wp2_with fail
  obtain ⟨W, hW⟩ : ∃ W, ((w.alloc (.cells #[.string (itx p.num), .string (itx (p.den : Int))] 24)).alloc (.cells #[.string (itx q.num), .string (itx (q.den : Int))] 24)) = W := ⟨_, rfl⟩
  rw [hW]
  obtain ⟨hX, hBW⟩ := B2.of hW
  clear hW
  have HX := Lib.hid (fun wz (hb : Below W.heap.size W wz) => hX.later hb)
  have HB := Lib.hid hBW
  have HA := Lib.hid (fun wz (hb : Below W.heap.size W wz) => HAMB.out.below (bel_chain HB.out hb))
  have hz0 : Below W.heap.size W W := Below.refl _ _
  clear hBW
  obtain ⟨⟨_, c000, c001, f000, f001⟩, ⟨_, c010, c011, f010, f011⟩⟩ := hX
  go_wp2_with fail
  refine (fboth_no p _ HS.out).mono ?_
  rintro e w1 ⟨n1, d1, rfl, hb1⟩
  have hz1 := bel_chain hz0 hb1
  obtain ⟨⟨_, c100, c101, f100, f101⟩, ⟨_, c110, c111, f110, f111⟩⟩ := HX.out _ hz1
  go_wp2_with fail
  have hzd := hz1.drew
  have HC1 := Lib.hid (wmul_any (p.num) (q.den) w1.drew (HA.out _ hzd) (by omega) (by omega))
  go_region_held3 (fun w' => w'.cell? ⟨w.heap.size, 0, none⟩ = some (.string (itx p.num)) ∧ w'.cell? ⟨w.heap.size, 1, none⟩ = some (.string (itx (p.den : Int))) ∧ w'.cell? ⟨w.heap.size + 1, 0, none⟩ = some (.string (itx q.num)) ∧ w'.cell? ⟨w.heap.size + 1, 1, none⟩ = some (.string (itx (q.den : Int)))) (go_keep)
    (first
      | ((with_reducible refine HC3.out.mono ?_); rintro e w4 ⟨rfl, hb4⟩; have hz4 := bel_chain hz3 hb4; obtain ⟨⟨_, c400, c401, f400, f401⟩, ⟨_, c410, c411, f410, f411⟩⟩ := HX.out _ hz4; have HXL := Lib.hid (HX.out _ hz4))
      | ((with_reducible refine HC2.out.mono ?_); rintro e w3 ⟨rfl, hb3⟩; have hz3 := bel_chain hz2 hb3; obtain ⟨⟨_, c300, c301, f300, f301⟩, ⟨_, c310, c311, f310, f311⟩⟩ := HX.out _ hz3; have HC3 := Lib.hid (wcompare_any (p.num * q.den) (q.num * p.den) w3 (by omega) (by omega)))
      | ((with_reducible refine HC1.out.mono ?_); rintro e w2 ⟨rfl, hb2⟩; have hz2 := bel_chain hzd hb2; obtain ⟨⟨_, c200, c201, f200, f201⟩, ⟨_, c210, c211, f210, f211⟩⟩ := HX.out _ hz2; have HC2 := Lib.hid (wmul_any (q.num) (p.den) w2 (HA.out _ hz2) (by omega) (by omega))))
  go_wp2_with fail
  go_ret
  exact ⟨by rw [← HC.out]; rfl, bel_chain HB.out hz4⟩

set_option maxRecDepth 100000 in
set_option maxHeartbeats 4000000 in
/-- fraction.Compare. -/
theorem fcompare_d_long2 (p q : Rat) (w : World) (hamb : Amb w) (hp : NQ p 20000) (hq : NQ q 20000) (hd : ¬ p.den = q.den) (hs1 : ShortQ p) (hs : ¬ ShortQ q) :
    Calls Tryz.prog 37 #[rv p, rv q] w (SmallRes (.int .i64 (cmpQ p q)) w) := by
  obtain ⟨hp1, hp2⟩ := hp
  obtain ⟨hq1, hq2⟩ := hq
  have ht := fbeq_den_no hd
  have HC := Lib.hid (cmpQ_cross p q)
  have hn1 := nz_mul_le hp1 hq2
  have hn2 := nz_mul_le hq1 hp2
  generalize cmpQ p q = c at *
  clear hd
  have HS1 := Lib.hid hs1
  have HS := Lib.hid hs
  clear hs hs1
  have HAMB := Lib.hid hamb
  clear hamb
  go_enter Tryz.func37, Tryz.ntmps37
  go_wp2_with fail
  obtain ⟨W, hW⟩ : ∃ W, ((w.alloc (.cells #[.string (itx p.num), .string (itx (p.den : Int))] 24)).alloc (.cells #[.string (itx q.num), .string (itx (q.den : Int))] 24)) = W := ⟨_, rfl⟩
  rw [hW]
  obtain ⟨hX, hBW⟩ := B2.of hW
  clear hW
  have HX := Lib.hid (fun wz (hb : Below W.heap.size W wz) => hX.later hb)
  have HB := Lib.hid hBW
  have HA := Lib.hid (fun wz (hb : Below W.heap.size W wz) => HAMB.out.below (bel_chain HB.out hb))
  have hz0 : Below W.heap.size W W := Below.refl _ _
  clear hBW
  obtain ⟨⟨_, c000, c001, f000, f001⟩, ⟨_, c010, c011, f010, f011⟩⟩ := hX
  go_wp2_with fail
  refine (fboth_yes p _ HS1.out).mono ?_
  rintro e w1 ⟨rfl, hb1⟩
  have hz1 := bel_chain hz0 hb1
  obtain ⟨⟨_, c100, c101, f100, f101⟩, ⟨_, c110, c111, f110, f111⟩⟩ := HX.out _ hz1
  go_wp2_with fail
  refine (fboth_no q _ HS.out).mono ?_
  rintro e w2 ⟨n1, d1, rfl, hb2⟩
  have hz2 := bel_chain hz1 hb2
  obtain ⟨⟨_, c200, c201, f200, f201⟩, ⟨_, c210, c211, f210, f211⟩⟩ := HX.out _ hz2
  go_wp2_with fail
  have hzd := hz2.drew
  have HC1 := Lib.hid (wmul_any (p.num) (q.den) w2.drew (HA.out _ hzd) (by omega) (by omega))
  go_region_held3 (fun w' => w'.cell? ⟨w.heap.size, 0, none⟩ = some (.string (itx p.num)) ∧ w'.cell? ⟨w.heap.size, 1, none⟩ = some (.string (itx (p.den : Int))) ∧ w'.cell? ⟨w.heap.size + 1, 0, none⟩ = some (.string (itx q.num)) ∧ w'.cell? ⟨w.heap.size + 1, 1, none⟩ = some (.string (itx (q.den : Int)))) (go_keep)
    (first
      | ((with_reducible refine HC3.out.mono ?_); rintro e w5 ⟨rfl, hb5⟩; have hz5 := bel_chain hz4 hb5; obtain ⟨⟨_, c500, c501, f500, f501⟩, ⟨_, c510, c511, f510, f511⟩⟩ := HX.out _ hz5; have HXL := Lib.hid (HX.out _ hz5))
      | ((with_reducible refine HC2.out.mono ?_); rintro e w4 ⟨rfl, hb4⟩; have hz4 := bel_chain hz3 hb4; obtain ⟨⟨_, c400, c401, f400, f401⟩, ⟨_, c410, c411, f410, f411⟩⟩ := HX.out _ hz4; have HC3 := Lib.hid (wcompare_any (p.num * q.den) (q.num * p.den) w4 (by omega) (by omega)))
      | ((with_reducible refine HC1.out.mono ?_); rintro e w3 ⟨rfl, hb3⟩; have hz3 := bel_chain hzd hb3; obtain ⟨⟨_, c300, c301, f300, f301⟩, ⟨_, c310, c311, f310, f311⟩⟩ := HX.out _ hz3; have HC2 := Lib.hid (wmul_any (q.num) (p.den) w3 (HA.out _ hz3) (by omega) (by omega))))
  go_wp2_with fail
  go_ret
  exact ⟨by rw [← HC.out]; rfl, bel_chain HB.out hz5⟩

/-- fraction.Compare. -/
theorem fcompare_any (p q : Rat) (w : World) (hamb : Amb w) (hp : NQ p 20000) (hq : NQ q 20000) :
    Calls Tryz.prog 37 #[rv p, rv q] w (SmallRes (.int .i64 (cmpQ p q)) w) := by
  by_cases hs1 : ShortQ p
  · by_cases hs2 : ShortQ q
    · exact fcompare_short p q w hp hq hs1 hs2
    · by_cases hd : p.den = q.den
      · exact fcompare_s_long2 p q w hamb hp hq hd hs1 hs2
      · exact fcompare_d_long2 p q w hamb hp hq hd hs1 hs2
  · by_cases hd : p.den = q.den
    · exact fcompare_s_long1 p q w hamb hp hq hd hs1
    · exact fcompare_d_long1 p q w hamb hp hq hd hs1

end Go.Proofs.YtpafocfpofnkpaaGreatDoor
