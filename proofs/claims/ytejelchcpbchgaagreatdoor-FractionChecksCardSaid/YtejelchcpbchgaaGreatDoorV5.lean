/- Greater text, out of: V5. -/
import Derived.Test.YtejelchcpbchgaaGreatDoorGn
import Derived.Test.YtejelchcpbchgaaGreatDoorGu
namespace Go.Proofs.YtejelchcpbchgaaGreatDoor
open Go.RowKit Go.PlainAid
attribute [local go_sem] field_rat0 field_rat1

theorem small_fits {z : Int} (h : nz z ≤ 18) : SmallV z = .tuple #[.int .i64 z, .bool true] ∧ -9223372036854775808 ≤ z ∧ z ≤ 9223372036854775807 := by
  have h1 := (nz_le_iff z 17).1 h
  have e : (10 : Nat) ^ (17 + 1) = 1000000000000000000 := by decide
  have hb : -9223372036854775808 ≤ z ∧ z ≤ 9223372036854775807 := by omega
  exact ⟨by unfold SmallV; rw [if_pos hb], hb⟩
theorem mag_itx_len (z : Int) : (⟨(magT (itx z).data.toList).toArray⟩ : ByteArray).size = nz z := by
  rw [← str_size, itx_data]
  show (magT (Lib.itoa z)).length = nz z
  rw [(mag_itoa z).1, Lib.decDigits_length]; rfl
theorem itx_den_size (p : Rat) : (itx (p.den : Int)).size = nz (p.den : Int) := by rw [itx_size, if_neg (by omega)]; rfl
theorem dec_abs_size (z : Int) : (dec z.natAbs).size = nz z := by rw [dec_size]; rfl
set_option maxRecDepth 100000 in
set_option maxHeartbeats 4000000 in
/-- fraction.Small. -/
theorem fsmall_yes (p : Rat) (w : World) (hamb : Amb w) (hp : NQ p 20000) (h1 : nz p.num ≤ 18) (h2 : nz (p.den : Int) ≤ 18) :
    Calls Tryz.prog 41 #[rv p] w (SmallRes (.tuple #[.int .i64 p.num, .int .i64 (p.den : Int), .bool true]) w) := by
  obtain ⟨hp1, hp2⟩ := hp
  have hz1 := dec_abs_size p.num
  have hz2 := itx_den_size p
  have k1 : ¬ (18 : Int) < ((dec p.num.natAbs).size : Int) := by omega
  have k2 : ¬ (18 : Int) < ((itx (p.den : Int)).size : Int) := by omega
  have HS1 := Lib.hid (fun w h => show Calls Tryz.prog 83 #[.string (itx p.num)] w (SmallRes (.tuple #[.int .i64 p.num, .bool true]) w) from (small_fits h1).1 ▸ wsmall_any p.num w h (by omega))
  have HS2 := Lib.hid (fun w h => show Calls Tryz.prog 83 #[.string (itx (p.den : Int))] w (SmallRes (.tuple #[.int .i64 (p.den : Int), .bool true]) w) from (small_fits h2).1 ▸ wsmall_any (p.den : Int) w h (by omega))
  clear hz1 hz2
  have HAMB := Lib.hid hamb
  clear hamb
  go_enter Tryz.func41, Tryz.ntmps41
  go_wp2_with fail
  obtain ⟨W, hW⟩ : ∃ W, (w.alloc (.cells #[.string (itx p.num), .string (itx (p.den : Int))] 27)) = W := ⟨_, rfl⟩
  rw [hW]
  obtain ⟨hX, hBW⟩ := B1.of hW
  clear hW
  have HX := Lib.hid (fun wz (hb : Below W.heap.size W wz) => hX.later hb)
  have HB := Lib.hid hBW
  have HA := Lib.hid (fun wz (hb : Below W.heap.size W wz) => HAMB.out.below (bel_chain HB.out hb))
  have hz0 : Below W.heap.size W W := Below.refl _ _
  clear hBW
  obtain ⟨_, c000, c001, f000, f001⟩ := hX
  go_wp2_with fail
  refine (abs_any p.num _ (by omega)).mono ?_
  rintro e w1 ⟨rfl, hb1⟩
  have hz1 := bel_chain hz0 hb1
  obtain ⟨_, c100, c101, f100, f101⟩ := HX.out _ hz1
  go_wp2_with fail
  refine (HS1.out _ (HA.out _ hz1)).mono ?_
  rintro e w2 ⟨rfl, hb2⟩
  have hz2 := bel_chain hz1 hb2
  obtain ⟨_, c200, c201, f200, f201⟩ := HX.out _ hz2
  go_wp2_with fail
  refine (HS2.out _ (HA.out _ hz2)).mono ?_
  rintro e w3 ⟨rfl, hb3⟩
  have hz3 := bel_chain hz2 hb3
  obtain ⟨_, c300, c301, f300, f301⟩ := HX.out _ hz3
  go_wp2_with fail
  go_ret3
  exact ⟨rfl, bel_chain HB.out hz3⟩

set_option maxRecDepth 100000 in
set_option maxHeartbeats 4000000 in
/-- fraction.Small. -/
theorem fsmall_no1 (p : Rat) (w : World) (hp : NQ p 20000) (h1 : ¬ nz p.num ≤ 18) :
    Calls Tryz.prog 41 #[rv p] w (SmallRes (.tuple #[.int .i64 0, .int .i64 0, .bool false]) w) := by
  obtain ⟨hp1, hp2⟩ := hp
  have hz1 := dec_abs_size p.num
  have hz2 := itx_den_size p
  have k1 : (18 : Int) < ((dec p.num.natAbs).size : Int) := by omega
  clear hz1 hz2
  go_enter Tryz.func41, Tryz.ntmps41
  go_wp2_with fail
  obtain ⟨W, hW⟩ : ∃ W, (w.alloc (.cells #[.string (itx p.num), .string (itx (p.den : Int))] 27)) = W := ⟨_, rfl⟩
  rw [hW]
  obtain ⟨hX, hBW⟩ := B1.of hW
  clear hW
  have HX := Lib.hid (fun wz (hb : Below W.heap.size W wz) => hX.later hb)
  have HB := Lib.hid hBW
  have hz0 : Below W.heap.size W W := Below.refl _ _
  clear hBW
  obtain ⟨_, c000, c001, f000, f001⟩ := hX
  go_wp2_with fail
  refine (abs_any p.num _ (by omega)).mono ?_
  rintro e w1 ⟨rfl, hb1⟩
  have hz1 := bel_chain hz0 hb1
  obtain ⟨_, c100, c101, f100, f101⟩ := HX.out _ hz1
  go_wp2_with fail
  go_ret3
  exact ⟨rfl, bel_chain HB.out hz1⟩

set_option maxRecDepth 100000 in
set_option maxHeartbeats 4000000 in
/-- fraction.Small. -/
theorem fsmall_no2 (p : Rat) (w : World) (hp : NQ p 20000) (h1 : nz p.num ≤ 18) (h2 : ¬ nz (p.den : Int) ≤ 18) :
    Calls Tryz.prog 41 #[rv p] w (SmallRes (.tuple #[.int .i64 0, .int .i64 0, .bool false]) w) := by
  obtain ⟨hp1, hp2⟩ := hp
  have hz1 := dec_abs_size p.num
  have hz2 := itx_den_size p
  have k1 : ¬ (18 : Int) < ((dec p.num.natAbs).size : Int) := by omega
  have k2 : (18 : Int) < ((itx (p.den : Int)).size : Int) := by omega
  clear hz1 hz2
  go_enter Tryz.func41, Tryz.ntmps41
  go_wp2_with fail
  obtain ⟨W, hW⟩ : ∃ W, (w.alloc (.cells #[.string (itx p.num), .string (itx (p.den : Int))] 27)) = W := ⟨_, rfl⟩
  rw [hW]
  obtain ⟨hX, hBW⟩ := B1.of hW
  clear hW
  have HX := Lib.hid (fun wz (hb : Below W.heap.size W wz) => hX.later hb)
  have HB := Lib.hid hBW
  have hz0 : Below W.heap.size W W := Below.refl _ _
  clear hBW
  obtain ⟨_, c000, c001, f000, f001⟩ := hX
  go_wp2_with fail
  refine (abs_any p.num _ (by omega)).mono ?_
  rintro e w1 ⟨rfl, hb1⟩
  have hz1 := bel_chain hz0 hb1
  obtain ⟨_, c100, c101, f100, f101⟩ := HX.out _ hz1
  go_wp2_with fail
  go_ret3
  exact ⟨rfl, bel_chain HB.out hz1⟩

set_option maxRecDepth 100000 in
set_option maxHeartbeats 4000000 in
/-- schismalaw03.FractionChecks. -/
theorem lawChecks_long (n0 d0 : ByteArray) (w : World) (hamb : Amb w) (hl : decide (410 < n0.size ∨ 410 < d0.size) = true) :
    Calls Tryz.prog 7 #[.agg #[.string n0, .string d0]] w (SmallRes (.bool true) w) := by
  have HL := Lib.hid (fun w => show Calls _ _ _ w (SmallRes (.bool true) w) from hl ▸ tlong_any n0 d0 410 w)
  clear hl
  have HAMB := Lib.hid hamb
  clear hamb
  go_enter Tryz.func7, Tryz.ntmps7
  go_wp2_with fail
  obtain ⟨W, hW⟩ : ∃ W, (w.alloc (.cells #[.string n0, .string d0] 27)) = W := ⟨_, rfl⟩
  rw [hW]
  obtain ⟨hX, hBW⟩ := B1.of hW
  clear hW
  have HX := Lib.hid (fun wz (hb : Below W.heap.size W wz) => hX.later hb)
  have HB := Lib.hid hBW
  have HA := Lib.hid (fun wz (hb : Below W.heap.size W wz) => HAMB.out.below (bel_chain HB.out hb))
  have hz0 : Below W.heap.size W W := Below.refl _ _
  clear hBW
  obtain ⟨_, c000, c001, f000, f001⟩ := hX
  go_wp2_with fail
  refine (known3_any _ (HA.out _ hz0)).mono ?_
  rintro e w1 ⟨rfl, hb1⟩
  have hz1 := bel_chain hz0 hb1
  obtain ⟨_, c100, c101, f100, f101⟩ := HX.out _ hz1
  go_wp2_with fail
  refine (HL.out _).mono ?_
  rintro e w2 ⟨rfl, hb2⟩
  have hz2 := bel_chain hz1 hb2
  obtain ⟨_, c200, c201, f200, f201⟩ := HX.out _ hz2
  go_wp2_with fail
  refine (known3_any _ (HA.out _ hz2)).mono ?_
  rintro e w3 ⟨rfl, hb3⟩
  have hz3 := bel_chain hz2 hb3
  obtain ⟨_, c300, c301, f300, f301⟩ := HX.out _ hz3
  go_wp2_with fail
  go_ret
  exact ⟨rfl, bel_chain HB.out hz3⟩

set_option maxRecDepth 100000 in
set_option maxHeartbeats 4000000 in
/-- schismalaw03.FractionChecks. -/
theorem lawChecks_wrong (n0 d0 : ByteArray) (w : World) (hamb : Amb w) (hl : decide (410 < n0.size ∨ 410 < d0.size) = false) (hr : rightB n0.data.toList d0.data.toList = false) :
    Calls Tryz.prog 7 #[.agg #[.string n0, .string d0]] w (SmallRes (.bool true) w) := by
  have hl2 := of_decide_eq_false hl
  have HL := Lib.hid (fun w => show Calls _ _ _ w (SmallRes (.bool false) w) from hl ▸ tlong_any n0 d0 410 w)
  have HR := Lib.hid (fun w h => show Calls _ _ _ w (SmallRes (.bool false) w) from hr ▸ t3right_any n0 d0 w h)
  have hc := fun w h => fcheck_any n0 d0 w h (by omega) (by omega)
  rw [hr, if_neg (by decide)] at hc
  have HC := Lib.hid hc
  clear hl hr hc hl2
  have HAMB := Lib.hid hamb
  clear hamb
  go_enter Tryz.func7, Tryz.ntmps7
  go_wp2_with fail
  obtain ⟨W, hW⟩ : ∃ W, (w.alloc (.cells #[.string n0, .string d0] 27)) = W := ⟨_, rfl⟩
  rw [hW]
  obtain ⟨hX, hBW⟩ := B1.of hW
  clear hW
  have HX := Lib.hid (fun wz (hb : Below W.heap.size W wz) => hX.later hb)
  have HB := Lib.hid hBW
  have HA := Lib.hid (fun wz (hb : Below W.heap.size W wz) => HAMB.out.below (bel_chain HB.out hb))
  have hz0 : Below W.heap.size W W := Below.refl _ _
  clear hBW
  obtain ⟨_, c000, c001, f000, f001⟩ := hX
  go_wp2_with fail
  refine (known3_any _ (HA.out _ hz0)).mono ?_
  rintro e w1 ⟨rfl, hb1⟩
  have hz1 := bel_chain hz0 hb1
  obtain ⟨_, c100, c101, f100, f101⟩ := HX.out _ hz1
  go_wp2_with fail
  refine (HL.out _).mono ?_
  rintro e w2 ⟨rfl, hb2⟩
  have hz2 := bel_chain hz1 hb2
  obtain ⟨_, c200, c201, f200, f201⟩ := HX.out _ hz2
  go_wp2_with fail
  refine (HR.out _ (HA.out _ hz2)).mono ?_
  rintro e w3 ⟨rfl, hb3⟩
  have hz3 := bel_chain hz2 hb3
  obtain ⟨_, c300, c301, f300, f301⟩ := HX.out _ hz3
  go_wp2_with fail
  refine (HC.out _ (HA.out _ hz3)).mono ?_
  rintro e w4 ⟨rfl, hb4⟩
  have hz4 := bel_chain hz3 hb4
  obtain ⟨_, c400, c401, f400, f401⟩ := HX.out _ hz4
  go_wp2_with fail
  go_ret
  exact ⟨rfl, bel_chain HB.out hz4⟩

set_option maxRecDepth 100000 in
set_option maxHeartbeats 4000000 in
/-- schismalaw03.FractionChecks. -/
theorem lawChecks_right0 (p : Rat) (w : World) (hamb : Amb w) (hp : NQ p 400) (hl : decide (410 < (itx p.num).size ∨ 410 < (itx (p.den : Int)).size) = false) (hr : rightB (itx p.num).data.toList (itx (p.den : Int)).data.toList = true) (h1 : nz p.num ≤ 18) (h2 : nz (p.den : Int) ≤ 18) :
    Calls Tryz.prog 7 #[rv p] w (SmallRes (.bool true) w) := by
  have hl2 := of_decide_eq_false hl
  have HL := Lib.hid (fun w => show Calls _ _ _ w (SmallRes (.bool false) w) from hl ▸ tlong_any (itx p.num) (itx (p.den : Int)) 410 w)
  have HR := Lib.hid (fun w h => show Calls _ _ _ w (SmallRes (.bool true) w) from hr ▸ t3right_any (itx p.num) (itx (p.den : Int)) w h)
  have hc := fun w h => fcheck_any (itx p.num) (itx (p.den : Int)) w h (by omega) (by omega)
  rw [hr, if_pos rfl] at hc
  have HC := Lib.hid hc
  have np := hp.mono (show 400 ≤ 20000 by omega)
  obtain ⟨M, hM⟩ : ∃ M : ByteArray, ⟨(magT (itx p.num).data.toList).toArray⟩ = M := ⟨_, rfl⟩
  have hMs : M.size = nz p.num := by rw [← hM]; exact mag_itx_len p.num
  have HTP := Lib.hid (fun w => show Calls Tryz.prog 42 #[.string (itx p.num), .string ⟨#[45]⟩] w (SmallRes (.string M) w) from (Tryz.strings_TrimPrefix (itx p.num) ⟨#[45]⟩ w).mono fun e w' h => ⟨by rw [← hM]; exact h.1, by rw [h.2]; exact Below.refl _ _⟩)
  have hds := itx_den_size p
  have k1 : (M.size : Int) ≤ 18 := by omega
  have k2 : ((itx (p.den : Int)).size : Int) ≤ 18 := by omega
  have f1 := (small_fits h1).2
  have f2 := (small_fits h2).2
  have H12 := Lib.hid (And.intro h1 h2)
  have F12 := Lib.hid (And.intro f1 f2)
  clear h1 h2 f1 f2
  clear hl hr hc hl2 hM hMs hds
  have HAMB := Lib.hid hamb
  clear hamb
  go_enter Tryz.func7, Tryz.ntmps7
  go_wp2_with fail
  obtain ⟨W, hW⟩ : ∃ W, (w.alloc (.cells #[.string (itx p.num), .string (itx (p.den : Int))] 27)) = W := ⟨_, rfl⟩
  rw [hW]
  obtain ⟨hX, hBW⟩ := B1.of hW
  clear hW
  have HX := Lib.hid (fun wz (hb : Below W.heap.size W wz) => hX.later hb)
  have HB := Lib.hid hBW
  have HA := Lib.hid (fun wz (hb : Below W.heap.size W wz) => HAMB.out.below (bel_chain HB.out hb))
  have hz0 : Below W.heap.size W W := Below.refl _ _
  clear hBW
  obtain ⟨_, c000, c001, f000, f001⟩ := hX
  go_wp2_with fail
  refine (known3_any _ (HA.out _ hz0)).mono ?_
  rintro e w1 ⟨rfl, hb1⟩
  have hz1 := bel_chain hz0 hb1
  obtain ⟨_, c100, c101, f100, f101⟩ := HX.out _ hz1
  go_wp2_with fail
  refine (HL.out _).mono ?_
  rintro e w2 ⟨rfl, hb2⟩
  have hz2 := bel_chain hz1 hb2
  obtain ⟨_, c200, c201, f200, f201⟩ := HX.out _ hz2
  go_wp2_with fail
  refine (HR.out _ (HA.out _ hz2)).mono ?_
  rintro e w3 ⟨rfl, hb3⟩
  have hz3 := bel_chain hz2 hb3
  obtain ⟨_, c300, c301, f300, f301⟩ := HX.out _ hz3
  go_wp2_with fail
  refine (fsmall_yes p _ (HA.out _ hz3) np H12.out.1 H12.out.2).mono ?_
  rintro e w4 ⟨rfl, hb4⟩
  have hz4 := bel_chain hz3 hb4
  obtain ⟨_, c400, c401, f400, f401⟩ := HX.out _ hz4
  go_wp2_with fail
  refine (HTP.out _).mono ?_
  rintro e w5 ⟨rfl, hb5⟩
  have hz5 := bel_chain hz4 hb5
  obtain ⟨_, c500, c501, f500, f501⟩ := HX.out _ hz5
  go_wp2_with fail
  have hzd := hz5.drew
  refine wp_region_held_drew (S := fun w' => w'.cell? ⟨w.heap.size, 0, none⟩ = some (.string (itx p.num)) ∧ w'.cell? ⟨w.heap.size, 1, none⟩ = some (.string (itx (p.den : Int)))) (by kernel_rfl) (⟨(HX.out _ hzd).2.1, (HX.out _ hzd).2.2.1⟩) (fun hS => ?_)
  refine wpAnyH_take (i := 0) (v := ?_) rfl (by kernel_rfl) (by kernel_rfl) (by kernel_rfl) (fun _ _ _ h => h) (Or.inl ⟨by kernel_rfl, ?_⟩) (by assumption) ?_
  rotate_left
  · intro w hSw
    try dsimp only at hSw
    go_simp
    try with_reducible rfl
  try simp only [Act.put, List.getElem_toArray, List.getElem_cons_zero, List.setIfInBounds_toArray, List.set_cons_zero, List.set_cons_succ]
  refine wpAnyH_take (i := 1) (v := ?_) rfl (by kernel_rfl) (by kernel_rfl) (by kernel_rfl) (fun _ _ _ h => h) (Or.inl ⟨by kernel_rfl, ?_⟩) (by assumption) ?_
  rotate_left
  · intro w hSw
    try dsimp only at hSw
    go_simp
    try with_reducible rfl
  try simp only [Act.put, List.getElem_toArray, List.getElem_cons_zero, List.getElem_cons_succ, List.setIfInBounds_toArray, List.set_cons_zero, List.set_cons_succ]
  refine wpAnyH_take (i := 2) (v := ?_) rfl (by kernel_rfl) (by kernel_rfl) (by kernel_rfl) (fun _ _ _ h => h) (Or.inl ⟨by kernel_rfl, ?_⟩) (by assumption) ?_
  rotate_left
  · intro w hSw
    try dsimp only at hSw
    go_simp
    try with_reducible rfl
  try simp only [Act.put, List.getElem_toArray, List.getElem_cons_zero, List.getElem_cons_succ, List.setIfInBounds_toArray, List.set_cons_zero, List.set_cons_succ]
  refine wpAnyH_take (i := 3) (v := ?_) rfl (by kernel_rfl) (by kernel_rfl) (by kernel_rfl) (fun _ _ _ h => h) (Or.inl ⟨by kernel_rfl, ?_⟩) (by assumption) ?_
  rotate_left
  · intro w hSw
    try dsimp only at hSw
    go_simp
    try with_reducible rfl
  try simp only [Act.put, List.getElem_toArray, List.getElem_cons_zero, List.getElem_cons_succ, List.setIfInBounds_toArray, List.set_cons_zero, List.set_cons_succ]
  refine wpAnyH_take (i := 4) (v := ?_) rfl (by kernel_rfl) (by kernel_rfl) (by kernel_rfl) (fun _ _ _ h => h) (Or.inl ⟨by kernel_rfl, ?_⟩) (by assumption) ?_
  rotate_left
  · intro w hSw
    try dsimp only at hSw
    go_simp
    try with_reducible rfl
  try simp only [Act.put, List.getElem_toArray, List.getElem_cons_zero, List.getElem_cons_succ, List.setIfInBounds_toArray, List.set_cons_zero, List.set_cons_succ]
  refine wpAnyH_take (i := 5) (v := ?_) rfl (by kernel_rfl) (by kernel_rfl) (by kernel_rfl) (fun _ _ _ h => h) (Or.inl ⟨by kernel_rfl, ?_⟩) (by assumption) ?_
  rotate_left
  · intro w hSw
    try dsimp only at hSw
    go_simp
    try with_reducible rfl
  try simp only [Act.put, List.getElem_toArray, List.getElem_cons_zero, List.getElem_cons_succ, List.setIfInBounds_toArray, List.set_cons_zero, List.set_cons_succ]
  refine wpAnyH_take (i := 6) (v := ?_) rfl (by kernel_rfl) (by kernel_rfl) (by kernel_rfl) (fun _ _ _ h => h) (Or.inl ⟨by kernel_rfl, ?_⟩) (by assumption) ?_
  rotate_left
  · intro w hSw
    try dsimp only at hSw
    go_simp
    try with_reducible rfl
  try simp only [Act.put, List.getElem_toArray, List.getElem_cons_zero, List.getElem_cons_succ, List.setIfInBounds_toArray, List.set_cons_zero, List.set_cons_succ]
  refine wpAnyH_take (i := 7) (v := undef) rfl (by kernel_rfl) (by kernel_rfl) (by kernel_rfl) (fun _ _ _ h => h) (Or.inr ⟨by kernel_rfl, rfl⟩) (by assumption) ?_
  try simp only [Act.put, List.getElem_toArray, List.getElem_cons_zero, List.getElem_cons_succ, List.setIfInBounds_toArray, List.set_cons_zero, List.set_cons_succ]
  refine wpAnyH_take (i := 8) (v := undef) rfl (by kernel_rfl) (by kernel_rfl) (by kernel_rfl) (fun _ _ _ h => h) (Or.inr ⟨by kernel_rfl, rfl⟩) (by assumption) ?_
  try simp only [Act.put, List.getElem_toArray, List.getElem_cons_zero, List.getElem_cons_succ, List.setIfInBounds_toArray, List.set_cons_zero, List.set_cons_succ]
  refine wpAnyH_take (i := 9) (v := undef) rfl (by kernel_rfl) (by kernel_rfl) (by kernel_rfl) (fun _ _ _ h => h) (Or.inr ⟨by kernel_rfl, rfl⟩) (by assumption) ?_
  try simp only [Act.put, List.getElem_toArray, List.getElem_cons_zero, List.getElem_cons_succ, List.setIfInBounds_toArray, List.set_cons_zero, List.set_cons_succ]
  refine wpAnyH_take (i := 10) (v := undef) rfl (by kernel_rfl) (by kernel_rfl) (by kernel_rfl) (fun _ _ _ h => h) (Or.inr ⟨by kernel_rfl, rfl⟩) (by assumption) ?_
  try simp only [Act.put, List.getElem_toArray, List.getElem_cons_zero, List.getElem_cons_succ, List.setIfInBounds_toArray, List.set_cons_zero, List.set_cons_succ]
  refine wpAnyH_take (i := 11) (v := undef) rfl (by kernel_rfl) (by kernel_rfl) (by kernel_rfl) (fun _ _ _ h => h) (Or.inr ⟨by kernel_rfl, rfl⟩) (by assumption) ?_
  try simp only [Act.put, List.getElem_toArray, List.getElem_cons_zero, List.getElem_cons_succ, List.setIfInBounds_toArray, List.set_cons_zero, List.set_cons_succ]
  refine wpAnyH_take (i := 12) (v := undef) rfl (by kernel_rfl) (by kernel_rfl) (by kernel_rfl) (fun _ _ _ h => h) (Or.inr ⟨by kernel_rfl, rfl⟩) (by assumption) ?_
  try simp only [Act.put, List.getElem_toArray, List.getElem_cons_zero, List.getElem_cons_succ, List.setIfInBounds_toArray, List.set_cons_zero, List.set_cons_succ]
  refine wpAnyH_take (i := 13) (v := ?_) rfl (by kernel_rfl) (by kernel_rfl) (by kernel_rfl) (fun _ _ _ h => h) (Or.inl ⟨by kernel_rfl, ?_⟩) (by assumption) ?_
  rotate_left
  · intro w hSw
    try dsimp only at hSw
    go_simp
    try with_reducible rfl
  try simp only [Act.put, List.getElem_toArray, List.getElem_cons_zero, List.getElem_cons_succ, List.setIfInBounds_toArray, List.set_cons_zero, List.set_cons_succ]
  refine wpAnyH_take (i := 14) (v := ?_) rfl (by kernel_rfl) (by kernel_rfl) (by kernel_rfl) (fun _ _ _ h => h) (Or.inl ⟨by kernel_rfl, ?_⟩) (by assumption) ?_
  rotate_left
  · intro w hSw
    try dsimp only at hSw
    go_simp
    try with_reducible rfl
  try simp only [Act.put, List.getElem_toArray, List.getElem_cons_zero, List.getElem_cons_succ, List.setIfInBounds_toArray, List.set_cons_zero, List.set_cons_succ]
  refine wpAnyH_take (i := 15) (v := ?_) rfl (by kernel_rfl) (by kernel_rfl) (by kernel_rfl) (fun _ _ _ h => h) (Or.inl ⟨by kernel_rfl, ?_⟩) (by assumption) ?_
  rotate_left
  · intro w hSw
    try dsimp only at hSw
    go_simp
    try with_reducible rfl
  try simp only [Act.put, List.getElem_toArray, List.getElem_cons_zero, List.getElem_cons_succ, List.setIfInBounds_toArray, List.set_cons_zero, List.set_cons_succ]
  refine wpAnyH_take (i := 16) (v := ?_) rfl (by kernel_rfl) (by kernel_rfl) (by kernel_rfl) (fun _ _ _ h => h) (Or.inl ⟨by kernel_rfl, ?_⟩) (by assumption) ?_
  rotate_left
  · intro w hSw
    try dsimp only at hSw
    go_simp
    try with_reducible rfl
  try simp only [Act.put, List.getElem_toArray, List.getElem_cons_zero, List.getElem_cons_succ, List.setIfInBounds_toArray, List.set_cons_zero, List.set_cons_succ]
  refine wpAnyH_take (i := 17) (v := ?_) rfl (by kernel_rfl) (by kernel_rfl) (by kernel_rfl) (fun _ _ _ h => h) (Or.inl ⟨by kernel_rfl, ?_⟩) (by assumption) ?_
  rotate_left
  · intro w hSw
    try dsimp only at hSw
    go_simp
    try with_reducible rfl
  try simp only [Act.put, List.getElem_toArray, List.getElem_cons_zero, List.getElem_cons_succ, List.setIfInBounds_toArray, List.set_cons_zero, List.set_cons_succ]
  refine wpAnyH_take (i := 18) (v := ?_) rfl (by kernel_rfl) (by kernel_rfl) (by kernel_rfl) (fun _ _ _ h => h) (Or.inl ⟨by kernel_rfl, ?_⟩) (by assumption) ?_
  rotate_left
  · intro w hSw
    try dsimp only at hSw
    go_simp
    try with_reducible rfl
  try simp only [Act.put, List.getElem_toArray, List.getElem_cons_zero, List.getElem_cons_succ, List.setIfInBounds_toArray, List.set_cons_zero, List.set_cons_succ]
  refine wpAnyH_take (i := 20) (v := ?_) rfl (by kernel_rfl) (by kernel_rfl) (by kernel_rfl) (fun _ _ _ h => h) (Or.inl ⟨by kernel_rfl, ?_⟩) (by assumption) ?_
  rotate_left
  · intro w hSw
    try dsimp only at hSw
    go_simp
    try with_reducible rfl
  try simp only [Act.put, List.getElem_toArray, List.getElem_cons_zero, List.getElem_cons_succ, List.setIfInBounds_toArray, List.set_cons_zero, List.set_cons_succ]
  refine wpAnyH_take (i := 21) (v := ?_) rfl (by kernel_rfl) (by kernel_rfl) (by kernel_rfl) (fun _ _ _ h => h) (Or.inl ⟨by kernel_rfl, ?_⟩) (by assumption) ?_
  rotate_left
  · intro w hSw
    try dsimp only at hSw
    go_simp
    try with_reducible rfl
  try simp only [Act.put, List.getElem_toArray, List.getElem_cons_zero, List.getElem_cons_succ, List.setIfInBounds_toArray, List.set_cons_zero, List.set_cons_succ]
  refine wpAnyH_ready (rs := [19]) (by kernel_rfl) (by simp) ?_
  refine AllReadyH.cons rfl (fun K hK => ?_) AllReadyH.nil
  go_simp
  refine (t3int_any p.num w5.drew (HA.out _ hzd) F12.out.1.1 F12.out.1.2).mono ?_
  rintro e w6 ⟨rfl, hb6⟩
  have hz6 := bel_chain hzd hb6
  go_wp2_with fail
  refine hK.out _ _ (⟨(HX.out _ hz6).2.1, (HX.out _ hz6).2.2.1⟩) (fun hHeld => ?_)
  clear hK K hS
  have hS := hHeld
  clear hHeld
  try simp only [Act.put, List.getElem_toArray, List.getElem_cons_zero, List.getElem_cons_succ, List.setIfInBounds_toArray, List.set_cons_zero, List.set_cons_succ]
  refine wpAnyH_take (i := 22) (v := ?_) rfl (by kernel_rfl) (by kernel_rfl) (by kernel_rfl) (fun _ _ _ h => h) (Or.inl ⟨by kernel_rfl, ?_⟩) (by assumption) ?_
  rotate_left
  · intro w hSw
    try dsimp only at hSw
    go_simp
    try with_reducible rfl
  try simp only [Act.put, List.getElem_toArray, List.getElem_cons_zero, List.getElem_cons_succ, List.setIfInBounds_toArray, List.set_cons_zero, List.set_cons_succ]
  refine wpAnyH_take (i := 23) (v := ?_) rfl (by kernel_rfl) (by kernel_rfl) (by kernel_rfl) (fun _ _ _ h => h) (Or.inl ⟨by kernel_rfl, ?_⟩) (by assumption) ?_
  rotate_left
  · intro w hSw
    try dsimp only at hSw
    go_simp
    try with_reducible rfl
  try simp only [Act.put, List.getElem_toArray, List.getElem_cons_zero, List.getElem_cons_succ, List.setIfInBounds_toArray, List.set_cons_zero, List.set_cons_succ]
  refine wpAnyH_take (i := 24) (v := ?_) rfl (by kernel_rfl) (by kernel_rfl) (by kernel_rfl) (fun _ _ _ h => h) (Or.inl ⟨by kernel_rfl, ?_⟩) (by assumption) ?_
  rotate_left
  · intro w hSw
    try dsimp only at hSw
    go_simp
    try with_reducible rfl
  try simp only [Act.put, List.getElem_toArray, List.getElem_cons_zero, List.getElem_cons_succ, List.setIfInBounds_toArray, List.set_cons_zero, List.set_cons_succ]
  refine wpAnyH_take (i := 26) (v := ?_) rfl (by kernel_rfl) (by kernel_rfl) (by kernel_rfl) (fun _ _ _ h => h) (Or.inl ⟨by kernel_rfl, ?_⟩) (by assumption) ?_
  rotate_left
  · intro w hSw
    try dsimp only at hSw
    go_simp
    try with_reducible rfl
  try simp only [Act.put, List.getElem_toArray, List.getElem_cons_zero, List.getElem_cons_succ, List.setIfInBounds_toArray, List.set_cons_zero, List.set_cons_succ]
  refine wpAnyH_take (i := 27) (v := ?_) rfl (by kernel_rfl) (by kernel_rfl) (by kernel_rfl) (fun _ _ _ h => h) (Or.inl ⟨by kernel_rfl, ?_⟩) (by assumption) ?_
  rotate_left
  · intro w hSw
    try dsimp only at hSw
    go_simp
    try with_reducible rfl
  try simp only [Act.put, List.getElem_toArray, List.getElem_cons_zero, List.getElem_cons_succ, List.setIfInBounds_toArray, List.set_cons_zero, List.set_cons_succ]
  refine wpAnyH_ready (rs := [25]) (by kernel_rfl) (by simp) ?_
  refine AllReadyH.cons rfl (fun K hK => ?_) AllReadyH.nil
  go_simp
  refine (t3int_any (p.den : Int) w6 (HA.out _ hz6) F12.out.2.1 F12.out.2.2).mono ?_
  rintro e w7 ⟨rfl, hb7⟩
  have hz7 := bel_chain hz6 hb7
  go_wp2_with fail
  refine hK.out _ _ (⟨(HX.out _ hz7).2.1, (HX.out _ hz7).2.2.1⟩) (fun hHeld => ?_)
  clear hK K hS
  have hS := hHeld
  clear hHeld
  try simp only [Act.put, List.getElem_toArray, List.getElem_cons_zero, List.getElem_cons_succ, List.setIfInBounds_toArray, List.set_cons_zero, List.set_cons_succ]
  refine wpAnyH_take (i := 28) (v := ?_) rfl (by kernel_rfl) (by kernel_rfl) (by kernel_rfl) (fun _ _ _ h => h) (Or.inl ⟨by kernel_rfl, ?_⟩) (by assumption) ?_
  rotate_left
  · intro w hSw
    try dsimp only at hSw
    go_simp
    try with_reducible rfl
  try simp only [Act.put, List.getElem_toArray, List.getElem_cons_zero, List.getElem_cons_succ, List.setIfInBounds_toArray, List.set_cons_zero, List.set_cons_succ]
  refine wpAnyH_take (i := 29) (v := ?_) rfl (by kernel_rfl) (by kernel_rfl) (by kernel_rfl) (fun _ _ _ h => h) (Or.inl ⟨by kernel_rfl, ?_⟩) (by assumption) ?_
  rotate_left
  · intro w hSw
    try dsimp only at hSw
    go_simp
    try with_reducible rfl
  try simp only [Act.put, List.getElem_toArray, List.getElem_cons_zero, List.getElem_cons_succ, List.setIfInBounds_toArray, List.set_cons_zero, List.set_cons_succ]
  refine wpAnyH_take (i := 30) (v := ?_) rfl (by kernel_rfl) (by kernel_rfl) (by kernel_rfl) (fun _ _ _ h => h) (Or.inl ⟨by kernel_rfl, ?_⟩) (by assumption) ?_
  rotate_left
  · intro w hSw
    try dsimp only at hSw
    go_simp
    try with_reducible rfl
  try simp only [Act.put, List.getElem_toArray, List.getElem_cons_zero, List.getElem_cons_succ, List.setIfInBounds_toArray, List.set_cons_zero, List.set_cons_succ]
  refine wpAnyH_take (i := 31) (v := ?_) rfl (by kernel_rfl) (by kernel_rfl) (by kernel_rfl) (fun _ _ _ h => h) (Or.inl ⟨by kernel_rfl, ?_⟩) (by assumption) ?_
  rotate_left
  · intro w hSw
    try dsimp only at hSw
    go_simp
    try with_reducible rfl
  try simp only [Act.put, List.getElem_toArray, List.getElem_cons_zero, List.getElem_cons_succ, List.setIfInBounds_toArray, List.set_cons_zero, List.set_cons_succ]
  refine wpAnyH_done (by kernel_rfl) ?_ _
  go_wp2_with fail
  refine (HC.out _ (HA.out _ hz7)).mono ?_
  rintro e w8 ⟨rfl, hb8⟩
  go_wp2_with fail
  go_ret
  exact ⟨rfl, bel_chain HB.out (bel_chain hz7 hb8)⟩

set_option maxRecDepth 100000 in
set_option maxHeartbeats 4000000 in
/-- schismalaw03.FractionChecks. -/
theorem lawChecks_right1 (p : Rat) (w : World) (hamb : Amb w) (hp : NQ p 400) (hl : decide (410 < (itx p.num).size ∨ 410 < (itx (p.den : Int)).size) = false) (hr : rightB (itx p.num).data.toList (itx (p.den : Int)).data.toList = true) (h1 : ¬ nz p.num ≤ 18) :
    Calls Tryz.prog 7 #[rv p] w (SmallRes (.bool true) w) := by
  have hl2 := of_decide_eq_false hl
  have HL := Lib.hid (fun w => show Calls _ _ _ w (SmallRes (.bool false) w) from hl ▸ tlong_any (itx p.num) (itx (p.den : Int)) 410 w)
  have HR := Lib.hid (fun w h => show Calls _ _ _ w (SmallRes (.bool true) w) from hr ▸ t3right_any (itx p.num) (itx (p.den : Int)) w h)
  have hc := fun w h => fcheck_any (itx p.num) (itx (p.den : Int)) w h (by omega) (by omega)
  rw [hr, if_pos rfl] at hc
  have HC := Lib.hid hc
  have np := hp.mono (show 400 ≤ 20000 by omega)
  obtain ⟨M, hM⟩ : ∃ M : ByteArray, ⟨(magT (itx p.num).data.toList).toArray⟩ = M := ⟨_, rfl⟩
  have hMs : M.size = nz p.num := by rw [← hM]; exact mag_itx_len p.num
  have HTP := Lib.hid (fun w => show Calls Tryz.prog 42 #[.string (itx p.num), .string ⟨#[45]⟩] w (SmallRes (.string M) w) from (Tryz.strings_TrimPrefix (itx p.num) ⟨#[45]⟩ w).mono fun e w' h => ⟨by rw [← hM]; exact h.1, by rw [h.2]; exact Below.refl _ _⟩)
  have hds := itx_den_size p
  have k1 : ¬ (M.size : Int) ≤ 18 := by omega
  have H1 := Lib.hid h1
  clear h1
  clear hl hr hc hl2 hM hMs hds
  have HAMB := Lib.hid hamb
  clear hamb
  go_enter Tryz.func7, Tryz.ntmps7
  go_wp2_with fail
  obtain ⟨W, hW⟩ : ∃ W, (w.alloc (.cells #[.string (itx p.num), .string (itx (p.den : Int))] 27)) = W := ⟨_, rfl⟩
  rw [hW]
  obtain ⟨hX, hBW⟩ := B1.of hW
  clear hW
  have HX := Lib.hid (fun wz (hb : Below W.heap.size W wz) => hX.later hb)
  have HB := Lib.hid hBW
  have HA := Lib.hid (fun wz (hb : Below W.heap.size W wz) => HAMB.out.below (bel_chain HB.out hb))
  have hz0 : Below W.heap.size W W := Below.refl _ _
  clear hBW
  obtain ⟨_, c000, c001, f000, f001⟩ := hX
  go_wp2_with fail
  refine (known3_any _ (HA.out _ hz0)).mono ?_
  rintro e w1 ⟨rfl, hb1⟩
  have hz1 := bel_chain hz0 hb1
  obtain ⟨_, c100, c101, f100, f101⟩ := HX.out _ hz1
  go_wp2_with fail
  refine (HL.out _).mono ?_
  rintro e w2 ⟨rfl, hb2⟩
  have hz2 := bel_chain hz1 hb2
  obtain ⟨_, c200, c201, f200, f201⟩ := HX.out _ hz2
  go_wp2_with fail
  refine (HR.out _ (HA.out _ hz2)).mono ?_
  rintro e w3 ⟨rfl, hb3⟩
  have hz3 := bel_chain hz2 hb3
  obtain ⟨_, c300, c301, f300, f301⟩ := HX.out _ hz3
  go_wp2_with fail
  refine (fsmall_no1 p _ np H1.out).mono ?_
  rintro e w4 ⟨rfl, hb4⟩
  have hz4 := bel_chain hz3 hb4
  obtain ⟨_, c400, c401, f400, f401⟩ := HX.out _ hz4
  go_wp2_with fail
  refine (HTP.out _).mono ?_
  rintro e w5 ⟨rfl, hb5⟩
  have hz5 := bel_chain hz4 hb5
  obtain ⟨_, c500, c501, f500, f501⟩ := HX.out _ hz5
  go_wp2_with fail
  have hzd := hz5.drew
  refine wp_region_held_drew (S := fun w' => w'.cell? ⟨w.heap.size, 0, none⟩ = some (.string (itx p.num)) ∧ w'.cell? ⟨w.heap.size, 1, none⟩ = some (.string (itx (p.den : Int)))) (by kernel_rfl) (⟨(HX.out _ hzd).2.1, (HX.out _ hzd).2.2.1⟩) (fun hS => ?_)
  refine wpAnyH_take (i := 0) (v := ?_) rfl (by kernel_rfl) (by kernel_rfl) (by kernel_rfl) (fun _ _ _ h => h) (Or.inl ⟨by kernel_rfl, ?_⟩) (by assumption) ?_
  rotate_left
  · intro w hSw
    try dsimp only at hSw
    go_simp
    try with_reducible rfl
  try simp only [Act.put, List.getElem_toArray, List.getElem_cons_zero, List.setIfInBounds_toArray, List.set_cons_zero, List.set_cons_succ]
  refine wpAnyH_take (i := 1) (v := ?_) rfl (by kernel_rfl) (by kernel_rfl) (by kernel_rfl) (fun _ _ _ h => h) (Or.inl ⟨by kernel_rfl, ?_⟩) (by assumption) ?_
  rotate_left
  · intro w hSw
    try dsimp only at hSw
    go_simp
    try with_reducible rfl
  try simp only [Act.put, List.getElem_toArray, List.getElem_cons_zero, List.getElem_cons_succ, List.setIfInBounds_toArray, List.set_cons_zero, List.set_cons_succ]
  refine wpAnyH_take (i := 2) (v := ?_) rfl (by kernel_rfl) (by kernel_rfl) (by kernel_rfl) (fun _ _ _ h => h) (Or.inl ⟨by kernel_rfl, ?_⟩) (by assumption) ?_
  rotate_left
  · intro w hSw
    try dsimp only at hSw
    go_simp
    try with_reducible rfl
  try simp only [Act.put, List.getElem_toArray, List.getElem_cons_zero, List.getElem_cons_succ, List.setIfInBounds_toArray, List.set_cons_zero, List.set_cons_succ]
  refine wpAnyH_take (i := 3) (v := ?_) rfl (by kernel_rfl) (by kernel_rfl) (by kernel_rfl) (fun _ _ _ h => h) (Or.inl ⟨by kernel_rfl, ?_⟩) (by assumption) ?_
  rotate_left
  · intro w hSw
    try dsimp only at hSw
    go_simp
    try with_reducible rfl
  try simp only [Act.put, List.getElem_toArray, List.getElem_cons_zero, List.getElem_cons_succ, List.setIfInBounds_toArray, List.set_cons_zero, List.set_cons_succ]
  refine wpAnyH_take (i := 4) (v := ?_) rfl (by kernel_rfl) (by kernel_rfl) (by kernel_rfl) (fun _ _ _ h => h) (Or.inl ⟨by kernel_rfl, ?_⟩) (by assumption) ?_
  rotate_left
  · intro w hSw
    try dsimp only at hSw
    go_simp
    try with_reducible rfl
  try simp only [Act.put, List.getElem_toArray, List.getElem_cons_zero, List.getElem_cons_succ, List.setIfInBounds_toArray, List.set_cons_zero, List.set_cons_succ]
  refine wpAnyH_take (i := 5) (v := ?_) rfl (by kernel_rfl) (by kernel_rfl) (by kernel_rfl) (fun _ _ _ h => h) (Or.inl ⟨by kernel_rfl, ?_⟩) (by assumption) ?_
  rotate_left
  · intro w hSw
    try dsimp only at hSw
    go_simp
    try with_reducible rfl
  try simp only [Act.put, List.getElem_toArray, List.getElem_cons_zero, List.getElem_cons_succ, List.setIfInBounds_toArray, List.set_cons_zero, List.set_cons_succ]
  refine wpAnyH_take (i := 6) (v := ?_) rfl (by kernel_rfl) (by kernel_rfl) (by kernel_rfl) (fun _ _ _ h => h) (Or.inl ⟨by kernel_rfl, ?_⟩) (by assumption) ?_
  rotate_left
  · intro w hSw
    try dsimp only at hSw
    go_simp
    try with_reducible rfl
  try simp only [Act.put, List.getElem_toArray, List.getElem_cons_zero, List.getElem_cons_succ, List.setIfInBounds_toArray, List.set_cons_zero, List.set_cons_succ]
  refine wpAnyH_take (i := 7) (v := ?_) rfl (by kernel_rfl) (by kernel_rfl) (by kernel_rfl) (fun _ _ _ h => h) (Or.inl ⟨by kernel_rfl, ?_⟩) (by assumption) ?_
  rotate_left
  · intro w hSw
    try dsimp only at hSw
    go_simp
    try with_reducible rfl
  try simp only [Act.put, List.getElem_toArray, List.getElem_cons_zero, List.getElem_cons_succ, List.setIfInBounds_toArray, List.set_cons_zero, List.set_cons_succ]
  refine wpAnyH_take (i := 8) (v := ?_) rfl (by kernel_rfl) (by kernel_rfl) (by kernel_rfl) (fun _ _ _ h => h) (Or.inl ⟨by kernel_rfl, ?_⟩) (by assumption) ?_
  rotate_left
  · intro w hSw
    try dsimp only at hSw
    go_simp
    try with_reducible rfl
  try simp only [Act.put, List.getElem_toArray, List.getElem_cons_zero, List.getElem_cons_succ, List.setIfInBounds_toArray, List.set_cons_zero, List.set_cons_succ]
  refine wpAnyH_take (i := 9) (v := ?_) rfl (by kernel_rfl) (by kernel_rfl) (by kernel_rfl) (fun _ _ _ h => h) (Or.inl ⟨by kernel_rfl, ?_⟩) (by assumption) ?_
  rotate_left
  · intro w hSw
    try dsimp only at hSw
    go_simp
    try with_reducible rfl
  try simp only [Act.put, List.getElem_toArray, List.getElem_cons_zero, List.getElem_cons_succ, List.setIfInBounds_toArray, List.set_cons_zero, List.set_cons_succ]
  refine wpAnyH_take (i := 10) (v := ?_) rfl (by kernel_rfl) (by kernel_rfl) (by kernel_rfl) (fun _ _ _ h => h) (Or.inl ⟨by kernel_rfl, ?_⟩) (by assumption) ?_
  rotate_left
  · intro w hSw
    try dsimp only at hSw
    go_simp
    try with_reducible rfl
  try simp only [Act.put, List.getElem_toArray, List.getElem_cons_zero, List.getElem_cons_succ, List.setIfInBounds_toArray, List.set_cons_zero, List.set_cons_succ]
  refine wpAnyH_take (i := 11) (v := ?_) rfl (by kernel_rfl) (by kernel_rfl) (by kernel_rfl) (fun _ _ _ h => h) (Or.inl ⟨by kernel_rfl, ?_⟩) (by assumption) ?_
  rotate_left
  · intro w hSw
    try dsimp only at hSw
    go_simp
    try with_reducible rfl
  try simp only [Act.put, List.getElem_toArray, List.getElem_cons_zero, List.getElem_cons_succ, List.setIfInBounds_toArray, List.set_cons_zero, List.set_cons_succ]
  refine wpAnyH_take (i := 12) (v := ?_) rfl (by kernel_rfl) (by kernel_rfl) (by kernel_rfl) (fun _ _ _ h => h) (Or.inl ⟨by kernel_rfl, ?_⟩) (by assumption) ?_
  rotate_left
  · intro w hSw
    try dsimp only at hSw
    go_simp
    try with_reducible rfl
  try simp only [Act.put, List.getElem_toArray, List.getElem_cons_zero, List.getElem_cons_succ, List.setIfInBounds_toArray, List.set_cons_zero, List.set_cons_succ]
  refine wpAnyH_take (i := 13) (v := ?_) rfl (by kernel_rfl) (by kernel_rfl) (by kernel_rfl) (fun _ _ _ h => h) (Or.inl ⟨by kernel_rfl, ?_⟩) (by assumption) ?_
  rotate_left
  · intro w hSw
    try dsimp only at hSw
    go_simp
    try with_reducible rfl
  try simp only [Act.put, List.getElem_toArray, List.getElem_cons_zero, List.getElem_cons_succ, List.setIfInBounds_toArray, List.set_cons_zero, List.set_cons_succ]
  refine wpAnyH_take (i := 14) (v := ?_) rfl (by kernel_rfl) (by kernel_rfl) (by kernel_rfl) (fun _ _ _ h => h) (Or.inl ⟨by kernel_rfl, ?_⟩) (by assumption) ?_
  rotate_left
  · intro w hSw
    try dsimp only at hSw
    go_simp
    try with_reducible rfl
  try simp only [Act.put, List.getElem_toArray, List.getElem_cons_zero, List.getElem_cons_succ, List.setIfInBounds_toArray, List.set_cons_zero, List.set_cons_succ]
  refine wpAnyH_take (i := 15) (v := ?_) rfl (by kernel_rfl) (by kernel_rfl) (by kernel_rfl) (fun _ _ _ h => h) (Or.inl ⟨by kernel_rfl, ?_⟩) (by assumption) ?_
  rotate_left
  · intro w hSw
    try dsimp only at hSw
    go_simp
    try with_reducible rfl
  try simp only [Act.put, List.getElem_toArray, List.getElem_cons_zero, List.getElem_cons_succ, List.setIfInBounds_toArray, List.set_cons_zero, List.set_cons_succ]
  refine wpAnyH_take (i := 16) (v := ?_) rfl (by kernel_rfl) (by kernel_rfl) (by kernel_rfl) (fun _ _ _ h => h) (Or.inl ⟨by kernel_rfl, ?_⟩) (by assumption) ?_
  rotate_left
  · intro w hSw
    try dsimp only at hSw
    go_simp
    try with_reducible rfl
  try simp only [Act.put, List.getElem_toArray, List.getElem_cons_zero, List.getElem_cons_succ, List.setIfInBounds_toArray, List.set_cons_zero, List.set_cons_succ]
  refine wpAnyH_take (i := 17) (v := ?_) rfl (by kernel_rfl) (by kernel_rfl) (by kernel_rfl) (fun _ _ _ h => h) (Or.inl ⟨by kernel_rfl, ?_⟩) (by assumption) ?_
  rotate_left
  · intro w hSw
    try dsimp only at hSw
    go_simp
    try with_reducible rfl
  try simp only [Act.put, List.getElem_toArray, List.getElem_cons_zero, List.getElem_cons_succ, List.setIfInBounds_toArray, List.set_cons_zero, List.set_cons_succ]
  refine wpAnyH_take (i := 18) (v := undef) rfl (by kernel_rfl) (by kernel_rfl) (by kernel_rfl) (fun _ _ _ h => h) (Or.inr ⟨by kernel_rfl, rfl⟩) (by assumption) ?_
  try simp only [Act.put, List.getElem_toArray, List.getElem_cons_zero, List.getElem_cons_succ, List.setIfInBounds_toArray, List.set_cons_zero, List.set_cons_succ]
  refine wpAnyH_take (i := 19) (v := undef) rfl (by kernel_rfl) (by kernel_rfl) (by kernel_rfl) (fun _ _ _ h => h) (Or.inr ⟨by kernel_rfl, rfl⟩) (by assumption) ?_
  try simp only [Act.put, List.getElem_toArray, List.getElem_cons_zero, List.getElem_cons_succ, List.setIfInBounds_toArray, List.set_cons_zero, List.set_cons_succ]
  refine wpAnyH_take (i := 20) (v := undef) rfl (by kernel_rfl) (by kernel_rfl) (by kernel_rfl) (fun _ _ _ h => h) (Or.inr ⟨by kernel_rfl, rfl⟩) (by assumption) ?_
  try simp only [Act.put, List.getElem_toArray, List.getElem_cons_zero, List.getElem_cons_succ, List.setIfInBounds_toArray, List.set_cons_zero, List.set_cons_succ]
  refine wpAnyH_take (i := 21) (v := undef) rfl (by kernel_rfl) (by kernel_rfl) (by kernel_rfl) (fun _ _ _ h => h) (Or.inr ⟨by kernel_rfl, rfl⟩) (by assumption) ?_
  try simp only [Act.put, List.getElem_toArray, List.getElem_cons_zero, List.getElem_cons_succ, List.setIfInBounds_toArray, List.set_cons_zero, List.set_cons_succ]
  refine wpAnyH_take (i := 22) (v := undef) rfl (by kernel_rfl) (by kernel_rfl) (by kernel_rfl) (fun _ _ _ h => h) (Or.inr ⟨by kernel_rfl, rfl⟩) (by assumption) ?_
  try simp only [Act.put, List.getElem_toArray, List.getElem_cons_zero, List.getElem_cons_succ, List.setIfInBounds_toArray, List.set_cons_zero, List.set_cons_succ]
  refine wpAnyH_take (i := 23) (v := undef) rfl (by kernel_rfl) (by kernel_rfl) (by kernel_rfl) (fun _ _ _ h => h) (Or.inr ⟨by kernel_rfl, rfl⟩) (by assumption) ?_
  try simp only [Act.put, List.getElem_toArray, List.getElem_cons_zero, List.getElem_cons_succ, List.setIfInBounds_toArray, List.set_cons_zero, List.set_cons_succ]
  refine wpAnyH_take (i := 24) (v := undef) rfl (by kernel_rfl) (by kernel_rfl) (by kernel_rfl) (fun _ _ _ h => h) (Or.inr ⟨by kernel_rfl, rfl⟩) (by assumption) ?_
  try simp only [Act.put, List.getElem_toArray, List.getElem_cons_zero, List.getElem_cons_succ, List.setIfInBounds_toArray, List.set_cons_zero, List.set_cons_succ]
  refine wpAnyH_take (i := 25) (v := undef) rfl (by kernel_rfl) (by kernel_rfl) (by kernel_rfl) (fun _ _ _ h => h) (Or.inr ⟨by kernel_rfl, rfl⟩) (by assumption) ?_
  try simp only [Act.put, List.getElem_toArray, List.getElem_cons_zero, List.getElem_cons_succ, List.setIfInBounds_toArray, List.set_cons_zero, List.set_cons_succ]
  refine wpAnyH_take (i := 26) (v := undef) rfl (by kernel_rfl) (by kernel_rfl) (by kernel_rfl) (fun _ _ _ h => h) (Or.inr ⟨by kernel_rfl, rfl⟩) (by assumption) ?_
  try simp only [Act.put, List.getElem_toArray, List.getElem_cons_zero, List.getElem_cons_succ, List.setIfInBounds_toArray, List.set_cons_zero, List.set_cons_succ]
  refine wpAnyH_take (i := 27) (v := undef) rfl (by kernel_rfl) (by kernel_rfl) (by kernel_rfl) (fun _ _ _ h => h) (Or.inr ⟨by kernel_rfl, rfl⟩) (by assumption) ?_
  try simp only [Act.put, List.getElem_toArray, List.getElem_cons_zero, List.getElem_cons_succ, List.setIfInBounds_toArray, List.set_cons_zero, List.set_cons_succ]
  refine wpAnyH_take (i := 28) (v := undef) rfl (by kernel_rfl) (by kernel_rfl) (by kernel_rfl) (fun _ _ _ h => h) (Or.inr ⟨by kernel_rfl, rfl⟩) (by assumption) ?_
  try simp only [Act.put, List.getElem_toArray, List.getElem_cons_zero, List.getElem_cons_succ, List.setIfInBounds_toArray, List.set_cons_zero, List.set_cons_succ]
  refine wpAnyH_take (i := 29) (v := undef) rfl (by kernel_rfl) (by kernel_rfl) (by kernel_rfl) (fun _ _ _ h => h) (Or.inr ⟨by kernel_rfl, rfl⟩) (by assumption) ?_
  try simp only [Act.put, List.getElem_toArray, List.getElem_cons_zero, List.getElem_cons_succ, List.setIfInBounds_toArray, List.set_cons_zero, List.set_cons_succ]
  refine wpAnyH_take (i := 30) (v := ?_) rfl (by kernel_rfl) (by kernel_rfl) (by kernel_rfl) (fun _ _ _ h => h) (Or.inl ⟨by kernel_rfl, ?_⟩) (by assumption) ?_
  rotate_left
  · intro w hSw
    try dsimp only at hSw
    go_simp
    try with_reducible rfl
  try simp only [Act.put, List.getElem_toArray, List.getElem_cons_zero, List.getElem_cons_succ, List.setIfInBounds_toArray, List.set_cons_zero, List.set_cons_succ]
  refine wpAnyH_take (i := 31) (v := ?_) rfl (by kernel_rfl) (by kernel_rfl) (by kernel_rfl) (fun _ _ _ h => h) (Or.inl ⟨by kernel_rfl, ?_⟩) (by assumption) ?_
  rotate_left
  · intro w hSw
    try dsimp only at hSw
    go_simp
    try with_reducible rfl
  try simp only [Act.put, List.getElem_toArray, List.getElem_cons_zero, List.getElem_cons_succ, List.setIfInBounds_toArray, List.set_cons_zero, List.set_cons_succ]
  refine wpAnyH_done (by kernel_rfl) ?_ _
  go_wp2_with fail
  refine (HC.out _ (HA.out _ hzd)).mono ?_
  rintro e w8 ⟨rfl, hb8⟩
  go_wp2_with fail
  go_ret
  exact ⟨rfl, bel_chain HB.out (bel_chain hzd hb8)⟩

set_option maxRecDepth 100000 in
set_option maxHeartbeats 4000000 in
/-- schismalaw03.FractionChecks. -/
theorem lawChecks_right2 (p : Rat) (w : World) (hamb : Amb w) (hp : NQ p 400) (hl : decide (410 < (itx p.num).size ∨ 410 < (itx (p.den : Int)).size) = false) (hr : rightB (itx p.num).data.toList (itx (p.den : Int)).data.toList = true) (h1 : nz p.num ≤ 18) (h2 : ¬ nz (p.den : Int) ≤ 18) :
    Calls Tryz.prog 7 #[rv p] w (SmallRes (.bool true) w) := by
  have hl2 := of_decide_eq_false hl
  have HL := Lib.hid (fun w => show Calls _ _ _ w (SmallRes (.bool false) w) from hl ▸ tlong_any (itx p.num) (itx (p.den : Int)) 410 w)
  have HR := Lib.hid (fun w h => show Calls _ _ _ w (SmallRes (.bool true) w) from hr ▸ t3right_any (itx p.num) (itx (p.den : Int)) w h)
  have hc := fun w h => fcheck_any (itx p.num) (itx (p.den : Int)) w h (by omega) (by omega)
  rw [hr, if_pos rfl] at hc
  have HC := Lib.hid hc
  have np := hp.mono (show 400 ≤ 20000 by omega)
  obtain ⟨M, hM⟩ : ∃ M : ByteArray, ⟨(magT (itx p.num).data.toList).toArray⟩ = M := ⟨_, rfl⟩
  have hMs : M.size = nz p.num := by rw [← hM]; exact mag_itx_len p.num
  have HTP := Lib.hid (fun w => show Calls Tryz.prog 42 #[.string (itx p.num), .string ⟨#[45]⟩] w (SmallRes (.string M) w) from (Tryz.strings_TrimPrefix (itx p.num) ⟨#[45]⟩ w).mono fun e w' h => ⟨by rw [← hM]; exact h.1, by rw [h.2]; exact Below.refl _ _⟩)
  have hds := itx_den_size p
  have k1 : (M.size : Int) ≤ 18 := by omega
  have k2 : ¬ ((itx (p.den : Int)).size : Int) ≤ 18 := by omega
  have kd2 := decide_eq_false k2
  have H12 := Lib.hid (And.intro h1 h2)
  clear h1 h2
  clear hl hr hc hl2 hM hMs hds
  have HAMB := Lib.hid hamb
  clear hamb
  go_enter Tryz.func7, Tryz.ntmps7
  go_wp2_with fail
  obtain ⟨W, hW⟩ : ∃ W, (w.alloc (.cells #[.string (itx p.num), .string (itx (p.den : Int))] 27)) = W := ⟨_, rfl⟩
  rw [hW]
  obtain ⟨hX, hBW⟩ := B1.of hW
  clear hW
  have HX := Lib.hid (fun wz (hb : Below W.heap.size W wz) => hX.later hb)
  have HB := Lib.hid hBW
  have HA := Lib.hid (fun wz (hb : Below W.heap.size W wz) => HAMB.out.below (bel_chain HB.out hb))
  have hz0 : Below W.heap.size W W := Below.refl _ _
  clear hBW
  obtain ⟨_, c000, c001, f000, f001⟩ := hX
  go_wp2_with fail
  refine (known3_any _ (HA.out _ hz0)).mono ?_
  rintro e w1 ⟨rfl, hb1⟩
  have hz1 := bel_chain hz0 hb1
  obtain ⟨_, c100, c101, f100, f101⟩ := HX.out _ hz1
  go_wp2_with fail
  refine (HL.out _).mono ?_
  rintro e w2 ⟨rfl, hb2⟩
  have hz2 := bel_chain hz1 hb2
  obtain ⟨_, c200, c201, f200, f201⟩ := HX.out _ hz2
  go_wp2_with fail
  refine (HR.out _ (HA.out _ hz2)).mono ?_
  rintro e w3 ⟨rfl, hb3⟩
  have hz3 := bel_chain hz2 hb3
  obtain ⟨_, c300, c301, f300, f301⟩ := HX.out _ hz3
  go_wp2_with fail
  refine (fsmall_no2 p _ np H12.out.1 H12.out.2).mono ?_
  rintro e w4 ⟨rfl, hb4⟩
  have hz4 := bel_chain hz3 hb4
  obtain ⟨_, c400, c401, f400, f401⟩ := HX.out _ hz4
  go_wp2_with fail
  refine (HTP.out _).mono ?_
  rintro e w5 ⟨rfl, hb5⟩
  have hz5 := bel_chain hz4 hb5
  obtain ⟨_, c500, c501, f500, f501⟩ := HX.out _ hz5
  go_wp2_with fail
  have hzd := hz5.drew
  refine wp_region_held_drew (S := fun w' => w'.cell? ⟨w.heap.size, 0, none⟩ = some (.string (itx p.num)) ∧ w'.cell? ⟨w.heap.size, 1, none⟩ = some (.string (itx (p.den : Int)))) (by kernel_rfl) (⟨(HX.out _ hzd).2.1, (HX.out _ hzd).2.2.1⟩) (fun hS => ?_)
  refine wpAnyH_take (i := 0) (v := ?_) rfl (by kernel_rfl) (by kernel_rfl) (by kernel_rfl) (fun _ _ _ h => h) (Or.inl ⟨by kernel_rfl, ?_⟩) (by assumption) ?_
  rotate_left
  · intro w hSw
    try dsimp only at hSw
    go_simp
    try with_reducible rfl
  try simp only [Act.put, List.getElem_toArray, List.getElem_cons_zero, List.setIfInBounds_toArray, List.set_cons_zero, List.set_cons_succ]
  refine wpAnyH_take (i := 1) (v := ?_) rfl (by kernel_rfl) (by kernel_rfl) (by kernel_rfl) (fun _ _ _ h => h) (Or.inl ⟨by kernel_rfl, ?_⟩) (by assumption) ?_
  rotate_left
  · intro w hSw
    try dsimp only at hSw
    go_simp
    try with_reducible rfl
  try simp only [Act.put, List.getElem_toArray, List.getElem_cons_zero, List.getElem_cons_succ, List.setIfInBounds_toArray, List.set_cons_zero, List.set_cons_succ]
  refine wpAnyH_take (i := 2) (v := ?_) rfl (by kernel_rfl) (by kernel_rfl) (by kernel_rfl) (fun _ _ _ h => h) (Or.inl ⟨by kernel_rfl, ?_⟩) (by assumption) ?_
  rotate_left
  · intro w hSw
    try dsimp only at hSw
    go_simp
    try with_reducible rfl
  try simp only [Act.put, List.getElem_toArray, List.getElem_cons_zero, List.getElem_cons_succ, List.setIfInBounds_toArray, List.set_cons_zero, List.set_cons_succ]
  refine wpAnyH_take (i := 3) (v := ?_) rfl (by kernel_rfl) (by kernel_rfl) (by kernel_rfl) (fun _ _ _ h => h) (Or.inl ⟨by kernel_rfl, ?_⟩) (by assumption) ?_
  rotate_left
  · intro w hSw
    try dsimp only at hSw
    go_simp
    try with_reducible rfl
  try simp only [Act.put, List.getElem_toArray, List.getElem_cons_zero, List.getElem_cons_succ, List.setIfInBounds_toArray, List.set_cons_zero, List.set_cons_succ]
  refine wpAnyH_take (i := 4) (v := ?_) rfl (by kernel_rfl) (by kernel_rfl) (by kernel_rfl) (fun _ _ _ h => h) (Or.inl ⟨by kernel_rfl, ?_⟩) (by assumption) ?_
  rotate_left
  · intro w hSw
    try dsimp only at hSw
    go_simp
    try with_reducible rfl
  try simp only [Act.put, List.getElem_toArray, List.getElem_cons_zero, List.getElem_cons_succ, List.setIfInBounds_toArray, List.set_cons_zero, List.set_cons_succ]
  refine wpAnyH_take (i := 5) (v := ?_) rfl (by kernel_rfl) (by kernel_rfl) (by kernel_rfl) (fun _ _ _ h => h) (Or.inl ⟨by kernel_rfl, ?_⟩) (by assumption) ?_
  rotate_left
  · intro w hSw
    try dsimp only at hSw
    go_simp
    try with_reducible rfl
  try simp only [Act.put, List.getElem_toArray, List.getElem_cons_zero, List.getElem_cons_succ, List.setIfInBounds_toArray, List.set_cons_zero, List.set_cons_succ]
  refine wpAnyH_take (i := 6) (v := ?_) rfl (by kernel_rfl) (by kernel_rfl) (by kernel_rfl) (fun _ _ _ h => h) (Or.inl ⟨by kernel_rfl, ?_⟩) (by assumption) ?_
  rotate_left
  · intro w hSw
    try dsimp only at hSw
    go_simp
    try with_reducible rfl
  try simp only [Act.put, List.getElem_toArray, List.getElem_cons_zero, List.getElem_cons_succ, List.setIfInBounds_toArray, List.set_cons_zero, List.set_cons_succ]
  refine wpAnyH_take (i := 7) (v := ?_) rfl (by kernel_rfl) (by kernel_rfl) (by kernel_rfl) (fun _ _ _ h => h) (Or.inl ⟨by kernel_rfl, ?_⟩) (by assumption) ?_
  rotate_left
  · intro w hSw
    try dsimp only at hSw
    go_simp
    try with_reducible rfl
  try simp only [Act.put, List.getElem_toArray, List.getElem_cons_zero, List.getElem_cons_succ, List.setIfInBounds_toArray, List.set_cons_zero, List.set_cons_succ]
  refine wpAnyH_take (i := 8) (v := ?_) rfl (by kernel_rfl) (by kernel_rfl) (by kernel_rfl) (fun _ _ _ h => h) (Or.inl ⟨by kernel_rfl, ?_⟩) (by assumption) ?_
  rotate_left
  · intro w hSw
    try dsimp only at hSw
    go_simp
    try with_reducible rfl
  try simp only [Act.put, List.getElem_toArray, List.getElem_cons_zero, List.getElem_cons_succ, List.setIfInBounds_toArray, List.set_cons_zero, List.set_cons_succ]
  refine wpAnyH_take (i := 9) (v := ?_) rfl (by kernel_rfl) (by kernel_rfl) (by kernel_rfl) (fun _ _ _ h => h) (Or.inl ⟨by kernel_rfl, ?_⟩) (by assumption) ?_
  rotate_left
  · intro w hSw
    try dsimp only at hSw
    go_simp
    try with_reducible rfl
  try simp only [Act.put, List.getElem_toArray, List.getElem_cons_zero, List.getElem_cons_succ, List.setIfInBounds_toArray, List.set_cons_zero, List.set_cons_succ]
  refine wpAnyH_take (i := 10) (v := ?_) rfl (by kernel_rfl) (by kernel_rfl) (by kernel_rfl) (fun _ _ _ h => h) (Or.inl ⟨by kernel_rfl, ?_⟩) (by assumption) ?_
  rotate_left
  · intro w hSw
    try dsimp only at hSw
    go_simp
    try with_reducible rfl
  try simp only [Act.put, List.getElem_toArray, List.getElem_cons_zero, List.getElem_cons_succ, List.setIfInBounds_toArray, List.set_cons_zero, List.set_cons_succ]
  refine wpAnyH_take (i := 11) (v := ?_) rfl (by kernel_rfl) (by kernel_rfl) (by kernel_rfl) (fun _ _ _ h => h) (Or.inl ⟨by kernel_rfl, ?_⟩) (by assumption) ?_
  rotate_left
  · intro w hSw
    try dsimp only at hSw
    go_simp
    try with_reducible rfl
  try simp only [Act.put, List.getElem_toArray, List.getElem_cons_zero, List.getElem_cons_succ, List.setIfInBounds_toArray, List.set_cons_zero, List.set_cons_succ]
  refine wpAnyH_take (i := 12) (v := ?_) rfl (by kernel_rfl) (by kernel_rfl) (by kernel_rfl) (fun _ _ _ h => h) (Or.inl ⟨by kernel_rfl, ?_⟩) (by assumption) ?_
  rotate_left
  · intro w hSw
    try dsimp only at hSw
    go_simp
    try with_reducible rfl
  try simp only [Act.put, List.getElem_toArray, List.getElem_cons_zero, List.getElem_cons_succ, List.setIfInBounds_toArray, List.set_cons_zero, List.set_cons_succ]
  refine wpAnyH_take (i := 13) (v := ?_) rfl (by kernel_rfl) (by kernel_rfl) (by kernel_rfl) (fun _ _ _ h => h) (Or.inl ⟨by kernel_rfl, ?_⟩) (by assumption) ?_
  rotate_left
  · intro w hSw
    try dsimp only at hSw
    go_simp
    try with_reducible rfl
  try simp only [Act.put, List.getElem_toArray, List.getElem_cons_zero, List.getElem_cons_succ, List.setIfInBounds_toArray, List.set_cons_zero, List.set_cons_succ]
  refine wpAnyH_take (i := 14) (v := ?_) rfl (by kernel_rfl) (by kernel_rfl) (by kernel_rfl) (fun _ _ _ h => h) (Or.inl ⟨by kernel_rfl, ?_⟩) (by assumption) ?_
  rotate_left
  · intro w hSw
    try dsimp only at hSw
    go_simp
    try with_reducible rfl
  try simp only [Act.put, List.getElem_toArray, List.getElem_cons_zero, List.getElem_cons_succ, List.setIfInBounds_toArray, List.set_cons_zero, List.set_cons_succ]
  refine wpAnyH_take (i := 15) (v := ?_) rfl (by kernel_rfl) (by kernel_rfl) (by kernel_rfl) (fun _ _ _ h => h) (Or.inl ⟨by kernel_rfl, ?_⟩) (by assumption) ?_
  rotate_left
  · intro w hSw
    try dsimp only at hSw
    go_simp
    try with_reducible rfl
  try simp only [Act.put, List.getElem_toArray, List.getElem_cons_zero, List.getElem_cons_succ, List.setIfInBounds_toArray, List.set_cons_zero, List.set_cons_succ]
  refine wpAnyH_take (i := 16) (v := ?_) rfl (by kernel_rfl) (by kernel_rfl) (by kernel_rfl) (fun _ _ _ h => h) (Or.inl ⟨by kernel_rfl, ?_⟩) (by assumption) ?_
  rotate_left
  · intro w hSw
    try dsimp only at hSw
    go_simp
    try with_reducible rfl
  try simp only [Act.put, List.getElem_toArray, List.getElem_cons_zero, List.getElem_cons_succ, List.setIfInBounds_toArray, List.set_cons_zero, List.set_cons_succ]
  refine wpAnyH_take (i := 17) (v := ?_) rfl (by kernel_rfl) (by kernel_rfl) (by kernel_rfl) (fun _ _ _ h => h) (Or.inl ⟨by kernel_rfl, ?_⟩) (by assumption) ?_
  rotate_left
  · intro w hSw
    try dsimp only at hSw
    go_simp
    try with_reducible rfl
  try simp only [Act.put, List.getElem_toArray, List.getElem_cons_zero, List.getElem_cons_succ, List.setIfInBounds_toArray, List.set_cons_zero, List.set_cons_succ]
  refine wpAnyH_take (i := 18) (v := undef) rfl (by kernel_rfl) (by kernel_rfl) (by kernel_rfl) (fun _ _ _ h => h) (Or.inr ⟨by kernel_rfl, rfl⟩) (by assumption) ?_
  try simp only [Act.put, List.getElem_toArray, List.getElem_cons_zero, List.getElem_cons_succ, List.setIfInBounds_toArray, List.set_cons_zero, List.set_cons_succ]
  refine wpAnyH_take (i := 19) (v := undef) rfl (by kernel_rfl) (by kernel_rfl) (by kernel_rfl) (fun _ _ _ h => h) (Or.inr ⟨by kernel_rfl, rfl⟩) (by assumption) ?_
  try simp only [Act.put, List.getElem_toArray, List.getElem_cons_zero, List.getElem_cons_succ, List.setIfInBounds_toArray, List.set_cons_zero, List.set_cons_succ]
  refine wpAnyH_take (i := 20) (v := undef) rfl (by kernel_rfl) (by kernel_rfl) (by kernel_rfl) (fun _ _ _ h => h) (Or.inr ⟨by kernel_rfl, rfl⟩) (by assumption) ?_
  try simp only [Act.put, List.getElem_toArray, List.getElem_cons_zero, List.getElem_cons_succ, List.setIfInBounds_toArray, List.set_cons_zero, List.set_cons_succ]
  refine wpAnyH_take (i := 21) (v := undef) rfl (by kernel_rfl) (by kernel_rfl) (by kernel_rfl) (fun _ _ _ h => h) (Or.inr ⟨by kernel_rfl, rfl⟩) (by assumption) ?_
  try simp only [Act.put, List.getElem_toArray, List.getElem_cons_zero, List.getElem_cons_succ, List.setIfInBounds_toArray, List.set_cons_zero, List.set_cons_succ]
  refine wpAnyH_take (i := 22) (v := undef) rfl (by kernel_rfl) (by kernel_rfl) (by kernel_rfl) (fun _ _ _ h => h) (Or.inr ⟨by kernel_rfl, rfl⟩) (by assumption) ?_
  try simp only [Act.put, List.getElem_toArray, List.getElem_cons_zero, List.getElem_cons_succ, List.setIfInBounds_toArray, List.set_cons_zero, List.set_cons_succ]
  refine wpAnyH_take (i := 23) (v := undef) rfl (by kernel_rfl) (by kernel_rfl) (by kernel_rfl) (fun _ _ _ h => h) (Or.inr ⟨by kernel_rfl, rfl⟩) (by assumption) ?_
  try simp only [Act.put, List.getElem_toArray, List.getElem_cons_zero, List.getElem_cons_succ, List.setIfInBounds_toArray, List.set_cons_zero, List.set_cons_succ]
  refine wpAnyH_take (i := 24) (v := undef) rfl (by kernel_rfl) (by kernel_rfl) (by kernel_rfl) (fun _ _ _ h => h) (Or.inr ⟨by kernel_rfl, rfl⟩) (by assumption) ?_
  try simp only [Act.put, List.getElem_toArray, List.getElem_cons_zero, List.getElem_cons_succ, List.setIfInBounds_toArray, List.set_cons_zero, List.set_cons_succ]
  refine wpAnyH_take (i := 25) (v := undef) rfl (by kernel_rfl) (by kernel_rfl) (by kernel_rfl) (fun _ _ _ h => h) (Or.inr ⟨by kernel_rfl, rfl⟩) (by assumption) ?_
  try simp only [Act.put, List.getElem_toArray, List.getElem_cons_zero, List.getElem_cons_succ, List.setIfInBounds_toArray, List.set_cons_zero, List.set_cons_succ]
  refine wpAnyH_take (i := 26) (v := undef) rfl (by kernel_rfl) (by kernel_rfl) (by kernel_rfl) (fun _ _ _ h => h) (Or.inr ⟨by kernel_rfl, rfl⟩) (by assumption) ?_
  try simp only [Act.put, List.getElem_toArray, List.getElem_cons_zero, List.getElem_cons_succ, List.setIfInBounds_toArray, List.set_cons_zero, List.set_cons_succ]
  refine wpAnyH_take (i := 27) (v := undef) rfl (by kernel_rfl) (by kernel_rfl) (by kernel_rfl) (fun _ _ _ h => h) (Or.inr ⟨by kernel_rfl, rfl⟩) (by assumption) ?_
  try simp only [Act.put, List.getElem_toArray, List.getElem_cons_zero, List.getElem_cons_succ, List.setIfInBounds_toArray, List.set_cons_zero, List.set_cons_succ]
  refine wpAnyH_take (i := 28) (v := undef) rfl (by kernel_rfl) (by kernel_rfl) (by kernel_rfl) (fun _ _ _ h => h) (Or.inr ⟨by kernel_rfl, rfl⟩) (by assumption) ?_
  try simp only [Act.put, List.getElem_toArray, List.getElem_cons_zero, List.getElem_cons_succ, List.setIfInBounds_toArray, List.set_cons_zero, List.set_cons_succ]
  refine wpAnyH_take (i := 29) (v := undef) rfl (by kernel_rfl) (by kernel_rfl) (by kernel_rfl) (fun _ _ _ h => h) (Or.inr ⟨by kernel_rfl, rfl⟩) (by assumption) ?_
  try simp only [Act.put, List.getElem_toArray, List.getElem_cons_zero, List.getElem_cons_succ, List.setIfInBounds_toArray, List.set_cons_zero, List.set_cons_succ]
  refine wpAnyH_take (i := 30) (v := ?_) rfl (by kernel_rfl) (by kernel_rfl) (by kernel_rfl) (fun _ _ _ h => h) (Or.inl ⟨by kernel_rfl, ?_⟩) (by assumption) ?_
  rotate_left
  · intro w hSw
    try dsimp only at hSw
    go_simp
    try with_reducible rfl
  try simp only [Act.put, List.getElem_toArray, List.getElem_cons_zero, List.getElem_cons_succ, List.setIfInBounds_toArray, List.set_cons_zero, List.set_cons_succ]
  refine wpAnyH_take (i := 31) (v := ?_) rfl (by kernel_rfl) (by kernel_rfl) (by kernel_rfl) (fun _ _ _ h => h) (Or.inl ⟨by kernel_rfl, ?_⟩) (by assumption) ?_
  rotate_left
  · intro w hSw
    try dsimp only at hSw
    go_simp
    try with_reducible rfl
  try simp only [Act.put, List.getElem_toArray, List.getElem_cons_zero, List.getElem_cons_succ, List.setIfInBounds_toArray, List.set_cons_zero, List.set_cons_succ]
  refine wpAnyH_done (by kernel_rfl) ?_ _
  go_wp2_with fail
  refine (HC.out _ (HA.out _ hzd)).mono ?_
  rintro e w8 ⟨rfl, hb8⟩
  go_wp2_with fail
  go_ret
  exact ⟨rfl, bel_chain HB.out (bel_chain hzd hb8)⟩

theorem lawChecks_walk (n0 d0 : ByteArray) (w : World) (hamb : Amb w) :
    Calls Tryz.prog 7 #[.agg #[.string n0, .string d0]] w (SmallRes (.bool true) w) := by
  cases hl : decide (410 < n0.size ∨ 410 < d0.size) with
  | true => exact lawChecks_long n0 d0 w hamb hl
  | false =>
    cases hr : rightB n0.data.toList d0.data.toList with
    | false => exact lawChecks_wrong n0 d0 w hamb hl hr
    | true =>
      obtain ⟨p, rfl, rfl, hp⟩ := rightB_rat hr
      by_cases h1 : nz p.num ≤ 18
      · by_cases h2 : nz (p.den : Int) ≤ 18
        · exact lawChecks_right0 p w hamb hp hl hr h1 h2
        · exact lawChecks_right2 p w hamb hp hl hr h1 h2
      · exact lawChecks_right1 p w hamb hp hl hr h1
end Go.Proofs.YtejelchcpbchgaaGreatDoor
