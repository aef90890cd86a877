/- Greater text, out of: V9a. -/
import Derived.Test.YtejelchcpbchgaaGreatDoorV9h
import Derived.IntWalk
namespace Go.Proofs.YtejelchcpbchgaaGreatDoor
open Go.RowKit Go.PlainAid
attribute [local go_sem] field_rat0 field_rat1

set_option maxRecDepth 100000 in
set_option maxHeartbeats 4000000 in
/-- schismalaw03.FractionField. -/
theorem lawField_0 (a0 b0 a1 b1 a2 b2 : Int) (p q r : Rat) (w : World) (hamb : Amb w) (np : NQ p 6) (nq : NQ q 6) (nr : NQ r 6)
    (HMp : Hid (∀ w, Amb w → Calls Tryz.prog 29 #[.agg #[.int .i16 a0, .int .u8 b0]] w (SmallRes (rv p) w)))
    (HMq : Hid (∀ w, Amb w → Calls Tryz.prog 29 #[.agg #[.int .i16 a1, .int .u8 b1]] w (SmallRes (rv q) w)))
    (HMr : Hid (∀ w, Amb w → Calls Tryz.prog 29 #[.agg #[.int .i16 a2, .int .u8 b2]] w (SmallRes (rv r) w))) (h0 : ¬ q.num = 0) :
    Calls Tryz.prog 5 #[.agg #[.int .i16 a0, .int .u8 b0], .agg #[.int .i16 a1, .int .u8 b1], .agg #[.int .i16 a2, .int .u8 b2]] w (SmallRes (.bool true) w) := by
  obtain ⟨S1, hS1⟩ : ∃ v : Rat, p + q = v := ⟨_, rfl⟩
  have nS1 := hS1 ▸ np.add nq
  obtain ⟨T1, hT1⟩ : ∃ v : Rat, p + q + r = v := ⟨_, rfl⟩
  have nT1 := hT1 ▸ (np.add nq).add nr
  obtain ⟨M1, hM1⟩ : ∃ v : Rat, p * q = v := ⟨_, rfl⟩
  have nM1 := hM1 ▸ np.mul nq
  obtain ⟨U1, hU1⟩ : ∃ v : Rat, p * q * r = v := ⟨_, rfl⟩
  have nU1 := hU1 ▸ (np.mul nq).mul nr
  obtain ⟨M2, hM2⟩ : ∃ v : Rat, r * q = v := ⟨_, rfl⟩
  have nM2 := hM2 ▸ nr.mul nq
  obtain ⟨S2, hS2⟩ : ∃ v : Rat, q + r = v := ⟨_, rfl⟩
  have nS2 := hS2 ▸ nq.add nr
  obtain ⟨V1, hV1⟩ : ∃ v : Rat, p * (q + r) = v := ⟨_, rfl⟩
  have nV1 := hV1 ▸ np.mul (nq.add nr)
  obtain ⟨M3, hM3⟩ : ∃ v : Rat, p * r = v := ⟨_, rfl⟩
  have nM3 := hM3 ▸ np.mul nr
  obtain ⟨D1, hD1⟩ : ∃ v : Rat, p - q = v := ⟨_, rfl⟩
  have nD1 := hD1 ▸ np.sub nq
  obtain ⟨S3, hS3⟩ : ∃ v : Rat, p + r = v := ⟨_, rfl⟩
  have nS3 := hS3 ▸ np.add nr
  obtain ⟨M4, hM4⟩ : ∃ v : Rat, q * r = v := ⟨_, rfl⟩
  have nM4 := hM4 ▸ nq.mul nr
  have OA1 := Lib.hid (fun w h => show Calls Tryz.prog 30 #[rv p, rv q] w (SmallRes (rv S1) w) from (show p + q = S1 from hS1) ▸ fadd_any p q w h (np.mono (by omega)) (nq.mono (by omega)))
  have OA2 := Lib.hid (fun w h => show Calls Tryz.prog 30 #[rv S1, rv r] w (SmallRes (rv T1) w) from (show S1 + r = T1 from by rw [← hT1, ← hS1]) ▸ fadd_any S1 r w h (nS1.mono (by omega)) (nr.mono (by omega)))
  have OA3 := Lib.hid (fun w h => show Calls Tryz.prog 30 #[rv q, rv p] w (SmallRes (rv S1) w) from (show q + p = S1 from by rw [← hS1]; grind) ▸ fadd_any q p w h (nq.mono (by omega)) (np.mono (by omega)))
  have OA4 := Lib.hid (fun w h => show Calls Tryz.prog 30 #[rv r, rv S1] w (SmallRes (rv T1) w) from (show r + S1 = T1 from by rw [← hT1, ← hS1]; grind) ▸ fadd_any r S1 w h (nr.mono (by omega)) (nS1.mono (by omega)))
  have OB1 := Lib.hid (fun w h => show Calls Tryz.prog 31 #[rv p, rv q] w (SmallRes (rv M1) w) from (show p * q = M1 from hM1) ▸ fmul_any p q w h (np.mono (by omega)) (nq.mono (by omega)))
  have OB2 := Lib.hid (fun w h => show Calls Tryz.prog 31 #[rv M1, rv r] w (SmallRes (rv U1) w) from (show M1 * r = U1 from by rw [← hU1, ← hM1]) ▸ fmul_any M1 r w h (nM1.mono (by omega)) (nr.mono (by omega)))
  have OB3 := Lib.hid (fun w h => show Calls Tryz.prog 31 #[rv r, rv q] w (SmallRes (rv M2) w) from (show r * q = M2 from hM2) ▸ fmul_any r q w h (nr.mono (by omega)) (nq.mono (by omega)))
  have OB4 := Lib.hid (fun w h => show Calls Tryz.prog 31 #[rv M2, rv p] w (SmallRes (rv U1) w) from (show M2 * p = U1 from by rw [← hU1, ← hM2]; grind) ▸ fmul_any M2 p w h (nM2.mono (by omega)) (np.mono (by omega)))
  have OC1 := Lib.hid (fun w h => show Calls Tryz.prog 30 #[rv q, rv r] w (SmallRes (rv S2) w) from (show q + r = S2 from hS2) ▸ fadd_any q r w h (nq.mono (by omega)) (nr.mono (by omega)))
  have OC2 := Lib.hid (fun w h => show Calls Tryz.prog 31 #[rv p, rv S2] w (SmallRes (rv V1) w) from (show p * S2 = V1 from by rw [← hV1, ← hS2]) ▸ fmul_any p S2 w h (np.mono (by omega)) (nS2.mono (by omega)))
  have OC4 := Lib.hid (fun w h => show Calls Tryz.prog 31 #[rv p, rv r] w (SmallRes (rv M3) w) from (show p * r = M3 from hM3) ▸ fmul_any p r w h (np.mono (by omega)) (nr.mono (by omega)))
  have OC5 := Lib.hid (fun w h => show Calls Tryz.prog 30 #[rv M1, rv M3] w (SmallRes (rv V1) w) from (show M1 + M3 = V1 from by rw [← hV1, ← hM1, ← hM3]; grind) ▸ fadd_any M1 M3 w h (nM1.mono (by omega)) (nM3.mono (by omega)))
  have OC6 := Lib.hid (fun w h => show Calls Tryz.prog 32 #[rv p, rv q] w (SmallRes (rv D1) w) from (show p - q = D1 from hD1) ▸ fsub_any p q w h (np.mono (by omega)) (nq.mono (by omega)))
  have OC7 := Lib.hid (fun w h => show Calls Tryz.prog 30 #[rv D1, rv q] w (SmallRes (rv p) w) from (show D1 + q = p from by rw [← hD1]; grind) ▸ fadd_any D1 q w h (nD1.mono (by omega)) (nq.mono (by omega)))
  have OD2 := Lib.hid (fun w h => show Calls Tryz.prog 30 #[rv p, rv r] w (SmallRes (rv S3) w) from (show p + r = S3 from hS3) ▸ fadd_any p r w h (np.mono (by omega)) (nr.mono (by omega)))
  have OD4 := Lib.hid (fun w h => show Calls Tryz.prog 31 #[rv q, rv r] w (SmallRes (rv M4) w) from (show q * r = M4 from hM4) ▸ fmul_any q r w h (nq.mono (by omega)) (nr.mono (by omega)))
  obtain ⟨n, hn⟩ : ∃ n, cmpQ p q = n := ⟨_, rfl⟩
  obtain ⟨s, hs⟩ : ∃ s, r.num.sign = s := ⟨_, rfl⟩
  have hns := cmp_sign_bd p q r
  rw [hn, hs] at hns
  obtain ⟨hns1, hns2⟩ := hns
  have hwr : IntKind.i64.wrap (n * s) = n * s := IntWalk.i64_in _ (by omega)
  have hbq : (n * s == n * s) = true := beq_self_eq_true _
  have hnq : (n != n) = false := by simp
  have K1 := Lib.hid (fun w h => show Calls Tryz.prog 35 #[rv p, rv q] w (SmallRes (.int .i64 n) w) from hn ▸ fcompare_any p q w h (np.mono (by omega)) (nq.mono (by omega)))
  have K2 := Lib.hid (fun w h => show Calls Tryz.prog 35 #[rv S3, rv S2] w (SmallRes (.int .i64 n) w) from (show cmpQ S3 S2 = n by rw [← hS3, ← hS2, cmpQ_add, hn]) ▸ fcompare_any S3 S2 w h (nS3.mono (by omega)) (nS2.mono (by omega)))
  have K3 := Lib.hid (fun w h => show Calls Tryz.prog 35 #[rv M3, rv M4] w (SmallRes (.int .i64 (n * s)) w) from (show cmpQ M3 M4 = n * s by rw [← hM3, ← hM4, cmpQ_mul, hn, hs]) ▸ fcompare_any M3 M4 w h (nM3.mono (by omega)) (nM4.mono (by omega)))
  have K4 := Lib.hid (fun w => show Calls Tryz.prog 34 #[rv r] w (SmallRes (.int .i64 s) w) from hs ▸ fsign_any r w (nr.mono (by omega)))
  have hq0 : q ≠ 0 := fun e => h0 (Rat.num_eq_zero.2 e)
  obtain ⟨X, hX0⟩ : ∃ v : Rat, p / q = v := ⟨_, rfl⟩
  have nX : NQ X 12 := hX0 ▸ np.div nq hq0
  have DV := Lib.hid (fun w h => show Calls Tryz.prog 33 #[rv p, rv q] w (SmallRes (.tuple #[rv X, .int .i64 0]) w) from hX0 ▸ fdiv_any p q w h (np.mono (by omega)) (nq.mono (by omega)) h0)
  have DM := Lib.hid (fun w h => show Calls Tryz.prog 31 #[rv X, rv q] w (SmallRes (rv p) w) from (show X * q = p by rw [← hX0]; exact Rat.div_mul_cancel hq0) ▸ fmul_any X q w h (nX.mono (by omega)) (nq.mono (by omega)))
  clear nX hX0 hq0 h0
  clear nS1 hS1 nT1 hT1 nM1 hM1 nU1 hU1 nM2 hM2 nS2 hS2 nV1 hV1 nM3 hM3 nD1 hD1 nS3 hS3 nM4 hM4
  clear hn hs np nq nr
  obtain ⟨k1, _⟩ : ∃ v : Nat, v = v := ⟨0, rfl⟩
  obtain ⟨k2, _⟩ : ∃ v : Nat, v = v := ⟨0, rfl⟩
  obtain ⟨k3, _⟩ : ∃ v : Nat, v = v := ⟨0, rfl⟩
  have HAMB := Lib.hid hamb
  clear hamb
  go_enter Tryz.func5, Tryz.ntmps5
  go_wp2_with fail
  obtain ⟨W, hW⟩ : ∃ W, (((w.alloc (.cells #[.int .i16 a0, .int .u8 b0] 49)).alloc (.cells #[.int .i16 a1, .int .u8 b1] 49)).alloc (.cells #[.int .i16 a2, .int .u8 b2] 49)) = W := ⟨_, rfl⟩
  rw [hW]
  obtain ⟨hX, hBW⟩ := B3.of hW
  clear hW
  have HX := Lib.hid (fun wz (hb : Below W.heap.size W wz) => hX.later hb)
  have HB := Lib.hid hBW
  have HA := Lib.hid (fun wz (hb : Below W.heap.size W wz) => HAMB.out.below (bel_chain HB.out hb))
  have hz0 : Below W.heap.size W W := Below.refl _ _
  clear hBW
  obtain ⟨⟨_, c000, c001, f000, f001⟩, ⟨_, c010, c011, f010, f011⟩, ⟨_, c020, c021, f020, f021⟩⟩ := hX
  go_wp2_with fail
  refine (known3_any _ (HA.out _ hz0)).mono ?_
  rintro e w1 ⟨rfl, hb1⟩
  have hz1 := bel_chain hz0 hb1
  obtain ⟨⟨_, c100, c101, f100, f101⟩, ⟨_, c110, c111, f110, f111⟩, ⟨_, c120, c121, f120, f121⟩⟩ := HX.out _ hz1
  go_wp2_with fail
  have HS := Lib.hid (fun wz (h : Below W.heap.size W wz) => show wz.cell? ⟨w.heap.size, 0, none⟩ = some (.int .i16 a0) ∧ wz.cell? ⟨w.heap.size, 1, none⟩ = some (.int .u8 b0) ∧ wz.cell? ⟨w.heap.size + 1, 0, none⟩ = some (.int .i16 a1) ∧ wz.cell? ⟨w.heap.size + 1, 1, none⟩ = some (.int .u8 b1) ∧ wz.cell? ⟨w.heap.size + 1 + 1, 0, none⟩ = some (.int .i16 a2) ∧ wz.cell? ⟨w.heap.size + 1 + 1, 1, none⟩ = some (.int .u8 b2) from ⟨(HX.out _ h).1.2.1, (HX.out _ h).1.2.2.1, (HX.out _ h).2.1.2.1, (HX.out _ h).2.1.2.2.1, (HX.out _ h).2.2.2.1, (HX.out _ h).2.2.2.2.1⟩)
  have hzd := hz1.drew
  refine wp_region_held_drew (S := fun w' => w'.cell? ⟨w.heap.size, 0, none⟩ = some (.int .i16 a0) ∧ w'.cell? ⟨w.heap.size, 1, none⟩ = some (.int .u8 b0) ∧ w'.cell? ⟨w.heap.size + 1, 0, none⟩ = some (.int .i16 a1) ∧ w'.cell? ⟨w.heap.size + 1, 1, none⟩ = some (.int .u8 b1) ∧ w'.cell? ⟨w.heap.size + 1 + 1, 0, none⟩ = some (.int .i16 a2) ∧ w'.cell? ⟨w.heap.size + 1 + 1, 1, none⟩ = some (.int .u8 b2)) (by kernel_rfl) (HS.out _ hzd) (fun hS => ?_)
  refine wpAnyH_take (i := 0) (v := ?_) rfl (by kernel_rfl) (by kernel_rfl) (by kernel_rfl) (fun _ _ _ h => h) (Or.inl ⟨by kernel_rfl, ?_⟩) (by assumption) ?_
  rotate_left
  · intro w hSw
    try dsimp only at hSw
    go_simp
    try with_reducible rfl
  try simp only [Act.put, List.getElem_toArray, List.getElem_cons_zero, List.setIfInBounds_toArray, List.set_cons_zero, List.set_cons_succ]
  refine wpAnyH_take (i := 2) (v := ?_) rfl (by kernel_rfl) (by kernel_rfl) (by kernel_rfl) (fun _ _ _ h => h) (Or.inl ⟨by kernel_rfl, ?_⟩) (by assumption) ?_
  rotate_left
  · intro w hSw
    try dsimp only at hSw
    go_simp
    try with_reducible rfl
  try simp only [Act.put, List.getElem_toArray, List.getElem_cons_zero, List.getElem_cons_succ, List.setIfInBounds_toArray, List.set_cons_zero, List.set_cons_succ]
  refine wpAnyH_take (i := 4) (v := ?_) rfl (by kernel_rfl) (by kernel_rfl) (by kernel_rfl) (fun _ _ _ h => h) (Or.inl ⟨by kernel_rfl, ?_⟩) (by assumption) ?_
  rotate_left
  · intro w hSw
    try dsimp only at hSw
    go_simp
    try with_reducible rfl
  try simp only [Act.put, List.getElem_toArray, List.getElem_cons_zero, List.getElem_cons_succ, List.setIfInBounds_toArray, List.set_cons_zero, List.set_cons_succ]
  apply node3 (I := fun w' x y z => (Below W.heap.size W w') ∧ (Box2 w' x (.string ⟨#[]⟩) (.string ⟨#[]⟩) ∧ W.heap.size ≤ x) ∧ (Box2 w' y (.string ⟨#[]⟩) (.string ⟨#[]⟩) ∧ W.heap.size ≤ y) ∧ (Box2 w' z (.string ⟨#[]⟩) (.string ⟨#[]⟩) ∧ W.heap.size ≤ z) ∧ (x ≠ y) ∧ (x ≠ z) ∧ (y ≠ z))
  intro n0
  have N3123 := Lib.hid n0
  clear n0
  apply node3 (I := fun w' x y z => (Below W.heap.size W w') ∧ (Box2 w' y (.string ⟨#[]⟩) (.string ⟨#[]⟩) ∧ W.heap.size ≤ y) ∧ (Box2 w' z (.string ⟨#[]⟩) (.string ⟨#[]⟩) ∧ W.heap.size ≤ z) ∧ (y ≠ z))
  intro n0
  have N323 := Lib.hid n0
  clear n0
  apply node3 (I := fun w' x y z => (Below W.heap.size W w') ∧ (Box2 w' x (.string ⟨#[]⟩) (.string ⟨#[]⟩) ∧ W.heap.size ≤ x) ∧ (Box2 w' z (.string ⟨#[]⟩) (.string ⟨#[]⟩) ∧ W.heap.size ≤ z) ∧ (x ≠ z))
  intro n0
  have N313 := Lib.hid n0
  clear n0
  apply node3 (I := fun w' x y z => (Below W.heap.size W w') ∧ (Box2 w' x (.string ⟨#[]⟩) (.string ⟨#[]⟩) ∧ W.heap.size ≤ x) ∧ (Box2 w' y (.string ⟨#[]⟩) (.string ⟨#[]⟩) ∧ W.heap.size ≤ y) ∧ (x ≠ y))
  intro n0
  have N312 := Lib.hid n0
  clear n0
  apply node3 (I := fun w' x y z => (Below W.heap.size W w') ∧ (Box2 w' x (.string ⟨#[]⟩) (.string ⟨#[]⟩) ∧ W.heap.size ≤ x) ∧ (Box2 w' y (.string ⟨#[]⟩) (.string ⟨#[]⟩) ∧ W.heap.size ≤ y) ∧ (Box2 w' z (.string ⟨#[]⟩) (.string ⟨#[]⟩) ∧ W.heap.size ≤ z) ∧ (x ≠ y) ∧ (x ≠ z) ∧ (y ≠ z))
  intro n0
  have N2123 := Lib.hid n0
  clear n0
  apply node3 (I := fun w' x y z => (Below W.heap.size W w') ∧ (Box2 w' z (.string ⟨#[]⟩) (.string ⟨#[]⟩) ∧ W.heap.size ≤ z))
  intro n0
  have N33 := Lib.hid n0
  clear n0
  apply node3 (I := fun w' x y z => (Below W.heap.size W w') ∧ (Box2 w' y (.string ⟨#[]⟩) (.string ⟨#[]⟩) ∧ W.heap.size ≤ y))
  intro n0
  have N32 := Lib.hid n0
  clear n0
  apply node3 (I := fun w' x y z => (Below W.heap.size W w') ∧ (Box2 w' x (.string ⟨#[]⟩) (.string ⟨#[]⟩) ∧ W.heap.size ≤ x))
  intro n0
  have N31 := Lib.hid n0
  clear n0
  apply node3 (I := fun w' x y z => (Below W.heap.size W w') ∧ (Box2 w' y (.string ⟨#[]⟩) (.string ⟨#[]⟩) ∧ W.heap.size ≤ y) ∧ (Box2 w' z (.string ⟨#[]⟩) (.string ⟨#[]⟩) ∧ W.heap.size ≤ z) ∧ (y ≠ z))
  intro n0
  have N223 := Lib.hid n0
  clear n0
  apply node3 (I := fun w' x y z => (Below W.heap.size W w') ∧ (Box2 w' x (.string ⟨#[]⟩) (.string ⟨#[]⟩) ∧ W.heap.size ≤ x) ∧ (Box2 w' z (.string ⟨#[]⟩) (.string ⟨#[]⟩) ∧ W.heap.size ≤ z) ∧ (x ≠ z))
  intro n0
  have N213 := Lib.hid n0
  clear n0
  apply node3 (I := fun w' x y z => (Below W.heap.size W w') ∧ (Box2 w' x (.string ⟨#[]⟩) (.string ⟨#[]⟩) ∧ W.heap.size ≤ x) ∧ (Box2 w' y (.string ⟨#[]⟩) (.string ⟨#[]⟩) ∧ W.heap.size ≤ y) ∧ (x ≠ y))
  intro n0
  have N212 := Lib.hid n0
  clear n0
  apply node3 (I := fun w' x y z => (Below W.heap.size W w') ∧ (Box2 w' x (.string ⟨#[]⟩) (.string ⟨#[]⟩) ∧ W.heap.size ≤ x) ∧ (Box2 w' y (.string ⟨#[]⟩) (.string ⟨#[]⟩) ∧ W.heap.size ≤ y) ∧ (Box2 w' z (.string ⟨#[]⟩) (.string ⟨#[]⟩) ∧ W.heap.size ≤ z) ∧ (x ≠ y) ∧ (x ≠ z) ∧ (y ≠ z))
  intro n0
  have N1123 := Lib.hid n0
  clear n0
  apply node3 (I := fun w' x y z => (Below W.heap.size W w'))
  intro n0
  have N3 := Lib.hid n0
  clear n0
  apply node3 (I := fun w' x y z => (Below W.heap.size W w') ∧ (Box2 w' z (.string ⟨#[]⟩) (.string ⟨#[]⟩) ∧ W.heap.size ≤ z))
  intro n0
  have N23 := Lib.hid n0
  clear n0
  apply node3 (I := fun w' x y z => (Below W.heap.size W w') ∧ (Box2 w' y (.string ⟨#[]⟩) (.string ⟨#[]⟩) ∧ W.heap.size ≤ y))
  intro n0
  have N22 := Lib.hid n0
  clear n0
  apply node3 (I := fun w' x y z => (Below W.heap.size W w') ∧ (Box2 w' x (.string ⟨#[]⟩) (.string ⟨#[]⟩) ∧ W.heap.size ≤ x))
  intro n0
  have N21 := Lib.hid n0
  clear n0
  apply node3 (I := fun w' x y z => (Below W.heap.size W w') ∧ (Box2 w' y (.string ⟨#[]⟩) (.string ⟨#[]⟩) ∧ W.heap.size ≤ y) ∧ (Box2 w' z (.string ⟨#[]⟩) (.string ⟨#[]⟩) ∧ W.heap.size ≤ z) ∧ (y ≠ z))
  intro n0
  have N123 := Lib.hid n0
  clear n0
  apply node3 (I := fun w' x y z => (Below W.heap.size W w') ∧ (Box2 w' x (.string ⟨#[]⟩) (.string ⟨#[]⟩) ∧ W.heap.size ≤ x) ∧ (Box2 w' z (.string ⟨#[]⟩) (.string ⟨#[]⟩) ∧ W.heap.size ≤ z) ∧ (x ≠ z))
  intro n0
  have N113 := Lib.hid n0
  clear n0
  apply node3 (I := fun w' x y z => (Below W.heap.size W w') ∧ (Box2 w' x (.string ⟨#[]⟩) (.string ⟨#[]⟩) ∧ W.heap.size ≤ x) ∧ (Box2 w' y (.string ⟨#[]⟩) (.string ⟨#[]⟩) ∧ W.heap.size ≤ y) ∧ (x ≠ y))
  intro n0
  have N112 := Lib.hid n0
  clear n0
  apply node3 (I := fun w' x y z => (Below W.heap.size W w') ∧ (Box2 w' x (.string ⟨#[]⟩) (.string ⟨#[]⟩) ∧ W.heap.size ≤ x) ∧ (Box2 w' y (.string ⟨#[]⟩) (.string ⟨#[]⟩) ∧ W.heap.size ≤ y) ∧ (Box2 w' z (.string ⟨#[]⟩) (.string ⟨#[]⟩) ∧ W.heap.size ≤ z) ∧ (x ≠ y) ∧ (x ≠ z) ∧ (y ≠ z))
  intro n0
  have N0123 := Lib.hid n0
  clear n0
  apply node3 (I := fun w' x y z => (Below W.heap.size W w'))
  intro n0
  have N2 := Lib.hid n0
  clear n0
  apply node3 (I := fun w' x y z => (Below W.heap.size W w') ∧ (Box2 w' z (.string ⟨#[]⟩) (.string ⟨#[]⟩) ∧ W.heap.size ≤ z))
  intro n0
  have N13 := Lib.hid n0
  clear n0
  apply node3 (I := fun w' x y z => (Below W.heap.size W w') ∧ (Box2 w' y (.string ⟨#[]⟩) (.string ⟨#[]⟩) ∧ W.heap.size ≤ y))
  intro n0
  have N12 := Lib.hid n0
  clear n0
  apply node3 (I := fun w' x y z => (Below W.heap.size W w') ∧ (Box2 w' x (.string ⟨#[]⟩) (.string ⟨#[]⟩) ∧ W.heap.size ≤ x))
  intro n0
  have N11 := Lib.hid n0
  clear n0
  apply node3 (I := fun w' x y z => (Below W.heap.size W w') ∧ (Box2 w' y (.string ⟨#[]⟩) (.string ⟨#[]⟩) ∧ W.heap.size ≤ y) ∧ (Box2 w' z (.string ⟨#[]⟩) (.string ⟨#[]⟩) ∧ W.heap.size ≤ z) ∧ (y ≠ z))
  intro n0
  have N023 := Lib.hid n0
  clear n0
  apply node3 (I := fun w' x y z => (Below W.heap.size W w') ∧ (Box2 w' x (.string ⟨#[]⟩) (.string ⟨#[]⟩) ∧ W.heap.size ≤ x) ∧ (Box2 w' z (.string ⟨#[]⟩) (.string ⟨#[]⟩) ∧ W.heap.size ≤ z) ∧ (x ≠ z))
  intro n0
  have N013 := Lib.hid n0
  clear n0
  apply node3 (I := fun w' x y z => (Below W.heap.size W w') ∧ (Box2 w' x (.string ⟨#[]⟩) (.string ⟨#[]⟩) ∧ W.heap.size ≤ x) ∧ (Box2 w' y (.string ⟨#[]⟩) (.string ⟨#[]⟩) ∧ W.heap.size ≤ y) ∧ (x ≠ y))
  intro n0
  have N012 := Lib.hid n0
  clear n0
  apply node3 (I := fun w' x y z => (Below W.heap.size W w'))
  intro n0
  have N1 := Lib.hid n0
  clear n0
  apply node3 (I := fun w' x y z => (Below W.heap.size W w') ∧ (Box2 w' z (.string ⟨#[]⟩) (.string ⟨#[]⟩) ∧ W.heap.size ≤ z))
  intro n0
  have N03 := Lib.hid n0
  clear n0
  apply node3 (I := fun w' x y z => (Below W.heap.size W w') ∧ (Box2 w' y (.string ⟨#[]⟩) (.string ⟨#[]⟩) ∧ W.heap.size ≤ y))
  intro n0
  have N02 := Lib.hid n0
  clear n0
  apply node3 (I := fun w' x y z => (Below W.heap.size W w') ∧ (Box2 w' x (.string ⟨#[]⟩) (.string ⟨#[]⟩) ∧ W.heap.size ≤ x))
  intro n0
  have N01 := Lib.hid n0
  clear n0
  · obtain ⟨w', hw'⟩ : ∃ w', w1.drew = w' := ⟨_, rfl⟩
    rw [hw'] at hzd ⊢
    have hz := hzd
    clear hw'
    obtain ⟨x, hx⟩ : ∃ v : Nat, v = k1 := ⟨_, rfl⟩
    obtain ⟨y, hy⟩ : ∃ v : Nat, v = k2 := ⟨_, rfl⟩
    obtain ⟨z, hzz⟩ : ∃ v : Nat, v = k3 := ⟨_, rfl⟩
    clear hx hy hzz
    have hS := HS.out _ hz
    refine wpAnyH_ready (rs := [1, 6, 7, 8]) (by kernel_rfl) (by simp) ?_
    refine AllReadyH.cons rfl (fun K hK => ?_) ?_
    · go_simp
      refine (HMp.out w' (HA.out _ hz)).mono ?_
      rintro e w5 ⟨rfl, hb5⟩
      have hz5 := bel_chain hz hb5
      dsimp only
      refine hK.out _ _ (HS.out _ hz5) (fun _ => ?_)
      clear hK K
      try simp only [Act.put, List.getElem_toArray, List.getElem_cons_zero, List.getElem_cons_succ, List.setIfInBounds_toArray, List.set_cons_zero, List.set_cons_succ]
      exact N1.out w5 x y z (bel_chain hz hb5)
    refine AllReadyH.cons rfl (fun K hK => ?_) ?_
    · go_simp
      refine hK.out _ _ (HS.out _ (hz.alloc hz.size _)) (fun _ => ?_)
      clear hK K
      try simp only [Act.put, List.getElem_toArray, List.getElem_cons_zero, List.getElem_cons_succ, List.setIfInBounds_toArray, List.set_cons_zero, List.set_cons_succ]
      obtain ⟨w5, hw5⟩ : ∃ w5, (w'.alloc (.cells #[.string ⟨#[]⟩, .string ⟨#[]⟩] 27)) = w5 := ⟨_, rfl⟩
      obtain ⟨g5, hg5⟩ : ∃ g5, w'.heap.size = g5 := ⟨_, rfl⟩
      have hnx : Box2 w5 g5 (.string ⟨#[]⟩) (.string ⟨#[]⟩) := by rw [← hw5, ← hg5]; exact Box2.new w' _ _ _
      have hbe : Below w'.heap.size w' w5 := by rw [← hw5]; exact (Below.refl _ _).alloc (Nat.le_refl _) _
      have hnl : W.heap.size ≤ g5 := hg5 ▸ hz.size
      rw [hw5, hg5]
      exact N01.out w5 g5 y z ⟨bel_chain hz hbe, ⟨hnx, hnl⟩⟩
    refine AllReadyH.cons rfl (fun K hK => ?_) ?_
    · go_simp
      refine hK.out _ _ (HS.out _ (hz.alloc hz.size _)) (fun _ => ?_)
      clear hK K
      try simp only [Act.put, List.getElem_toArray, List.getElem_cons_zero, List.getElem_cons_succ, List.setIfInBounds_toArray, List.set_cons_zero, List.set_cons_succ]
      obtain ⟨w5, hw5⟩ : ∃ w5, (w'.alloc (.cells #[.string ⟨#[]⟩, .string ⟨#[]⟩] 27)) = w5 := ⟨_, rfl⟩
      obtain ⟨g5, hg5⟩ : ∃ g5, w'.heap.size = g5 := ⟨_, rfl⟩
      have hnx : Box2 w5 g5 (.string ⟨#[]⟩) (.string ⟨#[]⟩) := by rw [← hw5, ← hg5]; exact Box2.new w' _ _ _
      have hbe : Below w'.heap.size w' w5 := by rw [← hw5]; exact (Below.refl _ _).alloc (Nat.le_refl _) _
      have hnl : W.heap.size ≤ g5 := hg5 ▸ hz.size
      rw [hw5, hg5]
      exact N02.out w5 x g5 z ⟨bel_chain hz hbe, ⟨hnx, hnl⟩⟩
    refine AllReadyH.cons rfl (fun K hK => ?_) ?_
    · go_simp
      refine hK.out _ _ (HS.out _ (hz.alloc hz.size _)) (fun _ => ?_)
      clear hK K
      try simp only [Act.put, List.getElem_toArray, List.getElem_cons_zero, List.getElem_cons_succ, List.setIfInBounds_toArray, List.set_cons_zero, List.set_cons_succ]
      obtain ⟨w5, hw5⟩ : ∃ w5, (w'.alloc (.cells #[.string ⟨#[]⟩, .string ⟨#[]⟩] 27)) = w5 := ⟨_, rfl⟩
      obtain ⟨g5, hg5⟩ : ∃ g5, w'.heap.size = g5 := ⟨_, rfl⟩
      have hnx : Box2 w5 g5 (.string ⟨#[]⟩) (.string ⟨#[]⟩) := by rw [← hw5, ← hg5]; exact Box2.new w' _ _ _
      have hbe : Below w'.heap.size w' w5 := by rw [← hw5]; exact (Below.refl _ _).alloc (Nat.le_refl _) _
      have hnl : W.heap.size ≤ g5 := hg5 ▸ hz.size
      rw [hw5, hg5]
      exact N03.out w5 x y g5 ⟨bel_chain hz hbe, ⟨hnx, hnl⟩⟩
    exact AllReadyH.nil
  · intro w' x y z hI
    obtain ⟨hz, ⟨hx6, hl6⟩⟩ := hI
    have hS := HS.out _ hz
    refine wpAnyH_ready (rs := [1, 7, 8]) (by kernel_rfl) (by simp) ?_
    refine AllReadyH.cons rfl (fun K hK => ?_) ?_
    · go_simp
      refine (HMp.out w' (HA.out _ hz)).mono ?_
      rintro e w5 ⟨rfl, hb5⟩
      have hz5 := bel_chain hz hb5
      dsimp only
      refine hK.out _ _ (HS.out _ hz5) (fun _ => ?_)
      clear hK K
      try simp only [Act.put, List.getElem_toArray, List.getElem_cons_zero, List.getElem_cons_succ, List.setIfInBounds_toArray, List.set_cons_zero, List.set_cons_succ]
      exact N11.out w5 x y z ⟨bel_chain hz hb5, ⟨hx6.later hb5, hl6⟩⟩
    refine AllReadyH.cons rfl (fun K hK => ?_) ?_
    · go_simp
      refine hK.out _ _ (HS.out _ (hz.alloc hz.size _)) (fun _ => ?_)
      clear hK K
      try simp only [Act.put, List.getElem_toArray, List.getElem_cons_zero, List.getElem_cons_succ, List.setIfInBounds_toArray, List.set_cons_zero, List.set_cons_succ]
      obtain ⟨w5, hw5⟩ : ∃ w5, (w'.alloc (.cells #[.string ⟨#[]⟩, .string ⟨#[]⟩] 27)) = w5 := ⟨_, rfl⟩
      obtain ⟨g5, hg5⟩ : ∃ g5, w'.heap.size = g5 := ⟨_, rfl⟩
      have hnx : Box2 w5 g5 (.string ⟨#[]⟩) (.string ⟨#[]⟩) := by rw [← hw5, ← hg5]; exact Box2.new w' _ _ _
      have hbe : Below w'.heap.size w' w5 := by rw [← hw5]; exact (Below.refl _ _).alloc (Nat.le_refl _) _
      have hnl : W.heap.size ≤ g5 := hg5 ▸ hz.size
      rw [hw5, hg5]
      have hlo6 := hx6.1
      have hnn6 : x ≠ g5 := by rw [← hg5]; omega
      exact N012.out w5 x g5 z ⟨bel_chain hz hbe, ⟨hx6.later hbe, hl6⟩, ⟨hnx, hnl⟩, hnn6⟩
    refine AllReadyH.cons rfl (fun K hK => ?_) ?_
    · go_simp
      refine hK.out _ _ (HS.out _ (hz.alloc hz.size _)) (fun _ => ?_)
      clear hK K
      try simp only [Act.put, List.getElem_toArray, List.getElem_cons_zero, List.getElem_cons_succ, List.setIfInBounds_toArray, List.set_cons_zero, List.set_cons_succ]
      obtain ⟨w5, hw5⟩ : ∃ w5, (w'.alloc (.cells #[.string ⟨#[]⟩, .string ⟨#[]⟩] 27)) = w5 := ⟨_, rfl⟩
      obtain ⟨g5, hg5⟩ : ∃ g5, w'.heap.size = g5 := ⟨_, rfl⟩
      have hnx : Box2 w5 g5 (.string ⟨#[]⟩) (.string ⟨#[]⟩) := by rw [← hw5, ← hg5]; exact Box2.new w' _ _ _
      have hbe : Below w'.heap.size w' w5 := by rw [← hw5]; exact (Below.refl _ _).alloc (Nat.le_refl _) _
      have hnl : W.heap.size ≤ g5 := hg5 ▸ hz.size
      rw [hw5, hg5]
      have hlo6 := hx6.1
      have hnn6 : x ≠ g5 := by rw [← hg5]; omega
      exact N013.out w5 x y g5 ⟨bel_chain hz hbe, ⟨hx6.later hbe, hl6⟩, ⟨hnx, hnl⟩, hnn6⟩
    exact AllReadyH.nil
  · intro w' x y z hI
    obtain ⟨hz, ⟨hx7, hl7⟩⟩ := hI
    have hS := HS.out _ hz
    refine wpAnyH_ready (rs := [1, 6, 8]) (by kernel_rfl) (by simp) ?_
    refine AllReadyH.cons rfl (fun K hK => ?_) ?_
    · go_simp
      refine (HMp.out w' (HA.out _ hz)).mono ?_
      rintro e w5 ⟨rfl, hb5⟩
      have hz5 := bel_chain hz hb5
      dsimp only
      refine hK.out _ _ (HS.out _ hz5) (fun _ => ?_)
      clear hK K
      try simp only [Act.put, List.getElem_toArray, List.getElem_cons_zero, List.getElem_cons_succ, List.setIfInBounds_toArray, List.set_cons_zero, List.set_cons_succ]
      exact N12.out w5 x y z ⟨bel_chain hz hb5, ⟨hx7.later hb5, hl7⟩⟩
    refine AllReadyH.cons rfl (fun K hK => ?_) ?_
    · go_simp
      refine hK.out _ _ (HS.out _ (hz.alloc hz.size _)) (fun _ => ?_)
      clear hK K
      try simp only [Act.put, List.getElem_toArray, List.getElem_cons_zero, List.getElem_cons_succ, List.setIfInBounds_toArray, List.set_cons_zero, List.set_cons_succ]
      obtain ⟨w5, hw5⟩ : ∃ w5, (w'.alloc (.cells #[.string ⟨#[]⟩, .string ⟨#[]⟩] 27)) = w5 := ⟨_, rfl⟩
      obtain ⟨g5, hg5⟩ : ∃ g5, w'.heap.size = g5 := ⟨_, rfl⟩
      have hnx : Box2 w5 g5 (.string ⟨#[]⟩) (.string ⟨#[]⟩) := by rw [← hw5, ← hg5]; exact Box2.new w' _ _ _
      have hbe : Below w'.heap.size w' w5 := by rw [← hw5]; exact (Below.refl _ _).alloc (Nat.le_refl _) _
      have hnl : W.heap.size ≤ g5 := hg5 ▸ hz.size
      rw [hw5, hg5]
      have hlo7 := hx7.1
      have hnn7 : g5 ≠ y := by rw [← hg5]; omega
      exact N012.out w5 g5 y z ⟨bel_chain hz hbe, ⟨hnx, hnl⟩, ⟨hx7.later hbe, hl7⟩, hnn7⟩
    refine AllReadyH.cons rfl (fun K hK => ?_) ?_
    · go_simp
      refine hK.out _ _ (HS.out _ (hz.alloc hz.size _)) (fun _ => ?_)
      clear hK K
      try simp only [Act.put, List.getElem_toArray, List.getElem_cons_zero, List.getElem_cons_succ, List.setIfInBounds_toArray, List.set_cons_zero, List.set_cons_succ]
      obtain ⟨w5, hw5⟩ : ∃ w5, (w'.alloc (.cells #[.string ⟨#[]⟩, .string ⟨#[]⟩] 27)) = w5 := ⟨_, rfl⟩
      obtain ⟨g5, hg5⟩ : ∃ g5, w'.heap.size = g5 := ⟨_, rfl⟩
      have hnx : Box2 w5 g5 (.string ⟨#[]⟩) (.string ⟨#[]⟩) := by rw [← hw5, ← hg5]; exact Box2.new w' _ _ _
      have hbe : Below w'.heap.size w' w5 := by rw [← hw5]; exact (Below.refl _ _).alloc (Nat.le_refl _) _
      have hnl : W.heap.size ≤ g5 := hg5 ▸ hz.size
      rw [hw5, hg5]
      have hlo7 := hx7.1
      have hnn7 : y ≠ g5 := by rw [← hg5]; omega
      exact N023.out w5 x y g5 ⟨bel_chain hz hbe, ⟨hx7.later hbe, hl7⟩, ⟨hnx, hnl⟩, hnn7⟩
    exact AllReadyH.nil
  · intro w' x y z hI
    obtain ⟨hz, ⟨hx8, hl8⟩⟩ := hI
    have hS := HS.out _ hz
    refine wpAnyH_ready (rs := [1, 6, 7]) (by kernel_rfl) (by simp) ?_
    refine AllReadyH.cons rfl (fun K hK => ?_) ?_
    · go_simp
      refine (HMp.out w' (HA.out _ hz)).mono ?_
      rintro e w5 ⟨rfl, hb5⟩
      have hz5 := bel_chain hz hb5
      dsimp only
      refine hK.out _ _ (HS.out _ hz5) (fun _ => ?_)
      clear hK K
      try simp only [Act.put, List.getElem_toArray, List.getElem_cons_zero, List.getElem_cons_succ, List.setIfInBounds_toArray, List.set_cons_zero, List.set_cons_succ]
      exact N13.out w5 x y z ⟨bel_chain hz hb5, ⟨hx8.later hb5, hl8⟩⟩
    refine AllReadyH.cons rfl (fun K hK => ?_) ?_
    · go_simp
      refine hK.out _ _ (HS.out _ (hz.alloc hz.size _)) (fun _ => ?_)
      clear hK K
      try simp only [Act.put, List.getElem_toArray, List.getElem_cons_zero, List.getElem_cons_succ, List.setIfInBounds_toArray, List.set_cons_zero, List.set_cons_succ]
      obtain ⟨w5, hw5⟩ : ∃ w5, (w'.alloc (.cells #[.string ⟨#[]⟩, .string ⟨#[]⟩] 27)) = w5 := ⟨_, rfl⟩
      obtain ⟨g5, hg5⟩ : ∃ g5, w'.heap.size = g5 := ⟨_, rfl⟩
      have hnx : Box2 w5 g5 (.string ⟨#[]⟩) (.string ⟨#[]⟩) := by rw [← hw5, ← hg5]; exact Box2.new w' _ _ _
      have hbe : Below w'.heap.size w' w5 := by rw [← hw5]; exact (Below.refl _ _).alloc (Nat.le_refl _) _
      have hnl : W.heap.size ≤ g5 := hg5 ▸ hz.size
      rw [hw5, hg5]
      have hlo8 := hx8.1
      have hnn8 : g5 ≠ z := by rw [← hg5]; omega
      exact N013.out w5 g5 y z ⟨bel_chain hz hbe, ⟨hnx, hnl⟩, ⟨hx8.later hbe, hl8⟩, hnn8⟩
    refine AllReadyH.cons rfl (fun K hK => ?_) ?_
    · go_simp
      refine hK.out _ _ (HS.out _ (hz.alloc hz.size _)) (fun _ => ?_)
      clear hK K
      try simp only [Act.put, List.getElem_toArray, List.getElem_cons_zero, List.getElem_cons_succ, List.setIfInBounds_toArray, List.set_cons_zero, List.set_cons_succ]
      obtain ⟨w5, hw5⟩ : ∃ w5, (w'.alloc (.cells #[.string ⟨#[]⟩, .string ⟨#[]⟩] 27)) = w5 := ⟨_, rfl⟩
      obtain ⟨g5, hg5⟩ : ∃ g5, w'.heap.size = g5 := ⟨_, rfl⟩
      have hnx : Box2 w5 g5 (.string ⟨#[]⟩) (.string ⟨#[]⟩) := by rw [← hw5, ← hg5]; exact Box2.new w' _ _ _
      have hbe : Below w'.heap.size w' w5 := by rw [← hw5]; exact (Below.refl _ _).alloc (Nat.le_refl _) _
      have hnl : W.heap.size ≤ g5 := hg5 ▸ hz.size
      rw [hw5, hg5]
      have hlo8 := hx8.1
      have hnn8 : g5 ≠ z := by rw [← hg5]; omega
      exact N023.out w5 x g5 z ⟨bel_chain hz hbe, ⟨hnx, hnl⟩, ⟨hx8.later hbe, hl8⟩, hnn8⟩
    exact AllReadyH.nil
  · intro w' x y z hI
    have hz := hI
    have hS := HS.out _ hz
    refine wpAnyH_ready (rs := [3, 6, 7, 8]) (by kernel_rfl) (by simp) ?_
    refine AllReadyH.cons rfl (fun K hK => ?_) ?_
    · go_simp
      refine (HMq.out w' (HA.out _ hz)).mono ?_
      rintro e w5 ⟨rfl, hb5⟩
      have hz5 := bel_chain hz hb5
      dsimp only
      refine hK.out _ _ (HS.out _ hz5) (fun _ => ?_)
      clear hK K
      try simp only [Act.put, List.getElem_toArray, List.getElem_cons_zero, List.getElem_cons_succ, List.setIfInBounds_toArray, List.set_cons_zero, List.set_cons_succ]
      exact N2.out w5 x y z (bel_chain hz hb5)
    refine AllReadyH.cons rfl (fun K hK => ?_) ?_
    · go_simp
      refine hK.out _ _ (HS.out _ (hz.alloc hz.size _)) (fun _ => ?_)
      clear hK K
      try simp only [Act.put, List.getElem_toArray, List.getElem_cons_zero, List.getElem_cons_succ, List.setIfInBounds_toArray, List.set_cons_zero, List.set_cons_succ]
      obtain ⟨w5, hw5⟩ : ∃ w5, (w'.alloc (.cells #[.string ⟨#[]⟩, .string ⟨#[]⟩] 27)) = w5 := ⟨_, rfl⟩
      obtain ⟨g5, hg5⟩ : ∃ g5, w'.heap.size = g5 := ⟨_, rfl⟩
      have hnx : Box2 w5 g5 (.string ⟨#[]⟩) (.string ⟨#[]⟩) := by rw [← hw5, ← hg5]; exact Box2.new w' _ _ _
      have hbe : Below w'.heap.size w' w5 := by rw [← hw5]; exact (Below.refl _ _).alloc (Nat.le_refl _) _
      have hnl : W.heap.size ≤ g5 := hg5 ▸ hz.size
      rw [hw5, hg5]
      exact N11.out w5 g5 y z ⟨bel_chain hz hbe, ⟨hnx, hnl⟩⟩
    refine AllReadyH.cons rfl (fun K hK => ?_) ?_
    · go_simp
      refine hK.out _ _ (HS.out _ (hz.alloc hz.size _)) (fun _ => ?_)
      clear hK K
      try simp only [Act.put, List.getElem_toArray, List.getElem_cons_zero, List.getElem_cons_succ, List.setIfInBounds_toArray, List.set_cons_zero, List.set_cons_succ]
      obtain ⟨w5, hw5⟩ : ∃ w5, (w'.alloc (.cells #[.string ⟨#[]⟩, .string ⟨#[]⟩] 27)) = w5 := ⟨_, rfl⟩
      obtain ⟨g5, hg5⟩ : ∃ g5, w'.heap.size = g5 := ⟨_, rfl⟩
      have hnx : Box2 w5 g5 (.string ⟨#[]⟩) (.string ⟨#[]⟩) := by rw [← hw5, ← hg5]; exact Box2.new w' _ _ _
      have hbe : Below w'.heap.size w' w5 := by rw [← hw5]; exact (Below.refl _ _).alloc (Nat.le_refl _) _
      have hnl : W.heap.size ≤ g5 := hg5 ▸ hz.size
      rw [hw5, hg5]
      exact N12.out w5 x g5 z ⟨bel_chain hz hbe, ⟨hnx, hnl⟩⟩
    refine AllReadyH.cons rfl (fun K hK => ?_) ?_
    · go_simp
      refine hK.out _ _ (HS.out _ (hz.alloc hz.size _)) (fun _ => ?_)
      clear hK K
      try simp only [Act.put, List.getElem_toArray, List.getElem_cons_zero, List.getElem_cons_succ, List.setIfInBounds_toArray, List.set_cons_zero, List.set_cons_succ]
      obtain ⟨w5, hw5⟩ : ∃ w5, (w'.alloc (.cells #[.string ⟨#[]⟩, .string ⟨#[]⟩] 27)) = w5 := ⟨_, rfl⟩
      obtain ⟨g5, hg5⟩ : ∃ g5, w'.heap.size = g5 := ⟨_, rfl⟩
      have hnx : Box2 w5 g5 (.string ⟨#[]⟩) (.string ⟨#[]⟩) := by rw [← hw5, ← hg5]; exact Box2.new w' _ _ _
      have hbe : Below w'.heap.size w' w5 := by rw [← hw5]; exact (Below.refl _ _).alloc (Nat.le_refl _) _
      have hnl : W.heap.size ≤ g5 := hg5 ▸ hz.size
      rw [hw5, hg5]
      exact N13.out w5 x y g5 ⟨bel_chain hz hbe, ⟨hnx, hnl⟩⟩
    exact AllReadyH.nil
  · intro w' x y z hI
    obtain ⟨hz, ⟨hx6, hl6⟩, ⟨hx7, hl7⟩, hne67⟩ := hI
    have hS := HS.out _ hz
    refine wpAnyH_ready (rs := [1, 8]) (by kernel_rfl) (by simp) ?_
    refine AllReadyH.cons rfl (fun K hK => ?_) ?_
    · go_simp
      refine (HMp.out w' (HA.out _ hz)).mono ?_
      rintro e w5 ⟨rfl, hb5⟩
      have hz5 := bel_chain hz hb5
      dsimp only
      refine hK.out _ _ (HS.out _ hz5) (fun _ => ?_)
      clear hK K
      try simp only [Act.put, List.getElem_toArray, List.getElem_cons_zero, List.getElem_cons_succ, List.setIfInBounds_toArray, List.set_cons_zero, List.set_cons_succ]
      exact N112.out w5 x y z ⟨bel_chain hz hb5, ⟨hx6.later hb5, hl6⟩, ⟨hx7.later hb5, hl7⟩, hne67⟩
    refine AllReadyH.cons rfl (fun K hK => ?_) ?_
    · go_simp
      refine hK.out _ _ (HS.out _ (hz.alloc hz.size _)) (fun _ => ?_)
      clear hK K
      try simp only [Act.put, List.getElem_toArray, List.getElem_cons_zero, List.getElem_cons_succ, List.setIfInBounds_toArray, List.set_cons_zero, List.set_cons_succ]
      obtain ⟨w5, hw5⟩ : ∃ w5, (w'.alloc (.cells #[.string ⟨#[]⟩, .string ⟨#[]⟩] 27)) = w5 := ⟨_, rfl⟩
      obtain ⟨g5, hg5⟩ : ∃ g5, w'.heap.size = g5 := ⟨_, rfl⟩
      have hnx : Box2 w5 g5 (.string ⟨#[]⟩) (.string ⟨#[]⟩) := by rw [← hw5, ← hg5]; exact Box2.new w' _ _ _
      have hbe : Below w'.heap.size w' w5 := by rw [← hw5]; exact (Below.refl _ _).alloc (Nat.le_refl _) _
      have hnl : W.heap.size ≤ g5 := hg5 ▸ hz.size
      rw [hw5, hg5]
      have hlo6 := hx6.1
      have hnn6 : x ≠ g5 := by rw [← hg5]; omega
      have hlo7 := hx7.1
      have hnn7 : y ≠ g5 := by rw [← hg5]; omega
      exact N0123.out w5 x y g5 ⟨bel_chain hz hbe, ⟨hx6.later hbe, hl6⟩, ⟨hx7.later hbe, hl7⟩, ⟨hnx, hnl⟩, hne67, hnn6, hnn7⟩
    exact AllReadyH.nil
  · intro w' x y z hI
    obtain ⟨hz, ⟨hx6, hl6⟩, ⟨hx8, hl8⟩, hne68⟩ := hI
    have hS := HS.out _ hz
    refine wpAnyH_ready (rs := [1, 7]) (by kernel_rfl) (by simp) ?_
    refine AllReadyH.cons rfl (fun K hK => ?_) ?_
    · go_simp
      refine (HMp.out w' (HA.out _ hz)).mono ?_
      rintro e w5 ⟨rfl, hb5⟩
      have hz5 := bel_chain hz hb5
      dsimp only
      refine hK.out _ _ (HS.out _ hz5) (fun _ => ?_)
      clear hK K
      try simp only [Act.put, List.getElem_toArray, List.getElem_cons_zero, List.getElem_cons_succ, List.setIfInBounds_toArray, List.set_cons_zero, List.set_cons_succ]
      exact N113.out w5 x y z ⟨bel_chain hz hb5, ⟨hx6.later hb5, hl6⟩, ⟨hx8.later hb5, hl8⟩, hne68⟩
    refine AllReadyH.cons rfl (fun K hK => ?_) ?_
    · go_simp
      refine hK.out _ _ (HS.out _ (hz.alloc hz.size _)) (fun _ => ?_)
      clear hK K
      try simp only [Act.put, List.getElem_toArray, List.getElem_cons_zero, List.getElem_cons_succ, List.setIfInBounds_toArray, List.set_cons_zero, List.set_cons_succ]
      obtain ⟨w5, hw5⟩ : ∃ w5, (w'.alloc (.cells #[.string ⟨#[]⟩, .string ⟨#[]⟩] 27)) = w5 := ⟨_, rfl⟩
      obtain ⟨g5, hg5⟩ : ∃ g5, w'.heap.size = g5 := ⟨_, rfl⟩
      have hnx : Box2 w5 g5 (.string ⟨#[]⟩) (.string ⟨#[]⟩) := by rw [← hw5, ← hg5]; exact Box2.new w' _ _ _
      have hbe : Below w'.heap.size w' w5 := by rw [← hw5]; exact (Below.refl _ _).alloc (Nat.le_refl _) _
      have hnl : W.heap.size ≤ g5 := hg5 ▸ hz.size
      rw [hw5, hg5]
      have hlo6 := hx6.1
      have hnn6 : x ≠ g5 := by rw [← hg5]; omega
      have hlo8 := hx8.1
      have hnn8 : g5 ≠ z := by rw [← hg5]; omega
      exact N0123.out w5 x g5 z ⟨bel_chain hz hbe, ⟨hx6.later hbe, hl6⟩, ⟨hnx, hnl⟩, ⟨hx8.later hbe, hl8⟩, hnn6, hne68, hnn8⟩
    exact AllReadyH.nil
  · intro w' x y z hI
    obtain ⟨hz, ⟨hx7, hl7⟩, ⟨hx8, hl8⟩, hne78⟩ := hI
    have hS := HS.out _ hz
    refine wpAnyH_ready (rs := [1, 6]) (by kernel_rfl) (by simp) ?_
    refine AllReadyH.cons rfl (fun K hK => ?_) ?_
    · go_simp
      refine (HMp.out w' (HA.out _ hz)).mono ?_
      rintro e w5 ⟨rfl, hb5⟩
      have hz5 := bel_chain hz hb5
      dsimp only
      refine hK.out _ _ (HS.out _ hz5) (fun _ => ?_)
      clear hK K
      try simp only [Act.put, List.getElem_toArray, List.getElem_cons_zero, List.getElem_cons_succ, List.setIfInBounds_toArray, List.set_cons_zero, List.set_cons_succ]
      exact N123.out w5 x y z ⟨bel_chain hz hb5, ⟨hx7.later hb5, hl7⟩, ⟨hx8.later hb5, hl8⟩, hne78⟩
    refine AllReadyH.cons rfl (fun K hK => ?_) ?_
    · go_simp
      refine hK.out _ _ (HS.out _ (hz.alloc hz.size _)) (fun _ => ?_)
      clear hK K
      try simp only [Act.put, List.getElem_toArray, List.getElem_cons_zero, List.getElem_cons_succ, List.setIfInBounds_toArray, List.set_cons_zero, List.set_cons_succ]
      obtain ⟨w5, hw5⟩ : ∃ w5, (w'.alloc (.cells #[.string ⟨#[]⟩, .string ⟨#[]⟩] 27)) = w5 := ⟨_, rfl⟩
      obtain ⟨g5, hg5⟩ : ∃ g5, w'.heap.size = g5 := ⟨_, rfl⟩
      have hnx : Box2 w5 g5 (.string ⟨#[]⟩) (.string ⟨#[]⟩) := by rw [← hw5, ← hg5]; exact Box2.new w' _ _ _
      have hbe : Below w'.heap.size w' w5 := by rw [← hw5]; exact (Below.refl _ _).alloc (Nat.le_refl _) _
      have hnl : W.heap.size ≤ g5 := hg5 ▸ hz.size
      rw [hw5, hg5]
      have hlo7 := hx7.1
      have hnn7 : g5 ≠ y := by rw [← hg5]; omega
      have hlo8 := hx8.1
      have hnn8 : g5 ≠ z := by rw [← hg5]; omega
      exact N0123.out w5 g5 y z ⟨bel_chain hz hbe, ⟨hnx, hnl⟩, ⟨hx7.later hbe, hl7⟩, ⟨hx8.later hbe, hl8⟩, hnn7, hnn8, hne78⟩
    exact AllReadyH.nil
  · intro w' x y z hI
    obtain ⟨hz, ⟨hx6, hl6⟩⟩ := hI
    have hS := HS.out _ hz
    refine wpAnyH_ready (rs := [3, 7, 8]) (by kernel_rfl) (by simp) ?_
    refine AllReadyH.cons rfl (fun K hK => ?_) ?_
    · go_simp
      refine (HMq.out w' (HA.out _ hz)).mono ?_
      rintro e w5 ⟨rfl, hb5⟩
      have hz5 := bel_chain hz hb5
      dsimp only
      refine hK.out _ _ (HS.out _ hz5) (fun _ => ?_)
      clear hK K
      try simp only [Act.put, List.getElem_toArray, List.getElem_cons_zero, List.getElem_cons_succ, List.setIfInBounds_toArray, List.set_cons_zero, List.set_cons_succ]
      exact N21.out w5 x y z ⟨bel_chain hz hb5, ⟨hx6.later hb5, hl6⟩⟩
    refine AllReadyH.cons rfl (fun K hK => ?_) ?_
    · go_simp
      refine hK.out _ _ (HS.out _ (hz.alloc hz.size _)) (fun _ => ?_)
      clear hK K
      try simp only [Act.put, List.getElem_toArray, List.getElem_cons_zero, List.getElem_cons_succ, List.setIfInBounds_toArray, List.set_cons_zero, List.set_cons_succ]
      obtain ⟨w5, hw5⟩ : ∃ w5, (w'.alloc (.cells #[.string ⟨#[]⟩, .string ⟨#[]⟩] 27)) = w5 := ⟨_, rfl⟩
      obtain ⟨g5, hg5⟩ : ∃ g5, w'.heap.size = g5 := ⟨_, rfl⟩
      have hnx : Box2 w5 g5 (.string ⟨#[]⟩) (.string ⟨#[]⟩) := by rw [← hw5, ← hg5]; exact Box2.new w' _ _ _
      have hbe : Below w'.heap.size w' w5 := by rw [← hw5]; exact (Below.refl _ _).alloc (Nat.le_refl _) _
      have hnl : W.heap.size ≤ g5 := hg5 ▸ hz.size
      rw [hw5, hg5]
      have hlo6 := hx6.1
      have hnn6 : x ≠ g5 := by rw [← hg5]; omega
      exact N112.out w5 x g5 z ⟨bel_chain hz hbe, ⟨hx6.later hbe, hl6⟩, ⟨hnx, hnl⟩, hnn6⟩
    refine AllReadyH.cons rfl (fun K hK => ?_) ?_
    · go_simp
      refine hK.out _ _ (HS.out _ (hz.alloc hz.size _)) (fun _ => ?_)
      clear hK K
      try simp only [Act.put, List.getElem_toArray, List.getElem_cons_zero, List.getElem_cons_succ, List.setIfInBounds_toArray, List.set_cons_zero, List.set_cons_succ]
      obtain ⟨w5, hw5⟩ : ∃ w5, (w'.alloc (.cells #[.string ⟨#[]⟩, .string ⟨#[]⟩] 27)) = w5 := ⟨_, rfl⟩
      obtain ⟨g5, hg5⟩ : ∃ g5, w'.heap.size = g5 := ⟨_, rfl⟩
      have hnx : Box2 w5 g5 (.string ⟨#[]⟩) (.string ⟨#[]⟩) := by rw [← hw5, ← hg5]; exact Box2.new w' _ _ _
      have hbe : Below w'.heap.size w' w5 := by rw [← hw5]; exact (Below.refl _ _).alloc (Nat.le_refl _) _
      have hnl : W.heap.size ≤ g5 := hg5 ▸ hz.size
      rw [hw5, hg5]
      have hlo6 := hx6.1
      have hnn6 : x ≠ g5 := by rw [← hg5]; omega
      exact N113.out w5 x y g5 ⟨bel_chain hz hbe, ⟨hx6.later hbe, hl6⟩, ⟨hnx, hnl⟩, hnn6⟩
    exact AllReadyH.nil
  · intro w' x y z hI
    obtain ⟨hz, ⟨hx7, hl7⟩⟩ := hI
    have hS := HS.out _ hz
    refine wpAnyH_ready (rs := [3, 6, 8]) (by kernel_rfl) (by simp) ?_
    refine AllReadyH.cons rfl (fun K hK => ?_) ?_
    · go_simp
      refine (HMq.out w' (HA.out _ hz)).mono ?_
      rintro e w5 ⟨rfl, hb5⟩
      have hz5 := bel_chain hz hb5
      dsimp only
      refine hK.out _ _ (HS.out _ hz5) (fun _ => ?_)
      clear hK K
      try simp only [Act.put, List.getElem_toArray, List.getElem_cons_zero, List.getElem_cons_succ, List.setIfInBounds_toArray, List.set_cons_zero, List.set_cons_succ]
      exact N22.out w5 x y z ⟨bel_chain hz hb5, ⟨hx7.later hb5, hl7⟩⟩
    refine AllReadyH.cons rfl (fun K hK => ?_) ?_
    · go_simp
      refine hK.out _ _ (HS.out _ (hz.alloc hz.size _)) (fun _ => ?_)
      clear hK K
      try simp only [Act.put, List.getElem_toArray, List.getElem_cons_zero, List.getElem_cons_succ, List.setIfInBounds_toArray, List.set_cons_zero, List.set_cons_succ]
      obtain ⟨w5, hw5⟩ : ∃ w5, (w'.alloc (.cells #[.string ⟨#[]⟩, .string ⟨#[]⟩] 27)) = w5 := ⟨_, rfl⟩
      obtain ⟨g5, hg5⟩ : ∃ g5, w'.heap.size = g5 := ⟨_, rfl⟩
      have hnx : Box2 w5 g5 (.string ⟨#[]⟩) (.string ⟨#[]⟩) := by rw [← hw5, ← hg5]; exact Box2.new w' _ _ _
      have hbe : Below w'.heap.size w' w5 := by rw [← hw5]; exact (Below.refl _ _).alloc (Nat.le_refl _) _
      have hnl : W.heap.size ≤ g5 := hg5 ▸ hz.size
      rw [hw5, hg5]
      have hlo7 := hx7.1
      have hnn7 : g5 ≠ y := by rw [← hg5]; omega
      exact N112.out w5 g5 y z ⟨bel_chain hz hbe, ⟨hnx, hnl⟩, ⟨hx7.later hbe, hl7⟩, hnn7⟩
    refine AllReadyH.cons rfl (fun K hK => ?_) ?_
    · go_simp
      refine hK.out _ _ (HS.out _ (hz.alloc hz.size _)) (fun _ => ?_)
      clear hK K
      try simp only [Act.put, List.getElem_toArray, List.getElem_cons_zero, List.getElem_cons_succ, List.setIfInBounds_toArray, List.set_cons_zero, List.set_cons_succ]
      obtain ⟨w5, hw5⟩ : ∃ w5, (w'.alloc (.cells #[.string ⟨#[]⟩, .string ⟨#[]⟩] 27)) = w5 := ⟨_, rfl⟩
      obtain ⟨g5, hg5⟩ : ∃ g5, w'.heap.size = g5 := ⟨_, rfl⟩
      have hnx : Box2 w5 g5 (.string ⟨#[]⟩) (.string ⟨#[]⟩) := by rw [← hw5, ← hg5]; exact Box2.new w' _ _ _
      have hbe : Below w'.heap.size w' w5 := by rw [← hw5]; exact (Below.refl _ _).alloc (Nat.le_refl _) _
      have hnl : W.heap.size ≤ g5 := hg5 ▸ hz.size
      rw [hw5, hg5]
      have hlo7 := hx7.1
      have hnn7 : y ≠ g5 := by rw [← hg5]; omega
      exact N123.out w5 x y g5 ⟨bel_chain hz hbe, ⟨hx7.later hbe, hl7⟩, ⟨hnx, hnl⟩, hnn7⟩
    exact AllReadyH.nil
  · intro w' x y z hI
    obtain ⟨hz, ⟨hx8, hl8⟩⟩ := hI
    have hS := HS.out _ hz
    refine wpAnyH_ready (rs := [3, 6, 7]) (by kernel_rfl) (by simp) ?_
    refine AllReadyH.cons rfl (fun K hK => ?_) ?_
    · go_simp
      refine (HMq.out w' (HA.out _ hz)).mono ?_
      rintro e w5 ⟨rfl, hb5⟩
      have hz5 := bel_chain hz hb5
      dsimp only
      refine hK.out _ _ (HS.out _ hz5) (fun _ => ?_)
      clear hK K
      try simp only [Act.put, List.getElem_toArray, List.getElem_cons_zero, List.getElem_cons_succ, List.setIfInBounds_toArray, List.set_cons_zero, List.set_cons_succ]
      exact N23.out w5 x y z ⟨bel_chain hz hb5, ⟨hx8.later hb5, hl8⟩⟩
    refine AllReadyH.cons rfl (fun K hK => ?_) ?_
    · go_simp
      refine hK.out _ _ (HS.out _ (hz.alloc hz.size _)) (fun _ => ?_)
      clear hK K
      try simp only [Act.put, List.getElem_toArray, List.getElem_cons_zero, List.getElem_cons_succ, List.setIfInBounds_toArray, List.set_cons_zero, List.set_cons_succ]
      obtain ⟨w5, hw5⟩ : ∃ w5, (w'.alloc (.cells #[.string ⟨#[]⟩, .string ⟨#[]⟩] 27)) = w5 := ⟨_, rfl⟩
      obtain ⟨g5, hg5⟩ : ∃ g5, w'.heap.size = g5 := ⟨_, rfl⟩
      have hnx : Box2 w5 g5 (.string ⟨#[]⟩) (.string ⟨#[]⟩) := by rw [← hw5, ← hg5]; exact Box2.new w' _ _ _
      have hbe : Below w'.heap.size w' w5 := by rw [← hw5]; exact (Below.refl _ _).alloc (Nat.le_refl _) _
      have hnl : W.heap.size ≤ g5 := hg5 ▸ hz.size
      rw [hw5, hg5]
      have hlo8 := hx8.1
      have hnn8 : g5 ≠ z := by rw [← hg5]; omega
      exact N113.out w5 g5 y z ⟨bel_chain hz hbe, ⟨hnx, hnl⟩, ⟨hx8.later hbe, hl8⟩, hnn8⟩
    refine AllReadyH.cons rfl (fun K hK => ?_) ?_
    · go_simp
      refine hK.out _ _ (HS.out _ (hz.alloc hz.size _)) (fun _ => ?_)
      clear hK K
      try simp only [Act.put, List.getElem_toArray, List.getElem_cons_zero, List.getElem_cons_succ, List.setIfInBounds_toArray, List.set_cons_zero, List.set_cons_succ]
      obtain ⟨w5, hw5⟩ : ∃ w5, (w'.alloc (.cells #[.string ⟨#[]⟩, .string ⟨#[]⟩] 27)) = w5 := ⟨_, rfl⟩
      obtain ⟨g5, hg5⟩ : ∃ g5, w'.heap.size = g5 := ⟨_, rfl⟩
      have hnx : Box2 w5 g5 (.string ⟨#[]⟩) (.string ⟨#[]⟩) := by rw [← hw5, ← hg5]; exact Box2.new w' _ _ _
      have hbe : Below w'.heap.size w' w5 := by rw [← hw5]; exact (Below.refl _ _).alloc (Nat.le_refl _) _
      have hnl : W.heap.size ≤ g5 := hg5 ▸ hz.size
      rw [hw5, hg5]
      have hlo8 := hx8.1
      have hnn8 : g5 ≠ z := by rw [← hg5]; omega
      exact N123.out w5 x g5 z ⟨bel_chain hz hbe, ⟨hnx, hnl⟩, ⟨hx8.later hbe, hl8⟩, hnn8⟩
    exact AllReadyH.nil
  · intro w' x y z hI
    have hz := hI
    have hS := HS.out _ hz
    refine wpAnyH_ready (rs := [5, 6, 7, 8]) (by kernel_rfl) (by simp) ?_
    refine AllReadyH.cons rfl (fun K hK => ?_) ?_
    · go_simp
      refine (HMr.out w' (HA.out _ hz)).mono ?_
      rintro e w5 ⟨rfl, hb5⟩
      have hz5 := bel_chain hz hb5
      dsimp only
      refine hK.out _ _ (HS.out _ hz5) (fun _ => ?_)
      clear hK K
      try simp only [Act.put, List.getElem_toArray, List.getElem_cons_zero, List.getElem_cons_succ, List.setIfInBounds_toArray, List.set_cons_zero, List.set_cons_succ]
      exact N3.out w5 x y z (bel_chain hz hb5)
    refine AllReadyH.cons rfl (fun K hK => ?_) ?_
    · go_simp
      refine hK.out _ _ (HS.out _ (hz.alloc hz.size _)) (fun _ => ?_)
      clear hK K
      try simp only [Act.put, List.getElem_toArray, List.getElem_cons_zero, List.getElem_cons_succ, List.setIfInBounds_toArray, List.set_cons_zero, List.set_cons_succ]
      obtain ⟨w5, hw5⟩ : ∃ w5, (w'.alloc (.cells #[.string ⟨#[]⟩, .string ⟨#[]⟩] 27)) = w5 := ⟨_, rfl⟩
      obtain ⟨g5, hg5⟩ : ∃ g5, w'.heap.size = g5 := ⟨_, rfl⟩
      have hnx : Box2 w5 g5 (.string ⟨#[]⟩) (.string ⟨#[]⟩) := by rw [← hw5, ← hg5]; exact Box2.new w' _ _ _
      have hbe : Below w'.heap.size w' w5 := by rw [← hw5]; exact (Below.refl _ _).alloc (Nat.le_refl _) _
      have hnl : W.heap.size ≤ g5 := hg5 ▸ hz.size
      rw [hw5, hg5]
      exact N21.out w5 g5 y z ⟨bel_chain hz hbe, ⟨hnx, hnl⟩⟩
    refine AllReadyH.cons rfl (fun K hK => ?_) ?_
    · go_simp
      refine hK.out _ _ (HS.out _ (hz.alloc hz.size _)) (fun _ => ?_)
      clear hK K
      try simp only [Act.put, List.getElem_toArray, List.getElem_cons_zero, List.getElem_cons_succ, List.setIfInBounds_toArray, List.set_cons_zero, List.set_cons_succ]
      obtain ⟨w5, hw5⟩ : ∃ w5, (w'.alloc (.cells #[.string ⟨#[]⟩, .string ⟨#[]⟩] 27)) = w5 := ⟨_, rfl⟩
      obtain ⟨g5, hg5⟩ : ∃ g5, w'.heap.size = g5 := ⟨_, rfl⟩
      have hnx : Box2 w5 g5 (.string ⟨#[]⟩) (.string ⟨#[]⟩) := by rw [← hw5, ← hg5]; exact Box2.new w' _ _ _
      have hbe : Below w'.heap.size w' w5 := by rw [← hw5]; exact (Below.refl _ _).alloc (Nat.le_refl _) _
      have hnl : W.heap.size ≤ g5 := hg5 ▸ hz.size
      rw [hw5, hg5]
      exact N22.out w5 x g5 z ⟨bel_chain hz hbe, ⟨hnx, hnl⟩⟩
    refine AllReadyH.cons rfl (fun K hK => ?_) ?_
    · go_simp
      refine hK.out _ _ (HS.out _ (hz.alloc hz.size _)) (fun _ => ?_)
      clear hK K
      try simp only [Act.put, List.getElem_toArray, List.getElem_cons_zero, List.getElem_cons_succ, List.setIfInBounds_toArray, List.set_cons_zero, List.set_cons_succ]
      obtain ⟨w5, hw5⟩ : ∃ w5, (w'.alloc (.cells #[.string ⟨#[]⟩, .string ⟨#[]⟩] 27)) = w5 := ⟨_, rfl⟩
      obtain ⟨g5, hg5⟩ : ∃ g5, w'.heap.size = g5 := ⟨_, rfl⟩
      have hnx : Box2 w5 g5 (.string ⟨#[]⟩) (.string ⟨#[]⟩) := by rw [← hw5, ← hg5]; exact Box2.new w' _ _ _
      have hbe : Below w'.heap.size w' w5 := by rw [← hw5]; exact (Below.refl _ _).alloc (Nat.le_refl _) _
      have hnl : W.heap.size ≤ g5 := hg5 ▸ hz.size
      rw [hw5, hg5]
      exact N23.out w5 x y g5 ⟨bel_chain hz hbe, ⟨hnx, hnl⟩⟩
    exact AllReadyH.nil
  · intro w' x y z hI
    obtain ⟨hz, ⟨hx6, hl6⟩, ⟨hx7, hl7⟩, ⟨hx8, hl8⟩, hne67, hne68, hne78⟩ := hI
    have hS := HS.out _ hz
    refine wpAnyH_ready (rs := [1]) (by kernel_rfl) (by simp) ?_
    refine AllReadyH.cons rfl (fun K hK => ?_) ?_
    · go_simp
      refine (HMp.out w' (HA.out _ hz)).mono ?_
      rintro e w5 ⟨rfl, hb5⟩
      have hz5 := bel_chain hz hb5
      dsimp only
      refine hK.out _ _ (HS.out _ hz5) (fun _ => ?_)
      clear hK K
      try simp only [Act.put, List.getElem_toArray, List.getElem_cons_zero, List.getElem_cons_succ, List.setIfInBounds_toArray, List.set_cons_zero, List.set_cons_succ]
      exact N1123.out w5 x y z ⟨bel_chain hz hb5, ⟨hx6.later hb5, hl6⟩, ⟨hx7.later hb5, hl7⟩, ⟨hx8.later hb5, hl8⟩, hne67, hne68, hne78⟩
    exact AllReadyH.nil
  · intro w' x y z hI
    obtain ⟨hz, ⟨hx6, hl6⟩, ⟨hx7, hl7⟩, hne67⟩ := hI
    have hS := HS.out _ hz
    refine wpAnyH_ready (rs := [3, 8]) (by kernel_rfl) (by simp) ?_
    refine AllReadyH.cons rfl (fun K hK => ?_) ?_
    · go_simp
      refine (HMq.out w' (HA.out _ hz)).mono ?_
      rintro e w5 ⟨rfl, hb5⟩
      have hz5 := bel_chain hz hb5
      dsimp only
      refine hK.out _ _ (HS.out _ hz5) (fun _ => ?_)
      clear hK K
      try simp only [Act.put, List.getElem_toArray, List.getElem_cons_zero, List.getElem_cons_succ, List.setIfInBounds_toArray, List.set_cons_zero, List.set_cons_succ]
      exact N212.out w5 x y z ⟨bel_chain hz hb5, ⟨hx6.later hb5, hl6⟩, ⟨hx7.later hb5, hl7⟩, hne67⟩
    refine AllReadyH.cons rfl (fun K hK => ?_) ?_
    · go_simp
      refine hK.out _ _ (HS.out _ (hz.alloc hz.size _)) (fun _ => ?_)
      clear hK K
      try simp only [Act.put, List.getElem_toArray, List.getElem_cons_zero, List.getElem_cons_succ, List.setIfInBounds_toArray, List.set_cons_zero, List.set_cons_succ]
      obtain ⟨w5, hw5⟩ : ∃ w5, (w'.alloc (.cells #[.string ⟨#[]⟩, .string ⟨#[]⟩] 27)) = w5 := ⟨_, rfl⟩
      obtain ⟨g5, hg5⟩ : ∃ g5, w'.heap.size = g5 := ⟨_, rfl⟩
      have hnx : Box2 w5 g5 (.string ⟨#[]⟩) (.string ⟨#[]⟩) := by rw [← hw5, ← hg5]; exact Box2.new w' _ _ _
      have hbe : Below w'.heap.size w' w5 := by rw [← hw5]; exact (Below.refl _ _).alloc (Nat.le_refl _) _
      have hnl : W.heap.size ≤ g5 := hg5 ▸ hz.size
      rw [hw5, hg5]
      have hlo6 := hx6.1
      have hnn6 : x ≠ g5 := by rw [← hg5]; omega
      have hlo7 := hx7.1
      have hnn7 : y ≠ g5 := by rw [← hg5]; omega
      exact N1123.out w5 x y g5 ⟨bel_chain hz hbe, ⟨hx6.later hbe, hl6⟩, ⟨hx7.later hbe, hl7⟩, ⟨hnx, hnl⟩, hne67, hnn6, hnn7⟩
    exact AllReadyH.nil
  · intro w' x y z hI
    obtain ⟨hz, ⟨hx6, hl6⟩, ⟨hx8, hl8⟩, hne68⟩ := hI
    have hS := HS.out _ hz
    refine wpAnyH_ready (rs := [3, 7]) (by kernel_rfl) (by simp) ?_
    refine AllReadyH.cons rfl (fun K hK => ?_) ?_
    · go_simp
      refine (HMq.out w' (HA.out _ hz)).mono ?_
      rintro e w5 ⟨rfl, hb5⟩
      have hz5 := bel_chain hz hb5
      dsimp only
      refine hK.out _ _ (HS.out _ hz5) (fun _ => ?_)
      clear hK K
      try simp only [Act.put, List.getElem_toArray, List.getElem_cons_zero, List.getElem_cons_succ, List.setIfInBounds_toArray, List.set_cons_zero, List.set_cons_succ]
      exact N213.out w5 x y z ⟨bel_chain hz hb5, ⟨hx6.later hb5, hl6⟩, ⟨hx8.later hb5, hl8⟩, hne68⟩
    refine AllReadyH.cons rfl (fun K hK => ?_) ?_
    · go_simp
      refine hK.out _ _ (HS.out _ (hz.alloc hz.size _)) (fun _ => ?_)
      clear hK K
      try simp only [Act.put, List.getElem_toArray, List.getElem_cons_zero, List.getElem_cons_succ, List.setIfInBounds_toArray, List.set_cons_zero, List.set_cons_succ]
      obtain ⟨w5, hw5⟩ : ∃ w5, (w'.alloc (.cells #[.string ⟨#[]⟩, .string ⟨#[]⟩] 27)) = w5 := ⟨_, rfl⟩
      obtain ⟨g5, hg5⟩ : ∃ g5, w'.heap.size = g5 := ⟨_, rfl⟩
      have hnx : Box2 w5 g5 (.string ⟨#[]⟩) (.string ⟨#[]⟩) := by rw [← hw5, ← hg5]; exact Box2.new w' _ _ _
      have hbe : Below w'.heap.size w' w5 := by rw [← hw5]; exact (Below.refl _ _).alloc (Nat.le_refl _) _
      have hnl : W.heap.size ≤ g5 := hg5 ▸ hz.size
      rw [hw5, hg5]
      have hlo6 := hx6.1
      have hnn6 : x ≠ g5 := by rw [← hg5]; omega
      have hlo8 := hx8.1
      have hnn8 : g5 ≠ z := by rw [← hg5]; omega
      exact N1123.out w5 x g5 z ⟨bel_chain hz hbe, ⟨hx6.later hbe, hl6⟩, ⟨hnx, hnl⟩, ⟨hx8.later hbe, hl8⟩, hnn6, hne68, hnn8⟩
    exact AllReadyH.nil
  · intro w' x y z hI
    obtain ⟨hz, ⟨hx7, hl7⟩, ⟨hx8, hl8⟩, hne78⟩ := hI
    have hS := HS.out _ hz
    refine wpAnyH_ready (rs := [3, 6]) (by kernel_rfl) (by simp) ?_
    refine AllReadyH.cons rfl (fun K hK => ?_) ?_
    · go_simp
      refine (HMq.out w' (HA.out _ hz)).mono ?_
      rintro e w5 ⟨rfl, hb5⟩
      have hz5 := bel_chain hz hb5
      dsimp only
      refine hK.out _ _ (HS.out _ hz5) (fun _ => ?_)
      clear hK K
      try simp only [Act.put, List.getElem_toArray, List.getElem_cons_zero, List.getElem_cons_succ, List.setIfInBounds_toArray, List.set_cons_zero, List.set_cons_succ]
      exact N223.out w5 x y z ⟨bel_chain hz hb5, ⟨hx7.later hb5, hl7⟩, ⟨hx8.later hb5, hl8⟩, hne78⟩
    refine AllReadyH.cons rfl (fun K hK => ?_) ?_
    · go_simp
      refine hK.out _ _ (HS.out _ (hz.alloc hz.size _)) (fun _ => ?_)
      clear hK K
      try simp only [Act.put, List.getElem_toArray, List.getElem_cons_zero, List.getElem_cons_succ, List.setIfInBounds_toArray, List.set_cons_zero, List.set_cons_succ]
      obtain ⟨w5, hw5⟩ : ∃ w5, (w'.alloc (.cells #[.string ⟨#[]⟩, .string ⟨#[]⟩] 27)) = w5 := ⟨_, rfl⟩
      obtain ⟨g5, hg5⟩ : ∃ g5, w'.heap.size = g5 := ⟨_, rfl⟩
      have hnx : Box2 w5 g5 (.string ⟨#[]⟩) (.string ⟨#[]⟩) := by rw [← hw5, ← hg5]; exact Box2.new w' _ _ _
      have hbe : Below w'.heap.size w' w5 := by rw [← hw5]; exact (Below.refl _ _).alloc (Nat.le_refl _) _
      have hnl : W.heap.size ≤ g5 := hg5 ▸ hz.size
      rw [hw5, hg5]
      have hlo7 := hx7.1
      have hnn7 : g5 ≠ y := by rw [← hg5]; omega
      have hlo8 := hx8.1
      have hnn8 : g5 ≠ z := by rw [← hg5]; omega
      exact N1123.out w5 g5 y z ⟨bel_chain hz hbe, ⟨hnx, hnl⟩, ⟨hx7.later hbe, hl7⟩, ⟨hx8.later hbe, hl8⟩, hnn7, hnn8, hne78⟩
    exact AllReadyH.nil
  · intro w' x y z hI
    obtain ⟨hz, ⟨hx6, hl6⟩⟩ := hI
    have hS := HS.out _ hz
    refine wpAnyH_ready (rs := [5, 7, 8]) (by kernel_rfl) (by simp) ?_
    refine AllReadyH.cons rfl (fun K hK => ?_) ?_
    · go_simp
      refine (HMr.out w' (HA.out _ hz)).mono ?_
      rintro e w5 ⟨rfl, hb5⟩
      have hz5 := bel_chain hz hb5
      dsimp only
      refine hK.out _ _ (HS.out _ hz5) (fun _ => ?_)
      clear hK K
      try simp only [Act.put, List.getElem_toArray, List.getElem_cons_zero, List.getElem_cons_succ, List.setIfInBounds_toArray, List.set_cons_zero, List.set_cons_succ]
      exact N31.out w5 x y z ⟨bel_chain hz hb5, ⟨hx6.later hb5, hl6⟩⟩
    refine AllReadyH.cons rfl (fun K hK => ?_) ?_
    · go_simp
      refine hK.out _ _ (HS.out _ (hz.alloc hz.size _)) (fun _ => ?_)
      clear hK K
      try simp only [Act.put, List.getElem_toArray, List.getElem_cons_zero, List.getElem_cons_succ, List.setIfInBounds_toArray, List.set_cons_zero, List.set_cons_succ]
      obtain ⟨w5, hw5⟩ : ∃ w5, (w'.alloc (.cells #[.string ⟨#[]⟩, .string ⟨#[]⟩] 27)) = w5 := ⟨_, rfl⟩
      obtain ⟨g5, hg5⟩ : ∃ g5, w'.heap.size = g5 := ⟨_, rfl⟩
      have hnx : Box2 w5 g5 (.string ⟨#[]⟩) (.string ⟨#[]⟩) := by rw [← hw5, ← hg5]; exact Box2.new w' _ _ _
      have hbe : Below w'.heap.size w' w5 := by rw [← hw5]; exact (Below.refl _ _).alloc (Nat.le_refl _) _
      have hnl : W.heap.size ≤ g5 := hg5 ▸ hz.size
      rw [hw5, hg5]
      have hlo6 := hx6.1
      have hnn6 : x ≠ g5 := by rw [← hg5]; omega
      exact N212.out w5 x g5 z ⟨bel_chain hz hbe, ⟨hx6.later hbe, hl6⟩, ⟨hnx, hnl⟩, hnn6⟩
    refine AllReadyH.cons rfl (fun K hK => ?_) ?_
    · go_simp
      refine hK.out _ _ (HS.out _ (hz.alloc hz.size _)) (fun _ => ?_)
      clear hK K
      try simp only [Act.put, List.getElem_toArray, List.getElem_cons_zero, List.getElem_cons_succ, List.setIfInBounds_toArray, List.set_cons_zero, List.set_cons_succ]
      obtain ⟨w5, hw5⟩ : ∃ w5, (w'.alloc (.cells #[.string ⟨#[]⟩, .string ⟨#[]⟩] 27)) = w5 := ⟨_, rfl⟩
      obtain ⟨g5, hg5⟩ : ∃ g5, w'.heap.size = g5 := ⟨_, rfl⟩
      have hnx : Box2 w5 g5 (.string ⟨#[]⟩) (.string ⟨#[]⟩) := by rw [← hw5, ← hg5]; exact Box2.new w' _ _ _
      have hbe : Below w'.heap.size w' w5 := by rw [← hw5]; exact (Below.refl _ _).alloc (Nat.le_refl _) _
      have hnl : W.heap.size ≤ g5 := hg5 ▸ hz.size
      rw [hw5, hg5]
      have hlo6 := hx6.1
      have hnn6 : x ≠ g5 := by rw [← hg5]; omega
      exact N213.out w5 x y g5 ⟨bel_chain hz hbe, ⟨hx6.later hbe, hl6⟩, ⟨hnx, hnl⟩, hnn6⟩
    exact AllReadyH.nil
  · intro w' x y z hI
    obtain ⟨hz, ⟨hx7, hl7⟩⟩ := hI
    have hS := HS.out _ hz
    refine wpAnyH_ready (rs := [5, 6, 8]) (by kernel_rfl) (by simp) ?_
    refine AllReadyH.cons rfl (fun K hK => ?_) ?_
    · go_simp
      refine (HMr.out w' (HA.out _ hz)).mono ?_
      rintro e w5 ⟨rfl, hb5⟩
      have hz5 := bel_chain hz hb5
      dsimp only
      refine hK.out _ _ (HS.out _ hz5) (fun _ => ?_)
      clear hK K
      try simp only [Act.put, List.getElem_toArray, List.getElem_cons_zero, List.getElem_cons_succ, List.setIfInBounds_toArray, List.set_cons_zero, List.set_cons_succ]
      exact N32.out w5 x y z ⟨bel_chain hz hb5, ⟨hx7.later hb5, hl7⟩⟩
    refine AllReadyH.cons rfl (fun K hK => ?_) ?_
    · go_simp
      refine hK.out _ _ (HS.out _ (hz.alloc hz.size _)) (fun _ => ?_)
      clear hK K
      try simp only [Act.put, List.getElem_toArray, List.getElem_cons_zero, List.getElem_cons_succ, List.setIfInBounds_toArray, List.set_cons_zero, List.set_cons_succ]
      obtain ⟨w5, hw5⟩ : ∃ w5, (w'.alloc (.cells #[.string ⟨#[]⟩, .string ⟨#[]⟩] 27)) = w5 := ⟨_, rfl⟩
      obtain ⟨g5, hg5⟩ : ∃ g5, w'.heap.size = g5 := ⟨_, rfl⟩
      have hnx : Box2 w5 g5 (.string ⟨#[]⟩) (.string ⟨#[]⟩) := by rw [← hw5, ← hg5]; exact Box2.new w' _ _ _
      have hbe : Below w'.heap.size w' w5 := by rw [← hw5]; exact (Below.refl _ _).alloc (Nat.le_refl _) _
      have hnl : W.heap.size ≤ g5 := hg5 ▸ hz.size
      rw [hw5, hg5]
      have hlo7 := hx7.1
      have hnn7 : g5 ≠ y := by rw [← hg5]; omega
      exact N212.out w5 g5 y z ⟨bel_chain hz hbe, ⟨hnx, hnl⟩, ⟨hx7.later hbe, hl7⟩, hnn7⟩
    refine AllReadyH.cons rfl (fun K hK => ?_) ?_
    · go_simp
      refine hK.out _ _ (HS.out _ (hz.alloc hz.size _)) (fun _ => ?_)
      clear hK K
      try simp only [Act.put, List.getElem_toArray, List.getElem_cons_zero, List.getElem_cons_succ, List.setIfInBounds_toArray, List.set_cons_zero, List.set_cons_succ]
      obtain ⟨w5, hw5⟩ : ∃ w5, (w'.alloc (.cells #[.string ⟨#[]⟩, .string ⟨#[]⟩] 27)) = w5 := ⟨_, rfl⟩
      obtain ⟨g5, hg5⟩ : ∃ g5, w'.heap.size = g5 := ⟨_, rfl⟩
      have hnx : Box2 w5 g5 (.string ⟨#[]⟩) (.string ⟨#[]⟩) := by rw [← hw5, ← hg5]; exact Box2.new w' _ _ _
      have hbe : Below w'.heap.size w' w5 := by rw [← hw5]; exact (Below.refl _ _).alloc (Nat.le_refl _) _
      have hnl : W.heap.size ≤ g5 := hg5 ▸ hz.size
      rw [hw5, hg5]
      have hlo7 := hx7.1
      have hnn7 : y ≠ g5 := by rw [← hg5]; omega
      exact N223.out w5 x y g5 ⟨bel_chain hz hbe, ⟨hx7.later hbe, hl7⟩, ⟨hnx, hnl⟩, hnn7⟩
    exact AllReadyH.nil
  · intro w' x y z hI
    obtain ⟨hz, ⟨hx8, hl8⟩⟩ := hI
    have hS := HS.out _ hz
    refine wpAnyH_ready (rs := [5, 6, 7]) (by kernel_rfl) (by simp) ?_
    refine AllReadyH.cons rfl (fun K hK => ?_) ?_
    · go_simp
      refine (HMr.out w' (HA.out _ hz)).mono ?_
      rintro e w5 ⟨rfl, hb5⟩
      have hz5 := bel_chain hz hb5
      dsimp only
      refine hK.out _ _ (HS.out _ hz5) (fun _ => ?_)
      clear hK K
      try simp only [Act.put, List.getElem_toArray, List.getElem_cons_zero, List.getElem_cons_succ, List.setIfInBounds_toArray, List.set_cons_zero, List.set_cons_succ]
      exact N33.out w5 x y z ⟨bel_chain hz hb5, ⟨hx8.later hb5, hl8⟩⟩
    refine AllReadyH.cons rfl (fun K hK => ?_) ?_
    · go_simp
      refine hK.out _ _ (HS.out _ (hz.alloc hz.size _)) (fun _ => ?_)
      clear hK K
      try simp only [Act.put, List.getElem_toArray, List.getElem_cons_zero, List.getElem_cons_succ, List.setIfInBounds_toArray, List.set_cons_zero, List.set_cons_succ]
      obtain ⟨w5, hw5⟩ : ∃ w5, (w'.alloc (.cells #[.string ⟨#[]⟩, .string ⟨#[]⟩] 27)) = w5 := ⟨_, rfl⟩
      obtain ⟨g5, hg5⟩ : ∃ g5, w'.heap.size = g5 := ⟨_, rfl⟩
      have hnx : Box2 w5 g5 (.string ⟨#[]⟩) (.string ⟨#[]⟩) := by rw [← hw5, ← hg5]; exact Box2.new w' _ _ _
      have hbe : Below w'.heap.size w' w5 := by rw [← hw5]; exact (Below.refl _ _).alloc (Nat.le_refl _) _
      have hnl : W.heap.size ≤ g5 := hg5 ▸ hz.size
      rw [hw5, hg5]
      have hlo8 := hx8.1
      have hnn8 : g5 ≠ z := by rw [← hg5]; omega
      exact N213.out w5 g5 y z ⟨bel_chain hz hbe, ⟨hnx, hnl⟩, ⟨hx8.later hbe, hl8⟩, hnn8⟩
    refine AllReadyH.cons rfl (fun K hK => ?_) ?_
    · go_simp
      refine hK.out _ _ (HS.out _ (hz.alloc hz.size _)) (fun _ => ?_)
      clear hK K
      try simp only [Act.put, List.getElem_toArray, List.getElem_cons_zero, List.getElem_cons_succ, List.setIfInBounds_toArray, List.set_cons_zero, List.set_cons_succ]
      obtain ⟨w5, hw5⟩ : ∃ w5, (w'.alloc (.cells #[.string ⟨#[]⟩, .string ⟨#[]⟩] 27)) = w5 := ⟨_, rfl⟩
      obtain ⟨g5, hg5⟩ : ∃ g5, w'.heap.size = g5 := ⟨_, rfl⟩
      have hnx : Box2 w5 g5 (.string ⟨#[]⟩) (.string ⟨#[]⟩) := by rw [← hw5, ← hg5]; exact Box2.new w' _ _ _
      have hbe : Below w'.heap.size w' w5 := by rw [← hw5]; exact (Below.refl _ _).alloc (Nat.le_refl _) _
      have hnl : W.heap.size ≤ g5 := hg5 ▸ hz.size
      rw [hw5, hg5]
      have hlo8 := hx8.1
      have hnn8 : g5 ≠ z := by rw [← hg5]; omega
      exact N223.out w5 x g5 z ⟨bel_chain hz hbe, ⟨hnx, hnl⟩, ⟨hx8.later hbe, hl8⟩, hnn8⟩
    exact AllReadyH.nil
  · intro w' x y z hI
    have hz := hI
    have hS := HS.out _ hz
    refine wpAnyH_ready (rs := [6, 7, 8]) (by kernel_rfl) (by simp) ?_
    refine AllReadyH.cons rfl (fun K hK => ?_) ?_
    · go_simp
      refine hK.out _ _ (HS.out _ (hz.alloc hz.size _)) (fun _ => ?_)
      clear hK K
      try simp only [Act.put, List.getElem_toArray, List.getElem_cons_zero, List.getElem_cons_succ, List.setIfInBounds_toArray, List.set_cons_zero, List.set_cons_succ]
      obtain ⟨w5, hw5⟩ : ∃ w5, (w'.alloc (.cells #[.string ⟨#[]⟩, .string ⟨#[]⟩] 27)) = w5 := ⟨_, rfl⟩
      obtain ⟨g5, hg5⟩ : ∃ g5, w'.heap.size = g5 := ⟨_, rfl⟩
      have hnx : Box2 w5 g5 (.string ⟨#[]⟩) (.string ⟨#[]⟩) := by rw [← hw5, ← hg5]; exact Box2.new w' _ _ _
      have hbe : Below w'.heap.size w' w5 := by rw [← hw5]; exact (Below.refl _ _).alloc (Nat.le_refl _) _
      have hnl : W.heap.size ≤ g5 := hg5 ▸ hz.size
      rw [hw5, hg5]
      exact N31.out w5 g5 y z ⟨bel_chain hz hbe, ⟨hnx, hnl⟩⟩
    refine AllReadyH.cons rfl (fun K hK => ?_) ?_
    · go_simp
      refine hK.out _ _ (HS.out _ (hz.alloc hz.size _)) (fun _ => ?_)
      clear hK K
      try simp only [Act.put, List.getElem_toArray, List.getElem_cons_zero, List.getElem_cons_succ, List.setIfInBounds_toArray, List.set_cons_zero, List.set_cons_succ]
      obtain ⟨w5, hw5⟩ : ∃ w5, (w'.alloc (.cells #[.string ⟨#[]⟩, .string ⟨#[]⟩] 27)) = w5 := ⟨_, rfl⟩
      obtain ⟨g5, hg5⟩ : ∃ g5, w'.heap.size = g5 := ⟨_, rfl⟩
      have hnx : Box2 w5 g5 (.string ⟨#[]⟩) (.string ⟨#[]⟩) := by rw [← hw5, ← hg5]; exact Box2.new w' _ _ _
      have hbe : Below w'.heap.size w' w5 := by rw [← hw5]; exact (Below.refl _ _).alloc (Nat.le_refl _) _
      have hnl : W.heap.size ≤ g5 := hg5 ▸ hz.size
      rw [hw5, hg5]
      exact N32.out w5 x g5 z ⟨bel_chain hz hbe, ⟨hnx, hnl⟩⟩
    refine AllReadyH.cons rfl (fun K hK => ?_) ?_
    · go_simp
      refine hK.out _ _ (HS.out _ (hz.alloc hz.size _)) (fun _ => ?_)
      clear hK K
      try simp only [Act.put, List.getElem_toArray, List.getElem_cons_zero, List.getElem_cons_succ, List.setIfInBounds_toArray, List.set_cons_zero, List.set_cons_succ]
      obtain ⟨w5, hw5⟩ : ∃ w5, (w'.alloc (.cells #[.string ⟨#[]⟩, .string ⟨#[]⟩] 27)) = w5 := ⟨_, rfl⟩
      obtain ⟨g5, hg5⟩ : ∃ g5, w'.heap.size = g5 := ⟨_, rfl⟩
      have hnx : Box2 w5 g5 (.string ⟨#[]⟩) (.string ⟨#[]⟩) := by rw [← hw5, ← hg5]; exact Box2.new w' _ _ _
      have hbe : Below w'.heap.size w' w5 := by rw [← hw5]; exact (Below.refl _ _).alloc (Nat.le_refl _) _
      have hnl : W.heap.size ≤ g5 := hg5 ▸ hz.size
      rw [hw5, hg5]
      exact N33.out w5 x y g5 ⟨bel_chain hz hbe, ⟨hnx, hnl⟩⟩
    exact AllReadyH.nil
  · intro w' x y z hI
    obtain ⟨hz, ⟨hx6, hl6⟩, ⟨hx7, hl7⟩, ⟨hx8, hl8⟩, hne67, hne68, hne78⟩ := hI
    have hS := HS.out _ hz
    refine wpAnyH_ready (rs := [3]) (by kernel_rfl) (by simp) ?_
    refine AllReadyH.cons rfl (fun K hK => ?_) ?_
    · go_simp
      refine (HMq.out w' (HA.out _ hz)).mono ?_
      rintro e w5 ⟨rfl, hb5⟩
      have hz5 := bel_chain hz hb5
      dsimp only
      refine hK.out _ _ (HS.out _ hz5) (fun _ => ?_)
      clear hK K
      try simp only [Act.put, List.getElem_toArray, List.getElem_cons_zero, List.getElem_cons_succ, List.setIfInBounds_toArray, List.set_cons_zero, List.set_cons_succ]
      exact N2123.out w5 x y z ⟨bel_chain hz hb5, ⟨hx6.later hb5, hl6⟩, ⟨hx7.later hb5, hl7⟩, ⟨hx8.later hb5, hl8⟩, hne67, hne68, hne78⟩
    exact AllReadyH.nil
  · intro w' x y z hI
    obtain ⟨hz, ⟨hx6, hl6⟩, ⟨hx7, hl7⟩, hne67⟩ := hI
    have hS := HS.out _ hz
    refine wpAnyH_ready (rs := [5, 8]) (by kernel_rfl) (by simp) ?_
    refine AllReadyH.cons rfl (fun K hK => ?_) ?_
    · go_simp
      refine (HMr.out w' (HA.out _ hz)).mono ?_
      rintro e w5 ⟨rfl, hb5⟩
      have hz5 := bel_chain hz hb5
      dsimp only
      refine hK.out _ _ (HS.out _ hz5) (fun _ => ?_)
      clear hK K
      try simp only [Act.put, List.getElem_toArray, List.getElem_cons_zero, List.getElem_cons_succ, List.setIfInBounds_toArray, List.set_cons_zero, List.set_cons_succ]
      exact N312.out w5 x y z ⟨bel_chain hz hb5, ⟨hx6.later hb5, hl6⟩, ⟨hx7.later hb5, hl7⟩, hne67⟩
    refine AllReadyH.cons rfl (fun K hK => ?_) ?_
    · go_simp
      refine hK.out _ _ (HS.out _ (hz.alloc hz.size _)) (fun _ => ?_)
      clear hK K
      try simp only [Act.put, List.getElem_toArray, List.getElem_cons_zero, List.getElem_cons_succ, List.setIfInBounds_toArray, List.set_cons_zero, List.set_cons_succ]
      obtain ⟨w5, hw5⟩ : ∃ w5, (w'.alloc (.cells #[.string ⟨#[]⟩, .string ⟨#[]⟩] 27)) = w5 := ⟨_, rfl⟩
      obtain ⟨g5, hg5⟩ : ∃ g5, w'.heap.size = g5 := ⟨_, rfl⟩
      have hnx : Box2 w5 g5 (.string ⟨#[]⟩) (.string ⟨#[]⟩) := by rw [← hw5, ← hg5]; exact Box2.new w' _ _ _
      have hbe : Below w'.heap.size w' w5 := by rw [← hw5]; exact (Below.refl _ _).alloc (Nat.le_refl _) _
      have hnl : W.heap.size ≤ g5 := hg5 ▸ hz.size
      rw [hw5, hg5]
      have hlo6 := hx6.1
      have hnn6 : x ≠ g5 := by rw [← hg5]; omega
      have hlo7 := hx7.1
      have hnn7 : y ≠ g5 := by rw [← hg5]; omega
      exact N2123.out w5 x y g5 ⟨bel_chain hz hbe, ⟨hx6.later hbe, hl6⟩, ⟨hx7.later hbe, hl7⟩, ⟨hnx, hnl⟩, hne67, hnn6, hnn7⟩
    exact AllReadyH.nil
  · intro w' x y z hI
    obtain ⟨hz, ⟨hx6, hl6⟩, ⟨hx8, hl8⟩, hne68⟩ := hI
    have hS := HS.out _ hz
    refine wpAnyH_ready (rs := [5, 7]) (by kernel_rfl) (by simp) ?_
    refine AllReadyH.cons rfl (fun K hK => ?_) ?_
    · go_simp
      refine (HMr.out w' (HA.out _ hz)).mono ?_
      rintro e w5 ⟨rfl, hb5⟩
      have hz5 := bel_chain hz hb5
      dsimp only
      refine hK.out _ _ (HS.out _ hz5) (fun _ => ?_)
      clear hK K
      try simp only [Act.put, List.getElem_toArray, List.getElem_cons_zero, List.getElem_cons_succ, List.setIfInBounds_toArray, List.set_cons_zero, List.set_cons_succ]
      exact N313.out w5 x y z ⟨bel_chain hz hb5, ⟨hx6.later hb5, hl6⟩, ⟨hx8.later hb5, hl8⟩, hne68⟩
    refine AllReadyH.cons rfl (fun K hK => ?_) ?_
    · go_simp
      refine hK.out _ _ (HS.out _ (hz.alloc hz.size _)) (fun _ => ?_)
      clear hK K
      try simp only [Act.put, List.getElem_toArray, List.getElem_cons_zero, List.getElem_cons_succ, List.setIfInBounds_toArray, List.set_cons_zero, List.set_cons_succ]
      obtain ⟨w5, hw5⟩ : ∃ w5, (w'.alloc (.cells #[.string ⟨#[]⟩, .string ⟨#[]⟩] 27)) = w5 := ⟨_, rfl⟩
      obtain ⟨g5, hg5⟩ : ∃ g5, w'.heap.size = g5 := ⟨_, rfl⟩
      have hnx : Box2 w5 g5 (.string ⟨#[]⟩) (.string ⟨#[]⟩) := by rw [← hw5, ← hg5]; exact Box2.new w' _ _ _
      have hbe : Below w'.heap.size w' w5 := by rw [← hw5]; exact (Below.refl _ _).alloc (Nat.le_refl _) _
      have hnl : W.heap.size ≤ g5 := hg5 ▸ hz.size
      rw [hw5, hg5]
      have hlo6 := hx6.1
      have hnn6 : x ≠ g5 := by rw [← hg5]; omega
      have hlo8 := hx8.1
      have hnn8 : g5 ≠ z := by rw [← hg5]; omega
      exact N2123.out w5 x g5 z ⟨bel_chain hz hbe, ⟨hx6.later hbe, hl6⟩, ⟨hnx, hnl⟩, ⟨hx8.later hbe, hl8⟩, hnn6, hne68, hnn8⟩
    exact AllReadyH.nil
  · intro w' x y z hI
    obtain ⟨hz, ⟨hx7, hl7⟩, ⟨hx8, hl8⟩, hne78⟩ := hI
    have hS := HS.out _ hz
    refine wpAnyH_ready (rs := [5, 6]) (by kernel_rfl) (by simp) ?_
    refine AllReadyH.cons rfl (fun K hK => ?_) ?_
    · go_simp
      refine (HMr.out w' (HA.out _ hz)).mono ?_
      rintro e w5 ⟨rfl, hb5⟩
      have hz5 := bel_chain hz hb5
      dsimp only
      refine hK.out _ _ (HS.out _ hz5) (fun _ => ?_)
      clear hK K
      try simp only [Act.put, List.getElem_toArray, List.getElem_cons_zero, List.getElem_cons_succ, List.setIfInBounds_toArray, List.set_cons_zero, List.set_cons_succ]
      exact N323.out w5 x y z ⟨bel_chain hz hb5, ⟨hx7.later hb5, hl7⟩, ⟨hx8.later hb5, hl8⟩, hne78⟩
    refine AllReadyH.cons rfl (fun K hK => ?_) ?_
    · go_simp
      refine hK.out _ _ (HS.out _ (hz.alloc hz.size _)) (fun _ => ?_)
      clear hK K
      try simp only [Act.put, List.getElem_toArray, List.getElem_cons_zero, List.getElem_cons_succ, List.setIfInBounds_toArray, List.set_cons_zero, List.set_cons_succ]
      obtain ⟨w5, hw5⟩ : ∃ w5, (w'.alloc (.cells #[.string ⟨#[]⟩, .string ⟨#[]⟩] 27)) = w5 := ⟨_, rfl⟩
      obtain ⟨g5, hg5⟩ : ∃ g5, w'.heap.size = g5 := ⟨_, rfl⟩
      have hnx : Box2 w5 g5 (.string ⟨#[]⟩) (.string ⟨#[]⟩) := by rw [← hw5, ← hg5]; exact Box2.new w' _ _ _
      have hbe : Below w'.heap.size w' w5 := by rw [← hw5]; exact (Below.refl _ _).alloc (Nat.le_refl _) _
      have hnl : W.heap.size ≤ g5 := hg5 ▸ hz.size
      rw [hw5, hg5]
      have hlo7 := hx7.1
      have hnn7 : g5 ≠ y := by rw [← hg5]; omega
      have hlo8 := hx8.1
      have hnn8 : g5 ≠ z := by rw [← hg5]; omega
      exact N2123.out w5 g5 y z ⟨bel_chain hz hbe, ⟨hnx, hnl⟩, ⟨hx7.later hbe, hl7⟩, ⟨hx8.later hbe, hl8⟩, hnn7, hnn8, hne78⟩
    exact AllReadyH.nil
  · intro w' x y z hI
    obtain ⟨hz, ⟨hx6, hl6⟩⟩ := hI
    have hS := HS.out _ hz
    refine wpAnyH_ready (rs := [7, 8]) (by kernel_rfl) (by simp) ?_
    refine AllReadyH.cons rfl (fun K hK => ?_) ?_
    · go_simp
      refine hK.out _ _ (HS.out _ (hz.alloc hz.size _)) (fun _ => ?_)
      clear hK K
      try simp only [Act.put, List.getElem_toArray, List.getElem_cons_zero, List.getElem_cons_succ, List.setIfInBounds_toArray, List.set_cons_zero, List.set_cons_succ]
      obtain ⟨w5, hw5⟩ : ∃ w5, (w'.alloc (.cells #[.string ⟨#[]⟩, .string ⟨#[]⟩] 27)) = w5 := ⟨_, rfl⟩
      obtain ⟨g5, hg5⟩ : ∃ g5, w'.heap.size = g5 := ⟨_, rfl⟩
      have hnx : Box2 w5 g5 (.string ⟨#[]⟩) (.string ⟨#[]⟩) := by rw [← hw5, ← hg5]; exact Box2.new w' _ _ _
      have hbe : Below w'.heap.size w' w5 := by rw [← hw5]; exact (Below.refl _ _).alloc (Nat.le_refl _) _
      have hnl : W.heap.size ≤ g5 := hg5 ▸ hz.size
      rw [hw5, hg5]
      have hlo6 := hx6.1
      have hnn6 : x ≠ g5 := by rw [← hg5]; omega
      exact N312.out w5 x g5 z ⟨bel_chain hz hbe, ⟨hx6.later hbe, hl6⟩, ⟨hnx, hnl⟩, hnn6⟩
    refine AllReadyH.cons rfl (fun K hK => ?_) ?_
    · go_simp
      refine hK.out _ _ (HS.out _ (hz.alloc hz.size _)) (fun _ => ?_)
      clear hK K
      try simp only [Act.put, List.getElem_toArray, List.getElem_cons_zero, List.getElem_cons_succ, List.setIfInBounds_toArray, List.set_cons_zero, List.set_cons_succ]
      obtain ⟨w5, hw5⟩ : ∃ w5, (w'.alloc (.cells #[.string ⟨#[]⟩, .string ⟨#[]⟩] 27)) = w5 := ⟨_, rfl⟩
      obtain ⟨g5, hg5⟩ : ∃ g5, w'.heap.size = g5 := ⟨_, rfl⟩
      have hnx : Box2 w5 g5 (.string ⟨#[]⟩) (.string ⟨#[]⟩) := by rw [← hw5, ← hg5]; exact Box2.new w' _ _ _
      have hbe : Below w'.heap.size w' w5 := by rw [← hw5]; exact (Below.refl _ _).alloc (Nat.le_refl _) _
      have hnl : W.heap.size ≤ g5 := hg5 ▸ hz.size
      rw [hw5, hg5]
      have hlo6 := hx6.1
      have hnn6 : x ≠ g5 := by rw [← hg5]; omega
      exact N313.out w5 x y g5 ⟨bel_chain hz hbe, ⟨hx6.later hbe, hl6⟩, ⟨hnx, hnl⟩, hnn6⟩
    exact AllReadyH.nil
  · intro w' x y z hI
    obtain ⟨hz, ⟨hx7, hl7⟩⟩ := hI
    have hS := HS.out _ hz
    refine wpAnyH_ready (rs := [6, 8]) (by kernel_rfl) (by simp) ?_
    refine AllReadyH.cons rfl (fun K hK => ?_) ?_
    · go_simp
      refine hK.out _ _ (HS.out _ (hz.alloc hz.size _)) (fun _ => ?_)
      clear hK K
      try simp only [Act.put, List.getElem_toArray, List.getElem_cons_zero, List.getElem_cons_succ, List.setIfInBounds_toArray, List.set_cons_zero, List.set_cons_succ]
      obtain ⟨w5, hw5⟩ : ∃ w5, (w'.alloc (.cells #[.string ⟨#[]⟩, .string ⟨#[]⟩] 27)) = w5 := ⟨_, rfl⟩
      obtain ⟨g5, hg5⟩ : ∃ g5, w'.heap.size = g5 := ⟨_, rfl⟩
      have hnx : Box2 w5 g5 (.string ⟨#[]⟩) (.string ⟨#[]⟩) := by rw [← hw5, ← hg5]; exact Box2.new w' _ _ _
      have hbe : Below w'.heap.size w' w5 := by rw [← hw5]; exact (Below.refl _ _).alloc (Nat.le_refl _) _
      have hnl : W.heap.size ≤ g5 := hg5 ▸ hz.size
      rw [hw5, hg5]
      have hlo7 := hx7.1
      have hnn7 : g5 ≠ y := by rw [← hg5]; omega
      exact N312.out w5 g5 y z ⟨bel_chain hz hbe, ⟨hnx, hnl⟩, ⟨hx7.later hbe, hl7⟩, hnn7⟩
    refine AllReadyH.cons rfl (fun K hK => ?_) ?_
    · go_simp
      refine hK.out _ _ (HS.out _ (hz.alloc hz.size _)) (fun _ => ?_)
      clear hK K
      try simp only [Act.put, List.getElem_toArray, List.getElem_cons_zero, List.getElem_cons_succ, List.setIfInBounds_toArray, List.set_cons_zero, List.set_cons_succ]
      obtain ⟨w5, hw5⟩ : ∃ w5, (w'.alloc (.cells #[.string ⟨#[]⟩, .string ⟨#[]⟩] 27)) = w5 := ⟨_, rfl⟩
      obtain ⟨g5, hg5⟩ : ∃ g5, w'.heap.size = g5 := ⟨_, rfl⟩
      have hnx : Box2 w5 g5 (.string ⟨#[]⟩) (.string ⟨#[]⟩) := by rw [← hw5, ← hg5]; exact Box2.new w' _ _ _
      have hbe : Below w'.heap.size w' w5 := by rw [← hw5]; exact (Below.refl _ _).alloc (Nat.le_refl _) _
      have hnl : W.heap.size ≤ g5 := hg5 ▸ hz.size
      rw [hw5, hg5]
      have hlo7 := hx7.1
      have hnn7 : y ≠ g5 := by rw [← hg5]; omega
      exact N323.out w5 x y g5 ⟨bel_chain hz hbe, ⟨hx7.later hbe, hl7⟩, ⟨hnx, hnl⟩, hnn7⟩
    exact AllReadyH.nil
  · intro w' x y z hI
    obtain ⟨hz, ⟨hx8, hl8⟩⟩ := hI
    have hS := HS.out _ hz
    refine wpAnyH_ready (rs := [6, 7]) (by kernel_rfl) (by simp) ?_
    refine AllReadyH.cons rfl (fun K hK => ?_) ?_
    · go_simp
      refine hK.out _ _ (HS.out _ (hz.alloc hz.size _)) (fun _ => ?_)
      clear hK K
      try simp only [Act.put, List.getElem_toArray, List.getElem_cons_zero, List.getElem_cons_succ, List.setIfInBounds_toArray, List.set_cons_zero, List.set_cons_succ]
      obtain ⟨w5, hw5⟩ : ∃ w5, (w'.alloc (.cells #[.string ⟨#[]⟩, .string ⟨#[]⟩] 27)) = w5 := ⟨_, rfl⟩
      obtain ⟨g5, hg5⟩ : ∃ g5, w'.heap.size = g5 := ⟨_, rfl⟩
      have hnx : Box2 w5 g5 (.string ⟨#[]⟩) (.string ⟨#[]⟩) := by rw [← hw5, ← hg5]; exact Box2.new w' _ _ _
      have hbe : Below w'.heap.size w' w5 := by rw [← hw5]; exact (Below.refl _ _).alloc (Nat.le_refl _) _
      have hnl : W.heap.size ≤ g5 := hg5 ▸ hz.size
      rw [hw5, hg5]
      have hlo8 := hx8.1
      have hnn8 : g5 ≠ z := by rw [← hg5]; omega
      exact N313.out w5 g5 y z ⟨bel_chain hz hbe, ⟨hnx, hnl⟩, ⟨hx8.later hbe, hl8⟩, hnn8⟩
    refine AllReadyH.cons rfl (fun K hK => ?_) ?_
    · go_simp
      refine hK.out _ _ (HS.out _ (hz.alloc hz.size _)) (fun _ => ?_)
      clear hK K
      try simp only [Act.put, List.getElem_toArray, List.getElem_cons_zero, List.getElem_cons_succ, List.setIfInBounds_toArray, List.set_cons_zero, List.set_cons_succ]
      obtain ⟨w5, hw5⟩ : ∃ w5, (w'.alloc (.cells #[.string ⟨#[]⟩, .string ⟨#[]⟩] 27)) = w5 := ⟨_, rfl⟩
      obtain ⟨g5, hg5⟩ : ∃ g5, w'.heap.size = g5 := ⟨_, rfl⟩
      have hnx : Box2 w5 g5 (.string ⟨#[]⟩) (.string ⟨#[]⟩) := by rw [← hw5, ← hg5]; exact Box2.new w' _ _ _
      have hbe : Below w'.heap.size w' w5 := by rw [← hw5]; exact (Below.refl _ _).alloc (Nat.le_refl _) _
      have hnl : W.heap.size ≤ g5 := hg5 ▸ hz.size
      rw [hw5, hg5]
      have hlo8 := hx8.1
      have hnn8 : g5 ≠ z := by rw [← hg5]; omega
      exact N323.out w5 x g5 z ⟨bel_chain hz hbe, ⟨hnx, hnl⟩, ⟨hx8.later hbe, hl8⟩, hnn8⟩
    exact AllReadyH.nil
  · intro w' x y z hI
    obtain ⟨hz, ⟨hx6, hl6⟩, ⟨hx7, hl7⟩, ⟨hx8, hl8⟩, hne67, hne68, hne78⟩ := hI
    have hS := HS.out _ hz
    refine wpAnyH_ready (rs := [5]) (by kernel_rfl) (by simp) ?_
    refine AllReadyH.cons rfl (fun K hK => ?_) ?_
    · go_simp
      refine (HMr.out w' (HA.out _ hz)).mono ?_
      rintro e w5 ⟨rfl, hb5⟩
      have hz5 := bel_chain hz hb5
      dsimp only
      refine hK.out _ _ (HS.out _ hz5) (fun _ => ?_)
      clear hK K
      try simp only [Act.put, List.getElem_toArray, List.getElem_cons_zero, List.getElem_cons_succ, List.setIfInBounds_toArray, List.set_cons_zero, List.set_cons_succ]
      exact N3123.out w5 x y z ⟨bel_chain hz hb5, ⟨hx6.later hb5, hl6⟩, ⟨hx7.later hb5, hl7⟩, ⟨hx8.later hb5, hl8⟩, hne67, hne68, hne78⟩
    exact AllReadyH.nil
  · intro w' x y z hI
    obtain ⟨hz, ⟨hx6, hl6⟩, ⟨hx7, hl7⟩, hne67⟩ := hI
    have hS := HS.out _ hz
    refine wpAnyH_ready (rs := [8]) (by kernel_rfl) (by simp) ?_
    refine AllReadyH.cons rfl (fun K hK => ?_) ?_
    · go_simp
      refine hK.out _ _ (HS.out _ (hz.alloc hz.size _)) (fun _ => ?_)
      clear hK K
      try simp only [Act.put, List.getElem_toArray, List.getElem_cons_zero, List.getElem_cons_succ, List.setIfInBounds_toArray, List.set_cons_zero, List.set_cons_succ]
      obtain ⟨w5, hw5⟩ : ∃ w5, (w'.alloc (.cells #[.string ⟨#[]⟩, .string ⟨#[]⟩] 27)) = w5 := ⟨_, rfl⟩
      obtain ⟨g5, hg5⟩ : ∃ g5, w'.heap.size = g5 := ⟨_, rfl⟩
      have hnx : Box2 w5 g5 (.string ⟨#[]⟩) (.string ⟨#[]⟩) := by rw [← hw5, ← hg5]; exact Box2.new w' _ _ _
      have hbe : Below w'.heap.size w' w5 := by rw [← hw5]; exact (Below.refl _ _).alloc (Nat.le_refl _) _
      have hnl : W.heap.size ≤ g5 := hg5 ▸ hz.size
      rw [hw5, hg5]
      have hlo6 := hx6.1
      have hnn6 : x ≠ g5 := by rw [← hg5]; omega
      have hlo7 := hx7.1
      have hnn7 : y ≠ g5 := by rw [← hg5]; omega
      exact N3123.out w5 x y g5 ⟨bel_chain hz hbe, ⟨hx6.later hbe, hl6⟩, ⟨hx7.later hbe, hl7⟩, ⟨hnx, hnl⟩, hne67, hnn6, hnn7⟩
    exact AllReadyH.nil
  · intro w' x y z hI
    obtain ⟨hz, ⟨hx6, hl6⟩, ⟨hx8, hl8⟩, hne68⟩ := hI
    have hS := HS.out _ hz
    refine wpAnyH_ready (rs := [7]) (by kernel_rfl) (by simp) ?_
    refine AllReadyH.cons rfl (fun K hK => ?_) ?_
    · go_simp
      refine hK.out _ _ (HS.out _ (hz.alloc hz.size _)) (fun _ => ?_)
      clear hK K
      try simp only [Act.put, List.getElem_toArray, List.getElem_cons_zero, List.getElem_cons_succ, List.setIfInBounds_toArray, List.set_cons_zero, List.set_cons_succ]
      obtain ⟨w5, hw5⟩ : ∃ w5, (w'.alloc (.cells #[.string ⟨#[]⟩, .string ⟨#[]⟩] 27)) = w5 := ⟨_, rfl⟩
      obtain ⟨g5, hg5⟩ : ∃ g5, w'.heap.size = g5 := ⟨_, rfl⟩
      have hnx : Box2 w5 g5 (.string ⟨#[]⟩) (.string ⟨#[]⟩) := by rw [← hw5, ← hg5]; exact Box2.new w' _ _ _
      have hbe : Below w'.heap.size w' w5 := by rw [← hw5]; exact (Below.refl _ _).alloc (Nat.le_refl _) _
      have hnl : W.heap.size ≤ g5 := hg5 ▸ hz.size
      rw [hw5, hg5]
      have hlo6 := hx6.1
      have hnn6 : x ≠ g5 := by rw [← hg5]; omega
      have hlo8 := hx8.1
      have hnn8 : g5 ≠ z := by rw [← hg5]; omega
      exact N3123.out w5 x g5 z ⟨bel_chain hz hbe, ⟨hx6.later hbe, hl6⟩, ⟨hnx, hnl⟩, ⟨hx8.later hbe, hl8⟩, hnn6, hne68, hnn8⟩
    exact AllReadyH.nil
  · intro w' x y z hI
    obtain ⟨hz, ⟨hx7, hl7⟩, ⟨hx8, hl8⟩, hne78⟩ := hI
    have hS := HS.out _ hz
    refine wpAnyH_ready (rs := [6]) (by kernel_rfl) (by simp) ?_
    refine AllReadyH.cons rfl (fun K hK => ?_) ?_
    · go_simp
      refine hK.out _ _ (HS.out _ (hz.alloc hz.size _)) (fun _ => ?_)
      clear hK K
      try simp only [Act.put, List.getElem_toArray, List.getElem_cons_zero, List.getElem_cons_succ, List.setIfInBounds_toArray, List.set_cons_zero, List.set_cons_succ]
      obtain ⟨w5, hw5⟩ : ∃ w5, (w'.alloc (.cells #[.string ⟨#[]⟩, .string ⟨#[]⟩] 27)) = w5 := ⟨_, rfl⟩
      obtain ⟨g5, hg5⟩ : ∃ g5, w'.heap.size = g5 := ⟨_, rfl⟩
      have hnx : Box2 w5 g5 (.string ⟨#[]⟩) (.string ⟨#[]⟩) := by rw [← hw5, ← hg5]; exact Box2.new w' _ _ _
      have hbe : Below w'.heap.size w' w5 := by rw [← hw5]; exact (Below.refl _ _).alloc (Nat.le_refl _) _
      have hnl : W.heap.size ≤ g5 := hg5 ▸ hz.size
      rw [hw5, hg5]
      have hlo7 := hx7.1
      have hnn7 : g5 ≠ y := by rw [← hg5]; omega
      have hlo8 := hx8.1
      have hnn8 : g5 ≠ z := by rw [← hg5]; omega
      exact N3123.out w5 g5 y z ⟨bel_chain hz hbe, ⟨hnx, hnl⟩, ⟨hx7.later hbe, hl7⟩, ⟨hx8.later hbe, hl8⟩, hnn7, hnn8, hne78⟩
    exact AllReadyH.nil
  · intro w' x y z hI
    obtain ⟨hz, ⟨hx6, hl6⟩, ⟨hx7, hl7⟩, ⟨hx8, hl8⟩, hne67, hne68, hne78⟩ := hI
    have hS := HS.out _ hz
    obtain ⟨e60, e61, e62, e63, e64⟩ := hx6
    have HX6 := Lib.hid (show Box2 w' x (.string ⟨#[]⟩) (.string ⟨#[]⟩) from ⟨e60, e61, e62, e63, e64⟩)
    obtain ⟨e70, e71, e72, e73, e74⟩ := hx7
    have HX7 := Lib.hid (show Box2 w' y (.string ⟨#[]⟩) (.string ⟨#[]⟩) from ⟨e70, e71, e72, e73, e74⟩)
    obtain ⟨e80, e81, e82, e83, e84⟩ := hx8
    have HX8 := Lib.hid (show Box2 w' z (.string ⟨#[]⟩) (.string ⟨#[]⟩) from ⟨e80, e81, e82, e83, e84⟩)
    have n1 : ¬ x = y := hne67
    have n2 : ¬ x = z := hne68
    have n3 : ¬ y = z := hne78
    have n4 : ¬ y = x := fun h => hne67 h.symm
    have n5 : ¬ z = x := fun h => hne68 h.symm
    have n6 : ¬ z = y := fun h => hne78 h.symm
    have hlw := (HX.out _ hz).2.2.1
    have HY0 := Lib.hid ((hz.setCell (p := ⟨x, 0, none⟩) hl6 (.string (itx p.num))).setCell (p := ⟨x, 1, none⟩) hl6 (.string (itx (p.den : Int))))
    have HX6_0 := Lib.hid ((HX6.out.set0 (.string (itx p.num))).set1 (.string (itx (p.den : Int))))
    have HX7_0 := Lib.hid ((HX7.out.far (p := ⟨x, 0, none⟩) n4 (.string (itx p.num))).far (p := ⟨x, 1, none⟩) n4 (.string (itx (p.den : Int))))
    have HX8_0 := Lib.hid ((HX8.out.far (p := ⟨x, 0, none⟩) n5 (.string (itx p.num))).far (p := ⟨x, 1, none⟩) n5 (.string (itx (p.den : Int))))
    refine wpAnyH_ready (rs := [9]) (by kernel_rfl) (by simp) ?_
    refine AllReadyH.cons rfl (fun K hK => ?_) AllReadyH.nil
    go_simp
    refine hK.out _ _ (HS.out _ HY0.out) (fun _ => ?_)
    clear hK K
    try simp only [Act.put, List.getElem_toArray, List.getElem_cons_zero, List.getElem_cons_succ, List.setIfInBounds_toArray, List.set_cons_zero, List.set_cons_succ]
    have HY1 := Lib.hid ((HY0.out.setCell (p := ⟨y, 0, none⟩) hl7 (.string (itx q.num))).setCell (p := ⟨y, 1, none⟩) hl7 (.string (itx (q.den : Int))))
    have HX6_1 := Lib.hid ((HX6_0.out.far (p := ⟨y, 0, none⟩) n1 (.string (itx q.num))).far (p := ⟨y, 1, none⟩) n1 (.string (itx (q.den : Int))))
    have HX7_1 := Lib.hid ((HX7_0.out.set0 (.string (itx q.num))).set1 (.string (itx (q.den : Int))))
    have HX8_1 := Lib.hid ((HX8_0.out.far (p := ⟨y, 0, none⟩) n6 (.string (itx q.num))).far (p := ⟨y, 1, none⟩) n6 (.string (itx (q.den : Int))))
    refine wpAnyH_ready (rs := [10]) (by kernel_rfl) (by simp) ?_
    refine AllReadyH.cons rfl (fun K hK => ?_) AllReadyH.nil
    go_simp
    refine hK.out _ _ (HS.out _ HY1.out) (fun _ => ?_)
    clear hK K
    try simp only [Act.put, List.getElem_toArray, List.getElem_cons_zero, List.getElem_cons_succ, List.setIfInBounds_toArray, List.set_cons_zero, List.set_cons_succ]
    have HY2 := Lib.hid ((HY1.out.setCell (p := ⟨z, 0, none⟩) hl8 (.string (itx r.num))).setCell (p := ⟨z, 1, none⟩) hl8 (.string (itx (r.den : Int))))
    have HX6_2 := Lib.hid ((HX6_1.out.far (p := ⟨z, 0, none⟩) n2 (.string (itx r.num))).far (p := ⟨z, 1, none⟩) n2 (.string (itx (r.den : Int))))
    have HX7_2 := Lib.hid ((HX7_1.out.far (p := ⟨z, 0, none⟩) n3 (.string (itx r.num))).far (p := ⟨z, 1, none⟩) n3 (.string (itx (r.den : Int))))
    have HX8_2 := Lib.hid ((HX8_1.out.set0 (.string (itx r.num))).set1 (.string (itx (r.den : Int))))
    refine wpAnyH_ready (rs := [11]) (by kernel_rfl) (by simp) ?_
    refine AllReadyH.cons rfl (fun K hK => ?_) AllReadyH.nil
    go_simp
    refine hK.out _ _ (HS.out _ HY2.out) (fun _ => ?_)
    clear hK K
    try simp only [Act.put, List.getElem_toArray, List.getElem_cons_zero, List.getElem_cons_succ, List.setIfInBounds_toArray, List.set_cons_zero, List.set_cons_succ]
    refine wpAnyH_done (by kernel_rfl) ?_ _
    obtain ⟨wc, hwc⟩ : ∃ wc, ((((((w'.setCell ⟨x, 0, none⟩ (.string (itx p.num))).setCell ⟨x, 1, none⟩ (.string (itx (p.den : Int)))).setCell ⟨y, 0, none⟩ (.string (itx q.num))).setCell ⟨y, 1, none⟩ (.string (itx (q.den : Int)))).setCell ⟨z, 0, none⟩ (.string (itx r.num))).setCell ⟨z, 1, none⟩ (.string (itx (r.den : Int)))) = wc := ⟨_, rfl⟩
    rw [hwc] at HY2 HX6_2 HX7_2 HX8_2 ⊢
    clear hwc HX6 HX7 HX8 HX6_0 HX7_0 HX8_0 HX6_1 HX7_1 HX8_1 HY0 HY1 e60 e61 e62 e63 e64 e70 e71 e72 e73 e74 e80 e81 e82 e83 e84 hS hz
    have hz2 := HY2.out
    have HXc := Lib.hid (fun wz (hb : Below wc.heap.size wc wz) => And.intro (HX.out wz (bel_chain hz2 hb)) (And.intro (HX6_2.out.later hb) (And.intro (HX7_2.out.later hb) (HX8_2.out.later hb))))
    have HBc := Lib.hid (bel_chain HB.out hz2)
    have HAc := Lib.hid (fun wz (hb : Below wc.heap.size wc wz) => HA.out _ (bel_chain hz2 hb))
    clear hz2
    have hz2 : Below wc.heap.size wc wc := Below.refl _ _
    clear HX6_2 HX7_2 HX8_2 HY2 HS
    obtain ⟨⟨⟨_, c200, c201, f200, f201⟩, ⟨_, c210, c211, f210, f211⟩, ⟨_, c220, c221, f220, f221⟩⟩, ⟨_, c230, c231, f230, f231⟩, ⟨_, c240, c241, f240, f241⟩, ⟨_, c250, c251, f250, f251⟩⟩ := HXc.out _ hz2
    go_wp2_with fail
    have hzd := hz2.drew
    have HC1 := Lib.hid (OA1.out wc.drew (HAc.out _ hzd))
    go_region_held3 (fun w' => w'.cell? ⟨x, 0, none⟩ = some (.string (itx p.num)) ∧ w'.cell? ⟨x, 1, none⟩ = some (.string (itx (p.den : Int))) ∧ w'.cell? ⟨y, 0, none⟩ = some (.string (itx q.num)) ∧ w'.cell? ⟨y, 1, none⟩ = some (.string (itx (q.den : Int))) ∧ w'.cell? ⟨z, 0, none⟩ = some (.string (itx r.num)) ∧ w'.cell? ⟨z, 1, none⟩ = some (.string (itx (r.den : Int)))) (go_keep)
      (first
        | ((with_reducible refine HC8.out.mono ?_); rintro e w10 ⟨rfl, hb10⟩; have hz10 := bel_chain hz9 hb10; obtain ⟨⟨⟨_, c1000, c1001, f1000, f1001⟩, ⟨_, c1010, c1011, f1010, f1011⟩, ⟨_, c1020, c1021, f1020, f1021⟩⟩, ⟨_, c1030, c1031, f1030, f1031⟩, ⟨_, c1040, c1041, f1040, f1041⟩, ⟨_, c1050, c1051, f1050, f1051⟩⟩ := HXc.out _ hz10; have HXL := Lib.hid (HXc.out _ hz10))
        | ((with_reducible refine HC7.out.mono ?_); rintro e w9 ⟨rfl, hb9⟩; have hz9 := bel_chain hz8 hb9; obtain ⟨⟨⟨_, c900, c901, f900, f901⟩, ⟨_, c910, c911, f910, f911⟩, ⟨_, c920, c921, f920, f921⟩⟩, ⟨_, c930, c931, f930, f931⟩, ⟨_, c940, c941, f940, f941⟩, ⟨_, c950, c951, f950, f951⟩⟩ := HXc.out _ hz9; have HC8 := Lib.hid (OB4.out w9 (HAc.out _ hz9)))
        | ((with_reducible refine HC6.out.mono ?_); rintro e w8 ⟨rfl, hb8⟩; have hz8 := bel_chain hz7 hb8; obtain ⟨⟨⟨_, c800, c801, f800, f801⟩, ⟨_, c810, c811, f810, f811⟩, ⟨_, c820, c821, f820, f821⟩⟩, ⟨_, c830, c831, f830, f831⟩, ⟨_, c840, c841, f840, f841⟩, ⟨_, c850, c851, f850, f851⟩⟩ := HXc.out _ hz8; have HC7 := Lib.hid (OB3.out w8 (HAc.out _ hz8)))
        | ((with_reducible refine HC5.out.mono ?_); rintro e w7 ⟨rfl, hb7⟩; have hz7 := bel_chain hz6 hb7; obtain ⟨⟨⟨_, c700, c701, f700, f701⟩, ⟨_, c710, c711, f710, f711⟩, ⟨_, c720, c721, f720, f721⟩⟩, ⟨_, c730, c731, f730, f731⟩, ⟨_, c740, c741, f740, f741⟩, ⟨_, c750, c751, f750, f751⟩⟩ := HXc.out _ hz7; have HC6 := Lib.hid (OB2.out w7 (HAc.out _ hz7)))
        | ((with_reducible refine HC4.out.mono ?_); rintro e w6 ⟨rfl, hb6⟩; have hz6 := bel_chain hz5 hb6; obtain ⟨⟨⟨_, c600, c601, f600, f601⟩, ⟨_, c610, c611, f610, f611⟩, ⟨_, c620, c621, f620, f621⟩⟩, ⟨_, c630, c631, f630, f631⟩, ⟨_, c640, c641, f640, f641⟩, ⟨_, c650, c651, f650, f651⟩⟩ := HXc.out _ hz6; have HC5 := Lib.hid (OB1.out w6 (HAc.out _ hz6)))
        | ((with_reducible refine HC3.out.mono ?_); rintro e w5 ⟨rfl, hb5⟩; have hz5 := bel_chain hz4 hb5; obtain ⟨⟨⟨_, c500, c501, f500, f501⟩, ⟨_, c510, c511, f510, f511⟩, ⟨_, c520, c521, f520, f521⟩⟩, ⟨_, c530, c531, f530, f531⟩, ⟨_, c540, c541, f540, f541⟩, ⟨_, c550, c551, f550, f551⟩⟩ := HXc.out _ hz5; have HC4 := Lib.hid (OA4.out w5 (HAc.out _ hz5)))
        | ((with_reducible refine HC2.out.mono ?_); rintro e w4 ⟨rfl, hb4⟩; have hz4 := bel_chain hz3 hb4; obtain ⟨⟨⟨_, c400, c401, f400, f401⟩, ⟨_, c410, c411, f410, f411⟩, ⟨_, c420, c421, f420, f421⟩⟩, ⟨_, c430, c431, f430, f431⟩, ⟨_, c440, c441, f440, f441⟩, ⟨_, c450, c451, f450, f451⟩⟩ := HXc.out _ hz4; have HC3 := Lib.hid (OA3.out w4 (HAc.out _ hz4)))
        | ((with_reducible refine HC1.out.mono ?_); rintro e w3 ⟨rfl, hb3⟩; have hz3 := bel_chain hzd hb3; obtain ⟨⟨⟨_, c300, c301, f300, f301⟩, ⟨_, c310, c311, f310, f311⟩, ⟨_, c320, c321, f320, f321⟩⟩, ⟨_, c330, c331, f330, f331⟩, ⟨_, c340, c341, f340, f341⟩, ⟨_, c350, c351, f350, f351⟩⟩ := HXc.out _ hz3; have HC2 := Lib.hid (OA2.out w3 (HAc.out _ hz3))))
    go_wp2_with fail
    have hzd := hz10.drew
    have HC9 := Lib.hid (OC1.out w10.drew (HAc.out _ hzd))
    go_region_held3 (fun w' => w'.cell? ⟨x, 0, none⟩ = some (.string (itx p.num)) ∧ w'.cell? ⟨x, 1, none⟩ = some (.string (itx (p.den : Int))) ∧ w'.cell? ⟨y, 0, none⟩ = some (.string (itx q.num)) ∧ w'.cell? ⟨y, 1, none⟩ = some (.string (itx (q.den : Int))) ∧ w'.cell? ⟨z, 0, none⟩ = some (.string (itx r.num)) ∧ w'.cell? ⟨z, 1, none⟩ = some (.string (itx (r.den : Int)))) (go_keep)
      (first
        | ((with_reducible refine HC15.out.mono ?_); rintro e w17 ⟨rfl, hb17⟩; have hz17 := bel_chain hz16 hb17; obtain ⟨⟨⟨_, c1700, c1701, f1700, f1701⟩, ⟨_, c1710, c1711, f1710, f1711⟩, ⟨_, c1720, c1721, f1720, f1721⟩⟩, ⟨_, c1730, c1731, f1730, f1731⟩, ⟨_, c1740, c1741, f1740, f1741⟩, ⟨_, c1750, c1751, f1750, f1751⟩⟩ := HXc.out _ hz17; have HXL := Lib.hid (HXc.out _ hz17))
        | ((with_reducible refine HC14.out.mono ?_); rintro e w16 ⟨rfl, hb16⟩; have hz16 := bel_chain hz15 hb16; obtain ⟨⟨⟨_, c1600, c1601, f1600, f1601⟩, ⟨_, c1610, c1611, f1610, f1611⟩, ⟨_, c1620, c1621, f1620, f1621⟩⟩, ⟨_, c1630, c1631, f1630, f1631⟩, ⟨_, c1640, c1641, f1640, f1641⟩, ⟨_, c1650, c1651, f1650, f1651⟩⟩ := HXc.out _ hz16; have HC15 := Lib.hid (OC7.out w16 (HAc.out _ hz16)))
        | ((with_reducible refine HC13.out.mono ?_); rintro e w15 ⟨rfl, hb15⟩; have hz15 := bel_chain hz14 hb15; obtain ⟨⟨⟨_, c1500, c1501, f1500, f1501⟩, ⟨_, c1510, c1511, f1510, f1511⟩, ⟨_, c1520, c1521, f1520, f1521⟩⟩, ⟨_, c1530, c1531, f1530, f1531⟩, ⟨_, c1540, c1541, f1540, f1541⟩, ⟨_, c1550, c1551, f1550, f1551⟩⟩ := HXc.out _ hz15; have HC14 := Lib.hid (OC6.out w15 (HAc.out _ hz15)))
        | ((with_reducible refine HC12.out.mono ?_); rintro e w14 ⟨rfl, hb14⟩; have hz14 := bel_chain hz13 hb14; obtain ⟨⟨⟨_, c1400, c1401, f1400, f1401⟩, ⟨_, c1410, c1411, f1410, f1411⟩, ⟨_, c1420, c1421, f1420, f1421⟩⟩, ⟨_, c1430, c1431, f1430, f1431⟩, ⟨_, c1440, c1441, f1440, f1441⟩, ⟨_, c1450, c1451, f1450, f1451⟩⟩ := HXc.out _ hz14; have HC13 := Lib.hid (OC5.out w14 (HAc.out _ hz14)))
        | ((with_reducible refine HC11.out.mono ?_); rintro e w13 ⟨rfl, hb13⟩; have hz13 := bel_chain hz12 hb13; obtain ⟨⟨⟨_, c1300, c1301, f1300, f1301⟩, ⟨_, c1310, c1311, f1310, f1311⟩, ⟨_, c1320, c1321, f1320, f1321⟩⟩, ⟨_, c1330, c1331, f1330, f1331⟩, ⟨_, c1340, c1341, f1340, f1341⟩, ⟨_, c1350, c1351, f1350, f1351⟩⟩ := HXc.out _ hz13; have HC12 := Lib.hid (OC4.out w13 (HAc.out _ hz13)))
        | ((with_reducible refine HC10.out.mono ?_); rintro e w12 ⟨rfl, hb12⟩; have hz12 := bel_chain hz11 hb12; obtain ⟨⟨⟨_, c1200, c1201, f1200, f1201⟩, ⟨_, c1210, c1211, f1210, f1211⟩, ⟨_, c1220, c1221, f1220, f1221⟩⟩, ⟨_, c1230, c1231, f1230, f1231⟩, ⟨_, c1240, c1241, f1240, f1241⟩, ⟨_, c1250, c1251, f1250, f1251⟩⟩ := HXc.out _ hz12; have HC11 := Lib.hid (OB1.out w12 (HAc.out _ hz12)))
        | ((with_reducible refine HC9.out.mono ?_); rintro e w11 ⟨rfl, hb11⟩; have hz11 := bel_chain hzd hb11; obtain ⟨⟨⟨_, c1100, c1101, f1100, f1101⟩, ⟨_, c1110, c1111, f1110, f1111⟩, ⟨_, c1120, c1121, f1120, f1121⟩⟩, ⟨_, c1130, c1131, f1130, f1131⟩, ⟨_, c1140, c1141, f1140, f1141⟩, ⟨_, c1150, c1151, f1150, f1151⟩⟩ := HXc.out _ hz11; have HC10 := Lib.hid (OC2.out w11 (HAc.out _ hz11))))
    go_wp2_with fail
    refine (DV.out _ (HAc.out _ hz17)).mono ?_
    rintro e w18 ⟨rfl, hb18⟩
    have hz18 := bel_chain hz17 hb18
    obtain ⟨⟨⟨_, c1800, c1801, f1800, f1801⟩, ⟨_, c1810, c1811, f1810, f1811⟩, ⟨_, c1820, c1821, f1820, f1821⟩⟩, ⟨_, c1830, c1831, f1830, f1831⟩, ⟨_, c1840, c1841, f1840, f1841⟩, ⟨_, c1850, c1851, f1850, f1851⟩⟩ := HXc.out _ hz18
    go_upto_region 9 with fail
    obtain ⟨w19, hW19⟩ : ∃ W, (w18.alloc (.cells #[.string (itx X.num), .string (itx (X.den : Int))] 27)) = W := ⟨_, rfl⟩
    rw [hW19]
    obtain ⟨hY19, hb19⟩ := B1.of hW19
    clear hW19
    have HX19 := Lib.hid (fun wz (hb : Below w19.heap.size w19 wz) => And.intro (HXc.out wz (bel_chain (bel_chain hz18 hb19) hb)) (hY19.later hb))
    have HB19 := Lib.hid (bel_chain HBc.out (bel_chain hz18 hb19))
    have HA19 := Lib.hid (fun wz (hb : Below w19.heap.size w19 wz) => HAc.out _ (bel_chain (bel_chain hz18 hb19) hb))
    have hz19 : Below w19.heap.size w19 w19 := Below.refl _ _
    clear hY19 hb19
    obtain ⟨⟨⟨⟨_, c1900, c1901, f1900, f1901⟩, ⟨_, c1910, c1911, f1910, f1911⟩, ⟨_, c1920, c1921, f1920, f1921⟩⟩, ⟨_, c1930, c1931, f1930, f1931⟩, ⟨_, c1940, c1941, f1940, f1941⟩, ⟨_, c1950, c1951, f1950, f1951⟩⟩, ⟨_, c1960, c1961, f1960, f1961⟩⟩ := HX19.out _ hz19
    go_wp2_with fail
    have hzd := hz19.drew
    refine wp_region_held_drew (S := fun w' => w'.cell? ⟨x, 0, none⟩ = some (.string (itx p.num)) ∧ w'.cell? ⟨x, 1, none⟩ = some (.string (itx (p.den : Int))) ∧ w'.cell? ⟨y, 0, none⟩ = some (.string (itx q.num)) ∧ w'.cell? ⟨y, 1, none⟩ = some (.string (itx (q.den : Int))) ∧ w'.cell? ⟨z, 0, none⟩ = some (.string (itx r.num)) ∧ w'.cell? ⟨z, 1, none⟩ = some (.string (itx (r.den : Int))) ∧ w'.cell? ⟨w18.heap.size, 0, none⟩ = some (.string (itx X.num)) ∧ w'.cell? ⟨w18.heap.size, 1, none⟩ = some (.string (itx (X.den : Int)))) (by kernel_rfl) (⟨(HX19.out _ hzd).1.2.1.2.1, (HX19.out _ hzd).1.2.1.2.2.1, (HX19.out _ hzd).1.2.2.1.2.1, (HX19.out _ hzd).1.2.2.1.2.2.1, (HX19.out _ hzd).1.2.2.2.2.1, (HX19.out _ hzd).1.2.2.2.2.2.1, (HX19.out _ hzd).2.2.1, (HX19.out _ hzd).2.2.2.1⟩) (fun hS => ?_)
    refine wpAnyH_take (i := 0) (v := ?_) rfl (by kernel_rfl) (by kernel_rfl) (by kernel_rfl) (fun _ _ _ h => h) (Or.inl ⟨by kernel_rfl, ?_⟩) (by assumption) ?_
    rotate_left
    · intro w hSw
      try dsimp only at hSw
      go_simp
      try with_reducible rfl
    try simp only [Act.put, List.getElem_toArray, List.getElem_cons_zero, List.setIfInBounds_toArray, List.set_cons_zero, List.set_cons_succ]
    refine wpAnyH_take (i := 1) (v := ?_) rfl (by kernel_rfl) (by kernel_rfl) (by kernel_rfl) (fun _ _ _ h => h) (Or.inl ⟨by kernel_rfl, ?_⟩) (by assumption) ?_
    rotate_left
    · intro w hSw
      try dsimp only at hSw
      go_simp
      try with_reducible rfl
    try simp only [Act.put, List.getElem_toArray, List.getElem_cons_zero, List.getElem_cons_succ, List.setIfInBounds_toArray, List.set_cons_zero, List.set_cons_succ]
    refine wpAnyH_take (i := 2) (v := ?_) rfl (by kernel_rfl) (by kernel_rfl) (by kernel_rfl) (fun _ _ _ h => h) (Or.inl ⟨by kernel_rfl, ?_⟩) (by assumption) ?_
    rotate_left
    · intro w hSw
      try dsimp only at hSw
      go_simp
      try with_reducible rfl
    try simp only [Act.put, List.getElem_toArray, List.getElem_cons_zero, List.getElem_cons_succ, List.setIfInBounds_toArray, List.set_cons_zero, List.set_cons_succ]
    refine wpAnyH_take (i := 3) (v := ?_) rfl (by kernel_rfl) (by kernel_rfl) (by kernel_rfl) (fun _ _ _ h => h) (Or.inl ⟨by kernel_rfl, ?_⟩) (by assumption) ?_
    rotate_left
    · intro w hSw
      try dsimp only at hSw
      go_simp
      try with_reducible rfl
    try simp only [Act.put, List.getElem_toArray, List.getElem_cons_zero, List.getElem_cons_succ, List.setIfInBounds_toArray, List.set_cons_zero, List.set_cons_succ]
    refine wpAnyH_take (i := 4) (v := ?_) rfl (by kernel_rfl) (by kernel_rfl) (by kernel_rfl) (fun _ _ _ h => h) (Or.inl ⟨by kernel_rfl, ?_⟩) (by assumption) ?_
    rotate_left
    · intro w hSw
      try dsimp only at hSw
      go_simp
      try with_reducible rfl
    try simp only [Act.put, List.getElem_toArray, List.getElem_cons_zero, List.getElem_cons_succ, List.setIfInBounds_toArray, List.set_cons_zero, List.set_cons_succ]
    refine wpAnyH_take (i := 6) (v := ?_) rfl (by kernel_rfl) (by kernel_rfl) (by kernel_rfl) (fun _ _ _ h => h) (Or.inl ⟨by kernel_rfl, ?_⟩) (by assumption) ?_
    rotate_left
    · intro w hSw
      try dsimp only at hSw
      go_simp
      try with_reducible rfl
    try simp only [Act.put, List.getElem_toArray, List.getElem_cons_zero, List.getElem_cons_succ, List.setIfInBounds_toArray, List.set_cons_zero, List.set_cons_succ]
    refine wpAnyH_ready (rs := [5]) (by kernel_rfl) (by simp) ?_
    refine AllReadyH.cons rfl (fun K hK => ?_) AllReadyH.nil
    go_simp
    refine (DM.out _ (HA19.out _ hzd)).mono ?_
    rintro e w20 ⟨rfl, hb20⟩
    have hz20 := bel_chain hzd hb20
    go_wp2_with fail
    refine hK.out _ _ (⟨(HX19.out _ hz20).1.2.1.2.1, (HX19.out _ hz20).1.2.1.2.2.1, (HX19.out _ hz20).1.2.2.1.2.1, (HX19.out _ hz20).1.2.2.1.2.2.1, (HX19.out _ hz20).1.2.2.2.2.1, (HX19.out _ hz20).1.2.2.2.2.2.1, (HX19.out _ hz20).2.2.1, (HX19.out _ hz20).2.2.2.1⟩) (fun hHeld => ?_)
    clear hK K hS
    have hS := hHeld
    clear hHeld
    try simp only [Act.put, List.getElem_toArray, List.getElem_cons_zero, List.getElem_cons_succ, List.setIfInBounds_toArray, List.set_cons_zero, List.set_cons_succ]
    refine wpAnyH_take (i := 7) (v := ?_) rfl (by kernel_rfl) (by kernel_rfl) (by kernel_rfl) (fun _ _ _ h => h) (Or.inl ⟨by kernel_rfl, ?_⟩) (by assumption) ?_
    rotate_left
    · intro w hSw
      try dsimp only at hSw
      go_simp
      try with_reducible rfl
    try simp only [Act.put, List.getElem_toArray, List.getElem_cons_zero, List.getElem_cons_succ, List.setIfInBounds_toArray, List.set_cons_zero, List.set_cons_succ]
    refine wpAnyH_take (i := 8) (v := ?_) rfl (by kernel_rfl) (by kernel_rfl) (by kernel_rfl) (fun _ _ _ h => h) (Or.inl ⟨by kernel_rfl, ?_⟩) (by assumption) ?_
    rotate_left
    · intro w hSw
      try dsimp only at hSw
      go_simp
      try with_reducible rfl
    try simp only [Act.put, List.getElem_toArray, List.getElem_cons_zero, List.getElem_cons_succ, List.setIfInBounds_toArray, List.set_cons_zero, List.set_cons_succ]
    refine wpAnyH_take (i := 9) (v := ?_) rfl (by kernel_rfl) (by kernel_rfl) (by kernel_rfl) (fun _ _ _ h => h) (Or.inl ⟨by kernel_rfl, ?_⟩) (by assumption) ?_
    rotate_left
    · intro w hSw
      try dsimp only at hSw
      go_simp
      try with_reducible rfl
    try simp only [Act.put, List.getElem_toArray, List.getElem_cons_zero, List.getElem_cons_succ, List.setIfInBounds_toArray, List.set_cons_zero, List.set_cons_succ]
    refine wpAnyH_take (i := 10) (v := ?_) rfl (by kernel_rfl) (by kernel_rfl) (by kernel_rfl) (fun _ _ _ h => h) (Or.inl ⟨by kernel_rfl, ?_⟩) (by assumption) ?_
    rotate_left
    · intro w hSw
      try dsimp only at hSw
      go_simp
      try with_reducible rfl
    try simp only [Act.put, List.getElem_toArray, List.getElem_cons_zero, List.getElem_cons_succ, List.setIfInBounds_toArray, List.set_cons_zero, List.set_cons_succ]
    refine wpAnyH_take (i := 11) (v := ?_) rfl (by kernel_rfl) (by kernel_rfl) (by kernel_rfl) (fun _ _ _ h => h) (Or.inl ⟨by kernel_rfl, ?_⟩) (by assumption) ?_
    rotate_left
    · intro w hSw
      try dsimp only at hSw
      go_simp
      try with_reducible rfl
    try simp only [Act.put, List.getElem_toArray, List.getElem_cons_zero, List.getElem_cons_succ, List.setIfInBounds_toArray, List.set_cons_zero, List.set_cons_succ]
    refine wpAnyH_take (i := 12) (v := ?_) rfl (by kernel_rfl) (by kernel_rfl) (by kernel_rfl) (fun _ _ _ h => h) (Or.inl ⟨by kernel_rfl, ?_⟩) (by assumption) ?_
    rotate_left
    · intro w hSw
      try dsimp only at hSw
      go_simp
      try with_reducible rfl
    try simp only [Act.put, List.getElem_toArray, List.getElem_cons_zero, List.getElem_cons_succ, List.setIfInBounds_toArray, List.set_cons_zero, List.set_cons_succ]
    refine wpAnyH_take (i := 13) (v := undef) rfl (by kernel_rfl) (by kernel_rfl) (by kernel_rfl) (fun _ _ _ h => h) (Or.inr ⟨by kernel_rfl, rfl⟩) (by assumption) ?_
    try simp only [Act.put, List.getElem_toArray, List.getElem_cons_zero, List.getElem_cons_succ, List.setIfInBounds_toArray, List.set_cons_zero, List.set_cons_succ]
    refine wpAnyH_take (i := 14) (v := undef) rfl (by kernel_rfl) (by kernel_rfl) (by kernel_rfl) (fun _ _ _ h => h) (Or.inr ⟨by kernel_rfl, rfl⟩) (by assumption) ?_
    try simp only [Act.put, List.getElem_toArray, List.getElem_cons_zero, List.getElem_cons_succ, List.setIfInBounds_toArray, List.set_cons_zero, List.set_cons_succ]
    refine wpAnyH_take (i := 15) (v := undef) rfl (by kernel_rfl) (by kernel_rfl) (by kernel_rfl) (fun _ _ _ h => h) (Or.inr ⟨by kernel_rfl, rfl⟩) (by assumption) ?_
    try simp only [Act.put, List.getElem_toArray, List.getElem_cons_zero, List.getElem_cons_succ, List.setIfInBounds_toArray, List.set_cons_zero, List.set_cons_succ]
    refine wpAnyH_take (i := 16) (v := ?_) rfl (by kernel_rfl) (by kernel_rfl) (by kernel_rfl) (fun _ _ _ h => h) (Or.inl ⟨by kernel_rfl, ?_⟩) (by assumption) ?_
    rotate_left
    · intro w hSw
      try dsimp only at hSw
      go_simp
      try with_reducible rfl
    try simp only [Act.put, List.getElem_toArray, List.getElem_cons_zero, List.getElem_cons_succ, List.setIfInBounds_toArray, List.set_cons_zero, List.set_cons_succ]
    refine wpAnyH_take (i := 17) (v := ?_) rfl (by kernel_rfl) (by kernel_rfl) (by kernel_rfl) (fun _ _ _ h => h) (Or.inl ⟨by kernel_rfl, ?_⟩) (by assumption) ?_
    rotate_left
    · intro w hSw
      try dsimp only at hSw
      go_simp
      try with_reducible rfl
    try simp only [Act.put, List.getElem_toArray, List.getElem_cons_zero, List.getElem_cons_succ, List.setIfInBounds_toArray, List.set_cons_zero, List.set_cons_succ]
    refine wpAnyH_done (by kernel_rfl) ?_ _
    obtain ⟨⟨⟨⟨_, c2000, c2001, f2000, f2001⟩, ⟨_, c2010, c2011, f2010, f2011⟩, ⟨_, c2020, c2021, f2020, f2021⟩⟩, ⟨_, c2030, c2031, f2030, f2031⟩, ⟨_, c2040, c2041, f2040, f2041⟩, ⟨_, c2050, c2051, f2050, f2051⟩⟩, ⟨_, c2060, c2061, f2060, f2061⟩⟩ := HX19.out _ hz20
    go_wp2_with fail
    refine (K1.out _ (HA19.out _ hz20)).mono ?_
    rintro e w21 ⟨rfl, hb21⟩
    have hz21 := bel_chain hz20 hb21
    obtain ⟨⟨⟨⟨_, c2100, c2101, f2100, f2101⟩, ⟨_, c2110, c2111, f2110, f2111⟩, ⟨_, c2120, c2121, f2120, f2121⟩⟩, ⟨_, c2130, c2131, f2130, f2131⟩, ⟨_, c2140, c2141, f2140, f2141⟩, ⟨_, c2150, c2151, f2150, f2151⟩⟩, ⟨_, c2160, c2161, f2160, f2161⟩⟩ := HX19.out _ hz21
    go_wp2_with fail
    have hzd := hz21.drew
    have HC16 := Lib.hid (OD2.out w21.drew (HA19.out _ hzd))
    go_region_held3 (fun w' => w'.cell? ⟨x, 0, none⟩ = some (.string (itx p.num)) ∧ w'.cell? ⟨x, 1, none⟩ = some (.string (itx (p.den : Int))) ∧ w'.cell? ⟨y, 0, none⟩ = some (.string (itx q.num)) ∧ w'.cell? ⟨y, 1, none⟩ = some (.string (itx (q.den : Int))) ∧ w'.cell? ⟨z, 0, none⟩ = some (.string (itx r.num)) ∧ w'.cell? ⟨z, 1, none⟩ = some (.string (itx (r.den : Int)))) (go_keep)
      (first
        | ((with_reducible refine HC18.out.mono ?_); rintro e w24 ⟨rfl, hb24⟩; have hz24 := bel_chain hz23 hb24; obtain ⟨⟨⟨⟨_, c2400, c2401, f2400, f2401⟩, ⟨_, c2410, c2411, f2410, f2411⟩, ⟨_, c2420, c2421, f2420, f2421⟩⟩, ⟨_, c2430, c2431, f2430, f2431⟩, ⟨_, c2440, c2441, f2440, f2441⟩, ⟨_, c2450, c2451, f2450, f2451⟩⟩, ⟨_, c2460, c2461, f2460, f2461⟩⟩ := HX19.out _ hz24; have HXL := Lib.hid (HX19.out _ hz24))
        | ((with_reducible refine HC17.out.mono ?_); rintro e w23 ⟨rfl, hb23⟩; have hz23 := bel_chain hz22 hb23; obtain ⟨⟨⟨⟨_, c2300, c2301, f2300, f2301⟩, ⟨_, c2310, c2311, f2310, f2311⟩, ⟨_, c2320, c2321, f2320, f2321⟩⟩, ⟨_, c2330, c2331, f2330, f2331⟩, ⟨_, c2340, c2341, f2340, f2341⟩, ⟨_, c2350, c2351, f2350, f2351⟩⟩, ⟨_, c2360, c2361, f2360, f2361⟩⟩ := HX19.out _ hz23; have HC18 := Lib.hid (K2.out w23 (HA19.out _ hz23)))
        | ((with_reducible refine HC16.out.mono ?_); rintro e w22 ⟨rfl, hb22⟩; have hz22 := bel_chain hzd hb22; obtain ⟨⟨⟨⟨_, c2200, c2201, f2200, f2201⟩, ⟨_, c2210, c2211, f2210, f2211⟩, ⟨_, c2220, c2221, f2220, f2221⟩⟩, ⟨_, c2230, c2231, f2230, f2231⟩, ⟨_, c2240, c2241, f2240, f2241⟩, ⟨_, c2250, c2251, f2250, f2251⟩⟩, ⟨_, c2260, c2261, f2260, f2261⟩⟩ := HX19.out _ hz22; have HC17 := Lib.hid (OC1.out w22 (HA19.out _ hz22))))
    go_wp2_with fail
    have hzd := hz24.drew
    have HC19 := Lib.hid (OC4.out w24.drew (HA19.out _ hzd))
    go_region_held3 (fun w' => w'.cell? ⟨x, 0, none⟩ = some (.string (itx p.num)) ∧ w'.cell? ⟨x, 1, none⟩ = some (.string (itx (p.den : Int))) ∧ w'.cell? ⟨y, 0, none⟩ = some (.string (itx q.num)) ∧ w'.cell? ⟨y, 1, none⟩ = some (.string (itx (q.den : Int))) ∧ w'.cell? ⟨z, 0, none⟩ = some (.string (itx r.num)) ∧ w'.cell? ⟨z, 1, none⟩ = some (.string (itx (r.den : Int)))) (go_keep)
      (first
        | ((with_reducible refine HC22.out.mono ?_); rintro e w28 ⟨rfl, hb28⟩; have hz28 := bel_chain hz27 hb28; obtain ⟨⟨⟨⟨_, c2800, c2801, f2800, f2801⟩, ⟨_, c2810, c2811, f2810, f2811⟩, ⟨_, c2820, c2821, f2820, f2821⟩⟩, ⟨_, c2830, c2831, f2830, f2831⟩, ⟨_, c2840, c2841, f2840, f2841⟩, ⟨_, c2850, c2851, f2850, f2851⟩⟩, ⟨_, c2860, c2861, f2860, f2861⟩⟩ := HX19.out _ hz28; have HXL := Lib.hid (HX19.out _ hz28))
        | ((with_reducible refine HC21.out.mono ?_); rintro e w27 ⟨rfl, hb27⟩; have hz27 := bel_chain hz26 hb27; obtain ⟨⟨⟨⟨_, c2700, c2701, f2700, f2701⟩, ⟨_, c2710, c2711, f2710, f2711⟩, ⟨_, c2720, c2721, f2720, f2721⟩⟩, ⟨_, c2730, c2731, f2730, f2731⟩, ⟨_, c2740, c2741, f2740, f2741⟩, ⟨_, c2750, c2751, f2750, f2751⟩⟩, ⟨_, c2760, c2761, f2760, f2761⟩⟩ := HX19.out _ hz27; have HC22 := Lib.hid (K4.out w27))
        | ((with_reducible refine HC20.out.mono ?_); rintro e w26 ⟨rfl, hb26⟩; have hz26 := bel_chain hz25 hb26; obtain ⟨⟨⟨⟨_, c2600, c2601, f2600, f2601⟩, ⟨_, c2610, c2611, f2610, f2611⟩, ⟨_, c2620, c2621, f2620, f2621⟩⟩, ⟨_, c2630, c2631, f2630, f2631⟩, ⟨_, c2640, c2641, f2640, f2641⟩, ⟨_, c2650, c2651, f2650, f2651⟩⟩, ⟨_, c2660, c2661, f2660, f2661⟩⟩ := HX19.out _ hz26; have HC21 := Lib.hid (K3.out w26 (HA19.out _ hz26)))
        | ((with_reducible refine HC19.out.mono ?_); rintro e w25 ⟨rfl, hb25⟩; have hz25 := bel_chain hzd hb25; obtain ⟨⟨⟨⟨_, c2500, c2501, f2500, f2501⟩, ⟨_, c2510, c2511, f2510, f2511⟩, ⟨_, c2520, c2521, f2520, f2521⟩⟩, ⟨_, c2530, c2531, f2530, f2531⟩, ⟨_, c2540, c2541, f2540, f2541⟩, ⟨_, c2550, c2551, f2550, f2551⟩⟩, ⟨_, c2560, c2561, f2560, f2561⟩⟩ := HX19.out _ hz25; have HC20 := Lib.hid (OD4.out w25 (HA19.out _ hz25))))
    go_wp2_with fail
    go_ret
    exact ⟨rfl, bel_chain HB19.out hz28⟩
end Go.Proofs.YtejelchcpbchgaaGreatDoor
