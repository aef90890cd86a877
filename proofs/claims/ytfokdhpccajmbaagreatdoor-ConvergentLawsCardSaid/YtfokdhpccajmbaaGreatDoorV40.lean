/- Greater text, out of: V40. -/
import Derived.Test.YtfokdhpccajmbaaGreatDoorK41
import Derived.Test.YtfokdhpccajmbaaGreatDoorK42
namespace Go.Proofs.YtfokdhpccajmbaaGreatDoor
open Go.RowKit Go.PlainAid
attribute [local go_sem] field_rat0 field_rat1
/-- Parts, of any two short texts. -/
theorem r4parts_len (s t : ByteArray) (hs : s.size ≤ 17) (ht : t.size ≤ 17) (r : Bool) (hr : RB s t = r) : ∃ n d : Int, ∀ w, Calls Tryz.prog 15 #[.agg #[.string s, .string t]] w (SmallRes (.tuple #[.int .i64 n, .int .i64 d, .bool r]) w) := by
  cases r with
  | false => exact ⟨0, 0, fun w => r4parts_no s t w hs ht hr⟩
  | true =>
    obtain ⟨q, rfl, rfl, _⟩ := rightB_rat hr
    refine ⟨q.num, (q.den : Int), fun w => r4parts_yes q w ⟨?_, ?_⟩⟩
    · exact Nat.le_trans (itx_size_ge _) hs
    · exact Nat.le_trans (itx_size_ge _) ht
/-- The mediant lies between. -/
theorem mediant_sides {p q : Rat} {x y : Int} (g : Int) (hg : 0 < g) (h1 : g * x = p.num + q.num) (h2 : g * y = (p.den : Int) + (q.den : Int)) :
    (p.num * (q.den : Int) = q.num * (p.den : Int) ∧ x * (p.den : Int) - p.num * y = 0 ∧ x * (q.den : Int) - q.num * y = 0) ∨ (x * (p.den : Int) - p.num * y > 0 ∧ x * (q.den : Int) - q.num * y < 0) ∨ (x * (p.den : Int) - p.num * y < 0 ∧ x * (q.den : Int) - q.num * y > 0) := by
  have e1 : g * (x * (p.den : Int) - p.num * y) = q.num * (p.den : Int) - p.num * (q.den : Int) := by
    have : g * (x * (p.den : Int) - p.num * y) = (g * x) * (p.den : Int) - p.num * (g * y) := by grind
    rw [this, h1, h2]; grind
  have e2 : g * (x * (q.den : Int) - q.num * y) = p.num * (q.den : Int) - q.num * (p.den : Int) := by
    have : g * (x * (q.den : Int) - q.num * y) = (g * x) * (q.den : Int) - q.num * (g * y) := by grind
    rw [this, h1, h2]; grind
  obtain ⟨A, hA⟩ : ∃ A, x * (p.den : Int) - p.num * y = A := ⟨_, rfl⟩
  obtain ⟨B, hB⟩ : ∃ B, x * (q.den : Int) - q.num * y = B := ⟨_, rfl⟩
  rw [hA] at e1 ⊢
  rw [hB] at e2 ⊢
  rcases Int.lt_trichotomy (q.num * (p.den : Int) - p.num * (q.den : Int)) 0 with h | h | h
  · right; right
    constructor
    · exact Int.lt_of_mul_lt_mul_left (a := g) (by rw [e1, Int.mul_zero]; exact h) (by omega)
    · exact Int.lt_of_mul_lt_mul_left (a := g) (by rw [e2, Int.mul_zero]; omega) (by omega)
  · left
    refine ⟨by omega, ?_, ?_⟩
    · rw [h] at e1; rcases Int.mul_eq_zero.1 e1 with h | h <;> omega
    · rw [show p.num * (q.den : Int) - q.num * (p.den : Int) = 0 by omega] at e2; rcases Int.mul_eq_zero.1 e2 with h | h <;> omega
  · right; left
    constructor
    · exact Int.lt_of_mul_lt_mul_left (a := g) (by rw [e1, Int.mul_zero]; exact h) (by omega)
    · exact Int.lt_of_mul_lt_mul_left (a := g) (by rw [e2, Int.mul_zero]; omega) (by omega)
set_option maxRecDepth 100000 in
set_option maxHeartbeats 4000000 in
/-- one is not right. -/
theorem lawMediants_no (n0 d0 n1 d1 : ByteArray) (w : World) (hamb : Amb w) (a0 : n0.size ≤ 9) (a1 : d0.size ≤ 9) (a2 : n1.size ≤ 9) (a3 : d1.size ≤ 9) (hr : RB n0 d0 = false ∨ RB n1 d1 = false) :
    Calls Tryz.prog 3 #[.agg #[.string n0, .string d0], .agg #[.string n1, .string d1]] w (SmallRes (.bool true) w) := by
  have HM := Lib.hid (fun w h => Mediant_no n0 d0 n1 d1 w h (by omega) (by omega) (by omega) (by omega) hr)
  obtain ⟨r1, hr1⟩ : ∃ r, RB n0 d0 = r := ⟨_, rfl⟩
  obtain ⟨r2, hr2⟩ : ∃ r, RB n1 d1 = r := ⟨_, rfl⟩
  obtain ⟨i1, i2, hp1⟩ := r4parts_len n0 d0 (by omega) (by omega) r1 hr1
  obtain ⟨j1, j2, hp2⟩ := r4parts_len n1 d1 (by omega) (by omega) r2 hr2
  have HP1 := Lib.hid hp1
  have HP2 := Lib.hid hp2
  rw [hr1, hr2] at hr
  have HAMB := Lib.hid hamb
  have l0 : ¬ (9 : Int) < (n0.size : Int) := by omega
  have l1 : ¬ (9 : Int) < (d0.size : Int) := by omega
  have l2 : ¬ (9 : Int) < (n1.size : Int) := by omega
  have l3 : ¬ (9 : Int) < (d1.size : Int) := by omega
  clear hamb hr1 hr2 hp1 hp2 a0 a1 a2 a3
  go_enter Tryz.func3, Tryz.ntmps3
  go_wp2_with fail
  obtain ⟨W, hW⟩ : ∃ W, (w.alloc (.cells #[.string n0, .string d0] 24)).alloc (.cells #[.string n1, .string d1] 24) = W := ⟨_, rfl⟩
  rw [hW]
  obtain ⟨hX, hBW⟩ := B2.of hW
  clear hW
  have HX := Lib.hid (fun wz (hb : Below W.heap.size W wz) => hX.later hb)
  have HB := Lib.hid hBW
  have HA := Lib.hid (fun wz (hb : Below W.heap.size W wz) => HAMB.out.below (bel_chain HB.out hb))
  clear hX hBW
  refine (known04_any W (HA.out _ (Below.refl _ _))).mono ?_
  rintro e w1 ⟨rfl, hb1⟩
  obtain ⟨⟨_, x0, x1, _, _⟩, ⟨_, y0, y1, _, _⟩⟩ := HX.out _ hb1
  go_wp2_with fail
  refine (HM.out w1 (HA.out _ hb1)).mono ?_
  rintro e w2 ⟨rfl, hb2⟩
  have hz2 := bel_chain hb1 hb2
  clear x0 x1 y0 y1 hb1 hb2
  obtain ⟨⟨_, x0, x1, _, _⟩, ⟨_, y0, y1, _, _⟩⟩ := HX.out _ hz2
  go_wp2_with fail
  obtain ⟨w3, hw3⟩ : ∃ x, w2.alloc (.cells #[.string ⟨#[]⟩, .string ⟨#[]⟩] 24) = x := ⟨_, rfl⟩
  try rw [hw3]
  obtain ⟨hn3, hb3⟩ := B1.of hw3
  have HN := Lib.hid hn3
  have hz3 := bel_chain hz2 hb3
  clear hw3 hn3 hb3 hz2 x0 x1 y0 y1
  refine (HP1.out w3).mono ?_
  rintro e w4 ⟨rfl, hb4⟩
  have hz4 := bel_chain hz3 hb4
  have HN4 := Lib.hid (HN.out.later hb4)
  obtain ⟨⟨_, x0, x1, _, _⟩, ⟨_, y0, y1, _, _⟩⟩ := HX.out _ hz4
  clear hb4 hz3
  go_wp2_with fail
  refine (HP2.out w4).mono ?_
  rintro e w5 ⟨rfl, hb5⟩
  have hz5 := bel_chain hz4 hb5
  obtain ⟨_, m0, m1, _, _⟩ := HN4.out.later hb5
  clear hb5 hz4 x0 x1 y0 y1
  cases r1
  · clear hr
    go_wp2_with fail
    refine (none4_yes w5).mono ?_
    rintro e w6 ⟨rfl, hb6⟩
    have hz6 := bel_chain hz5 hb6
    go_wp2_with fail
    go_ret
    exact ⟨rfl, bel_chain HB.out hz6⟩
  · obtain rfl : r2 = false := by rcases hr with h | h; cases h; exact h
    clear hr
    go_wp2_with fail
    refine (none4_yes w5).mono ?_
    rintro e w6 ⟨rfl, hb6⟩
    have hz6 := bel_chain hz5 hb6
    go_wp2_with fail
    go_ret
    exact ⟨rfl, bel_chain HB.out hz6⟩
theorem prod_bd {a b : Int} {A B : Nat} (ha : a.natAbs ≤ A) (hb : b.natAbs ≤ B) (h : A * B ≤ 4000000000000000000) : (a * b).natAbs ≤ 4000000000000000000 := by
  rw [Int.natAbs_mul]
  exact Nat.le_trans (Nat.mul_le_mul ha hb) h
set_option maxRecDepth 100000 in
set_option maxHeartbeats 8000000 in
/-- both are right. -/
theorem lawMediants_yes (p q : Rat) (w : World) (hamb : Amb w) (a0 : (itx p.num).size ≤ 9) (a1 : (itx (p.den : Int)).size ≤ 9) (a2 : (itx q.num).size ≤ 9) (a3 : (itx (q.den : Int)).size ≤ 9) :
    Calls Tryz.prog 3 #[.agg #[.string (itx p.num), .string (itx (p.den : Int))], .agg #[.string (itx q.num), .string (itx (q.den : Int))]] w (SmallRes (.bool true) w) := by
  have hp : NQ p 9 := ⟨Nat.le_trans (itx_size_ge _) a0, Nat.le_trans (itx_size_ge _) a1⟩
  have hq : NQ q 9 := ⟨Nat.le_trans (itx_size_ge _) a2, Nat.le_trans (itx_size_ge _) a3⟩
  have HM := Lib.hid (fun w h => Mediant_any p q w h (hp.mono (by omega)) (hq.mono (by omega)))
  have HP1 := Lib.hid (fun w => r4parts_yes p w (hp.mono (by omega)))
  have HP2 := Lib.hid (fun w => r4parts_yes q w (hq.mono (by omega)))
  have p1 := (nz_le_iff p.num 8).1 hp.1
  have p2 := (nz_le_iff (p.den : Int) 8).1 hp.2
  have q1 := (nz_le_iff q.num 8).1 hq.1
  have q2 := (nz_le_iff (q.den : Int) 8).1 hq.2
  have hpd := rden_pos p
  have hqd := rden_pos q
  have HMK := Lib.hid (fun w => r4make_any (p.num + q.num) ((p.den : Int) + (q.den : Int)) w ⟨by omega, by omega⟩ (by omega) (by omega))
  have hMq : NQ (Rat.divInt (p.num + q.num) ((p.den : Int) + (q.den : Int))) 10 := NQ.of_divInt (by omega) ((nz_le_iff _ 9).2 (by omega)) ((nz_le_iff _ 9).2 (by omega))
  have hs1 : IntKind.i64.wrap (p.num + q.num) = p.num + q.num := IntWalk.i64_in _ (by omega)
  have hs2 : IntKind.i64.wrap ((p.den : Int) + (q.den : Int)) = (p.den : Int) + (q.den : Int) := IntWalk.i64_in _ (by omega)
  have mn := divInt_pos_num (p.num + q.num) ((p.den : Int) + (q.den : Int)) (by omega)
  have md := divInt_pos_den (p.num + q.num) ((p.den : Int) + (q.den : Int)) (by omega)
  have hg0 : 0 < Int.gcd (p.num + q.num) ((p.den : Int) + (q.den : Int)) := Nat.pos_of_ne_zero fun h => by have := (Int.gcd_eq_zero_iff.1 h).2; omega
  have d1 : ((Int.gcd (p.num + q.num) ((p.den : Int) + (q.den : Int)) : Nat) : Int) ∣ p.num + q.num := Int.gcd_dvd_left _ _
  have d2 : ((Int.gcd (p.num + q.num) ((p.den : Int) + (q.den : Int)) : Nat) : Int) ∣ (p.den : Int) + (q.den : Int) := Int.gcd_dvd_right _ _
  obtain ⟨g, hg⟩ : ∃ g, Int.gcd (p.num + q.num) ((p.den : Int) + (q.den : Int)) = g := ⟨_, rfl⟩
  obtain ⟨M, hMM⟩ : ∃ M, Rat.divInt (p.num + q.num) ((p.den : Int) + (q.den : Int)) = M := ⟨_, rfl⟩
  rw [hg] at mn md d1 d2 hg0
  rw [hMM] at mn md hMq HM HMK
  have hMd := rden_pos M
  have e1 : (g : Int) * M.num = p.num + q.num := by rw [mn]; exact Int.mul_ediv_cancel' d1
  have e2 : (g : Int) * (M.den : Int) = (p.den : Int) + (q.den : Int) := by rw [md]; exact Int.mul_ediv_cancel' d2
  have b1 := natAbs_ediv_le (p.num + q.num) (g : Int) (by omega)
  have b2 := natAbs_ediv_le ((p.den : Int) + (q.den : Int)) (g : Int) (by omega)
  rw [← mn] at b1
  rw [← md] at b2
  have hsides := mediant_sides (g : Int) (by omega) e1 e2
  have HP3 := Lib.hid (fun w => r4parts_yes M w (hMq.mono (by omega)))
  have k1 := prod_bd (a := M.num) (b := (p.den : Int)) (A := 2000000000) (B := 1000000000) (by omega) (by omega) (by omega)
  have k2 := prod_bd (a := p.num) (b := (M.den : Int)) (A := 1000000000) (B := 2000000000) (by omega) (by omega) (by omega)
  have k3 := prod_bd (a := M.num) (b := (q.den : Int)) (A := 2000000000) (B := 1000000000) (by omega) (by omega) (by omega)
  have k4 := prod_bd (a := q.num) (b := (M.den : Int)) (A := 1000000000) (B := 2000000000) (by omega) (by omega) (by omega)
  have k5 := prod_bd (a := p.num) (b := (q.den : Int)) (A := 1000000000) (B := 1000000000) (by omega) (by omega) (by omega)
  have k6 := prod_bd (a := q.num) (b := (p.den : Int)) (A := 1000000000) (B := 1000000000) (by omega) (by omega) (by omega)
  have v1 : IntKind.i64.wrap (M.num * (p.den : Int)) = M.num * (p.den : Int) := IntWalk.i64_in _ (by omega)
  have v2 : IntKind.i64.wrap (p.num * (M.den : Int)) = p.num * (M.den : Int) := IntWalk.i64_in _ (by omega)
  have v3 : IntKind.i64.wrap (M.num * (q.den : Int)) = M.num * (q.den : Int) := IntWalk.i64_in _ (by omega)
  have v4 : IntKind.i64.wrap (q.num * (M.den : Int)) = q.num * (M.den : Int) := IntWalk.i64_in _ (by omega)
  have v5 : IntKind.i64.wrap (p.num * (q.den : Int)) = p.num * (q.den : Int) := IntWalk.i64_in _ (by omega)
  have v6 : IntKind.i64.wrap (q.num * (p.den : Int)) = q.num * (p.den : Int) := IntWalk.i64_in _ (by omega)
  have v7 : IntKind.i64.wrap (M.num * (p.den : Int) - p.num * (M.den : Int)) = M.num * (p.den : Int) - p.num * (M.den : Int) := IntWalk.i64_in _ (by omega)
  have v8 : IntKind.i64.wrap (M.num * (q.den : Int) - q.num * (M.den : Int)) = M.num * (q.den : Int) - q.num * (M.den : Int) := IntWalk.i64_in _ (by omega)
  have HV := Lib.hid (And.intro v1 (And.intro v2 (And.intro v3 (And.intro v4 (And.intro v5 (And.intro v6 (And.intro v7 v8)))))))
  have HSD := Lib.hid hsides
  have HAMB := Lib.hid hamb
  have l0 : ¬ (9 : Int) < ((itx p.num).size : Int) := by omega
  have l1 : ¬ (9 : Int) < ((itx (p.den : Int)).size : Int) := by omega
  have l2 : ¬ (9 : Int) < ((itx q.num).size : Int) := by omega
  have l3 : ¬ (9 : Int) < ((itx (q.den : Int)).size : Int) := by omega
  clear hamb a0 a1 a2 a3 hp hq p1 p2 q1 q2 hpd hqd hMq mn md hg0 d1 d2 hg hMM hMd e1 e2 b1 b2 hsides k1 k2 k3 k4 k5 k6 v1 v2 v3 v4 v5 v6 v7 v8
  go_enter Tryz.func3, Tryz.ntmps3
  go_wp2_with fail
  obtain ⟨W, hW⟩ : ∃ W, (w.alloc (.cells #[.string (itx p.num), .string (itx (p.den : Int))] 24)).alloc (.cells #[.string (itx q.num), .string (itx (q.den : Int))] 24) = W := ⟨_, rfl⟩
  rw [hW]
  obtain ⟨hX, hBW⟩ := B2.of hW
  clear hW
  have HX := Lib.hid (fun wz (hb : Below W.heap.size W wz) => hX.later hb)
  have HB := Lib.hid hBW
  have HA := Lib.hid (fun wz (hb : Below W.heap.size W wz) => HAMB.out.below (bel_chain HB.out hb))
  clear hX hBW
  refine (known04_any W (HA.out _ (Below.refl _ _))).mono ?_
  rintro e w1 ⟨rfl, hb1⟩
  obtain ⟨⟨_, x0, x1, _, _⟩, ⟨_, y0, y1, _, _⟩⟩ := HX.out _ hb1
  go_wp2_with fail
  refine (HM.out w1 (HA.out _ hb1)).mono ?_
  rintro e w2 ⟨rfl, hb2⟩
  have hz2 := bel_chain hb1 hb2
  clear x0 x1 y0 y1 hb1 hb2
  obtain ⟨⟨_, x0, x1, _, _⟩, ⟨_, y0, y1, _, _⟩⟩ := HX.out _ hz2
  go_wp2_with fail
  obtain ⟨w3, hw3⟩ : ∃ x, w2.alloc (.cells #[.string (itx M.num), .string (itx (M.den : Int))] 24) = x := ⟨_, rfl⟩
  try rw [hw3]
  obtain ⟨hn3, hb3⟩ := B1.of hw3
  have HN := Lib.hid hn3
  have hz3 := bel_chain hz2 hb3
  clear hw3 hn3 hb3 hz2 x0 x1 y0 y1
  refine (HP1.out w3).mono ?_
  rintro e w4 ⟨rfl, hb4⟩
  have hz4 := bel_chain hz3 hb4
  have HN4 := Lib.hid (HN.out.later hb4)
  obtain ⟨⟨_, x0, x1, _, _⟩, ⟨_, y0, y1, _, _⟩⟩ := HX.out _ hz4
  clear hb4 hz3
  go_wp2_with fail
  refine (HP2.out w4).mono ?_
  rintro e w5 ⟨rfl, hb5⟩
  have hz5 := bel_chain hz4 hb5
  have HN5 := Lib.hid (HN4.out.later hb5)
  obtain ⟨_, m0, m1, _, _⟩ := HN5.out
  clear hb5 hz4 x0 x1 y0 y1
  go_wp2_with fail
  refine (HP3.out w5).mono ?_
  rintro e w6 ⟨rfl, hb6⟩
  have hz6 := bel_chain hz5 hb6
  have HN6 := Lib.hid (HN5.out.later hb6)
  clear m0 m1
  obtain ⟨_, m0, m1, _, _⟩ := HN6.out
  have hzd : Below W.heap.size W w6.drew := hz6.drew
  have HND := Lib.hid (show B1 w2.heap.size (.string (itx M.num)) (.string (itx (M.den : Int))) w6.drew from HN6.out)
  clear hz5 hb6 hz6
  go_wp2_with fail
  go_region_held3 (fun w' => w'.cell? ⟨w2.heap.size, 0, none⟩ = some (.string (itx M.num)) ∧ w'.cell? ⟨w2.heap.size, 1, none⟩ = some (.string (itx (M.den : Int)))) (first | exact ⟨(HND.out.later hb7).2.1, (HND.out.later hb7).2.2.1⟩ | go_keep)
    (first
      | ((with_reducible refine (HMK.out _).mono ?_); rintro e w7 ⟨rfl, hb7⟩; have hz7 := bel_chain hzd hb7))
  all_goals
    obtain ⟨v1, v2, v3, v4, v5, v6, v7, v8⟩ := HV.out
    go_wp2_with fail
  all_goals
    go_ret
    refine ⟨congrArg (fun b => Ending.returned (Value.bool b)) ?_, bel_chain HB.out hz7⟩
    rcases HSD.out with ⟨z1, z2, z3⟩ | ⟨z2, z3⟩ | ⟨z2, z3⟩ <;> first | rfl | omega | (rw [decide_eq_true_eq]; omega) | (simp; omega)
set_option maxRecDepth 100000 in
set_option maxHeartbeats 4000000 in
/-- one of the texts is too long. -/
theorem lawMediants_long (n0 d0 n1 d1 : ByteArray) (w : World) (hamb : Amb w) (h : ¬ (n0.size ≤ 9 ∧ d0.size ≤ 9 ∧ n1.size ≤ 9 ∧ d1.size ≤ 9)) :
    Calls Tryz.prog 3 #[.agg #[.string n0, .string d0], .agg #[.string n1, .string d1]] w (SmallRes (.bool true) w) := by
  have key : (9 : Int) < (n0.size : Int) ∨ (¬ (9 : Int) < (n0.size : Int) ∧ ((9 : Int) < (d0.size : Int) ∨ (¬ (9 : Int) < (d0.size : Int) ∧ ((9 : Int) < (n1.size : Int) ∨ (¬ (9 : Int) < (n1.size : Int) ∧ (9 : Int) < (d1.size : Int)))))) := by omega
  have HAMB := Lib.hid hamb
  clear hamb h
  rcases key with l0 | ⟨l0, l1 | ⟨l1, l2 | ⟨l2, l3⟩⟩⟩
  all_goals
    go_enter Tryz.func3, Tryz.ntmps3
    go_wp2_with fail
    obtain ⟨W, hW⟩ : ∃ W, (w.alloc (.cells #[.string n0, .string d0] 24)).alloc (.cells #[.string n1, .string d1] 24) = W := ⟨_, rfl⟩
    rw [hW]
    obtain ⟨hX, hBW⟩ := B2.of hW
    clear hW
    have HX := Lib.hid (fun wz (hb : Below W.heap.size W wz) => hX.later hb)
    have HB := Lib.hid hBW
    have HA := Lib.hid (fun wz (hb : Below W.heap.size W wz) => HAMB.out.below (bel_chain HB.out hb))
    clear hX hBW
    refine (known04_any W (HA.out _ (Below.refl _ _))).mono ?_
    rintro e w1 ⟨rfl, hb1⟩
    obtain ⟨⟨_, x0, x1, _, _⟩, ⟨_, y0, y1, _, _⟩⟩ := HX.out _ hb1
    go_wp2_with fail
    refine (known04_any w1 (HA.out _ hb1)).mono ?_
    rintro e w2 ⟨rfl, hb2⟩
    have hz2 := bel_chain hb1 hb2
    go_wp2_with fail
    go_ret
    exact ⟨rfl, bel_chain HB.out hz2⟩
theorem lawMediants_walk (n0 d0 n1 d1 : ByteArray) (w : World) (hamb : Amb w) :
    Calls Tryz.prog 3 #[.agg #[.string n0, .string d0], .agg #[.string n1, .string d1]] w (SmallRes (.bool true) w) := by
  by_cases h : n0.size ≤ 9 ∧ d0.size ≤ 9 ∧ n1.size ≤ 9 ∧ d1.size ≤ 9
  · obtain ⟨a0, a1, a2, a3⟩ := h
    cases h1 : RB n0 d0 with
    | false => exact lawMediants_no n0 d0 n1 d1 w hamb a0 a1 a2 a3 (.inl h1)
    | true =>
      cases h2 : RB n1 d1 with
      | false => exact lawMediants_no n0 d0 n1 d1 w hamb a0 a1 a2 a3 (.inr h2)
      | true =>
        obtain ⟨p, rfl, rfl, _⟩ := rightB_rat h1
        obtain ⟨q, rfl, rfl, _⟩ := rightB_rat h2
        exact lawMediants_yes p q w hamb a0 a1 a2 a3
  · exact lawMediants_long n0 d0 n1 d1 w hamb h
end Go.Proofs.YtfokdhpccajmbaaGreatDoor
