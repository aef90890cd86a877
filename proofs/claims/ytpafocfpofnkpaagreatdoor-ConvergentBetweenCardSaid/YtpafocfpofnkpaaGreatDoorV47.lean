/- Greater text, out of: V47. -/
import Derived.Test.YtpafocfpofnkpaaGreatDoorV46
import Derived.Test.YtpafocfpofnkpaaGreatDoorK52
import Derived.Test.YtpafocfpofnkpaaGreatDoorK59
namespace Go.Proofs.YtpafocfpofnkpaaGreatDoor
open Go.RowKit Go.PlainAid
attribute [local go_sem] field_rat0 field_rat1
theorem tr_bd {z : Int × Int} (hz : 1 ≤ z.2) : (tr z).num.natAbs ≤ z.1.natAbs ∧ (tr z).den ≤ z.2.natAbs := by
  have e1 := divInt_pos_num z.1 z.2 (by omega)
  have e2 := divInt_pos_den z.1 z.2 (by omega)
  have k1 := natAbs_ediv_le z.1 ((Int.gcd z.1 z.2 : Nat) : Int) (by omega)
  have k2 := natAbs_ediv_le z.2 ((Int.gcd z.1 z.2 : Nat) : Int) (by omega)
  unfold tr
  rw [← e1] at k1
  rw [← e2] at k2
  exact ⟨k1, by omega⟩
/-- The neighbours' cross difference. -/
theorem sides_det {n d : Int} {b : Nat} (hd : 0 < d) (hg : Int.gcd n d = 1) (hb : 1 ≤ b) (hbd : (b : Int) < d) :
    ((tr (loN n d b)).den : Int) * (tr (hiN n d b)).num - (tr (loN n d b)).num * ((tr (hiN n d b)).den : Int) = 1 := by
  have ha := around_same hd hg hbd (show (1 : Int) ≤ (b : Int) by omega)
  rw [low_same hd hb (ha.low hd), high_same hd hb (ha.high hd)]
  obtain ⟨g1, g2⟩ := ha.good
  have hdet := ha.det
  obtain ⟨A, hA⟩ : ∃ A, (ab n d (semiL lastF (b : Int) (tms n d))).1 = A := ⟨_, rfl⟩
  obtain ⟨B, hB⟩ : ∃ B, (ab n d (semiL lastF (b : Int) (tms n d))).2 = B := ⟨_, rfl⟩
  rw [hA, hB] at hdet ⊢
  rw [hA] at g1
  rw [hB] at g2
  obtain ⟨a1, a2⟩ := rat_of_right (n := A.1) (d := A.2) (by have := g1.1; omega) g1.gcd
  obtain ⟨c1, c2⟩ := rat_of_right (n := B.1) (d := B.2) (by have := g2.1; omega) g2.gcd
  unfold tr
  rw [a1, a2, c1, c2, Int.mul_comm A.2]
  exact hdet
/-- How great the neighbours' numbers are. -/
theorem sides_bd {n d : Int} {b : Nat} (hd : 1 ≤ d) (hn : n.natAbs ≤ 9999999) (hb0 : 1 ≤ b) (hb : b ≤ 60) :
    nz (tr (loN n d b)).num ≤ 10 ∧ nz ((tr (loN n d b)).den : Int) ≤ 10 ∧ nz (tr (hiN n d b)).num ≤ 10 ∧ nz ((tr (hiN n d b)).den : Int) ≤ 10 ∧
    (((tr (loN n d b)).den : Int) * (tr (hiN n d b)).num).natAbs ≤ 4000000000000000000 ∧ ((tr (loN n d b)).num * ((tr (hiN n d b)).den : Int)).natAbs ≤ 4000000000000000000 := by
  obtain ⟨l1, l2, l3, l4⟩ := loN_bd (n := n) (d := d) hd hn b (by omega)
  obtain ⟨h1, h2, h3, h4⟩ := hiN_bd (n := n) (d := d) hd hn b (by omega)
  have l5 := l4 hb0
  have h5 := h4 hb0
  obtain ⟨a1, a2⟩ := tr_bd (z := loN n d b) (by omega)
  obtain ⟨c1, c2⟩ := tr_bd (z := hiN n d b) (by omega)
  have k1 := prod_bd (a := ((tr (loN n d b)).den : Int)) (b := (tr (hiN n d b)).num) (A := 100) (B := 2000000000) (by omega) (by omega) (by omega)
  have k2 := prod_bd (a := (tr (loN n d b)).num) (b := ((tr (hiN n d b)).den : Int)) (A := 2000000000) (B := 100) (by omega) (by omega) (by omega)
  exact ⟨(nz_le_iff _ 9).2 (by omega), (nz_le_iff _ 9).2 (by omega), (nz_le_iff _ 9).2 (by omega), (nz_le_iff _ 9).2 (by omega), by omega, by omega⟩
set_option maxRecDepth 100000 in
set_option maxHeartbeats 4000000 in
/-- too long. -/
theorem lawSides_long (n0 d0 : ByteArray) (b : Int) (w : World) (hamb : Amb w) (h : ¬ (n0.size ≤ 7 ∧ d0.size ≤ 7)) :
    Calls Tryz.prog 4 #[.agg #[.string n0, .string d0], .int .i64 b] w (SmallRes (.bool true) w) := by
  have HSH := Lib.hid (fun w => show Calls Tryz.prog 10 #[.agg #[.string n0, .string d0]] w (SmallRes (.bool false) w) from by
    have := small4_all n0 d0 w
    rw [show (decide (n0.size ≤ 7) && decide (d0.size ≤ 7)) = false by rw [Bool.and_eq_false_iff, decide_eq_false_iff_not, decide_eq_false_iff_not]; omega] at this
    exact this)
  have HAMB := Lib.hid hamb
  clear hamb h
  go_enter Tryz.func4, Tryz.ntmps4
  go_wp2_with fail
  obtain ⟨W, hW⟩ : ∃ W, w.alloc (.cells #[.string n0, .string d0] 24) = W := ⟨_, rfl⟩
  rw [hW]
  obtain ⟨hX, hBW⟩ := B1.of hW
  clear hW
  have HX := Lib.hid (fun wz (hb : Below W.heap.size W wz) => hX.later hb)
  have HB := Lib.hid hBW
  have HA := Lib.hid (fun wz (hb : Below W.heap.size W wz) => HAMB.out.below (bel_chain HB.out hb))
  clear hX hBW
  refine (known04_any W (HA.out _ (Below.refl _ _))).mono ?_
  rintro e w1 ⟨rfl, hb1⟩
  obtain ⟨_, x0, x1, _, _⟩ := HX.out _ hb1
  go_wp2_with fail
  refine (HSH.out w1).mono ?_
  rintro e w2 ⟨rfl, hb2⟩
  have hz2 := bel_chain hb1 hb2
  clear x0 x1 hb1 hb2
  go_wp2_with fail
  refine (known04_any w2 (HA.out _ hz2)).mono ?_
  rintro e w3 ⟨rfl, hb3⟩
  have hz3 := bel_chain hz2 hb3
  go_wp2_with fail
  go_ret
  exact ⟨rfl, bel_chain HB.out hz3⟩
set_option maxRecDepth 100000 in
set_option maxHeartbeats 4000000 in
/-- short, but not right, or the bound is not. -/
theorem lawSides_err (n0 d0 : ByteArray) (b : Int) (w : World) (hamb : Amb w) (h0 : n0.size ≤ 7) (h1 : d0.size ≤ 7) (hb0 : -9223372036854775808 ≤ b) (hb1 : b ≤ 9223372036854775807) (r : Bool) (hr : RB n0 d0 = r) (hE : r = false ∨ b < 1 ∨ 1000000 < b) :
    Calls Tryz.prog 4 #[.agg #[.string n0, .string d0], .int .i64 b] w (SmallRes (.bool true) w) := by
  have HSH := Lib.hid (fun w => show Calls Tryz.prog 10 #[.agg #[.string n0, .string d0]] w (SmallRes (.bool true) w) from by
    have := small4_all n0 d0 w
    rw [decide_eq_true h0, decide_eq_true h1] at this
    exact this)
  obtain ⟨i1, i2, hp1⟩ := r4parts_len n0 d0 (by omega) (by omega) r hr
  have HP1 := Lib.hid hp1
  obtain ⟨E, hEE⟩ : ∃ E, bndE r b = E := ⟨_, rfl⟩
  have hEv : E = if r = false then 2 else 3 := by
    rw [← hEE]; unfold bndE
    rcases hE with h | h
    · rw [if_pos h, if_pos h]
    · by_cases hrr : r = false
      · rw [if_pos hrr, if_pos hrr]
      · rw [if_neg hrr, if_neg hrr, if_pos h]
  have HNE := Lib.hid (fun w h => Neigh_err n0 d0 b E w h (by omega) (by omega) r hr hb0 hb1 hEE (by rw [hEv]; split <;> decide))
  have HAMB := Lib.hid hamb
  have HEB := Lib.hid hE
  clear hamb hp1 hEE hb0 hb1 h0 h1 hr hE
  have hcase : b < 1 ∨ (1 ≤ b ∧ b ≤ 1000000) ∨ (1 ≤ b ∧ 1000000 < b) := by omega
  rcases hcase with hc | ⟨hc, hc2⟩ | ⟨hc, hc2⟩
  all_goals
    go_enter Tryz.func4, Tryz.ntmps4
    go_wp2_with fail
    obtain ⟨W, hW⟩ : ∃ W, w.alloc (.cells #[.string n0, .string d0] 24) = W := ⟨_, rfl⟩
    rw [hW]
    obtain ⟨hX, hBW⟩ := B1.of hW
    clear hW
    have HX := Lib.hid (fun wz (hb : Below W.heap.size W wz) => hX.later hb)
    have HB := Lib.hid hBW
    have HA := Lib.hid (fun wz (hb : Below W.heap.size W wz) => HAMB.out.below (bel_chain HB.out hb))
    clear hX hBW
    refine (known04_any W (HA.out _ (Below.refl _ _))).mono ?_
    rintro e w1 ⟨rfl, hb1⟩
    obtain ⟨_, x0, x1, _, _⟩ := HX.out _ hb1
    go_wp2_with fail
    refine (HSH.out w1).mono ?_
    rintro e w2 ⟨rfl, hb2⟩
    have hz2 := bel_chain hb1 hb2
    clear x0 x1 hb1 hb2
    obtain ⟨_, x0, x1, _, _⟩ := HX.out _ hz2
    go_wp2_with fail
    refine (HP1.out w2).mono ?_
    rintro e w3 ⟨rfl, hb3⟩
    have hz3 := bel_chain hz2 hb3
    clear x0 x1 hz2 hb3
    obtain ⟨_, x0, x1, _, _⟩ := HX.out _ hz3
    cases r
    · obtain rfl : E = 2 := hEv
      go_wp2_with fail
      refine (HNE.out w3 (HA.out _ hz3)).mono ?_
      rintro e w5 ⟨rfl, hb5⟩
      have hz5 := bel_chain hz3 hb5
      clear x0 x1 hz3 hb5
      go_wp2_with fail
      obtain ⟨w6, hw6⟩ : ∃ x, (w5.alloc (.cells #[.string ⟨#[]⟩, .string ⟨#[]⟩] 24)).alloc (.cells #[.string ⟨#[]⟩, .string ⟨#[]⟩] 24) = x := ⟨_, rfl⟩
      try rw [hw6]
      obtain ⟨hn6, hb6⟩ := B2.of hw6
      have hz6 := bel_chain hz5 hb6
      have HN := Lib.hid hn6
      obtain ⟨⟨_, y0, y1, _, _⟩, ⟨_, y2, y3, _, _⟩⟩ := hn6
      clear hw6 hz5 hb6
      try go_wp2_with fail
      refine (none4_yes w6).mono ?_
      rintro e w7 ⟨rfl, hb7⟩
      have hz7 := bel_chain hz6 hb7
      obtain ⟨⟨_, z0, z1, _, _⟩, ⟨_, z2, z3, _, _⟩⟩ := HN.out.later hb7
      clear y0 y1 y2 y3
      go_wp2_with fail
      refine (none4_yes w7).mono ?_
      rintro e w8 ⟨rfl, hb8⟩
      have hz8 := bel_chain hz7 hb8
      go_wp2_with fail
      go_ret
      exact ⟨rfl, bel_chain HB.out hz8⟩
    · obtain rfl : E = 3 := hEv
      by_cases hin : 1 ≤ b ∧ b ≤ 1000000
      · exfalso
        rcases HEB.out with h | h | h
        · cases h
        · omega
        · omega
      · first
          | exact absurd (show 1 ≤ b ∧ b ≤ 1000000 by omega) hin
          | (
             go_wp2_with fail
             refine (HNE.out w3 (HA.out _ hz3)).mono ?_
             rintro e w5 ⟨rfl, hb5⟩
             have hz5 := bel_chain hz3 hb5
             clear x0 x1 hz3 hb5
             go_wp2_with fail
             obtain ⟨w6, hw6⟩ : ∃ x, (w5.alloc (.cells #[.string ⟨#[]⟩, .string ⟨#[]⟩] 24)).alloc (.cells #[.string ⟨#[]⟩, .string ⟨#[]⟩] 24) = x := ⟨_, rfl⟩
             try rw [hw6]
             obtain ⟨hn6, hb6⟩ := B2.of hw6
             have hz6 := bel_chain hz5 hb6
             have HN := Lib.hid hn6
             obtain ⟨⟨_, y0, y1, _, _⟩, ⟨_, y2, y3, _, _⟩⟩ := hn6
             clear hw6 hz5 hb6
             try go_wp2_with fail
             refine (none4_yes w6).mono ?_
             rintro e w7 ⟨rfl, hb7⟩
             have hz7 := bel_chain hz6 hb7
             obtain ⟨⟨_, z0, z1, _, _⟩, ⟨_, z2, z3, _, _⟩⟩ := HN.out.later hb7
             clear y0 y1 y2 y3
             go_wp2_with fail
             refine (none4_yes w7).mono ?_
             rintro e w8 ⟨rfl, hb8⟩
             have hz8 := bel_chain hz7 hb8
             go_wp2_with fail
             go_ret
             exact ⟨rfl, bel_chain HB.out hz8⟩
            )
set_option maxRecDepth 100000 in
set_option maxHeartbeats 8000000 in
/-- right, with a right bound. -/
theorem lawSides_yes (q : Rat) (b : Nat) (w : World) (hamb : Amb w) (h0 : (itx q.num).size ≤ 7) (h1 : (itx (q.den : Int)).size ≤ 7) (hb0 : 1 ≤ b) (hb1 : b ≤ 1000000) :
    Calls Tryz.prog 4 #[.agg #[.string (itx q.num), .string (itx (q.den : Int))], .int .i64 (b : Int)] w (SmallRes (.bool true) w) := by
  have hq : NQ q 7 := ⟨Nat.le_trans (itx_size_ge _) h0, Nat.le_trans (itx_size_ge _) h1⟩
  have hd := rden_pos q
  have hg := rat_gcd q
  have p1 := (nz_le_iff q.num 6).1 hq.1
  have p2 := (nz_le_iff (q.den : Int) 6).1 hq.2
  have hi0 : (1 : Int) ≤ (b : Int) := by omega
  have hi1 : (b : Int) ≤ 1000000 := by omega
  have HSH := Lib.hid (fun w => show Calls Tryz.prog 10 #[.agg #[.string (itx q.num), .string (itx (q.den : Int))]] w (SmallRes (.bool true) w) from by
    have := small4_all (itx q.num) (itx (q.den : Int)) w
    rw [decide_eq_true h0, decide_eq_true h1] at this
    exact this)
  have HP1 := Lib.hid (fun w => r4parts_yes q w (hq.mono (by omega)))
  have HNN := And.intro (show nz q.num ≤ 14 from Nat.le_trans hq.1 (by omega)) (show nz (q.den : Int) ≤ 14 from Nat.le_trans hq.2 (by omega))
  have HNE := Lib.hid (fun (hb2 : b ≤ 60) w h => Neigh_any q.num (q.den : Int) b w h hd hg HNN.1 HNN.2 (RB_q q (hq.mono (by omega))) hb0 (by omega))
  have HRB := Lib.hid (fun (hb2 : b ≤ 60) w => r4neigh_any q.num (q.den : Int) b w (by omega) (by omega) (by omega) hb0 hb2)
  have HBDS := Lib.hid (fun (hb2 : b ≤ 60) => sides_bd (n := q.num) (d := (q.den : Int)) (b := b) (by omega) (by omega) hb0 hb2)
  have HDET := Lib.hid (fun (hb2 : b ≤ 60) => sides_det (n := q.num) (d := (q.den : Int)) (b := b) (by omega) hg hb0)
  obtain ⟨Y, hY⟩ : ∃ Y, tr (loN q.num (q.den : Int) b) = Y := ⟨_, rfl⟩
  obtain ⟨Z, hZ⟩ : ∃ Z, tr (hiN q.num (q.den : Int) b) = Z := ⟨_, rfl⟩
  rw [hY, hZ] at HNE HRB HBDS HDET
  have HAMB := Lib.hid hamb
  clear hamb h0 h1 hq hd hg p1 p2 hb0 hb1 hY hZ HNN
  go_enter Tryz.func4, Tryz.ntmps4
  go_wp2_with fail
  obtain ⟨W, hW⟩ : ∃ W, w.alloc (.cells #[.string (itx q.num), .string (itx (q.den : Int))] 24) = W := ⟨_, rfl⟩
  rw [hW]
  obtain ⟨hX, hBW⟩ := B1.of hW
  clear hW
  have HX := Lib.hid (fun wz (hb : Below W.heap.size W wz) => hX.later hb)
  have HB := Lib.hid hBW
  have HA := Lib.hid (fun wz (hb : Below W.heap.size W wz) => HAMB.out.below (bel_chain HB.out hb))
  clear hX hBW
  refine (known04_any W (HA.out _ (Below.refl _ _))).mono ?_
  rintro e w1 ⟨rfl, hb1⟩
  obtain ⟨_, x0, x1, _, _⟩ := HX.out _ hb1
  go_wp2_with fail
  refine (HSH.out w1).mono ?_
  rintro e w2 ⟨rfl, hb2⟩
  have hz2 := bel_chain hb1 hb2
  clear x0 x1 hb1 hb2
  obtain ⟨_, x0, x1, _, _⟩ := HX.out _ hz2
  go_wp2_with fail
  refine (HP1.out w2).mono ?_
  rintro e w3 ⟨rfl, hb3⟩
  have hz3 := bel_chain hz2 hb3
  clear x0 x1 hz2 hb3
  obtain ⟨_, x0, x1, _, _⟩ := HX.out _ hz3
  by_cases hbig : (60 : Int) < (b : Int)
  · go_wp2_with fail
    go_ret
    exact ⟨rfl, bel_chain HB.out hz3⟩
  · have hb2 : b ≤ 60 := by omega
    have HNE2 := Lib.hid (HNE.out hb2)
    have HRB2 := Lib.hid (HRB.out hb2)
    have hdet := HDET.out hb2
    have hbd := HBDS.out hb2
    have HQ1 := Lib.hid (fun w => r4parts_yes Y w ⟨Nat.le_trans hbd.1 (by omega), Nat.le_trans hbd.2.1 (by omega)⟩)
    have HQ2 := Lib.hid (fun w => r4parts_yes Z w ⟨Nat.le_trans hbd.2.2.1 (by omega), Nat.le_trans hbd.2.2.2.1 (by omega)⟩)
    have v1 : IntKind.i64.wrap ((Y.den : Int) * Z.num) = (Y.den : Int) * Z.num := IntWalk.i64_in _ (by have := hbd.2.2.2.2.1; omega)
    have v2 : IntKind.i64.wrap (Y.num * (Z.den : Int)) = Y.num * (Z.den : Int) := IntWalk.i64_in _ (by have := hbd.2.2.2.2.2; omega)
    have v3 : IntKind.i64.wrap ((Y.den : Int) * Z.num - Y.num * (Z.den : Int)) = (Y.den : Int) * Z.num - Y.num * (Z.den : Int) := IntWalk.i64_in _ (by have := hbd.2.2.2.2.1; have := hbd.2.2.2.2.2; omega)
    have HV := Lib.hid (And.intro v1 (And.intro v2 v3))
    have HDT := Lib.hid hdet
    clear HNE HRB HDET HBDS hb2 hdet hbd v1 v2 v3
    go_wp2_with fail
    refine (HNE2.out w3 (HA.out _ hz3)).mono ?_
    rintro e w5 ⟨rfl, hb5⟩
    have hz5 := bel_chain hz3 hb5
    clear x0 x1 hz3 hb5
    go_wp2_with fail
    obtain ⟨w6, hw6⟩ : ∃ x, (w5.alloc (.cells #[.string (itx Y.num), .string (itx (Y.den : Int))] 24)).alloc (.cells #[.string (itx Z.num), .string (itx (Z.den : Int))] 24) = x := ⟨_, rfl⟩
    try rw [hw6]
    obtain ⟨hn6, hb6⟩ := B2.of hw6
    have hz6 := bel_chain hz5 hb6
    have HN6 := Lib.hid hn6
    clear hw6 hz5 hb6 hn6
    try go_wp2_with fail
    refine (HRB2.out w6).mono ?_
    rintro e w7 ⟨rfl, hb7⟩
    have hz7 := bel_chain hz6 hb7
    have HN7 := Lib.hid (HN6.out.later hb7)
    clear hz6 hb7 HN6
    obtain ⟨⟨_, y0, y1, _, _⟩, ⟨_, y2, y3, _, _⟩⟩ := HN7.out
    go_wp2_with fail
    obtain ⟨w8, hw8⟩ : ∃ x, (w7.alloc (.cells #[.string (itx Y.num), .string (itx (Y.den : Int))] 24)).alloc (.cells #[.string (itx Z.num), .string (itx (Z.den : Int))] 24) = x := ⟨_, rfl⟩
    try rw [hw8]
    obtain ⟨_, hb8⟩ := B2.of hw8
    have hz8 := bel_chain hz7 hb8
    have HN8 := Lib.hid (HN7.out.later hb8)
    clear hw8 hz7 hb8 HN7 y0 y1 y2 y3
    refine (HQ1.out w8).mono ?_
    rintro e w9 ⟨rfl, hb9⟩
    have hz9 := bel_chain hz8 hb9
    have HN9 := Lib.hid (HN8.out.later hb9)
    clear hz8 hb9
    obtain ⟨⟨_, y0, y1, _, _⟩, ⟨_, y2, y3, _, _⟩⟩ := HN9.out
    go_wp2_with fail
    refine (HQ2.out w9).mono ?_
    rintro e w10 ⟨rfl, hb10⟩
    have hz10 := bel_chain hz9 hb10
    clear y0 y1 y2 y3 hz9 hb10
    obtain ⟨v1, v2, v3⟩ := HV.out
    by_cases hdb : (q.den : Int) ≤ (b : Int)
    · go_wp2_with fail
      go_ret
      exact ⟨rfl, bel_chain HB.out hz10⟩
    · have hone := HDT.out (by omega)
      go_wp2_with fail
      go_ret
      exact ⟨by first | rfl | (rw [hone]; rfl) | simp [hone], bel_chain HB.out hz10⟩
theorem lawSides_walk (n0 d0 : ByteArray) (b : Int) (w : World) (hamb : Amb w) (hb : -9223372036854775808 ≤ b ∧ b ≤ 9223372036854775807) :
    Calls Tryz.prog 4 #[.agg #[.string n0, .string d0], .int .i64 b] w (SmallRes (.bool true) w) := by
  by_cases h : n0.size ≤ 7 ∧ d0.size ≤ 7
  · obtain ⟨h0, h1⟩ := h
    by_cases hE : RB n0 d0 = false ∨ b < 1 ∨ 1000000 < b
    · exact lawSides_err n0 d0 b w hamb h0 h1 hb.1 hb.2 _ rfl hE
    · have hr : RB n0 d0 = true := by
        cases hr : RB n0 d0 with
        | true => rfl
        | false => exact absurd (.inl hr) hE
      obtain ⟨q, rfl, rfl, _⟩ := rightB_rat hr
      obtain ⟨k, rfl⟩ : ∃ k : Nat, b = (k : Int) := ⟨b.toNat, by omega⟩
      exact lawSides_yes q k w hamb h0 h1 (by omega) (by omega)
  · exact lawSides_long n0 d0 b w hamb h
end Go.Proofs.YtpafocfpofnkpaaGreatDoor
