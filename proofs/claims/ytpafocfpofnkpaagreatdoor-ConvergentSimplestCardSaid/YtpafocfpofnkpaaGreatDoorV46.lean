/- Greater text, out of: V46. -/
import Derived.Test.YtpafocfpofnkpaaGreatDoorV41
import Derived.Test.YtpafocfpofnkpaaGreatDoorK50
import Derived.Test.YtpafocfpofnkpaaGreatDoorK58
import Derived.Deep.DrawnRows
namespace Go.Proofs.YtpafocfpofnkpaaGreatDoor
open Go.RowKit Go.PlainAid
attribute [local go_sem] field_rat0 field_rat1
set_option maxHeartbeats 800000 in
/-- small. -/
theorem small4_all (s t : ByteArray) (w : World) :
    Calls Tryz.prog 10 #[.agg #[.string s, .string t]] w (SmallRes (.bool (decide (s.size ≤ 7) && decide (t.size ≤ 7))) w) := by
  by_cases h1 : s.size ≤ 7
  · by_cases h2 : t.size ≤ 7
    all_goals
      simp only [h1, h2, decide_true, decide_false, Bool.and_false, Bool.and_self]
      have h1' : (s.size : Int) ≤ 7 := by omega
      first | have h2' : (t.size : Int) ≤ 7 := by omega
            | have h2' : ¬ (t.size : Int) ≤ 7 := by omega
      go_enter Tryz.func10, Tryz.ntmps10
      go_wp2_with fail
      go_ret
      exact ⟨rfl, (Below.refl _ _).alloc (Nat.le_refl _) _⟩
  · simp only [h1, decide_false, Bool.false_and]
    have h1' : ¬ (s.size : Int) ≤ 7 := by omega
    go_enter Tryz.func10, Tryz.ntmps10
    go_wp2_with fail
    go_ret
    exact ⟨rfl, (Below.refl _ _).alloc (Nat.le_refl _) _⟩
theorem rb_ne {n d : Int} {b : Nat} (hd : 0 < d) (hb : 1 ≤ b) : rb n d b ≠ [] := by
  obtain ⟨k, rfl⟩ : ∃ k, b = k + 1 := ⟨b - 1, by omega⟩
  obtain ⟨R, S, hz, _⟩ := rb_last (n := n) hd k
  intro h
  rw [h] at hz
  cases hz
set_option maxRecDepth 100000 in
set_option maxHeartbeats 4000000 in
/-- too long. -/
theorem lawBests_long (n0 d0 : ByteArray) (b : Int) (w : World) (hamb : Amb w) (h : ¬ (n0.size ≤ 7 ∧ d0.size ≤ 7)) :
    Calls Tryz.prog 3 #[.agg #[.string n0, .string d0], .int .i64 b] w (SmallRes (.bool true) w) := by
  have HSH := Lib.hid (fun w => show Calls Tryz.prog 10 #[.agg #[.string n0, .string d0]] w (SmallRes (.bool false) w) from by
    have := small4_all n0 d0 w
    rw [show (decide (n0.size ≤ 7) && decide (d0.size ≤ 7)) = false by rw [Bool.and_eq_false_iff, decide_eq_false_iff_not, decide_eq_false_iff_not]; omega] at this
    exact this)
  have HAMB := Lib.hid hamb
  clear hamb h
  go_enter Tryz.func3, Tryz.ntmps3
  go_wp2_with fail
  obtain ⟨W, hW⟩ : ∃ W, w.alloc (.cells #[.string n0, .string d0] 24) = W := ⟨_, rfl⟩
  rw [hW]
  obtain ⟨hX, hBW⟩ := B1.of hW
  clear hW
  have HX := Lib.hid (fun wz (hb : Below W.heap.size W wz) => hX.later hb)
  have HB := Lib.hid hBW
  have HA := Lib.hid (fun wz (hb : Below W.heap.size W wz) => HAMB.out.below (bel_chain HB.out hb))
  clear hX hBW
  refine (known04_any W (HA.out _ (Below.refl _ _))).mono ?_
  rintro e w1 ⟨rfl, hb1⟩
  obtain ⟨_, x0, x1, _, _⟩ := HX.out _ hb1
  go_wp2_with fail
  refine (HSH.out w1).mono ?_
  rintro e w2 ⟨rfl, hb2⟩
  have hz2 := bel_chain hb1 hb2
  clear x0 x1 hb1 hb2
  go_wp2_with fail
  refine (known04_any w2 (HA.out _ hz2)).mono ?_
  rintro e w3 ⟨rfl, hb3⟩
  have hz3 := bel_chain hz2 hb3
  go_wp2_with fail
  go_ret
  exact ⟨rfl, bel_chain HB.out hz3⟩
set_option maxRecDepth 100000 in
set_option maxHeartbeats 4000000 in
/-- short, but not right, or the bound is not. -/
theorem lawBests_err (n0 d0 : ByteArray) (b : Int) (w : World) (hamb : Amb w) (h0 : n0.size ≤ 7) (h1 : d0.size ≤ 7) (hb0 : -9223372036854775808 ≤ b) (hb1 : b ≤ 9223372036854775807) (r : Bool) (hr : RB n0 d0 = r) (hE : r = false ∨ b < 1 ∨ 1000000 < b) :
    Calls Tryz.prog 3 #[.agg #[.string n0, .string d0], .int .i64 b] w (SmallRes (.bool true) w) := by
  have HSH := Lib.hid (fun w => show Calls Tryz.prog 10 #[.agg #[.string n0, .string d0]] w (SmallRes (.bool true) w) from by
    have := small4_all n0 d0 w
    rw [decide_eq_true h0, decide_eq_true h1] at this
    exact this)
  obtain ⟨i1, i2, hp1⟩ := r4parts_len n0 d0 (by omega) (by omega) r hr
  have HP1 := Lib.hid hp1
  obtain ⟨E, hEE⟩ : ∃ E, bndE r b = E := ⟨_, rfl⟩
  have hEv : E = if r = false then 2 else 3 := by
    rw [← hEE]; unfold bndE
    rcases hE with h | h
    · rw [if_pos h, if_pos h]
    · by_cases hrr : r = false
      · rw [if_pos hrr, if_pos hrr]
      · rw [if_neg hrr, if_neg hrr, if_pos h]
  have HBE := Lib.hid (fun w h => Best_err n0 d0 b E w h (by omega) (by omega) r hr hb0 hb1 hEE (by rw [hEv]; split <;> decide))
  have HNE := Lib.hid (fun w h => Near_err n0 d0 b E w h (by omega) (by omega) r hr hb0 hb1 hEE (by rw [hEv]; split <;> decide))
  have HAMB := Lib.hid hamb
  have HEB := Lib.hid hE
  clear hamb hp1 hEE hb0 hb1 h0 h1 hr hE
  have hcase : b < 1 ∨ (1 ≤ b ∧ b ≤ 1000000) ∨ (1 ≤ b ∧ 1000000 < b) := by omega
  rcases hcase with hc | ⟨hc, hc2⟩ | ⟨hc, hc2⟩
  all_goals
    go_enter Tryz.func3, Tryz.ntmps3
    go_wp2_with fail
    obtain ⟨W, hW⟩ : ∃ W, w.alloc (.cells #[.string n0, .string d0] 24) = W := ⟨_, rfl⟩
    rw [hW]
    obtain ⟨hX, hBW⟩ := B1.of hW
    clear hW
    have HX := Lib.hid (fun wz (hb : Below W.heap.size W wz) => hX.later hb)
    have HB := Lib.hid hBW
    have HA := Lib.hid (fun wz (hb : Below W.heap.size W wz) => HAMB.out.below (bel_chain HB.out hb))
    clear hX hBW
    refine (known04_any W (HA.out _ (Below.refl _ _))).mono ?_
    rintro e w1 ⟨rfl, hb1⟩
    obtain ⟨_, x0, x1, _, _⟩ := HX.out _ hb1
    go_wp2_with fail
    refine (HSH.out w1).mono ?_
    rintro e w2 ⟨rfl, hb2⟩
    have hz2 := bel_chain hb1 hb2
    clear x0 x1 hb1 hb2
    obtain ⟨_, x0, x1, _, _⟩ := HX.out _ hz2
    go_wp2_with fail
    refine (HP1.out w2).mono ?_
    rintro e w3 ⟨rfl, hb3⟩
    have hz3 := bel_chain hz2 hb3
    clear x0 x1 hz2 hb3
    obtain ⟨_, x0, x1, _, _⟩ := HX.out _ hz3
    cases r
    · obtain rfl : E = 2 := hEv
      go_wp2_with fail
      refine (HBE.out w3 (HA.out _ hz3)).mono ?_
      rintro e w4 ⟨rfl, hb4⟩
      have hz4 := bel_chain hz3 hb4
      clear x0 x1 hz3 hb4
      obtain ⟨_, x0, x1, _, _⟩ := HX.out _ hz4
      go_wp2_with fail
      refine (HNE.out w4 (HA.out _ hz4)).mono ?_
      rintro e w5 ⟨rfl, hb5⟩
      have hz5 := bel_chain hz4 hb5
      clear x0 x1 hz4 hb5
      go_wp2_with fail
      obtain ⟨w6, hw6⟩ : ∃ x, w5.alloc (.cells #[.string ⟨#[]⟩, .string ⟨#[]⟩] 24) = x := ⟨_, rfl⟩
      try rw [hw6]
      obtain ⟨hn6, hb6⟩ := B1.of hw6
      have hz6 := bel_chain hz5 hb6
      obtain ⟨_, y0, y1, _, _⟩ := hn6
      clear hw6 hz5 hb6
      try go_wp2_with fail
      refine (none4_yes w6).mono ?_
      rintro e w7 ⟨rfl, hb7⟩
      have hz7 := bel_chain hz6 hb7
      go_wp2_with fail
      go_ret
      exact ⟨rfl, bel_chain HB.out hz7⟩
    · obtain rfl : E = 3 := hEv
      by_cases hin : 1 ≤ b ∧ b ≤ 1000000
      · exfalso
        rcases HEB.out with h | h | h
        · cases h
        · omega
        · omega
      · first
          | exact absurd (show 1 ≤ b ∧ b ≤ 1000000 by omega) hin
          | (
             go_wp2_with fail
             refine (HBE.out w3 (HA.out _ hz3)).mono ?_
             rintro e w4 ⟨rfl, hb4⟩
             have hz4 := bel_chain hz3 hb4
             clear x0 x1 hz3 hb4
             obtain ⟨_, x0, x1, _, _⟩ := HX.out _ hz4
             go_wp2_with fail
             refine (HNE.out w4 (HA.out _ hz4)).mono ?_
             rintro e w5 ⟨rfl, hb5⟩
             have hz5 := bel_chain hz4 hb5
             clear x0 x1 hz4 hb5
             go_wp2_with fail
             obtain ⟨w6, hw6⟩ : ∃ x, w5.alloc (.cells #[.string ⟨#[]⟩, .string ⟨#[]⟩] 24) = x := ⟨_, rfl⟩
             try rw [hw6]
             obtain ⟨hn6, hb6⟩ := B1.of hw6
             have hz6 := bel_chain hz5 hb6
             obtain ⟨_, y0, y1, _, _⟩ := hn6
             clear hw6 hz5 hb6
             try go_wp2_with fail
             refine (none4_yes w6).mono ?_
             rintro e w7 ⟨rfl, hb7⟩
             have hz7 := bel_chain hz6 hb7
             go_wp2_with fail
             go_ret
             exact ⟨rfl, bel_chain HB.out hz7⟩
            )
set_option maxRecDepth 100000 in
set_option maxHeartbeats 8000000 in
/-- right, with a right bound. -/
theorem lawBests_yes (q : Rat) (b : Nat) (w : World) (hamb : Amb w) (h0 : (itx q.num).size ≤ 7) (h1 : (itx (q.den : Int)).size ≤ 7) (hb0 : 1 ≤ b) (hb1 : b ≤ 1000000) :
    Calls Tryz.prog 3 #[.agg #[.string (itx q.num), .string (itx (q.den : Int))], .int .i64 (b : Int)] w (SmallRes (.bool true) w) := by
  have hq : NQ q 7 := ⟨Nat.le_trans (itx_size_ge _) h0, Nat.le_trans (itx_size_ge _) h1⟩
  have hd := rden_pos q
  have hg := rat_gcd q
  have p1 := (nz_le_iff q.num 6).1 hq.1
  have p2 := (nz_le_iff (q.den : Int) 6).1 hq.2
  have hi0 : (1 : Int) ≤ (b : Int) := by omega
  have hi1 : (b : Int) ≤ 1000000 := by omega
  have HSH := Lib.hid (fun w => show Calls Tryz.prog 10 #[.agg #[.string (itx q.num), .string (itx (q.den : Int))]] w (SmallRes (.bool true) w) from by
    have := small4_all (itx q.num) (itx (q.den : Int)) w
    rw [decide_eq_true h0, decide_eq_true h1] at this
    exact this)
  have HP1 := Lib.hid (fun w => r4parts_yes q w (hq.mono (by omega)))
  have HNN := And.intro (show nz q.num ≤ 14 from Nat.le_trans hq.1 (by omega)) (show nz (q.den : Int) ≤ 14 from Nat.le_trans hq.2 (by omega))
  have hne : rb q.num (q.den : Int) b ≠ [] := rb_ne (n := q.num) hd hb0
  obtain ⟨z, hz⟩ : ∃ z, (rb q.num (q.den : Int) b).getLast? = some z := ⟨_, List.getLast?_eq_some_getLast hne⟩
  have HBE := Lib.hid (fun (hb2 : b ≤ 60) w h => show Calls Tryz.prog 12 #[.agg #[.string (itx q.num), .string (itx (q.den : Int))], .int .i64 (b : Int)] w (RRes ((rb q.num (q.den : Int) b).map tr) 0 w) from by
    rw [← best_same q.num hd b hb0]
    exact Best_any q.num (q.den : Int) (b : Int) w h hd hg HNN.1 HNN.2 (RB_q q (hq.mono (by omega))) hi0 (by omega))
  have HNE := Lib.hid (fun (hb2 : b ≤ 60) w h => Nearest_any q.num (q.den : Int) b z w h hd hg HNN.1 HNN.2 (RB_q q (hq.mono (by omega))) hb0 (by omega) hz)
  have HRB := Lib.hid (fun (hb2 : b ≤ 60) w => r4best_any q.num (q.den : Int) b w (by omega) (by omega) (by omega) hb2)
  have hlen : (rb q.num (q.den : Int) b).length ≤ b := rb_len _ _ _
  obtain ⟨m, hm⟩ : ∃ m, (rb q.num (q.den : Int) b).length = m + 1 := ⟨(rb q.num (q.den : Int) b).length - 1, by have := List.length_pos_iff.2 hne; omega⟩
  have HMB := Lib.hid (fun (hb2 : b ≤ 60) => show m ≤ 60 by omega)
  obtain ⟨CS, hCS⟩ : ∃ CS, (rb q.num (q.den : Int) b).map tr = CS := ⟨_, rfl⟩
  obtain ⟨Z, hZ⟩ : ∃ Z, tr z = Z := ⟨_, rfl⟩
  have HCL := Lib.hid (show CS.length = m + 1 by rw [← hCS, List.length_map, hm])
  have HLAST := Lib.hid (show CS.getD m 0 = Z by
    rw [← hCS, List.getD_eq_getElem?_getD, List.getElem?_map]
    rw [List.getLast?_eq_getElem?, hm, Nat.add_sub_cancel] at hz
    rw [hz]
    exact hZ)
  rw [hCS] at HBE HRB
  rw [hZ] at HNE
  have HAMB := Lib.hid hamb
  clear hamb h0 h1 hq hd hg p1 p2 hb0 hb1 hne hz hm hCS hZ HNN hlen
  go_enter Tryz.func3, Tryz.ntmps3
  go_wp2_with fail
  obtain ⟨W, hW⟩ : ∃ W, w.alloc (.cells #[.string (itx q.num), .string (itx (q.den : Int))] 24) = W := ⟨_, rfl⟩
  rw [hW]
  obtain ⟨hX, hBW⟩ := B1.of hW
  clear hW
  have HX := Lib.hid (fun wz (hb : Below W.heap.size W wz) => hX.later hb)
  have HB := Lib.hid hBW
  have HA := Lib.hid (fun wz (hb : Below W.heap.size W wz) => HAMB.out.below (bel_chain HB.out hb))
  clear hX hBW
  refine (known04_any W (HA.out _ (Below.refl _ _))).mono ?_
  rintro e w1 ⟨rfl, hb1⟩
  obtain ⟨_, x0, x1, _, _⟩ := HX.out _ hb1
  go_wp2_with fail
  refine (HSH.out w1).mono ?_
  rintro e w2 ⟨rfl, hb2⟩
  have hz2 := bel_chain hb1 hb2
  clear x0 x1 hb1 hb2
  obtain ⟨_, x0, x1, _, _⟩ := HX.out _ hz2
  go_wp2_with fail
  refine (HP1.out w2).mono ?_
  rintro e w3 ⟨rfl, hb3⟩
  have hz3 := bel_chain hz2 hb3
  clear x0 x1 hz2 hb3
  obtain ⟨_, x0, x1, _, _⟩ := HX.out _ hz3
  by_cases hbig : (60 : Int) < (b : Int)
  · go_wp2_with fail
    go_ret
    exact ⟨rfl, bel_chain HB.out hz3⟩
  · have hb2 : b ≤ 60 := by omega
    have HBE2 := Lib.hid (HBE.out hb2)
    have HNE2 := Lib.hid (HNE.out hb2)
    have HRB2 := Lib.hid (HRB.out hb2)
    clear HBE HNE HRB
    have hmb := HMB.out hb2
    clear hb2 HMB
    go_wp2_with fail
    refine (HBE2.out w3 (HA.out _ hz3)).mono ?_
    rintro e w4 ⟨A4, n4, c4, rfl, hin4, hb4⟩
    have hz4 := bel_chain hz3 hb4
    have hn4 : n4 = m + 1 := by rw [← hin4.1, HCL.out]
    subst hn4
    have HIN4 := Lib.hid hin4
    clear x0 x1 hz3 hb4 hin4
    obtain ⟨_, x0, x1, _, _⟩ := HX.out _ hz4
    go_wp2_with fail
    refine (HNE2.out w4 (HA.out _ hz4)).mono ?_
    rintro e w5 ⟨rfl, hb5⟩
    have hz5 := bel_chain hz4 hb5
    have HIN5 := Lib.hid (HIN4.out.below hb5)
    clear x0 x1 hz4 hb5 HIN4
    go_wp2_with fail
    obtain ⟨w6, hw6⟩ : ∃ x, w5.alloc (.cells #[.string (itx Z.num), .string (itx (Z.den : Int))] 24) = x := ⟨_, rfl⟩
    try rw [hw6]
    obtain ⟨hn6, hb6⟩ := B1.of hw6
    have hz6 := bel_chain hz5 hb6
    have HN6 := Lib.hid hn6
    have HIN6 := Lib.hid (HIN5.out.below hb6)
    clear hw6 hz5 hb6 hn6 HIN5
    try go_wp2_with fail
    refine (HRB2.out w6).mono ?_
    rintro e w7 ⟨A7, n7, c7, rfl, hin7, hb7⟩
    have hz7 := bel_chain hz6 hb7
    have hn7 : n7 = m + 1 := by rw [← hin7.1, HCL.out]
    subst hn7
    have HIN7 := Lib.hid hin7
    have HIJ7 := Lib.hid (HIN6.out.below hb7)
    have HN7 := Lib.hid (HN6.out.later hb7)
    clear hz6 hb7 hin7 HIN6 HN6
    have hle := HIN7.out.2.1
    have hcap := HIN7.out.2.2.1
    obtain ⟨g, off, hbe, hbl, hc⟩ := HIN7.out.2.2.2 (by omega)
    subst hbe
    have HCC := Lib.hid (fun wz (hb : Below w7.heap.size w7 wz) => show (wz.cell? ⟨g, off + m * 2, none⟩ = some (.string (itx Z.num)) ∧ wz.cell? ⟨g, off + m * 2 + 1, none⟩ = some (.string (itx (Z.den : Int)))) from by
      obtain ⟨y0, y1⟩ := hc m (by omega)
      rw [HLAST.out] at y0 y1
      exact ⟨(hb.cell (p := ⟨g, off + m * 2, none⟩) hbl).trans y0, (hb.cell (p := ⟨g, off + m * 2 + 1, none⟩) hbl).trans y1⟩)
    have HYY := Lib.hid (fun wz (hb : Below w7.heap.size w7 wz) => HN7.out.later hb)
    have hmi : ((m : Int) + 1 - 1) = (m : Int) := by omega
    have hmw : IntKind.i64.wrap ((m : Int)) = (m : Int) := IntWalk.i64_in _ (by omega)
    have hmw2 : IntKind.i64.wrap ((m : Int) + 1 - 1) = (m : Int) := by rw [hmi]; exact hmw
    have hm0 : (0 : Int) ≤ (m : Int) := by omega
    have hm1 : (m : Int) < (m : Int) + 1 := by omega
    have hm2 : (m : Int) ≤ (m : Int) + 1 := by omega
    have HZ7 := Lib.hid hz7
    have hzd : Below w7.heap.size w7 w7.drew := (Below.refl _ _).drew
    have HC1 := Lib.hid (same4_eq A4 (some ⟨g, off, none⟩) (m + 1) c4 c7 CS w7.drew (HIJ7.out.below hzd) (HIN7.out.below hzd))
    clear hc hbl hz7
    obtain ⟨_, v0, v1, _, _⟩ := HYY.out _ hzd
    obtain ⟨y0, y1⟩ := HCC.out _ hzd
    go_upto_region 15 with fail
    go_region_held3 (fun w' => w'.cell? ⟨w5.heap.size, 0, none⟩ = some (.string (itx Z.num)) ∧ w'.cell? ⟨w5.heap.size, 1, none⟩ = some (.string (itx (Z.den : Int))) ∧ w'.cell? ⟨g, off + m * 2, none⟩ = some (.string (itx Z.num)) ∧ w'.cell? ⟨g, off + m * 2 + 1, none⟩ = some (.string (itx (Z.den : Int)))) (go_keep)
     (first
      | ((with_reducible refine HC1.out.mono ?_); rintro e w8 ⟨rfl, hb8⟩; have hz8 := bel_chain hzd hb8; obtain ⟨_, v0, v1, _, _⟩ := HYY.out _ hz8; obtain ⟨y0, y1⟩ := HCC.out _ hz8))
    all_goals
      go_wp2_with fail
      go_ret
      exact ⟨rfl, bel_chain HB.out (bel_chain HZ7.out hz8)⟩
theorem lawBests_walk (n0 d0 : ByteArray) (b : Int) (w : World) (hamb : Amb w) (hb : -9223372036854775808 ≤ b ∧ b ≤ 9223372036854775807) :
    Calls Tryz.prog 3 #[.agg #[.string n0, .string d0], .int .i64 b] w (SmallRes (.bool true) w) := by
  by_cases h : n0.size ≤ 7 ∧ d0.size ≤ 7
  · obtain ⟨h0, h1⟩ := h
    by_cases hE : RB n0 d0 = false ∨ b < 1 ∨ 1000000 < b
    · exact lawBests_err n0 d0 b w hamb h0 h1 hb.1 hb.2 _ rfl hE
    · have hr : RB n0 d0 = true := by
        cases hr : RB n0 d0 with
        | true => rfl
        | false => exact absurd (.inl hr) hE
      obtain ⟨q, rfl, rfl, _⟩ := rightB_rat hr
      obtain ⟨k, rfl⟩ : ∃ k : Nat, b = (k : Int) := ⟨b.toNat, by omega⟩
      exact lawBests_yes q k w hamb h0 h1 (by omega) (by omega)
  · exact lawBests_long n0 d0 b w hamb h
end Go.Proofs.YtpafocfpofnkpaaGreatDoor
