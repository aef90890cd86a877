/- Greater text, out of: V49. -/
import Derived.Test.YtpafocfpofnkpaaGreatDoorV47
namespace Go.Proofs.YtpafocfpofnkpaaGreatDoor
open Go.RowKit Go.PlainAid
attribute [local go_sem] field_rat0 field_rat1
/-- Every best one is among the semiconvergents. -/
theorem best_in (n d b : Int) (i : Nat) (hi : i < ((pb n d (semiL half b (tms n d))).map tr).length) :
    ∃ j, j < ((semiL oneF b (tms n d)).map tr).length ∧ ((semiL oneF b (tms n d)).map tr).getD j 0 = ((pb n d (semiL half b (tms n d))).map tr).getD i 0 := by
  have hm : ((pb n d (semiL half b (tms n d))).map tr).getD i 0 ∈ (pb n d (semiL half b (tms n d))).map tr := by
    rw [List.getD_eq_getElem?_getD, List.getElem?_eq_getElem hi]
    exact List.getElem_mem _
  obtain ⟨z, hz, e⟩ := List.mem_map.1 hm
  have hz2 := best_semi n d b z hz
  have hm2 : tr z ∈ (semiL oneF b (tms n d)).map tr := List.mem_map.2 ⟨z, hz2, rfl⟩
  obtain ⟨j, hj, e2⟩ := List.getElem_of_mem hm2
  refine ⟨j, hj, ?_⟩
  rw [List.getD_eq_getElem?_getD, List.getElem?_eq_getElem hj, ← e, ← e2]
  rfl
/-- The neighbours' denominators. -/
theorem sides_sum {n d : Int} {b : Nat} (hd : 0 < d) (hg : Int.gcd n d = 1) (hb : 1 ≤ b) (hbd : (b : Int) < d) :
    ((tr (loN n d b)).den : Int) + ((tr (hiN n d b)).den : Int) ≤ d ∧ (b : Int) < ((tr (loN n d b)).den : Int) + ((tr (hiN n d b)).den : Int) := by
  have ha := around_same hd hg hbd (show (1 : Int) ≤ (b : Int) by omega)
  rw [low_same hd hb (ha.low hd), high_same hd hb (ha.high hd)]
  obtain ⟨g1, g2⟩ := ha.good
  have hs := ha.sum
  have hl := ha.le
  obtain ⟨A, hA⟩ : ∃ A, (ab n d (semiL lastF (b : Int) (tms n d))).1 = A := ⟨_, rfl⟩
  obtain ⟨B, hB⟩ : ∃ B, (ab n d (semiL lastF (b : Int) (tms n d))).2 = B := ⟨_, rfl⟩
  rw [hA, hB] at hs hl ⊢
  rw [hA] at g1
  rw [hB] at g2
  obtain ⟨a1, a2⟩ := rat_of_right (n := A.1) (d := A.2) (by have := g1.1; omega) g1.gcd
  obtain ⟨c1, c2⟩ := rat_of_right (n := B.1) (d := B.2) (by have := g2.1; omega) g2.gcd
  unfold tr
  rw [a2, c2]
  exact ⟨hl, hs⟩
set_option maxRecDepth 100000 in
set_option maxHeartbeats 4000000 in
/-- too long. -/
theorem lawBetween_long (n0 d0 : ByteArray) (u : Int) (w : World) (hamb : Amb w) (h : ¬ (n0.size ≤ 5 ∧ d0.size ≤ 5)) :
    Calls Tryz.prog 6 #[.agg #[.string n0, .string d0], .int .u8 u] w (SmallRes (.bool true) w) := by
  have HAMB := Lib.hid hamb
  have hcs : (5 : Int) < (n0.size : Int) ∨ (¬ (5 : Int) < (n0.size : Int) ∧ (5 : Int) < (d0.size : Int)) := by omega
  clear hamb h
  rcases hcs with hc | ⟨hc, hc2⟩
  all_goals
    go_enter Tryz.func6, Tryz.ntmps6
    go_wp2_with fail
    obtain ⟨W, hW⟩ : ∃ W, w.alloc (.cells #[.string n0, .string d0] 24) = W := ⟨_, rfl⟩
    rw [hW]
    obtain ⟨hX, hBW⟩ := B1.of hW
    clear hW
    have HX := Lib.hid (fun wz (hb : Below W.heap.size W wz) => hX.later hb)
    have HB := Lib.hid hBW
    have HA := Lib.hid (fun wz (hb : Below W.heap.size W wz) => HAMB.out.below (bel_chain HB.out hb))
    clear hX hBW
    refine (known04_any W (HA.out _ (Below.refl _ _))).mono ?_
    rintro e w1 ⟨rfl, hb1⟩
    have hz1 := hb1
    obtain ⟨_, x0, x1, _, _⟩ := HX.out _ hz1
    go_wp2_with fail
    refine (known04_any w1 (HA.out _ hz1)).mono ?_
    rintro e w3 ⟨rfl, hb3⟩
    have hz3 := bel_chain hz1 hb3
    go_wp2_with fail
    go_ret
    exact ⟨rfl, bel_chain HB.out hz3⟩
set_option maxRecDepth 100000 in
set_option maxHeartbeats 4000000 in
/-- not right. -/
theorem lawBetween_err (n0 d0 : ByteArray) (u : Int) (w : World) (hamb : Amb w) (h0 : n0.size ≤ 5) (h1 : d0.size ≤ 5) (hr : RB n0 d0 = false) :
    Calls Tryz.prog 6 #[.agg #[.string n0, .string d0], .int .u8 u] w (SmallRes (.bool true) w) := by
  have HP1 := Lib.hid (fun w => r4parts_no n0 d0 w (by omega) (by omega) hr)
  have HAMB := Lib.hid hamb
  have l0 : ¬ (5 : Int) < (n0.size : Int) := by omega
  have l1 : ¬ (5 : Int) < (d0.size : Int) := by omega
  clear hamb h0 h1 hr
  go_enter Tryz.func6, Tryz.ntmps6
  go_wp2_with fail
  obtain ⟨W, hW⟩ : ∃ W, w.alloc (.cells #[.string n0, .string d0] 24) = W := ⟨_, rfl⟩
  rw [hW]
  obtain ⟨hX, hBW⟩ := B1.of hW
  clear hW
  have HX := Lib.hid (fun wz (hb : Below W.heap.size W wz) => hX.later hb)
  have HB := Lib.hid hBW
  have HA := Lib.hid (fun wz (hb : Below W.heap.size W wz) => HAMB.out.below (bel_chain HB.out hb))
  clear hX hBW
  refine (known04_any W (HA.out _ (Below.refl _ _))).mono ?_
  rintro e w1 ⟨rfl, hb1⟩
  have hz1 := hb1
  obtain ⟨_, x0, x1, _, _⟩ := HX.out _ hz1
  go_wp2_with fail
  refine (HP1.out w1).mono ?_
  rintro e w2 ⟨rfl, hb2⟩
  have hz2 := bel_chain hz1 hb2
  go_wp2_with fail
  go_ret
  exact ⟨rfl, bel_chain HB.out hz2⟩
set_option maxRecDepth 100000 in
set_option maxHeartbeats 8000000 in
/-- right. -/
theorem lawBetween_yes (q : Rat) (u : Nat) (w : World) (hamb : Amb w) (h0 : (itx q.num).size ≤ 5) (h1 : (itx (q.den : Int)).size ≤ 5) (hu : u ≤ 255) :
    Calls Tryz.prog 6 #[.agg #[.string (itx q.num), .string (itx (q.den : Int))], .int .u8 (u : Int)] w (SmallRes (.bool true) w) := by
  have hq : NQ q 5 := ⟨Nat.le_trans (itx_size_ge _) h0, Nat.le_trans (itx_size_ge _) h1⟩
  have hd := rden_pos q
  have hg := rat_gcd q
  have p1 := (nz_le_iff q.num 4).1 hq.1
  have p2 := (nz_le_iff (q.den : Int) 4).1 hq.2
  obtain ⟨b, hbe⟩ : ∃ b : Nat, 1 + u % 50 = b := ⟨_, rfl⟩
  have hb0 : 1 ≤ b := by omega
  have hb1 : b ≤ 50 := by omega
  have hi0 : (1 : Int) ≤ (b : Int) := by omega
  have HP1 := Lib.hid (fun w => r4parts_yes q w (hq.mono (by omega)))
  have HNN := And.intro (show nz q.num ≤ 14 from Nat.le_trans hq.1 (by omega)) (show nz (q.den : Int) ≤ 14 from Nat.le_trans hq.2 (by omega))
  have HBE := Lib.hid (fun w h => Best_any q.num (q.den : Int) (b : Int) w h hd hg HNN.1 HNN.2 (RB_q q (hq.mono (by omega))) hi0 (by omega))
  have HSE := Lib.hid (fun w h => show Calls Tryz.prog 21 #[.agg #[.string (itx q.num), .string (itx (q.den : Int))], .int .i64 (b : Int)] w (RRes ((semiL oneF (b : Int) (tms q.num (q.den : Int))).map tr) 0 w) from Semi_any q.num (q.den : Int) (b : Int) w h hd HNN.1 HNN.2 (RB_q q (hq.mono (by omega))) hi0 (by omega))
  have HNE := Lib.hid (fun w h => Neigh_any q.num (q.den : Int) b w h hd hg HNN.1 HNN.2 (RB_q q (hq.mono (by omega))) hb0 (by omega))
  have HIN := Lib.hid (fun i => best_in q.num (q.den : Int) (b : Int) i)
  have hbds := sides_bd (n := q.num) (d := (q.den : Int)) (b := b) (by omega) (by omega) hb0 (by omega)
  have HSUM := Lib.hid (fun (hbd : (b : Int) < (q.den : Int)) => sides_sum (n := q.num) (d := (q.den : Int)) (b := b) (by omega) hg hb0 hbd)
  obtain ⟨BS, hBS⟩ : ∃ x, (pb q.num (q.den : Int) (semiL half (b : Int) (tms q.num (q.den : Int)))).map tr = x := ⟨_, rfl⟩
  obtain ⟨SS, hSS⟩ : ∃ x, (semiL oneF (b : Int) (tms q.num (q.den : Int))).map tr = x := ⟨_, rfl⟩
  rw [hBS] at HBE HIN
  rw [hSS] at HSE HIN
  obtain ⟨Y, hY⟩ : ∃ Y, tr (loN q.num (q.den : Int) b) = Y := ⟨_, rfl⟩
  obtain ⟨Z, hZ⟩ : ∃ Z, tr (hiN q.num (q.den : Int) b) = Z := ⟨_, rfl⟩
  rw [hY, hZ] at HNE HSUM hbds
  have hyd := (nz_le_iff (Y.den : Int) 9).1 hbds.2.1
  have hzd := (nz_le_iff (Z.den : Int) 9).1 hbds.2.2.2.1
  have HQ1 := Lib.hid (fun w => r4parts_yes Y w ⟨Nat.le_trans hbds.1 (by omega), Nat.le_trans hbds.2.1 (by omega)⟩)
  have HQ2 := Lib.hid (fun w => r4parts_yes Z w ⟨Nat.le_trans hbds.2.2.1 (by omega), Nat.le_trans hbds.2.2.2.1 (by omega)⟩)
  have v1 : IntKind.i64.wrap ((Y.den : Int) + (Z.den : Int)) = (Y.den : Int) + (Z.den : Int) := IntWalk.i64_in _ (by omega)
  have HV := Lib.hid v1
  have l0 : ¬ (5 : Int) < ((itx q.num).size : Int) := by omega
  have l1 : ¬ (5 : Int) < ((itx (q.den : Int)).size : Int) := by omega
  obtain ⟨m, hm⟩ : ∃ m : Nat, u % 50 = m := ⟨_, rfl⟩
  have hme : (m : Int) + 1 = (b : Int) := by omega
  have hm50 : (m : Int) ≤ 49 := by omega
  have hm0 : (0 : Int) ≤ (m : Int) := by omega
  obtain ⟨U, hU⟩ : ∃ U : Int, (u : Int) = U := ⟨_, rfl⟩
  have r1 : U.tmod 50 = (m : Int) := by rw [← hU, Int.tmod_eq_emod_of_nonneg (by omega)]; omega
  have r2 : IntKind.u8.wrap (m : Int) = (m : Int) := IntWalk.u8_in _ (by omega)
  have r3 : IntKind.i64.wrap (m : Int) = (m : Int) := IntWalk.i64_in _ (by omega)
  have r4 : 1 + (m : Int) = (b : Int) := by omega
  have r5 : IntKind.i64.wrap (b : Int) = (b : Int) := IntWalk.i64_in _ (by omega)
  rw [hU]
  have HAMB := Lib.hid hamb
  clear hamb h0 h1 hq hd hg p1 p2 hb0 hb1 hi0 HNN hBS hSS hY hZ hbds hyd hzd v1 hbe hm hU hu hme hm50 hm0
  go_enter Tryz.func6, Tryz.ntmps6
  go_wp2_with fail
  obtain ⟨W, hW⟩ : ∃ W, w.alloc (.cells #[.string (itx q.num), .string (itx (q.den : Int))] 24) = W := ⟨_, rfl⟩
  rw [hW]
  obtain ⟨hX, hBW⟩ := B1.of hW
  clear hW
  have HX := Lib.hid (fun wz (hb : Below W.heap.size W wz) => hX.later hb)
  have HB := Lib.hid hBW
  have HA := Lib.hid (fun wz (hb : Below W.heap.size W wz) => HAMB.out.below (bel_chain HB.out hb))
  clear hX hBW
  refine (known04_any W (HA.out _ (Below.refl _ _))).mono ?_
  rintro e w1 ⟨rfl, hz1⟩
  obtain ⟨_, x0, x1, _, _⟩ := HX.out _ hz1
  go_wp2_with fail
  refine (HP1.out w1).mono ?_
  rintro e w2 ⟨rfl, hb2⟩
  have hz2 := bel_chain hz1 hb2
  clear x0 x1 hz1 hb2
  obtain ⟨_, x0, x1, _, _⟩ := HX.out _ hz2
  go_wp2_with fail
  try rw [r5]
  try rw [r4]
  clear r1 r2 r3 r4 r5
  refine (HBE.out w2 (HA.out _ hz2)).mono ?_
  rintro e w3 ⟨A3, n3, c3, rfl, hin3, hb3⟩
  have hz3 := bel_chain hz2 hb3
  have HI3 := Lib.hid hin3
  clear x0 x1 hz2 hb3 hin3
  obtain ⟨_, x0, x1, _, _⟩ := HX.out _ hz3
  go_wp2_with fail
  refine (HSE.out w3 (HA.out _ hz3)).mono ?_
  rintro e w4 ⟨A4, n4, c4, rfl, hin4, hb4⟩
  have hz4 := bel_chain hz3 hb4
  have HI4 := Lib.hid hin4
  have HJ4 := Lib.hid (HI3.out.below hb4)
  clear x0 x1 hz3 hb4 hin4 HI3
  obtain ⟨_, x0, x1, _, _⟩ := HX.out _ hz4
  go_wp2_with fail
  refine (HNE.out w4 (HA.out _ hz4)).mono ?_
  rintro e w5 ⟨rfl, hb5⟩
  have hz5 := bel_chain hz4 hb5
  have HI5 := Lib.hid (HI4.out.below hb5)
  have HJ5 := Lib.hid (HJ4.out.below hb5)
  clear x0 x1 hz4 hb5 HI4 HJ4
  go_wp2_with fail
  obtain ⟨w6, hw6⟩ : ∃ x, (w5.alloc (.cells #[.string (itx Y.num), .string (itx (Y.den : Int))] 24)).alloc (.cells #[.string (itx Z.num), .string (itx (Z.den : Int))] 24) = x := ⟨_, rfl⟩
  try rw [hw6]
  obtain ⟨hn6, hb6⟩ := B2.of hw6
  have hz6 := bel_chain hz5 hb6
  have HI6 := Lib.hid (HI5.out.below hb6)
  have HJ6 := Lib.hid (HJ5.out.below hb6)
  have HN6 := Lib.hid (fun wz (hb : Below w6.heap.size w6 wz) => hn6.later hb)
  have HZ6 := Lib.hid hz6
  clear hw6 hz5 hz6 hb6 hn6 HI5 HJ5
  have HL3 := Lib.hid HJ6.out.1
  have HL4 := Lib.hid HI6.out.1
  have hcap3 := HJ6.out.2.1
  have hcap3' := HJ6.out.2.2.1
  have hcap4 := HI6.out.2.1
  have hcap4' := HI6.out.2.2.1
  have HC3 := Lib.hid HJ6.out.2.2.2
  have HC4 := Lib.hid HI6.out.2.2.2
  clear HI6 HJ6
  go_loopw [16] (fun vi wr => ∃ i : Nat, i ≤ n3 ∧ vi = .int .i64 (i : Int) ∧ Below w6.heap.size w6 wr) (fun vi _ => n3 - (intOf vi).toNat)
  case atStart => exact ⟨0, Nat.zero_le _, rfl, Below.refl _ _⟩
  case round =>
    obtain ⟨i, hi, rfl, hB⟩ := hrel
    by_cases hie : i = n3
    · subst hie
      have hlt : ¬ (i : Int) < (i : Int) := by omega
      obtain ⟨⟨_, y0, y1, _, _⟩, _⟩ := HN6.out _ hB
      go_wp2_with fail
      refine (HQ1.out wr).mono ?_
      rintro e w7 ⟨rfl, hb7⟩
      have hz7 := bel_chain hB hb7
      clear y0 y1 hb7 hB
      obtain ⟨_, ⟨_, y0, y1, _, _⟩⟩ := HN6.out _ hz7
      go_wp2_with fail
      refine (HQ2.out w7).mono ?_
      rintro e w8 ⟨rfl, hb8⟩
      have hz8 := bel_chain hz7 hb8
      have v1 := HV.out
      clear y0 y1 hb8 hz7
      by_cases hdb : (q.den : Int) ≤ (b : Int)
      · go_wp2_with fail
        go_ret
        exact ⟨rfl, bel_chain HB.out (bel_chain HZ6.out hz8)⟩
      · obtain ⟨s1, s2⟩ := HSUM.out (by omega)
        have s3 : (q.den : Int) ≥ (Y.den : Int) + (Z.den : Int) := s1
        have s4 : (Y.den : Int) + (Z.den : Int) > (b : Int) := s2
        go_wp2_with fail
        go_ret
        exact ⟨rfl, bel_chain HB.out (bel_chain HZ6.out hz8)⟩
    · have hlt : (i : Int) < (n3 : Int) := by omega
      obtain ⟨g3, o3, hA3, hg3, hc3⟩ := HC3.out (by omega)
      subst hA3
      obtain ⟨j0, hj0, hj0e⟩ := HIN.out i (by rw [HL3.out]; omega)
      rw [HL4.out] at hj0
      obtain ⟨g4, o4, hA4, hg4, hc4⟩ := HC4.out (by omega)
      subst hA4
      obtain ⟨x, hx⟩ : ∃ x, BS.getD i 0 = x := ⟨_, rfl⟩
      have hci := hc3 i (by omega)
      rw [hx] at hci hj0e
      have HCI := Lib.hid (fun wz (hb : Below w6.heap.size w6 wz) => show wz.cell? ⟨g3, o3 + i * 2, none⟩ = some (.string (itx x.num)) ∧ wz.cell? ⟨g3, o3 + i * 2 + 1, none⟩ = some (.string (itx (x.den : Int))) from ⟨(hb.cell (p := ⟨g3, o3 + i * 2, none⟩) hg3).trans hci.1, (hb.cell (p := ⟨g3, o3 + i * 2 + 1, none⟩) hg3).trans hci.2⟩)
      have HCJ := Lib.hid (fun wz (hb : Below w6.heap.size w6 wz) (j : Nat) (hj : j < n4) => show wz.cell? ⟨g4, o4 + j * 2, none⟩ = some (.string (itx (SS.getD j 0).num)) ∧ wz.cell? ⟨g4, o4 + j * 2 + 1, none⟩ = some (.string (itx ((SS.getD j 0).den : Int))) from ⟨(hb.cell (p := ⟨g4, o4 + j * 2, none⟩) hg4).trans (hc4 j hj).1, (hb.cell (p := ⟨g4, o4 + j * 2 + 1, none⟩) hg4).trans (hc4 j hj).2⟩)
      have HJ0 := Lib.hid (And.intro hj0 hj0e)
      have HBR := Lib.hid hB
      clear hx hci hc3 hc4 hg3 hg4 hj0 hj0e hB HC3 HC4
      go_wp2_with fail
      go_loopw [17, 18] (fun vf vj wr2 => ∃ (f : Bool) (j : Nat), j ≤ n4 ∧ vf = .bool f ∧ vj = .int .i64 (j : Int) ∧ ((∃ k, k < j ∧ SS.getD k 0 = x) → f = true) ∧ Below w6.heap.size w6 wr2) (fun _ vj _ => n4 - (intOf vj).toNat)
      case atStart => exact ⟨false, 0, Nat.zero_le _, rfl, rfl, fun ⟨k, hk, _⟩ => absurd hk (Nat.not_lt_zero _), HBR.out⟩
      case round =>
        obtain ⟨f, j, hj, rfl, rfl, hf, hB2⟩ := hrel
        have HF := Lib.hid hf
        clear hf
        by_cases hje : j = n4
        · subst hje
          have hlt2 : ¬ (j : Int) < (j : Int) := by omega
          obtain rfl : f = true := HF.out ⟨j0, HJ0.out.1, HJ0.out.2⟩
          go_wp2_with fail
          go_roundw
          case rel => exact ⟨i + 1, by omega, by go_num, hB2⟩
          case measure => simp [intOf]; omega
        · have hlt2 : (j : Int) < (n4 : Int) := by omega
          have hj2 : j + 1 ≤ n4 := by omega
          cases f
          · obtain ⟨c0, c1⟩ := HCI.out _ hB2
            obtain ⟨c2, c3⟩ := HCJ.out _ hB2 j (by omega)
            obtain ⟨y, hy⟩ : ∃ y, SS.getD j 0 = y := ⟨_, rfl⟩
            rw [hy] at c2 c3
            by_cases hxy : y = x
            · subst hxy
              go_wp2_with fail
              go_quiet (fail)
              go_wp2_with fail
              go_roundw
              case rel => exact ⟨true, j + 1, hj2, rfl, by go_num, fun _ => rfl, bel_drewN hB2 _⟩
              case measure => simp [intOf]; omega
            · have HNF := Lib.hid (show ¬ ∃ k, k < j + 1 ∧ SS.getD k 0 = x from fun ⟨k, hk, e⟩ => by
                by_cases hkj : k = j
                · subst hkj; exact hxy (hy.symm.trans e)
                · have := HF.out ⟨k, by omega, e⟩
                  cases this)
              clear hy
              by_cases hnum : y.num = x.num
              · have hden : ¬ (y.den : Int) = (x.den : Int) := fun h => hxy (Rat.ext hnum (by omega))
                rw [hnum] at c2
                have t1 : ¬ itx (x.den : Int) = itx (y.den : Int) := fun h => hden (itx_inj h).symm
                have t3 : ((itx (x.den : Int)).toList == (itx (y.den : Int)).toList) = false := by rw [itx_beq]; exact decide_eq_false (fun h => hden h.symm)
                clear hnum hden hxy
                go_wp2_with fail
                go_quiet (fail)
                go_wp2_with fail
                go_roundw
                case rel => exact ⟨_, j + 1, hj2, rfl, by go_num, fun h => absurd h HNF.out, bel_drewN hB2 _⟩
                case measure => simp [intOf]; omega
              · have t1 : ¬ itx x.num = itx y.num := fun h => hnum (itx_inj h).symm
                have t3 : ((itx x.num).toList == (itx y.num).toList) = false := by rw [itx_beq]; exact decide_eq_false (fun h => hnum h.symm)
                clear hnum hxy
                go_wp2_with fail
                go_quiet (fail)
                go_wp2_with fail
                go_roundw
                case rel => exact ⟨_, j + 1, hj2, rfl, by go_num, fun h => absurd h HNF.out, bel_drewN hB2 _⟩
                case measure => simp [intOf]; omega
          · go_wp2_with fail
            go_quiet (fail)
            go_wp2_with fail
            go_roundw
            case rel => exact ⟨true, j + 1, hj2, rfl, by go_num, fun _ => rfl, bel_drewN hB2 _⟩
            case measure => simp [intOf]; omega
theorem lawBetween_walk (n0 d0 : ByteArray) (u : Int) (w : World) (hamb : Amb w) (hu : 0 ≤ u ∧ u ≤ 255) :
    Calls Tryz.prog 6 #[.agg #[.string n0, .string d0], .int .u8 u] w (SmallRes (.bool true) w) := by
  by_cases h : n0.size ≤ 5 ∧ d0.size ≤ 5
  · obtain ⟨h0, h1⟩ := h
    cases hr : RB n0 d0 with
    | false => exact lawBetween_err n0 d0 u w hamb h0 h1 hr
    | true =>
      obtain ⟨q, rfl, rfl, _⟩ := rightB_rat hr
      obtain ⟨k, rfl⟩ : ∃ k : Nat, u = (k : Int) := ⟨u.toNat, by omega⟩
      exact lawBetween_yes q k w hamb h0 h1 (by omega)
  · exact lawBetween_long n0 d0 u w hamb h
end Go.Proofs.YtpafocfpofnkpaaGreatDoor
