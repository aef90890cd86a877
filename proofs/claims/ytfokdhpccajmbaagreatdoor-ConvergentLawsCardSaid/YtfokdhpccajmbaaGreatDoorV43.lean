/- Greater text, out of: V43. -/
import Derived.Test.YtfokdhpccajmbaaGreatDoorV42
import Derived.Test.YtfokdhpccajmbaaGreatDoorK51
namespace Go.Proofs.YtfokdhpccajmbaaGreatDoor
open Go.RowKit Go.PlainAid
attribute [local go_sem] field_rat0 field_rat1
/-- A convergent's numbers, in lowest terms. -/
theorem conv_good {n d : Int} (hd : 0 < d) (hg : Int.gcd n d = 1) (i : Nat) (hi : i < (tms n d).length) : Good d (cv ((tms n d).take (i + 1))) := by
  obtain ⟨n'', d'', k1, _, _, _⟩ := Cv.run n d beg 1 (Cv.beg n d) i hi
  have hb := cv_take hd hg i
  have hdet := k1.det
  have hsq := k1.sq
  rw [(runC_beg _).1, (runC_beg _).2] at hdet
  obtain ⟨s, hs⟩ : ∃ s, (if i % 2 = 0 then -1 else (1 : Int)) = s := ⟨_, rfl⟩
  have hss : s = 1 ∨ s = -1 := by rw [← hs]; split <;> omega
  rw [hs] at hdet
  refine ⟨hb.1, hb.2.1, s * (runC beg ((tms n d).take (i + 1))).u, s * (runC beg ((tms n d).take (i + 1))).b, ?_⟩
  rcases hss with rfl | rfl
  · rw [Int.one_mul, Int.one_mul, Int.mul_comm (cv ((tms n d).take (i + 1))).2]; exact hdet
  · rw [Int.neg_one_mul, Int.neg_one_mul, Int.mul_neg, Int.mul_neg, Int.mul_comm (cv ((tms n d).take (i + 1))).2]; omega
set_option maxRecDepth 100000 in
set_option maxHeartbeats 4000000 in
/-- too long. -/
theorem lawLaws_long (n0 d0 : ByteArray) (w : World) (hamb : Amb w) (h : ¬ (n0.size ≤ 9 ∧ d0.size ≤ 9)) :
    Calls Tryz.prog 7 #[.agg #[.string n0, .string d0]] w (SmallRes (.bool true) w) := by
  have HAMB := Lib.hid hamb
  have hcs : (9 : Int) < (n0.size : Int) ∨ (¬ (9 : Int) < (n0.size : Int) ∧ (9 : Int) < (d0.size : Int)) := by omega
  clear hamb h
  rcases hcs with hc | ⟨hc, hc2⟩
  all_goals
    go_enter Tryz.func7, Tryz.ntmps7
    go_wp2_with fail
    obtain ⟨W, hW⟩ : ∃ W, w.alloc (.cells #[.string n0, .string d0] 24) = W := ⟨_, rfl⟩
    rw [hW]
    obtain ⟨hX, hBW⟩ := B1.of hW
    clear hW
    have HX := Lib.hid (fun wz (hb : Below W.heap.size W wz) => hX.later hb)
    have HB := Lib.hid hBW
    have HA := Lib.hid (fun wz (hb : Below W.heap.size W wz) => HAMB.out.below (bel_chain HB.out hb))
    clear hX hBW
    refine (known04_any W (HA.out _ (Below.refl _ _))).mono ?_
    rintro e w1 ⟨rfl, hb1⟩
    have hz1 := hb1
    obtain ⟨_, x0, x1, _, _⟩ := HX.out _ hz1
    go_wp2_with fail
    refine (known04_any w1 (HA.out _ hz1)).mono ?_
    rintro e w3 ⟨rfl, hb3⟩
    have hz3 := bel_chain hz1 hb3
    go_wp2_with fail
    go_ret
    exact ⟨rfl, bel_chain HB.out hz3⟩
set_option maxRecDepth 100000 in
set_option maxHeartbeats 4000000 in
/-- not right. -/
theorem lawLaws_err (n0 d0 : ByteArray) (w : World) (hamb : Amb w) (h0 : n0.size ≤ 9) (h1 : d0.size ≤ 9) (hr : RB n0 d0 = false) :
    Calls Tryz.prog 7 #[.agg #[.string n0, .string d0]] w (SmallRes (.bool true) w) := by
  have HP1 := Lib.hid (fun w => r4parts_no n0 d0 w (by omega) (by omega) hr)
  have HAMB := Lib.hid hamb
  have l0 : ¬ (9 : Int) < (n0.size : Int) := by omega
  have l1 : ¬ (9 : Int) < (d0.size : Int) := by omega
  clear hamb h0 h1 hr
  go_enter Tryz.func7, Tryz.ntmps7
  go_wp2_with fail
  obtain ⟨W, hW⟩ : ∃ W, w.alloc (.cells #[.string n0, .string d0] 24) = W := ⟨_, rfl⟩
  rw [hW]
  obtain ⟨hX, hBW⟩ := B1.of hW
  clear hW
  have HX := Lib.hid (fun wz (hb : Below W.heap.size W wz) => hX.later hb)
  have HB := Lib.hid hBW
  have HA := Lib.hid (fun wz (hb : Below W.heap.size W wz) => HAMB.out.below (bel_chain HB.out hb))
  clear hX hBW
  refine (known04_any W (HA.out _ (Below.refl _ _))).mono ?_
  rintro e w1 ⟨rfl, hb1⟩
  have hz1 := hb1
  obtain ⟨_, x0, x1, _, _⟩ := HX.out _ hz1
  go_wp2_with fail
  refine (HP1.out w1).mono ?_
  rintro e w2 ⟨rfl, hb2⟩
  have hz2 := bel_chain hz1 hb2
  go_wp2_with fail
  go_ret
  exact ⟨rfl, bel_chain HB.out hz2⟩
set_option maxRecDepth 100000 in
set_option maxHeartbeats 8000000 in
/-- right. -/
theorem lawLaws_yes (q : Rat) (w : World) (hamb : Amb w) (h0 : (itx q.num).size ≤ 9) (h1 : (itx (q.den : Int)).size ≤ 9) :
    Calls Tryz.prog 7 #[.agg #[.string (itx q.num), .string (itx (q.den : Int))]] w (SmallRes (.bool true) w) := by
  have hq : NQ q 9 := ⟨Nat.le_trans (itx_size_ge _) h0, Nat.le_trans (itx_size_ge _) h1⟩
  have hd := rden_pos q
  have hg := rat_gcd q
  have p1 := (nz_le_iff q.num 8).1 hq.1
  have p2 := (nz_le_iff (q.den : Int) 8).1 hq.2
  have l0 : ¬ (9 : Int) < ((itx q.num).size : Int) := by omega
  have l1 : ¬ (9 : Int) < ((itx (q.den : Int)).size : Int) := by omega
  have HP1 := Lib.hid (fun w => r4parts_yes q w (hq.mono (by omega)))
  have hl1 := tms_short14 (n := q.num) (d := (q.den : Int)) (by have := hq.2; omega)
  have HTM := Lib.hid (fun w h => Terms_any q.num (q.den : Int) w h hd (by have := hq.1; omega) (by have := hq.2; omega) (RB_q q (hq.mono (by omega))))
  have HCV := Lib.hid (fun w h => Convergents_any q.num (q.den : Int) w h hd hg (by have := hq.1; omega) (by have := hq.2; omega) (RB_q q (hq.mono (by omega))))
  have hval := fun A m cap w h hin => Value_any q.num (q.den : Int) A m cap w h hin hd hg (by have := hq.1; omega) (by have := hq.2; omega)
  have hne : tms q.num (q.den : Int) ≠ [] := tms_ne hd
  have hlast := convs_last q
  have hcl : (cvs beg (tms q.num (q.den : Int))).length = (tms q.num (q.den : Int)).length := cvs_len _ _
  have hcg : ∀ i, i < (tms q.num (q.den : Int)).length → ((cvs beg (tms q.num (q.den : Int))).map tr).getD i 0 = tr (cv ((tms q.num (q.den : Int)).take (i + 1))) := fun i hi => by
    rw [List.getD_eq_getElem?_getD, List.getElem?_map, cvs_beg _ i hi]; rfl
  have hgd := fun i hi => conv_good (n := q.num) (d := (q.den : Int)) hd hg i hi
  have hct := fun i => cv_take (n := q.num) (d := (q.den : Int)) hd hg i
  have hsd := fun i hi => cvs_sides (n := q.num) (d := (q.den : Int)) i hi
  obtain ⟨T, hT⟩ : ∃ T, tms q.num (q.den : Int) = T := ⟨_, rfl⟩
  rw [hT] at hl1 HTM HCV hval hne hlast hcl hcg hgd hct hsd
  obtain ⟨m, hm⟩ : ∃ m, T.length = m + 1 := ⟨T.length - 1, by have := List.length_pos_iff.2 hne; omega⟩
  have HLAST := Lib.hid (hlast m hm)
  have HM := Lib.hid hm
  have HVL := Lib.hid (fun A cap w h hin => hval A m cap w h hin)
  obtain ⟨CS, hCS⟩ : ∃ CS, (cvs beg T).map tr = CS := ⟨_, rfl⟩
  have HCL := Lib.hid (show CS.length = m + 1 by rw [← hCS, List.length_map, hcl, hm])
  rw [hCS] at HCV HLAST hcg
  have HCG := Lib.hid (fun i (hi : i < m + 1) => show ∃ y : Int × Int, CS.getD i 0 = tr y ∧ (tr y).num = y.1 ∧ ((tr y).den : Int) = y.2 ∧ y.1.natAbs ≤ 3000000000 ∧ 1 ≤ y.2 ∧ y.2 ≤ 1000000000 ∧ (i < m → (i % 2 = 0 → y.1 * (q.den : Int) < q.num * y.2) ∧ (i % 2 ≠ 0 → q.num * y.2 < y.1 * (q.den : Int))) from by
    have g := hgd i (by omega)
    have hr := rat_of_right (show 0 < (cv (T.take (i + 1))).2 from g.1) g.gcd
    have hb := hct i
    exact ⟨cv (T.take (i + 1)), hcg i (by omega), hr.1, hr.2, by omega, by omega, by omega, fun him => hsd i (by omega)⟩)
  have HPR := Lib.hid (fun a b (h1 : a.natAbs ≤ 3000000000) (h2 : b.natAbs ≤ 1000000000) => pr4 (a := a) (b := b) h1 h2)
  have hqb : q.num.natAbs ≤ 1000000000 ∧ (q.den : Int).natAbs ≤ 1000000000 := by omega
  have HAMB := Lib.hid hamb
  clear hamb h0 h1 hq hd hg p1 p2 hl1 hne hlast hcl hT hm hCS hcg hgd hct hsd hval
  go_enter Tryz.func7, Tryz.ntmps7
  go_wp2_with fail
  obtain ⟨W, hW⟩ : ∃ W, w.alloc (.cells #[.string (itx q.num), .string (itx (q.den : Int))] 24) = W := ⟨_, rfl⟩
  rw [hW]
  obtain ⟨hX, hBW⟩ := B1.of hW
  clear hW
  have HX := Lib.hid (fun wz (hb : Below W.heap.size W wz) => hX.later hb)
  have HB := Lib.hid hBW
  have HA := Lib.hid (fun wz (hb : Below W.heap.size W wz) => HAMB.out.below (bel_chain HB.out hb))
  clear hX hBW
  refine (known04_any W (HA.out _ (Below.refl _ _))).mono ?_
  rintro e w1 ⟨rfl, hb1⟩
  have hz1 := hb1
  obtain ⟨_, x0, x1, _, _⟩ := HX.out _ hz1
  go_wp2_with fail
  refine (HP1.out w1).mono ?_
  rintro e w2 ⟨rfl, hb2⟩
  have hz2 := bel_chain hz1 hb2
  clear x0 x1 hb1 hb2
  obtain ⟨_, x0, x1, _, _⟩ := HX.out _ hz2
  go_wp2_with fail
  refine (HTM.out w2 (HA.out _ hz2)).mono ?_
  rintro e w3 ⟨v3, rfl, hown, hb3⟩
  have hz3 := bel_chain hz2 hb3
  obtain ⟨A, cap, rfl, hin3⟩ := hown.ins
  rw [HM.out] at hin3
  have hmm := HM.out
  rw [hmm]
  have HIN3 := Lib.hid hin3
  clear hmm hown x0 x1 hz2 hb3 hin3
  obtain ⟨_, x0, x1, _, _⟩ := HX.out _ hz3
  go_wp2_with fail
  refine (HVL.out A cap w3 (HA.out _ hz3) HIN3.out).mono ?_
  rintro e w4 ⟨rfl, hb4⟩
  have hz4 := bel_chain hz3 hb4
  clear x0 x1 hb4
  obtain ⟨v4, hv4⟩ : ∃ v, w4.alloc (.cells #[.string (itx q.num), .string (itx (q.den : Int))] 24) = v := ⟨_, rfl⟩
  obtain ⟨hY, hBY⟩ := B1.of hv4
  have HY := Lib.hid (fun wz (hb : Below v4.heap.size v4 wz) => hY.later hb)
  have hz5 := bel_chain hz4 hBY
  have HZ5 := Lib.hid hz5
  obtain ⟨_, x0, x1, _, _⟩ := HX.out _ hz5
  rw [← hv4] at x0 x1
  have HV4 := Lib.hid hv4
  clear hv4 hY hBY hz3 hz4
  go_wp2_with fail
  rw [HV4.out]
  refine (HCV.out v4 (HA.out _ hz5)).mono ?_
  rintro e w6 ⟨A6, n6, c6, rfl, hin6, hb6⟩
  have hn6 : n6 = m + 1 := by rw [← hin6.1, HCL.out]
  subst hn6
  have HIN6 := Lib.hid hin6
  have hle := hin6.2.1
  have hcap := hin6.2.2.1
  obtain ⟨b, off, hbe, hbl, hc⟩ := hin6.2.2.2 (by omega)
  subst hbe
  have HC6 := Lib.hid (fun i (hi : i < m + 1) wz (hb : Below w6.heap.size w6 wz) => show (wz.cell? ⟨b, off + i * 2, none⟩ = some (.string (itx (CS.getD i 0).num)) ∧ wz.cell? ⟨b, off + i * 2 + 1, none⟩ = some (.string (itx ((CS.getD i 0).den : Int)))) from by
    obtain ⟨y0, y1⟩ := hc i hi
    exact ⟨(hb.cell (p := ⟨b, off + i * 2, none⟩) hbl).trans y0, (hb.cell (p := ⟨b, off + i * 2 + 1, none⟩) hbl).trans y1⟩)
  have hz6 := bel_chain hz5 hb6
  have HZ6 := Lib.hid hz6
  clear x0 x1 hz5
  obtain ⟨_, x0, x1, _, _⟩ := HX.out _ hz6
  obtain ⟨_, y0, y1, _, _⟩ := HY.out _ hb6
  obtain ⟨z0, z1⟩ := HC6.out m (by omega) _ (Below.refl _ _)
  rw [HLAST.out] at z0 z1
  have hmi : ((m : Int) + 1 - 1) = (m : Int) := by omega
  have hmw : IntKind.i64.wrap ((m : Int)) = (m : Int) := IntWalk.i64_in _ (by omega)
  have hmw2 : IntKind.i64.wrap ((m : Int) + 1 - 1) = (m : Int) := by rw [hmi]; exact hmw
  have hm0 : (0 : Int) ≤ (m : Int) := by omega
  have hm1 : (m : Int) < (m : Int) + 1 := by omega
  have hm2 : (m : Int) ≤ (m : Int) + 1 := by omega
  have hnz : (((m : Int) + 1) == 0) = false := by rw [beq_eq_false_iff_ne]; omega
  have hnz2 : ¬ (m : Int) + 1 = 0 := by omega
  clear hin6 hb6 hz6 hc
  go_wp2_with fail
  try (go_quiet (fail); go_wp2_with fail)
  clear x0 x1 y0 y1 z0 z1
  go_loopw [12] (fun vi wr => ∃ i : Nat, i ≤ m ∧ vi = .int .i64 (i : Int) ∧ Below w6.heap.size w6 wr) (fun vi _ => m + 1 - (intOf vi).toNat)
  case atStart => exact ⟨0, Nat.zero_le _, by first | rfl | (simp; done), by first | exact Below.refl _ _ | exact bel_drewN (Below.refl _ _) _⟩
  case round =>
    obtain ⟨i, hi, rfl, hB6⟩ := hrel
    have HBR := Lib.hid hB6
    clear hB6
    have hw : IntKind.i64.wrap ((i : Int) + 1) = (i : Int) + 1 := IntWalk.i64_in _ (by omega)
    by_cases him : i = m
    · subst him
      have hlt : ¬ (i : Int) + 1 < (i : Int) + 1 := by omega
      go_wp2_with fail
      go_ret
      exact ⟨rfl, bel_chain HB.out (bel_chain HZ6.out HBR.out)⟩
    · have hlt : (i : Int) + 1 < (m : Int) + 1 := by omega
      have hlt2 : (i : Int) < (m : Int) + 1 := by omega
      obtain ⟨z0, z1⟩ := HC6.out i (by omega) _ HBR.out
      obtain ⟨y, hy, hn, hd, b1, b2, b3, hs⟩ := HCG.out i (by omega)
      rw [hy] at z0 z1
      obtain ⟨s1, s2⟩ := hs (by omega)
      have HP2 := Lib.hid (fun w => r4parts_yes (tr y) w ⟨by rw [hn]; exact Nat.le_trans ((nz_le_iff _ 9).2 (by omega)) (by omega), by rw [hd]; exact Nat.le_trans ((nz_le_iff _ 9).2 (by omega)) (by omega)⟩)
      have r1 := HPR.out y.1 (q.den : Int) (by omega) hqb.2
      have r2 := HPR.out q.num y.2 (by omega) (by omega)
      rw [hn, hd] at HP2
      rw [hn] at z0
      rw [hd] at z1
      obtain ⟨P, hP⟩ : ∃ P, y.1 = P := ⟨_, rfl⟩
      obtain ⟨Q, hQ⟩ : ∃ Q, y.2 = Q := ⟨_, rfl⟩
      rw [hP, hQ] at HP2
      rw [hP, hQ] at s1 s2
      rw [hP] at z0 r1
      rw [hQ] at z1 r2
      have v1 : IntKind.i64.wrap (P * (q.den : Int)) = P * (q.den : Int) := IntWalk.i64_in _ (by omega)
      have v2 : IntKind.i64.wrap (q.num * Q) = q.num * Q := IntWalk.i64_in _ (by omega)
      clear hy hn hd b1 b2 b3 hs hP hQ r1 r2
      have HW6 := Lib.hid (And.intro hlt hi)
      by_cases he : i % 2 = 0
      · have s1 := s1 he
        have e1 : (i : Int) % 2 = 0 := by omega
        have e2 : ¬ (i : Int) % 2 = 1 := by omega
        have e3 : (i : Int).tmod 2 = 0 := by rw [Int.tmod_eq_emod_of_nonneg (by omega)]; exact e1
        have s3 : ¬ P * (q.den : Int) ≥ q.num * Q := by omega
        have s4 : ¬ q.num * Q ≤ P * (q.den : Int) := by omega
        clear s2
        go_wp2_with fail
        refine (HP2.out wr).mono ?_
        rintro e w7 ⟨rfl, hb7⟩
        have HB7 := Lib.hid (bel_chain HBR.out hb7)
        clear z0 z1 hb7
        go_wp2_with fail
        try (go_quiet (fail); go_wp2_with fail)
        go_roundw
        case rel => exact ⟨i + 1, by omega, by go_num, by first | exact HB7.out | exact bel_drewN HB7.out _⟩
        case measure => simp [intOf]; omega
      · have s2 := s2 he
        have e1 : (i : Int) % 2 = 1 := by omega
        have e2 : ¬ (i : Int) % 2 = 0 := by omega
        have e3 : (i : Int).tmod 2 = 1 := by rw [Int.tmod_eq_emod_of_nonneg (by omega)]; exact e1
        have s3 : ¬ P * (q.den : Int) ≤ q.num * Q := by omega
        clear s1
        go_wp2_with fail
        refine (HP2.out wr).mono ?_
        rintro e w7 ⟨rfl, hb7⟩
        have HB7 := Lib.hid (bel_chain HBR.out hb7)
        clear z0 z1 hb7
        go_wp2_with fail
        try (go_quiet (fail); go_wp2_with fail)
        go_roundw
        case rel => exact ⟨i + 1, by omega, by go_num, by first | exact HB7.out | exact bel_drewN HB7.out _⟩
        case measure => simp [intOf]; omega
theorem lawLaws_walk (n0 d0 : ByteArray) (w : World) (hamb : Amb w) :
    Calls Tryz.prog 7 #[.agg #[.string n0, .string d0]] w (SmallRes (.bool true) w) := by
  by_cases h : n0.size ≤ 9 ∧ d0.size ≤ 9
  · obtain ⟨h0, h1⟩ := h
    cases hr : RB n0 d0 with
    | false => exact lawLaws_err n0 d0 w hamb h0 h1 hr
    | true =>
      obtain ⟨q, rfl, rfl, _⟩ := rightB_rat hr
      exact lawLaws_yes q w hamb h0 h1
  · exact lawLaws_long n0 d0 w hamb h
end Go.Proofs.YtfokdhpccajmbaaGreatDoor
