/- The walk of the program's Bezout. -/
import Derived.Test.YtebcmefbpfcgmaaGreatDoorW3
namespace Go.Proofs.YtebcmefbpfcgmaaGreatDoor
open Go.RowKit Go.PlainAid

theorem bezG_zero (a : Int) : bezG a 0 = (a.natAbs : Int) := by unfold bezG; rw [bezL_zero]
theorem nz_le_of {x y : Int} {n : Nat} (h : x.natAbs ≤ y.natAbs) (hy : nz y ≤ n) : nz x ≤ n := Nat.le_trans (nz_mono h) hy
theorem nz_max {x a b : Int} {n : Nat} (h : x.natAbs ≤ max a.natAbs b.natAbs) (ha : nz a ≤ n) (hb : nz b ≤ n) : nz x ≤ n := by
  rcases Nat.le_total a.natAbs b.natAbs with h1 | h1
  · exact nz_le_of (by omega) hb
  · exact nz_le_of (by omega) ha
theorem sign_bd (a : Int) : -1 ≤ a.sign ∧ a.sign ≤ 1 := by
  rcases Int.lt_trichotomy a 0 with h | h | h
  · rw [Int.sign_eq_neg_one_of_neg h]; decide
  · rw [h]; decide
  · rw [Int.sign_eq_one_of_pos h]; decide
set_option maxRecDepth 100000 in
set_option maxHeartbeats 2000000 in
/-- whole.Bezout. -/
theorem wbezout_any (a b : Int) (w : World) (hamb : Amb w) (ha : nz a ≤ 100000) (hb : nz b ≤ 100000) :
    Calls Tryz.prog 16 #[.string (itx a), .string (itx b)] w (SmallRes (.tuple #[.string (itx (bezG a b)), .string (itx (bezX a b)), .string (itx (bezY a b))]) w) := by
  by_cases hb0 : b = 0
  · subst hb0
    have h0 := itx_zero_same
    have HG := Lib.hid (bezG_zero a)
    have HX := Lib.hid (show bezX a 0 = a.sign by unfold bezX; rw [if_pos rfl])
    have HY := Lib.hid (show bezY a 0 = 0 by unfold bezY; rw [if_pos rfl])
    have hs1 := (sign_bd a).1
    have hs2 := (sign_bd a).2
    go_enter Tryz.func16, Tryz.ntmps16
    go_wp2_with fail
    refine (abs_any a _ (by omega)).mono ?_
    rintro e w1 ⟨rfl, hb1⟩
    go_wp2_with fail
    refine (sign_any a _ (by omega)).mono ?_
    rintro e w2 ⟨rfl, hb2⟩
    have hB2 := bel_chain hb1 hb2
    go_wp2_with fail
    refine (wof_any a.sign _ (hamb.below hB2) (by omega) (by omega)).mono ?_
    rintro e w3 ⟨rfl, hb3⟩
    go_wp2_with fail
    go_ret3
    exact ⟨by rw [HG.out, HX.out, HY.out, itx_nat, itx_lit_zero]; rfl, bel_chain hB2 hb3⟩
  · have h0 := itx_zero_test hb0
    have HB0 := Lib.hid hb0
    have HSTART := Lib.hid (BezAt.start (a := a) hb0)
    have HL1 := Lib.hid itx_lit_one
    have HL0 := Lib.hid itx_lit_zero
    have HU := Lib.hid (bezU_dvd (a := a) hb0).2
    have HGL := Lib.hid (show (bezG a b).natAbs ≤ max a.natAbs b.natAbs by
      obtain ⟨w', h⟩ := BezAt.fin _ a b 1 0 (Nat.le_refl _) (BezAt.start (a := a) hb0)
      have := h.rb
      unfold bezG; omega)
    have HGP := Lib.hid (bezG_pos (a := a) hb0)
    have HBY := Lib.hid (bez_by (a := a) hb0)
    have HXL := Lib.hid (bezX_le (a := a) hb0)
    have HXE := Lib.hid (show bezX a b = fr (bezU a b) (fq (b.natAbs : Int) (bezG a b)) by unfold bezX; rw [if_neg hb0])
    have HYE := Lib.hid (show bezY a b = fq (bezG a b - a * bezX a b) b by unfold bezY; rw [if_neg hb0])
    clear hb0
    go_enter Tryz.func16, Tryz.ntmps16
    go_wp2_with fail
    go_loopg [7, 8, 9, 10] b.natAbs (fun gk vr vs vu vw wr => ∃ r s u v : Int, gk = s.natAbs ∧ vr = .string (itx r) ∧ vs = .string (itx s) ∧ vu = .string (itx u) ∧ vw = .string (itx v) ∧ Hid (BezAt a b r s u v) ∧ Hid (bezL r s u v = bezL a b 1 0) ∧ Below w.heap.size w wr)
    case atStart => exact ⟨a, b, 1, 0, rfl, rfl, rfl, by rw [HL1.out], by rw [HL0.out], HSTART, Lib.hid rfl, Below.refl _ _⟩
    case round =>
      obtain ⟨r, s, u, v, rfl, rfl, rfl, rfl, rfl, HA, HL, hB⟩ := hrel
      have hA1 := hamb.below hB
      by_cases hs0 : s = 0
      · subst hs0
        have h1 := itx_zero_same
        have h2 : (!(itx 0).toList == [48]) = false := by rw [h1]; rfl
        have hre : (bezL a b 1 0).1 = r := by rw [← HL.out, bezL_zero]
        have hue : (bezL a b 1 0).2 = u := by rw [← HL.out, bezL_zero]
        have hnr : nz r ≤ 100000 := nz_max HA.out.rb ha hb
        have hnu : nz u ≤ 100000 := nz_le_of HA.out.ub hb
        have HGE := Lib.hid (show bezG a b = (r.natAbs : Int) by unfold bezG; rw [hre])
        have HUE := Lib.hid (show bezU a b = if r < 0 then -u else u by unfold bezU; rw [hre, hue])
        clear hre hue HL HA h1
        go_wp2_with fail
        refine (sign_any r _ (by omega)).mono ?_
        rintro e w1 ⟨rfl, hb1⟩
        have hB1 := bel_chain hB hb1
        go_upto_if 45 with fail
        go_cut [7, 9] (fun s7 s9 wx => s7 = .string (itx (bezG a b)) ∧ s9 = .string (itx (bezU a b)) ∧ Below w.heap.size w wx)
        case first =>
          by_cases hr : r < 0
          · rw [decide_eq_true hr]
            have E1 := Lib.hid (show bezG a b = -r by rw [HGE.out]; omega)
            have E2 := Lib.hid (show bezU a b = -u by rw [HUE.out, if_pos hr])
            clear hr
            go_wp2_with fail
            refine (neg_any r _ (by omega)).mono ?_
            rintro e w2 ⟨rfl, hb2⟩
            have hB2 := bel_chain hB1 hb2
            go_wp2_with fail
            refine (neg_any u _ (by omega)).mono ?_
            rintro e w3 ⟨rfl, hb3⟩
            go_wp2_with fail
            go_meet
            exact ⟨by rw [E1.out], by rw [E2.out], bel_chain hB2 hb3⟩
          · rw [decide_eq_false hr]
            have E1 := Lib.hid (show bezG a b = r by rw [HGE.out]; omega)
            have E2 := Lib.hid (show bezU a b = u by rw [HUE.out, if_neg hr])
            clear hr
            go_wp2_with fail
            go_meet
            exact ⟨by rw [E1.out], by rw [E2.out], hB1⟩
        case rest =>
          obtain ⟨rfl, rfl, hBc⟩ := hcut
          have hnG : nz (bezG a b) ≤ 100000 := nz_max HGL.out ha hb
          have hnU : nz (bezU a b) ≤ 100000 := nz_le_of HU.out hb
          have hnX : nz (bezX a b) ≤ 100000 := nz_le_of HXL.out hb
          have hG0 : bezG a b ≠ 0 := by have := HGP.out; omega
          have hBy0 : fq (b.natAbs : Int) (bezG a b) ≠ 0 := by have := HBY.out.2; omega
          have hnBy : nz (fq (b.natAbs : Int) (bezG a b)) ≤ 100001 := Nat.le_trans (nz_succ (fq_le _ _)) (by rw [nz_nat]; unfold nz at hb; omega)
          have hnb : nz (b.natAbs : Int) ≤ 100000 := by rw [nz_nat]; exact hb
          have hXE := HXE.out
          have hb0 := HB0.out
          have hnAX := nz_mul a (bezX a b)
          have hnS := nz_sub (bezG a b) (a * bezX a b)
          have HBA := Lib.hid (itx_nat b.natAbs)
          clear hB hB1 hb1 h2 HGE HUE
          go_wp2_with fail
          refine (abs_any b _ (by omega)).mono ?_
          rintro e w2 ⟨rfl, hb2⟩
          rw [← HBA.out]
          have hB2 := bel_chain hBc hb2
          have hA2 := hamb.below hB2
          clear hBc hb2
          go_wp2_with fail
          refine (wdivmod_any (b.natAbs : Int) (bezG a b) _ hA2 hG0 (by omega) (by omega)).mono ?_
          rintro e w3 ⟨rfl, hb3⟩
          have hB3 := bel_chain hB2 hb3
          have hA3 := hA2.below hb3
          clear hB2 hA2 hb3
          go_wp2_with fail
          refine (wdivmod_any (bezU a b) (fq (b.natAbs : Int) (bezG a b)) _ hA3 hBy0 (by omega) (by omega)).mono ?_
          rintro e w4 ⟨rfl, hb4⟩
          rw [← hXE]
          have hB4 := bel_chain hB3 hb4
          have hA4 := hA3.below hb4
          clear hB3 hA3 hb4
          clear hXE
          generalize fr (b.natAbs : Int) (bezG a b) = z1 at *
          generalize fq (bezU a b) (fq (b.natAbs : Int) (bezG a b)) = z2 at *
          generalize fq (b.natAbs : Int) (bezG a b) = z3 at *
          generalize bezX a b = X at *
          generalize bezG a b = G at *
          go_wp2_with fail
          refine (wmul_any a X _ hA4 (by omega) (by omega)).mono ?_
          rintro e w5 ⟨rfl, hb5⟩
          have hB5 := bel_chain hB4 hb5
          have hA5 := hA4.below hb5
          clear hB4 hA4 hb5
          go_wp2_with fail
          refine (wsub_any G (a * X) _ hA5 (by omega) (by omega)).mono ?_
          rintro e w6 ⟨rfl, hb6⟩
          have hB6 := bel_chain hB5 hb6
          have hA6 := hA5.below hb6
          clear hB5 hA5 hb6
          go_wp2_with fail
          refine (wdivmod_any (G - a * X) b _ hA6 hb0 (by omega) (by omega)).mono ?_
          rintro e w7 ⟨rfl, hb7⟩
          go_wp2_with fail
          go_ret3
          exact ⟨by rw [HYE.out]; rfl, bel_chain hB6 hb7⟩
      · have h1 := itx_zero_test hs0
        have h2 : (!(itx s).toList == [48]) = true := by rw [h1]; rfl
        have hnr : nz r ≤ 100000 := nz_max HA.out.rb ha hb
        have hns : nz s ≤ 100000 := nz_le_of HA.out.sb hb
        have hnu : nz u ≤ 100000 := nz_le_of HA.out.ub hb
        have hnv : nz v ≤ 100000 := nz_le_of HA.out.wb hb
        have hnq : nz (fq r s) ≤ 100001 := Nat.le_trans (nz_succ (fq_le r s)) (by omega)
        have hnqv := nz_mul (fq r s) v
        have HA2 := Lib.hid (HA.out.step hs0)
        have HL2 := Lib.hid (show bezL s (fr r s) v (u - fq r s * v) = bezL a b 1 0 by rw [← bezL_step r u v hs0]; exact HL.out)
        have HLT := Lib.hid (fr_lt r hs0)
        clear h1 HL HA
        go_wp2_with fail
        refine (wdivmod_any r s _ hA1 hs0 (by omega) (by omega)).mono ?_
        rintro e w2 ⟨rfl, hb2⟩
        have hB2 := bel_chain hB hb2
        have hA2 := hA1.below hb2
        clear hB hA1 hb2
        generalize fq r s = q at *
        generalize fr r s = t at *
        go_wp2_with fail
        refine (wmul_any q v _ hA2 (by omega) (by omega)).mono ?_
        rintro e w3 ⟨rfl, hb3⟩
        have hB3 := bel_chain hB2 hb3
        have hA3 := hA2.below hb3
        clear hB2 hA2 hb3
        go_wp2_with fail
        refine (wsub_any u (q * v) _ hA3 (by omega) (by omega)).mono ?_
        rintro e w4 ⟨rfl, hb4⟩
        go_wp2_with fail
        go_roundg t.natAbs
        case measure => exact HLT.out
        case rel => exact ⟨s, t, v, u - q * v, rfl, rfl, rfl, rfl, rfl, HA2, HL2, bel_chain hB3 hb4⟩
end Go.Proofs.YtebcmefbpfcgmaaGreatDoor
