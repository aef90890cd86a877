/- The second chapter's reference: Gcd, Lcm, Bezout. -/
import Derived.Test.YtjglooeljdpadaaGreatDoorRH
import Derived.Test.YtjglooeljdpadaaGreatDoorW4
import Derived.Deep.DeepCutAuto
namespace Go.Proofs.YtjglooeljdpadaaGreatDoor
open Go.RowKit Go.PlainAid

theorem fq_nat (x y : Nat) : fq (x : Int) (y : Int) = ((x / y : Nat) : Int) := by unfold fq; rw [if_pos (by omega), Int.natCast_ediv]
theorem fr_nat (x y : Nat) : fr (x : Int) (y : Int) = ((x % y : Nat) : Int) := by unfold fr; rw [if_pos (by omega), Int.natCast_emod]
theorem r2divmod_nat (x y : Nat) (w : World) (hamb : Amb w) (hy : y ≠ 0) (hx : Lib.nDigits x ≤ 90000) (hy2 : Lib.nDigits y ≤ 90000) :
    Calls Tryz.prog 18 #[.string (dec x), .string (dec y)] w (SmallRes (.tuple #[.string (dec (x / y)), .string (dec (x % y))]) w) := by
  have h := r2divmod_any (x : Int) (y : Int) w hamb (by omega) (by rw [nz_nat]; exact hx) (by rw [nz_nat]; exact hy2)
  rw [fq_nat, fr_nat] at h
  simp only [itx_nat] at h
  exact h
set_option maxRecDepth 100000 in
set_option maxHeartbeats 1000000 in
/-- schismaref02.Gcd. -/
theorem r2gcd_any (a b : Int) (w : World) (hamb : Amb w) (ha : nz a ≤ 90000) (hb : nz b ≤ 90000) :
    Calls Tryz.prog 22 #[.string (itx a), .string (itx b)] w (SmallRes (.string (dec (Int.gcd a b))) w) := by
  have hA : Lib.nDigits a.natAbs ≤ 90000 := ha
  have hB : Lib.nDigits b.natAbs ≤ 90000 := hb
  have HG := Lib.hid (show Int.gcd a b = Nat.gcd a.natAbs b.natAbs from rfl)
  go_enter Tryz.func22, Tryz.ntmps22
  go_wp2_with fail
  refine (r2abs_any a _ (by omega)).mono ?_
  rintro e w1 ⟨rfl, hb1⟩
  go_wp2_with fail
  refine (r2abs_any b _ (by omega)).mono ?_
  rintro e w2 ⟨rfl, hb2⟩
  have hB2 := bel_chain hb1 hb2
  clear hb1 hb2
  generalize a.natAbs = x0 at *
  generalize b.natAbs = y0 at *
  go_wp2_with fail
  go_loopg [0, 1] y0 (fun gk vx vy wr => ∃ x y : Nat, gk = y ∧ vx = .string (dec x) ∧ vy = .string (dec y) ∧ Lib.nDigits x ≤ 90000 ∧ Lib.nDigits y ≤ 90000 ∧ Hid (Nat.gcd x y = Nat.gcd x0 y0) ∧ Below w.heap.size w wr)
  case atStart => exact ⟨x0, y0, rfl, rfl, rfl, hA, hB, Lib.hid rfl, hB2⟩
  case round =>
    obtain ⟨x, y, rfl, rfl, rfl, hx, hy, HXY, hBr⟩ := hrel
    by_cases hy0 : gk = 0
    · subst hy0
      have h1 := dec_zero_same
      have h2 : (!(dec 0).toList == [48]) = false := by rw [h1]; rfl
      have HE := Lib.hid (show Int.gcd a b = x by rw [HG.out, ← HXY.out, Nat.gcd_zero_right])
      clear h1
      go_wp2_with fail
      go_ret
      exact ⟨by rw [HE.out]; rfl, hBr⟩
    · have h1 := dec_zero_test hy0
      have h2 : (!(dec gk).toList == [48]) = true := by rw [h1]; rfl
      have hm := Nat.mod_lt x (Nat.pos_of_ne_zero hy0)
      have HM := Lib.hid hm
      have HG2 := Lib.hid (show Nat.gcd gk (x % gk) = Nat.gcd x0 y0 by rw [← HXY.out, Nat.gcd_comm x gk, Nat.gcd_rec gk x, Nat.gcd_comm])
      have HD := Lib.hid (r2divmod_nat x gk wr (hamb.below hBr) hy0 hx hy)
      have hr : Lib.nDigits (x % gk) ≤ 90000 := Nat.le_trans (nd_mono (Nat.le_of_lt hm)) hy
      clear h1 hm HXY
      go_wp2_with fail
      refine HD.out.mono ?_
      rintro e w3 ⟨rfl, hb3⟩
      go_wp2_with fail
      go_roundg (x % gk)
      case measure => exact HM.out
      case rel => exact ⟨gk, x % gk, rfl, rfl, rfl, hy, hr, HG2, bel_chain hBr hb3⟩
theorem lcm_quot (m n : Nat) (hm : 0 < m) : m / Nat.gcd m n * n = Nat.lcm m n := by
  obtain ⟨k, hk⟩ := Nat.gcd_dvd_left m n
  have hg := Nat.gcd_pos_of_pos_left n hm
  unfold Nat.lcm
  generalize Nat.gcd m n = g at *
  subst hk
  rw [Nat.mul_div_cancel_left _ hg, Nat.mul_assoc, Nat.mul_div_cancel_left _ hg]
set_option maxRecDepth 100000 in
set_option maxHeartbeats 1000000 in
/-- schismaref02.Lcm. -/
theorem r2lcm_any (a b : Int) (w : World) (hamb : Amb w) (ha : nz a ≤ 90000) (hb : nz b ≤ 90000) :
    Calls Tryz.prog 24 #[.string (itx a), .string (itx b)] w (SmallRes (.string (dec (Int.lcm a b))) w) := by
  have HG := Lib.hid (show Int.lcm a b = Nat.lcm a.natAbs b.natAbs from rfl)
  by_cases h0 : a = 0 ∨ b = 0
  · have HR := Lib.hid (show dec (Int.lcm a b) = ⟨#[48]⟩ by
      rw [HG.out]
      rcases h0 with rfl | rfl
      · rw [show (0 : Int).natAbs = 0 from rfl, Nat.lcm_zero_left, dec0]
      · rw [show (0 : Int).natAbs = 0 from rfl, Nat.lcm_zero_right, dec0])
    rw [HR.out]
    by_cases ha0 : a = 0
    · have h1 : ((itx a).toList == [48]) = true := by rw [ha0]; exact itx_zero_same
      clear ha0 h0
      go_enter Tryz.func24, Tryz.ntmps24
      go_wp2_with fail
      go_ret
      exact ⟨rfl, Below.refl _ _⟩
    · have h1 := itx_zero_test ha0
      have h2 : ((itx b).toList == [48]) = true := by
        rcases h0 with h | h
        · exact absurd h ha0
        · rw [h]; exact itx_zero_same
      clear ha0 h0
      go_enter Tryz.func24, Tryz.ntmps24
      go_wp2_with fail
      go_ret
      exact ⟨rfl, Below.refl _ _⟩
  · have ha0 : a ≠ 0 := fun e => h0 (.inl e)
    have h1 := itx_zero_test ha0
    have h2 := itx_zero_test (fun e => h0 (.inr e) : b ≠ 0)
    have hg0 : Int.gcd a b ≠ 0 := by
      have := Int.gcd_pos_of_ne_zero_left b ha0; omega
    have HLQ := Lib.hid (show a.natAbs / Int.gcd a b * b.natAbs = Int.lcm a b from lcm_quot a.natAbs b.natAbs (by omega))
    have HGL := Lib.hid (show Lib.nDigits (Int.gcd a b) ≤ 90000 from Nat.le_trans (nd_mono (Nat.le_of_dvd (by omega) (Int.gcd_dvd_natAbs_left a b))) ha)
    have HQL := Lib.hid (show Lib.nDigits (a.natAbs / Int.gcd a b) ≤ 90000 from Nat.le_trans (nd_mono (Nat.div_le_self _ _)) ha)
    have HA := Lib.hid (show Lib.nDigits a.natAbs ≤ 90000 from ha)
    have HB := Lib.hid (show Lib.nDigits b.natAbs ≤ 90000 from hb)
    clear h0 ha0
    go_enter Tryz.func24, Tryz.ntmps24
    go_wp2_with fail
    refine (r2abs_any a _ (by omega)).mono ?_
    rintro e w1 ⟨rfl, hb1⟩
    have hA1 := hamb.below hb1
    go_wp2_with fail
    refine (r2gcd_any a b _ hA1 ha hb).mono ?_
    rintro e w2 ⟨rfl, hb2⟩
    have hB2 := bel_chain hb1 hb2
    have hA2 := hA1.below hb2
    clear hb1 hb2 hA1
    have HD := Lib.hid (r2divmod_nat a.natAbs (Int.gcd a b) w2 hA2 hg0 HA.out HGL.out)
    go_wp2_with fail
    refine HD.out.mono ?_
    rintro e w3 ⟨rfl, hb3⟩
    have hB3 := bel_chain hB2 hb3
    have hA3 := hA2.below hb3
    clear HD hB2 hA2 hb3
    go_wp2_with fail
    refine (r2abs_any b _ (by omega)).mono ?_
    rintro e w4 ⟨rfl, hb4⟩
    have hB4 := bel_chain hB3 hb4
    have hA4 := hA3.below hb4
    clear hB3 hA3 hb4
    have hml := r2mul_any ((a.natAbs / Int.gcd a b : Nat) : Int) ((b.natAbs : Nat) : Int) w4 hA4 (by rw [nz_nat]; have := HQL.out; omega) (by rw [nz_nat]; have := HB.out; omega)
    rw [← Int.natCast_mul, HLQ.out] at hml
    simp only [itx_nat] at hml
    have HML := Lib.hid hml
    clear hml
    go_wp2_with fail
    refine HML.out.mono ?_
    rintro e w5 ⟨rfl, hb5⟩
    go_wp2_with fail
    go_ret
    exact ⟨rfl, bel_chain hB4 hb5⟩
set_option maxRecDepth 100000 in
set_option maxHeartbeats 4000000 in
/-- schismaref02.Bezout. -/
theorem r2bezout_any (a b : Int) (w : World) (hamb : Amb w) (ha : nz a ≤ 20000) (hb : nz b ≤ 20000) :
    Calls Tryz.prog 20 #[.string (itx a), .string (itx b)] w (SmallRes (.tuple #[.string (itx (bezG a b)), .string (itx (bezX a b)), .string (itx (bezY a b))]) w) := by
  by_cases hb0 : b = 0
  · subst hb0
    have h0 := itx_zero_same
    have HG := Lib.hid (bezG_zero a)
    have HX := Lib.hid (show bezX a 0 = a.sign by unfold bezX; rw [if_pos rfl])
    have HY := Lib.hid (show bezY a 0 = 0 by unfold bezY; rw [if_pos rfl])
    have hs1 := (sign_bd a).1
    have hs2 := (sign_bd a).2
    go_enter Tryz.func20, Tryz.ntmps20
    go_wp2_with fail
    refine (r2abs_any a _ (by omega)).mono ?_
    rintro e w1 ⟨rfl, hb1⟩
    go_wp2_with fail
    refine (r2sign_any a _ (by omega)).mono ?_
    rintro e w2 ⟨rfl, hb2⟩
    have hB2 := bel_chain hb1 hb2
    go_wp2_with fail
    refine (r2of_any a.sign _ (hamb.below hB2) (by omega) (by omega)).mono ?_
    rintro e w3 ⟨rfl, hb3⟩
    go_wp2_with fail
    go_ret3
    exact ⟨by rw [HG.out, HX.out, HY.out, itx_nat, itx_lit_zero]; rfl, bel_chain hB2 hb3⟩
  · have h0 := itx_zero_test hb0
    have HB0 := Lib.hid hb0
    have HSTART := Lib.hid (BezAt.start (a := a) hb0)
    have HL1 := Lib.hid itx_lit_one
    have HL0 := Lib.hid itx_lit_zero
    have HU := Lib.hid (bezU_dvd (a := a) hb0).2
    have HGL := Lib.hid (show (bezG a b).natAbs ≤ max a.natAbs b.natAbs by
      obtain ⟨w', h⟩ := BezAt.fin _ a b 1 0 (Nat.le_refl _) (BezAt.start (a := a) hb0)
      have := h.rb
      unfold bezG; omega)
    have HGP := Lib.hid (bezG_pos (a := a) hb0)
    have HBY := Lib.hid (bez_by (a := a) hb0)
    have HXL := Lib.hid (bezX_le (a := a) hb0)
    have HXE := Lib.hid (show bezX a b = fr (bezU a b) (fq (b.natAbs : Int) (bezG a b)) by unfold bezX; rw [if_neg hb0])
    have HYE := Lib.hid (show bezY a b = fq (bezG a b - a * bezX a b) b by unfold bezY; rw [if_neg hb0])
    clear hb0
    go_enter Tryz.func20, Tryz.ntmps20
    go_wp2_with fail
    go_loopg [7, 8, 9, 10] b.natAbs (fun gk vr vs vu vw wr => ∃ r s u v : Int, gk = s.natAbs ∧ vr = .string (itx r) ∧ vs = .string (itx s) ∧ vu = .string (itx u) ∧ vw = .string (itx v) ∧ Hid (BezAt a b r s u v) ∧ Hid (bezL r s u v = bezL a b 1 0) ∧ Below w.heap.size w wr)
    case atStart => exact ⟨a, b, 1, 0, rfl, rfl, rfl, by rw [HL1.out], by rw [HL0.out], HSTART, Lib.hid rfl, Below.refl _ _⟩
    case round =>
      obtain ⟨r, s, u, v, rfl, rfl, rfl, rfl, rfl, HA, HL, hB⟩ := hrel
      have hA1 := hamb.below hB
      by_cases hs0 : s = 0
      · subst hs0
        have h1 := itx_zero_same
        have h2 : (!(itx 0).toList == [48]) = false := by rw [h1]; rfl
        have hre : (bezL a b 1 0).1 = r := by rw [← HL.out, bezL_zero]
        have hue : (bezL a b 1 0).2 = u := by rw [← HL.out, bezL_zero]
        have hnr : nz r ≤ 20000 := nz_max HA.out.rb ha hb
        have hnu : nz u ≤ 20000 := nz_le_of HA.out.ub hb
        have HGE := Lib.hid (show bezG a b = (r.natAbs : Int) by unfold bezG; rw [hre])
        have HUE := Lib.hid (show bezU a b = if r < 0 then -u else u by unfold bezU; rw [hre, hue])
        clear hre hue HL HA h1
        go_wp2_with fail
        refine (r2sign_any r _ (by omega)).mono ?_
        rintro e w1 ⟨rfl, hb1⟩
        have hB1 := bel_chain hB hb1
        go_upto_if 42 with fail
        go_cut [7, 9] (fun s7 s9 wx => s7 = .string (itx (bezG a b)) ∧ s9 = .string (itx (bezU a b)) ∧ Below w.heap.size w wx)
        case first =>
          by_cases hr : r < 0
          · rw [decide_eq_true hr]
            have E1 := Lib.hid (show bezG a b = -r by rw [HGE.out]; omega)
            have E2 := Lib.hid (show bezU a b = -u by rw [HUE.out, if_pos hr])
            clear hr
            go_wp2_with fail
            refine (r2neg_any r _ (by omega)).mono ?_
            rintro e w2 ⟨rfl, hb2⟩
            have hB2 := bel_chain hB1 hb2
            go_wp2_with fail
            refine (r2neg_any u _ (by omega)).mono ?_
            rintro e w3 ⟨rfl, hb3⟩
            go_wp2_with fail
            go_meet
            exact ⟨by rw [E1.out], by rw [E2.out], bel_chain hB2 hb3⟩
          · rw [decide_eq_false hr]
            have E1 := Lib.hid (show bezG a b = r by rw [HGE.out]; omega)
            have E2 := Lib.hid (show bezU a b = u by rw [HUE.out, if_neg hr])
            clear hr
            go_wp2_with fail
            go_meet
            exact ⟨by rw [E1.out], by rw [E2.out], hB1⟩
        case rest =>
          obtain ⟨rfl, rfl, hBc⟩ := hcut
          have hnG : nz (bezG a b) ≤ 20000 := nz_max HGL.out ha hb
          have hnU : nz (bezU a b) ≤ 20000 := nz_le_of HU.out hb
          have hnX : nz (bezX a b) ≤ 20000 := nz_le_of HXL.out hb
          have hG0 : bezG a b ≠ 0 := by have := HGP.out; omega
          have hBy0 : fq (b.natAbs : Int) (bezG a b) ≠ 0 := by have := HBY.out.2; omega
          have hnBy : nz (fq (b.natAbs : Int) (bezG a b)) ≤ 20001 := Nat.le_trans (nz_succ (fq_le _ _)) (by rw [nz_nat]; unfold nz at hb; omega)
          have hnb : nz (b.natAbs : Int) ≤ 20000 := by rw [nz_nat]; exact hb
          have hXE := HXE.out
          have hb0 := HB0.out
          have hnAX := nz_mul a (bezX a b)
          have hnS := nz_sub (bezG a b) (a * bezX a b)
          have HBA := Lib.hid (itx_nat b.natAbs)
          clear hB hB1 hb1 h2 HGE HUE
          go_wp2_with fail
          refine (r2abs_any b _ (by omega)).mono ?_
          rintro e w2 ⟨rfl, hb2⟩
          rw [← HBA.out]
          have hB2 := bel_chain hBc hb2
          have hA2 := hamb.below hB2
          clear hBc hb2
          go_wp2_with fail
          refine (r2divmod_any (b.natAbs : Int) (bezG a b) _ hA2 hG0 (by omega) (by omega)).mono ?_
          rintro e w3 ⟨rfl, hb3⟩
          have hB3 := bel_chain hB2 hb3
          have hA3 := hA2.below hb3
          clear hB2 hA2 hb3
          go_wp2_with fail
          refine (r2divmod_any (bezU a b) (fq (b.natAbs : Int) (bezG a b)) _ hA3 hBy0 (by omega) (by omega)).mono ?_
          rintro e w4 ⟨rfl, hb4⟩
          rw [← hXE]
          have hB4 := bel_chain hB3 hb4
          have hA4 := hA3.below hb4
          clear hB3 hA3 hb4
          clear hXE
          generalize fr (b.natAbs : Int) (bezG a b) = z1 at *
          generalize fq (bezU a b) (fq (b.natAbs : Int) (bezG a b)) = z2 at *
          generalize fq (b.natAbs : Int) (bezG a b) = z3 at *
          generalize bezX a b = X at *
          generalize bezG a b = G at *
          go_wp2_with fail
          refine (r2mul_any a X _ hA4 (by omega) (by omega)).mono ?_
          rintro e w5 ⟨rfl, hb5⟩
          have hB5 := bel_chain hB4 hb5
          have hA5 := hA4.below hb5
          clear hB4 hA4 hb5
          go_wp2_with fail
          refine (r2sub_any G (a * X) _ hA5 (by omega) (by omega)).mono ?_
          rintro e w6 ⟨rfl, hb6⟩
          have hB6 := bel_chain hB5 hb6
          have hA6 := hA5.below hb6
          clear hB5 hA5 hb6
          go_wp2_with fail
          refine (r2divmod_any (G - a * X) b _ hA6 hb0 (by omega) (by omega)).mono ?_
          rintro e w7 ⟨rfl, hb7⟩
          go_wp2_with fail
          go_ret3
          exact ⟨by rw [HYE.out]; rfl, bel_chain hB6 hb7⟩
      · have h1 := itx_zero_test hs0
        have h2 : (!(itx s).toList == [48]) = true := by rw [h1]; rfl
        have hnr : nz r ≤ 20000 := nz_max HA.out.rb ha hb
        have hns : nz s ≤ 20000 := nz_le_of HA.out.sb hb
        have hnu : nz u ≤ 20000 := nz_le_of HA.out.ub hb
        have hnv : nz v ≤ 20000 := nz_le_of HA.out.wb hb
        have hnq : nz (fq r s) ≤ 20001 := Nat.le_trans (nz_succ (fq_le r s)) (by omega)
        have hnqv := nz_mul (fq r s) v
        have HA2 := Lib.hid (HA.out.step hs0)
        have HL2 := Lib.hid (show bezL s (fr r s) v (u - fq r s * v) = bezL a b 1 0 by rw [← bezL_step r u v hs0]; exact HL.out)
        have HLT := Lib.hid (fr_lt r hs0)
        clear h1 HL HA
        go_wp2_with fail
        refine (r2divmod_any r s _ hA1 hs0 (by omega) (by omega)).mono ?_
        rintro e w2 ⟨rfl, hb2⟩
        have hB2 := bel_chain hB hb2
        have hA2 := hA1.below hb2
        clear hB hA1 hb2
        generalize fq r s = q at *
        generalize fr r s = t at *
        go_wp2_with fail
        refine (r2mul_any q v _ hA2 (by omega) (by omega)).mono ?_
        rintro e w3 ⟨rfl, hb3⟩
        have hB3 := bel_chain hB2 hb3
        have hA3 := hA2.below hb3
        clear hB2 hA2 hb3
        go_wp2_with fail
        refine (r2sub_any u (q * v) _ hA3 (by omega) (by omega)).mono ?_
        rintro e w4 ⟨rfl, hb4⟩
        go_wp2_with fail
        go_roundg t.natAbs
        case measure => exact HLT.out
        case rel => exact ⟨s, t, v, u - q * v, rfl, rfl, rfl, rfl, rfl, HA2, HL2, bel_chain hB3 hb4⟩
end Go.Proofs.YtjglooeljdpadaaGreatDoor
