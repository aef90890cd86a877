/- The walk of the program's divide: the pieces of quotient and rest, for any two numbers whose divisor has two pieces or more. -/
import Derived.Test.YtebcmefbpfcgmaaGreatDoorScaled
import Derived.Test.YtebcmefbpfcgmaaGreatDoorDivPlain
import Derived.Test.YtebcmefbpfcgmaaGreatDoorSmallp
import Derived.Test.YtebcmefbpfcgmaaGreatDoorTake
import Derived.Test.YtebcmefbpfcgmaaGreatDoorBack
namespace Go.Proofs.YtebcmefbpfcgmaaGreatDoor
open Go.RowKit
/-- What divide leaves: the pieces of quotient and rest. -/
def DivPost (q r : Nat) (w : World) (e : Ending) (w' : World) : Prop :=
  ∃ g cap g' cap', e = .returned (.tuple #[.slice (some ⟨g, 0, none⟩) (lims q).length cap, .slice (some ⟨g', 0, none⟩) (lims r).length cap']) ∧ Pc w' g (lims q).length cap (lims q) ∧ Pc w' g' (lims r).length cap' (lims r) ∧ Below w.heap.size w w' ∧ w.heap.size ≤ g ∧ w.heap.size ≤ g'
/-- What holds at the beginning of a round of the division. -/
def DivRel (N : Nat) (ys : List Nat) (ga La capa gb nb capb go_ m k : Nat) (w wr : World) : Prop :=
  Below w.heap.size w wr ∧ Pc wr gb nb capb ys ∧ ∃ av ov, DivAt N ys k av ov ∧ Pc wr ga La capa av ∧ Pc wr go_ m m ov
/-- What holds in the search for a guess: a world that only drew. -/
def GueRel (A b high y1 g r : Nat) (w wr : World) : Prop := Guess A b high y1 g r ∧ ∃ n, wr = w.drewN n

theorem div_norm {a b f : Nat} (hf : 0 < f) : a * f / (b * f) = a / b ∧ a * f % (b * f) / f = a % b := by
  refine ⟨Nat.mul_div_mul_right a b hf, ?_⟩
  rw [Nat.mul_mod_mul_right, Nat.mul_div_cancel _ hf]
theorem lims_mul_len {a f : Nat} (hf : 0 < f) (hf' : f < 1000000000) : (lims a).length ≤ (lims (a * f)).length ∧ (lims (a * f)).length ≤ (lims a).length + 1 := by
  refine ⟨lims_len_mono (Nat.le_mul_of_pos_right a hf), ?_⟩
  rw [lims_len_le, Nat.pow_succ]
  have h1 := (lims_len_le a (lims a).length).1 (Nat.le_refl _)
  have h2 := Nat.mul_le_mul_left a (Nat.le_of_lt hf')
  have h3 := Nat.mul_lt_mul_of_pos_right h1 (show 0 < 1000000000 by decide)
  omega

set_option maxRecDepth 100000 in
set_option maxHeartbeats 2000000 in
theorem divide_any (g1 n1 cap1 g2 n2 cap2 a b : Nat) (w : World) (hp : Pc w g1 n1 cap1 (lims a)) (hq : Pc w g2 n2 cap2 (lims b)) (h2 : 2 ≤ n2) (h12 : n2 ≤ n1) (hn : n1 ≤ 10000000) :
    Calls Tryz.prog 65 #[.slice (some ⟨g1, 0, none⟩) n1 cap1, .slice (some ⟨g2, 0, none⟩) n2 cap2] w (DivPost (a / b) (a % b) w) := by
  have hcap := hp.cap_le
  have hle := hp.le
  have hle2 := hq.le
  have hcap2 := hq.cap_le
  have hg1 := hp.lt
  have hg2 := hq.lt
  have HL := Lib.hid hp.len
  have HL2 := Lib.hid hq.len
  have hb0 : b ≠ 0 := by intro e; have := HL2.out; rw [e, lims_zero] at this; simp at this; omega
  have hc := hq.cell (n2 - 1) (by omega)
  have hy := Lims_getD (Lims_lims b) (n2 - 1)
  have hy0 : 0 < (lims b).getD (n2 - 1) 0 := by
    obtain ⟨m, y, e, hy0, _, _⟩ := lims_last b hb0
    have hl : m.length = n2 - 1 := by have := HL2.out; rw [e] at this; simp at this; omega
    rw [e, List.getD_eq_getElem?_getD, ← hl]; simp; omega
  have HB0 := Lib.hid hb0
  clear hb0
  generalize (lims b).getD (n2 - 1) 0 = y at *
  obtain ⟨f, hf⟩ : ∃ f : Nat, 1000000000 / ((y : Int) + 1) = (f : Int) := ⟨1000000000 / (y + 1), by simp⟩
  have hfN : f = 1000000000 / (y + 1) := by have : ((1000000000 / (y + 1) : Nat) : Int) = (f : Int) := by rw [← hf]; simp
                                            omega
  have hf1 : 0 < f := by rw [hfN]; exact Nat.div_pos (by omega) (by omega)
  have hf2 : f ≤ 500000000 := by rw [hfN]; exact Nat.le_trans (Nat.div_le_div_left (show 2 ≤ y + 1 by omega) (by decide)) (by decide)
  have HFN := Lib.hid hfN
  clear hfN
  go_enter Tryz.func65, Tryz.ntmps65
  have HF := Lib.hid hf
  clear hf
  go_wp2_with fail
  rw [HF.out]
  clear hc
  refine (scaled_any _ _ _ (lims a) f _ hp (Lims_lims a) (by omega) (by omega)).mono ?_
  rintro e w1 ⟨ga0, capa0, rfl, hga0, hpa0, hb1⟩
  rw [lv_lims] at hpa0 ⊢
  have hla := lims_mul_len (a := a) hf1 (by omega)
  rw [HL.out] at hla
  generalize hna : (lims (a * f)).length = na at *
  have HNA := Lib.hid hna
  clear hna
  have hone := Pc.one w1 0
  have hal := hpa0.alloc (.cells #[.int .u64 (0 : Int)] 70)
  go_wp2_with (at_builtin; refine append_Pc rfl _ _ 75 rfl Tryz.underlying75 ga0 na capa0 (lims (a * f)) rfl hal w1.heap.size 1 1 [0] rfl hone (by omega) ?_; intro ga capa w2 hpa hon2 hat2)
  have hb1s := hb1.size
  have hga : w.heap.size ≤ ga := by
    have h2 : (w1.alloc (.cells #[.int .u64 (0 : Int)] 70)).heap.size = w1.heap.size + 1 := by simp
    rcases hat2 with h3 | h3 <;> omega
  have hb2 : Below w.heap.size w w2 := bel_only (hb1.alloc hb1s _) hon2 hga0 (by simp; omega)
  clear hon2 hat2 hal hone hpa0 hb1 hb1s
  refine (scaled_any _ _ _ (lims b) f _ (hq.below hb2 hg2) (Lims_lims b) (by omega) (by omega)).mono ?_
  rintro e w3 ⟨gb, capb, rfl, hgb, hpb, hb3⟩
  rw [lv_lims] at hpb ⊢
  have hlb := lims_mul_len (a := b) hf1 (by omega)
  rw [HL2.out] at hlb
  generalize hnb : (lims (b * f)).length = nb at *
  have HNB := Lib.hid hnb
  clear hnb
  have hpa3 := hpa.below hb3 hpa.lt
  have hw2 := hb2.size
  have hB3 : Below w.heap.size w w3 := hb2.trans (hb3.mono hw2)
  have hgbne : gb ≠ ga := by have := hpa.lt; omega
  have hgab : ga < w3.heap.size := hpa3.lt
  have hgbb : gb < w3.heap.size := hpb.lt
  have hgbw : w.heap.size ≤ gb := by omega
  have hacap := hpa3.cap_le
  have hale := hpa3.le
  have hbcap := hpb.cap_le
  have hble := hpb.le
  clear hpa hb3 hw2 hb2
  go_wp2_with fail
  -- the loop that appends zeros: no round
  refine wp_loop_rounds 1 ?_
  rw [rounds_succ]
  obtain ⟨m, hm⟩ : ∃ m : Nat, na + 1 = nb + m := ⟨na + 1 - nb, by omega⟩
  have hm1 : (na : Int) + 1 - (nb : Int) = (m : Int) := by omega
  have hmk := make_Pc 75 Tryz.underlying75 m m (Nat.le_refl _) (by omega)
  have HM := Lib.hid (Pc.made w3 m m (Nat.le_refl _) (by omega))
  have HMN := Lib.hid hm
  clear hm
  go_wp2_with fail
  clear hmk hm1
  -- the main loop
  have hLy := Lims_lims (b * f)
  have hLx : Lims (lims (a * f) ++ [0]) := Lims_append.2 ⟨Lims_lims _, by intro x hx; rw [List.mem_singleton.1 hx]; omega⟩
  have hvy : 0 < lv (lims (b * f)) := by rw [lv_lims]; exact Nat.mul_pos (Nat.pos_of_ne_zero HB0.out) hf1
  have hNx : lv (lims (a * f) ++ [0]) = a * f := by rw [lv_snoc, lv_lims]; simp
  have hstart : DivAt (a * f) (lims (b * f)) m (lims (a * f) ++ [0]) (List.replicate m 0) := by
    refine ⟨hLx, fun x hx => by rw [List.eq_of_mem_replicate hx]; omega, ?_, ?_⟩
    · rw [List.drop_of_length_le (by simp), hNx]; simp [lv]
    · rw [hNx, lv_lims]
      have h1 := (lims_len_le (a * f) na).1 (by rw [HNA.out]; exact Nat.le_refl _)
      have h2 := pow_le_lims (b * f) (by rw [lv_lims] at hvy; omega)
      rw [HNB.out] at h2
      have h3 : 1000000000 ^ (nb - 1) * 1000000000 ^ m ≤ b * f * 1000000000 ^ m := Nat.mul_le_mul_right _ h2
      rw [← Nat.pow_add, show nb - 1 + m = na by have := HMN.out; omega] at h3
      omega
  have HST := Lib.hid hstart
  have HVY := Lib.hid hvy
  have HLY := Lib.hid hLy
  clear hstart hvy hNx hLx hLy
  generalize hys : lims (b * f) = ys at *
  have HYS := Lib.hid hys
  clear hys
  go_loopw [11] (fun vi wr => ∃ k : Nat, k ≤ m ∧ vi = .int .i64 ((k : Int) - 1) ∧ DivRel (a * f) ys ga (na + 1) capa gb nb capb w3.heap.size m k w wr) (fun vi _ => (intOf vi + 1).toNat)
  case atStart => exact ⟨m, Nat.le_refl _, rfl, hB3.alloc hB3.size _, hpb.alloc _, _, _, HST.out, hpa3.alloc _, HM.out⟩
  case round =>
    clear hpa3 hpb hp hq
    obtain ⟨k, hk, rfl, hB, hPb, av, ov, hD, hPa, hPo⟩ := hrel
    obtain ⟨wo, rfl⟩ : ∃ wo : World, wo = wr := ⟨_, rfl⟩
    have hBs := hB.size
    by_cases hk0 : k = 0
    · subst hk0
      have hfin := hD.fin
      rw [← HYS.out, lv_lims] at hfin
      have hnrm := div_norm (a := a) (b := b) hf1
      have hT1 : trimL ov = lims (a / b) := by rw [trimL_eq ov hD.limO, hfin.1, hnrm.1]
      have hT2 : lv (trimL av) / f = a % b := by rw [trimL_eq av hD.limA, lv_lims, hfin.2, hnrm.2]
      have hT3 : Lims (trimL av) := by rw [trimL_eq av hD.limA]; exact Lims_lims _
      have H1 := Lib.hid hT1
      have H2 := Lib.hid hT2
      have hpt := hPa.take (trimL av).length (by rw [trimL_take av, List.length_take, hPa.len]; omega)
      rw [← trimL_take av] at hpt
      have htl : (trimL av).length ≤ na + 1 := by rw [trimL_take av, List.length_take, hPa.len]; omega
      clear hD hfin hnrm hT1 hT2
      go_wp2_with fail
      refine (trim_any _ _ _ av _ hPa).mono ?_
      rintro e w' ⟨rfl, rfl⟩
      go_wp2_with fail
      refine (small_any _ _ _ (trimL av) f _ hpt hT3 (by omega) hf1 (by omega)).mono ?_
      rintro e w4 ⟨gr, capr, rfl, hgr, hpr, hb4⟩
      rw [H2.out] at hpr ⊢
      have hPo4 := hPo.below hb4 hPo.lt
      go_wp2_with fail
      refine (trim_any _ _ _ ov _ hPo4).mono ?_
      rintro e w' ⟨rfl, rfl⟩
      go_wp2
      go_ret2
      refine ⟨w3.heap.size, m, gr, capr, ?_, ?_, hpr, hB.trans (hb4.mono hBs), hB3.size, by omega⟩
      · rw [← H1.out]; rfl
      · have h3 := hPo4.take (trimL ov).length (by rw [trimL_take ov, List.length_take, hPo4.len]; omega)
        rw [← trimL_take ov] at h3
        rw [← H1.out]; exact h3
    · obtain ⟨j, rfl⟩ : ∃ j, k = j + 1 := ⟨k - 1, by omega⟩
      have ec : ((j + 1 : Nat) : Int) - 1 = (j : Int) := by omega
      rw [ec]
      clear ec hk0
      have hnbl := hPb.len
      have hnal := hPa.len
      have hmn := HMN.out
      have hnb2 : 2 ≤ nb := by omega
      -- the pieces that are read
      have hc1 := hPa.cell (j + nb) (by omega)
      have hc2 := hPa.cell (j + nb - 1) (by omega)
      have hc3 := hPa.cell (j + nb - 2) (by omega)
      have hc4 := hPb.cell (nb - 1) (by omega)
      have hc5 := hPb.cell (nb - 2) (by omega)
      have hx1 := Lims_getD hD.limA (j + nb)
      have hx2 := Lims_getD hD.limA (j + nb - 1)
      have hx3 := Lims_getD hD.limA (j + nb - 2)
      have hy1 := Lims_getD HLY.out (nb - 1)
      have hy2 := Lims_getD HLY.out (nb - 2)
      have hltA : lv av < 1000000000 ^ (j + nb + 1) := by
        have h1 := hD.lt
        have h2 := lv_lt ys HLY.out
        rw [hnbl] at h2
        have h3 : lv ys * 1000000000 ^ (j + 1) ≤ 1000000000 ^ nb * 1000000000 ^ (j + 1) := Nat.mul_le_mul_right _ (by omega)
        rw [← Nat.pow_add, show nb + (j + 1) = j + nb + 1 by omega] at h3
        omega
      obtain ⟨low, hlow, htop⟩ := top3 (a := av) (i := j) (n := nb) hnb2 hD.limA (by omega) hltA
      obtain ⟨blow, hblow, hbtop⟩ := top2 (ys := ys) (by omega) HLY.out
      rw [hnbl] at hblow hbtop
      have hy1p : 0 < ys.getD (nb - 1) 0 := by
        obtain ⟨mm, yy, e, hyy0, _, _⟩ := lims_last (b * f) (by intro e; have h5 := HYS.out; rw [e, lims_zero] at h5; rw [← h5] at hnbl; simp at hnbl; omega)
        rw [HYS.out] at e
        have hl : mm.length = nb - 1 := by have := hnbl; rw [e] at this; simp at this; omega
        rw [e, List.getD_eq_getElem?_getD, ← hl]; simp; omega
      have hwin := win_div (a := av) (i := j) (b := lv ys) hD.limA (by omega)
      have hA9 : lv (av.drop j) < lv ys * 1000000000 := by
        have h1 := hD.lt
        rw [lv_drop av hD.limA j (by omega), Nat.div_lt_iff_lt_mul (pow_pos9 j)]
        rw [pow_step, ← Nat.mul_assoc] at h1
        exact h1
      generalize av.getD (j + nb) 0 = x1 at *
      generalize av.getD (j + nb - 1) 0 = x2 at *
      generalize av.getD (j + nb - 2) 0 = x3 at *
      generalize ys.getD (nb - 1) 0 = y1 at *
      generalize ys.getD (nb - 2) 0 = y2 at *
      have HTOP := Lib.hid htop
      have HBT := Lib.hid hbtop
      have HLOW := Lib.hid hlow
      have HBL := Lib.hid hblow
      have HWIN := Lib.hid hwin
      have HA9 := Lib.hid hA9
      have HD := Lib.hid hD
      have HNBL := Lib.hid hnbl
      have HNAL := Lib.hid hnal
      have hPP : 0 < 1000000000 ^ (nb - 2) := pow_pos9 _
      have HPP := Lib.hid hPP
      clear htop hbtop hlow hblow hwin hA9 hD hltA hnbl hnal hmn hPP
      have hi1 : (j : Int) + (nb : Int) < (na : Int) + 1 := by have := HMN.out; omega
      have hi2 : (0 : Int) ≤ (j : Int) + (nb : Int) - 2 := by omega
      have hi3 : (0 : Int) ≤ (nb : Int) - 2 := by omega
      go_wp2
      go_quiet (fail)
      go_wp2
      go_quiet (fail)
      go_wp2
      have hstart := Guess.start (A := lv (av.drop j)) (b := lv ys) (b2 := y2) HPP.out hy1p HTOP.out HLOW.out hx3 HBT.out
      have HS0 := Lib.hid hstart
      clear hstart
      have hhigh : ((x1 : Int) * 1000000000 + (x2 : Int)) / (y1 : Int) = (((x1 * 1000000000 + x2) / y1 : Nat) : Int) := by simp
      have hrest : ((x1 : Int) * 1000000000 + (x2 : Int)) % (y1 : Int) = (((x1 * 1000000000 + x2) % y1 : Nat) : Int) := by simp
      rw [hhigh, hrest]
      clear hhigh hrest
      have hh1 : x1 * 1000000000 + x2 ≤ 999999999999999999 := by omega
      obtain ⟨high, hhi⟩ : ∃ high, x1 * 1000000000 + x2 = high := ⟨_, rfl⟩
      rw [hhi] at HS0 HTOP hh1 ⊢
      obtain ⟨g0, hg0⟩ : ∃ g0, high / y1 = g0 := ⟨_, rfl⟩
      obtain ⟨r0, hr0⟩ : ∃ r0, high % y1 = r0 := ⟨_, rfl⟩
      rw [hg0, hr0] at HS0 ⊢
      clear hhi hg0 hr0 hc1 hc2
      go_loopw [13, 14] (fun vg vr wr => ∃ g r : Nat, vg = .int .u64 (g : Int) ∧ vr = .int .u64 (r : Int) ∧ GueRel (lv (av.drop j)) (lv ys) high y1 g r wo wr) (fun vg _ _ => (intOf vg).toNat)
      case atStart => exact ⟨g0, r0, rfl, rfl, HS0.out, _, by first | rfl | exact World.drewN_drewN _ _ _⟩
      case round =>
        obtain ⟨g, r, rfl, rfl, hG, dn, rfl⟩ := hrel
        have hsum := hG.sum
        have hrb : r ≤ 999999999999999999 := by omega
        have hgb9 : g ≤ 999999999999999999 := by
          have h1 : g * 1 ≤ g * y1 := Nat.mul_le_mul_left g hy1p
          omega
        clear hsum
        have HG := Lib.hid hG
        clear hG
        by_cases hA : 1000000000 ≤ g
        · have hAi : (1000000000 : Int) ≤ (g : Int) := by omega
          go_wp2
          go_quiet (fail)
          go_wp2
          go_roundw
          case rel =>
            have h1 := HG.out.less HPP.out HVY.out HTOP.out HLOW.out HBT.out HA9.out (.inl hA)
            exact ⟨g - 1, r + y1, vint (by omega), by go_num, h1.2, _, rfl⟩
          case measure => simp [intOf]; omega
        · have hg9 : g < 1000000000 := by omega
          have hgf : decide ((1000000000 : Int) ≤ (g : Int)) = false := by simp; omega
          have hnn : (0 : Int) ≤ (g : Int) * (y2 : Int) := Int.mul_nonneg (by omega) (by omega)
          have hgy : (g : Int) * (y2 : Int) ≤ 999999998000000001 := by
            have h1 : g * y2 ≤ 999999999 * 999999999 := Nat.mul_le_mul (by omega) (by omega)
            have h2 : ((g * y2 : Nat) : Int) ≤ 999999998000000001 := by omega
            rwa [Int.natCast_mul] at h2
          by_cases hB2 : r < 1000000000 ∧ r * 1000000000 + x3 < g * y2
          · obtain ⟨hr9, hcmp⟩ := hB2
            have hcmpi : (r : Int) * 1000000000 + (x3 : Int) < (g : Int) * (y2 : Int) := by
              have h2 : ((r * 1000000000 + x3 : Nat) : Int) < ((g * y2 : Nat) : Int) := by omega
              rw [Int.natCast_mul] at h2
              omega
            have HC := Lib.hid hcmp
            have hgpos : 0 < g := (HG.out.less HPP.out HVY.out HTOP.out HLOW.out HBT.out HA9.out (.inr hcmp)).1
            have hrd : decide ((r : Int) < 1000000000) = true := decide_eq_true (by omega)
            have hcd : decide ((r : Int) * 1000000000 + (x3 : Int) < (g : Int) * (y2 : Int)) = true := decide_eq_true hcmpi
            clear hcmp
            go_wp2
            go_quiet (fail)
            go_wp2
            go_roundw
            case rel =>
              have h1 := HG.out.less HPP.out HVY.out HTOP.out HLOW.out HBT.out HA9.out (.inr HC.out)
              exact ⟨g - 1, r + y1, vint (by have := h1.1; omega), by go_num, h1.2, _, rfl⟩
            case measure =>
              simp [intOf]; omega
          · have hstop := HG.out.stop HVY.out HTOP.out HBT.out HBL.out hy2 hy1p hg9 hB2
            rw [HWIN.out] at hstop
            have hlt := HD.out.lt
            have hyl := lv_lt ys HLY.out
            have HLT := Lib.hid hlt
            have HYL := Lib.hid hyl
            have HB2 := Lib.hid hB2
            have hga2 : w3.heap.size ≠ ga := by omega
            have hgb2 : w3.heap.size ≠ gb := by omega
            clear hB2 hlt hyl
            rcases hstop with hq | hq
            all_goals
              have HQ := Lib.hid hq
              clear hq
              have hgf2 : ¬ ((1000000000 : Int) ≤ (g : Int)) := by omega
              by_cases hr : r < 1000000000
            all_goals first
              | (have hrd : decide ((r : Int) < 1000000000) = true := decide_eq_true (by omega)
                 have hcd : decide ((r : Int) * 1000000000 + (x3 : Int) < (g : Int) * (y2 : Int)) = false := decide_eq_false (by
                   intro h
                   refine HB2.out ⟨hr, ?_⟩
                   have h2 : ((r * 1000000000 + x3 : Nat) : Int) < ((g * y2 : Nat) : Int) := by rw [Int.natCast_mul]; omega
                   omega)
                 go_wp2
                 go_quiet (fail)
                 go_wp2_with fail)
              | (have hrd : decide ((r : Int) < 1000000000) = false := decide_eq_false (by omega)
                 go_wp2
                 go_quiet (fail)
                 go_wp2_with fail)
            all_goals
              refine (take_any ga (na + 1) capa av gb nb capb ys g j _ (by exact hPa.of_heap rfl) (by exact hPb.of_heap rfl) hgbne (by have := HMN.out; omega) HD.out.limA HLY.out hg9).mono ?_
              rintro e w4 ⟨hon, c, bo, zs, rfl, hTk, rfl, hPz⟩
              have hfin := hTk.finish rfl
              have hB4 : Below w.heap.size w w4 := bel_only (bel_drewN hB _) hon hga hBs
              have hPb4 := hon.Pc (hPb.of_heap rfl) hgbne
              have hPo4 := hon.Pc (hPo.of_heap rfl) hga2
              have hlimZ := hTk.lims
              have hlenZ := hTk.len
              have hrestZ := hTk.rest
              have hboZ := hTk.borrow
              have hol := hPo.len
              rw [show j + (ys.length + 1) = j + ys.length + 1 by omega] at hrestZ
            · obtain ⟨rfl, hval⟩ := take_right hlimZ hlenZ (by rw [HNBL.out, HNAL.out]; have := HMN.out; omega) HLT.out HYL.out hrestZ HQ.out hboZ HD.out.limA hfin
              have hnext := HD.out.next (by rw [hol]; omega) HVY.out hlimZ (by rw [← HQ.out]; exact hval)
              rw [← HQ.out] at hnext
              have HNX := Lib.hid hnext.2
              have hcello := hPo4.cell j (by omega)
              have hfro := hPo4.free j
              clear hnext hval hfin hrestZ hlenZ hol hTk
              go_wp2
              go_roundw
              case rel => exact ⟨j, by omega, rfl, hB4.setCell hB3.size _, hPb4.far hgb2.symm _, _, _, HNX.out, hPz.far hga2.symm _, hPo4.set j g⟩
              case measure => (simp [intOf]) <;> omega
            · obtain ⟨rfl, hval⟩ := take_right hlimZ hlenZ (by rw [HNBL.out, HNAL.out]; have := HMN.out; omega) HLT.out HYL.out hrestZ HQ.out hboZ HD.out.limA hfin
              have hnext := HD.out.next (by rw [hol]; omega) HVY.out hlimZ (by rw [← HQ.out]; exact hval)
              rw [← HQ.out] at hnext
              have HNX := Lib.hid hnext.2
              have hcello := hPo4.cell j (by omega)
              have hfro := hPo4.free j
              clear hnext hval hfin hrestZ hlenZ hol hTk
              go_wp2
              go_roundw
              case rel => exact ⟨j, by omega, rfl, hB4.setCell hB3.size _, hPb4.far hgb2.symm _, _, _, HNX.out, hPz.far hga2.symm _, hPo4.set j g⟩
              case measure => (simp [intOf]) <;> omega
            · have hbo := take_bo (by rw [HNBL.out, HNAL.out]; have := HMN.out; omega) HLT.out HYL.out HQ.out hboZ HD.out.limA HVY.out hfin
              subst hbo
              have hgpos : 0 < g := by rw [HQ.out]; exact Nat.succ_pos _
              have HFIN := Lib.hid hfin
              have HREST := Lib.hid hrestZ
              have HLENZ := Lib.hid hlenZ
              have HOL := Lib.hid hol
              clear hfin hrestZ hlenZ hol hTk
              go_wp2_with fail
              refine (back_any ga (na + 1) capa zs gb nb capb ys j _ hPz hPb4 hgbne (by have := HMN.out; omega) hlimZ HLY.out).mono ?_
              rintro e w5 ⟨rfl, hon5, c5, us, hBk, hPu⟩
              have hrestU := hBk.rest
              rw [show j + (ys.length + 1) = j + ys.length + 1 by omega] at hrestU
              have hval := take_over hlimZ hBk.lims HLENZ.out (hBk.len.trans HLENZ.out) (by rw [HNBL.out, HNAL.out]; have := HMN.out; omega) HLT.out HYL.out HREST.out hrestU HQ.out (by omega) HD.out.limA HVY.out HFIN.out hBk.carry hBk.finish
              have hq1 : g - 1 = lv av / (lv ys * 1000000000 ^ j) := by have := HQ.out; omega
              have hnext := HD.out.next (by rw [HOL.out]; omega) HVY.out hBk.lims (by rw [← hq1]; exact hval)
              rw [← hq1] at hnext
              have HNX := Lib.hid hnext.2
              have hPo5 := hon5.Pc hPo4 hga2
              have hPb5 := hon5.Pc hPb4 hgbne
              have hcello := hPo5.cell j (by omega)
              have hfro := hPo5.free j
              have hB5 : Below w.heap.size w w5 := bel_only hB4 hon5 hga hB4.size
              have hset := hPo5.set j (g - 1)
              rw [show ((g - 1 : Nat) : Int) = (g : Int) - 1 by omega] at hset
              clear hnext hval hrestU hq1 hBk
              go_wp2
              go_roundw
              case rel => exact ⟨j, by omega, rfl, hB5.setCell hB3.size _, hPb5.far hgb2.symm _, _, _, HNX.out, hPu.far hga2.symm _, hset⟩
              case measure => (simp [intOf]) <;> omega
            · have hbo := take_bo (by rw [HNBL.out, HNAL.out]; have := HMN.out; omega) HLT.out HYL.out HQ.out hboZ HD.out.limA HVY.out hfin
              subst hbo
              have hgpos : 0 < g := by rw [HQ.out]; exact Nat.succ_pos _
              have HFIN := Lib.hid hfin
              have HREST := Lib.hid hrestZ
              have HLENZ := Lib.hid hlenZ
              have HOL := Lib.hid hol
              clear hfin hrestZ hlenZ hol hTk
              go_wp2_with fail
              refine (back_any ga (na + 1) capa zs gb nb capb ys j _ hPz hPb4 hgbne (by have := HMN.out; omega) hlimZ HLY.out).mono ?_
              rintro e w5 ⟨rfl, hon5, c5, us, hBk, hPu⟩
              have hrestU := hBk.rest
              rw [show j + (ys.length + 1) = j + ys.length + 1 by omega] at hrestU
              have hval := take_over hlimZ hBk.lims HLENZ.out (hBk.len.trans HLENZ.out) (by rw [HNBL.out, HNAL.out]; have := HMN.out; omega) HLT.out HYL.out HREST.out hrestU HQ.out (by omega) HD.out.limA HVY.out HFIN.out hBk.carry hBk.finish
              have hq1 : g - 1 = lv av / (lv ys * 1000000000 ^ j) := by have := HQ.out; omega
              have hnext := HD.out.next (by rw [HOL.out]; omega) HVY.out hBk.lims (by rw [← hq1]; exact hval)
              rw [← hq1] at hnext
              have HNX := Lib.hid hnext.2
              have hPo5 := hon5.Pc hPo4 hga2
              have hPb5 := hon5.Pc hPb4 hgbne
              have hcello := hPo5.cell j (by omega)
              have hfro := hPo5.free j
              have hB5 : Below w.heap.size w w5 := bel_only hB4 hon5 hga hB4.size
              have hset := hPo5.set j (g - 1)
              rw [show ((g - 1 : Nat) : Int) = (g : Int) - 1 by omega] at hset
              clear hnext hval hrestU hq1 hBk
              go_wp2
              go_roundw
              case rel => exact ⟨j, by omega, rfl, hB5.setCell hB3.size _, hPb5.far hgb2.symm _, _, _, HNX.out, hPu.far hga2.symm _, hset⟩
              case measure => (simp [intOf]) <;> omega
end Go.Proofs.YtebcmefbpfcgmaaGreatDoor
