/- The walks of the program's integers: DivMod, gcd, Gcd, Lcm. -/
import Derived.Test.YtebcmefbpfcgmaaGreatDoorW2
import Derived.RegionCalls
namespace Go.Proofs.YtebcmefbpfcgmaaGreatDoor
open Go.RowKit Go.PlainAid

theorem FD_le {a b q r : Int} (h : FD a b q r) (hb : b ≠ 0) : q.natAbs ≤ a.natAbs + 1 ∧ r.natAbs ≤ b.natAbs := by
  obtain ⟨h1, h2⟩ := h.eq
  rw [← h1, ← h2]
  exact ⟨fq_le a b, fr_le a hb⟩
theorem nz_succ {x y : Int} (h : y.natAbs ≤ x.natAbs + 1) : nz y ≤ nz x + 1 := by
  unfold nz
  refine Nat.le_trans (nd_mono h) ?_
  have h1 := Lib.lt_pow_nDigits x.natAbs
  rw [nd_le_iff, Nat.pow_succ]; omega
set_option maxRecDepth 100000 in
set_option maxHeartbeats 1000000 in
theorem wdivmod_zero (a : Int) (w : World) :
    Calls Tryz.prog 15 #[.string (itx a), .string (itx 0)] w (SmallRes (.tuple #[.string ⟨#[]⟩, .string ⟨#[]⟩, .int .i64 17]) w) := by
  have h0 := itx_zero_same
  go_enter Tryz.func15, Tryz.ntmps15
  go_wp2_with fail
  go_ret3
  exact ⟨rfl, Below.refl _ _⟩
set_option maxRecDepth 100000 in
set_option maxHeartbeats 2000000 in
theorem wdivmod_short (a b : Int) (w : World) (hamb : Amb w) (hb0 : b ≠ 0) (hsa : ((itx a).size : Int) ≤ 18) (hsb : ((itx b).size : Int) ≤ 18) :
    Calls Tryz.prog 15 #[.string (itx a), .string (itx b)] w (SmallRes (.tuple #[.string (itx (fq a b)), .string (itx (fr a b)), .int .i64 0]) w) := by
  have h0 := itx_zero_test hb0
  have h1 := short18 (z := a) (by omega)
  have h2 := short18 (z := b) (by omega)
  have hfd := FD_tdiv a hb0
  have hq : (a.tdiv b).natAbs ≤ a.natAbs := Int.natAbs_tdiv_le_natAbs a b
  have hr : (a.tmod b).natAbs < b.natAbs := by rw [Int.natAbs_tmod]; exact Nat.mod_lt _ (by omega)
  have hw1 : IntKind.i64.wrap (a.tdiv b) = a.tdiv b := IntWalk.i64_in _ (by omega)
  have HW1 := Lib.hid hw1
  have HB0 := Lib.hid hb0
  have HFD := Lib.hid hfd
  have hnz : (b == 0) = false := by rw [beq_eq_false_iff_ne]; exact hb0
  clear hw1 hfd hb0
  go_enter Tryz.func15, Tryz.ntmps15
  go_wp2_with fail
  refine (little_yes a 18 _ hsa (by omega)).mono ?_
  rintro e w1 ⟨rfl, hb1⟩
  go_wp2_with fail
  refine (little_yes b 18 _ hsb (by omega)).mono ?_
  rintro e w2 ⟨rfl, hb2⟩
  have hB2 := bel_chain hb1 hb2
  clear hb1 hb2
  go_wp2_with fail
  have hw1 := HW1.out
  go_quiet (fail)
  have hB3 := bel_drewN hB2 nq
  have hA3 := hamb.below hB3
  have hfd := HFD.out
  clear hw1 HW1 HFD hB2
  generalize a.tmod b = r at *
  generalize a.tdiv b = q at *
  by_cases hr0 : r = 0
  · have hb1 : (r == 0) = true := by rw [beq_iff_eq]; exact hr0
    have H := Lib.hid (hfd.1 (fun h => h.1 hr0)).eq
    clear hfd
    subst hr0
    go_wp2_with fail
    refine (wof_any q _ hA3 (by omega) (by omega)).mono ?_
    rintro e w3 ⟨rfl, hb3⟩
    have hB4 := bel_chain hB3 hb3
    go_wp2_with fail
    refine (wof_any 0 _ (hamb.below hB4) (by omega) (by omega)).mono ?_
    rintro e w4 ⟨rfl, hb4⟩
    go_wp2_with fail
    go_ret3
    exact ⟨by rw [H.out.1, H.out.2]; rfl, bel_chain hB4 hb4⟩
  · have hb1 : (r == 0) = false := by rw [beq_eq_false_iff_ne]; exact hr0
    by_cases hsg : decide (r < 0) = decide (b < 0)
    · have hb2 : (decide (r < 0) == decide (b < 0)) = true := by rw [beq_iff_eq]; exact hsg
      have H := Lib.hid (hfd.1 (fun h => h.2 hsg)).eq
      clear hfd hsg
      go_wp2_with fail
      refine (wof_any q _ hA3 (by omega) (by omega)).mono ?_
      rintro e w3 ⟨rfl, hb3⟩
      have hB4 := bel_chain hB3 hb3
      go_wp2_with fail
      refine (wof_any r _ (hamb.below hB4) (by omega) (by omega)).mono ?_
      rintro e w4 ⟨rfl, hb4⟩
      go_wp2_with fail
      go_ret3
      exact ⟨by rw [H.out.1, H.out.2]; rfl, bel_chain hB4 hb4⟩
    · have hb2 : (decide (r < 0) == decide (b < 0)) = false := by rw [beq_eq_false_iff_ne]; exact hsg
      have H := Lib.hid (hfd.2 ⟨hr0, hsg⟩).eq
      clear hfd hsg
      go_wp2_with fail
      refine (wof_any (q - 1) _ hA3 (by omega) (by omega)).mono ?_
      rintro e w3 ⟨rfl, hb3⟩
      have hB4 := bel_chain hB3 hb3
      go_wp2_with fail
      refine (wof_any (r + b) _ (hamb.below hB4) (by omega) (by omega)).mono ?_
      rintro e w4 ⟨rfl, hb4⟩
      go_wp2_with fail
      go_ret3
      exact ⟨by rw [H.out.1, H.out.2]; rfl, bel_chain hB4 hb4⟩
set_option maxRecDepth 100000 in
set_option maxHeartbeats 2000000 in
theorem wdivmod_long (a b : Int) (w : World) (hamb : Amb w) (hb0 : b ≠ 0) (ha : nz a ≤ 900000) (hb : nz b ≤ 900000) (hs : ¬ (((itx a).size : Int) ≤ 18 ∧ ((itx b).size : Int) ≤ 18)) :
    Calls Tryz.prog 15 #[.string (itx a), .string (itx b)] w (SmallRes (.tuple #[.string (itx (fq a b)), .string (itx (fr a b)), .int .i64 0]) w) := by
  have h0 := itx_zero_test hb0
  obtain ⟨va, fa, hla, hfl⟩ := little_two a b 18 (by omega) hs
  have HLA := Lib.hid hla
  have HFL := Lib.hid hfl
  have hA : Lib.nDigits a.natAbs ≤ 900000 := ha
  have hB : Lib.nDigits b.natAbs ≤ 900000 := hb
  have hbn : b.natAbs ≠ 0 := by omega
  have hqd : Lib.nDigits (a.natAbs / b.natAbs) ≤ 900000 := Nat.le_trans (nd_mono (Nat.div_le_self _ _)) hA
  have hq1d : Lib.nDigits (a.natAbs / b.natAbs + 1) ≤ 900001 := by
    have h1 := Lib.lt_pow_nDigits (a.natAbs / b.natAbs)
    generalize a.natAbs / b.natAbs = q at *
    exact Nat.le_trans ((nd_le_iff (q + 1) (Lib.nDigits q)).2 (by rw [Nat.pow_succ]; omega)) (by omega)
  have hrd : Lib.nDigits (a.natAbs % b.natAbs) ≤ 900000 := Nat.le_trans (nd_mono (Nat.le_of_lt (Nat.mod_lt _ (by omega)))) hB
  have hbrd : Lib.nDigits (b.natAbs - a.natAbs % b.natAbs) ≤ 900000 := Nat.le_trans (nd_mono (Nat.sub_le _ _)) hB
  have hrb : a.natAbs % b.natAbs ≤ b.natAbs := Nat.le_of_lt (Nat.mod_lt _ (by omega))
  have HB0 := Lib.hid hb0
  have hlit : (⟨#[49]⟩ : ByteArray) = dec 1 := by unfold dec; rw [dd_small (by omega)]; rfl
  have HAD := Lib.hid (fun w1 (h : Amb w1) => hlit ▸ add_any (a.natAbs / b.natAbs) 1 w1 h (by omega) (by rw [Lib.nDigits_small (by omega)]; omega))
  clear hla hfl hs hb0 hlit
  go_enter Tryz.func15, Tryz.ntmps15
  go_wp2_with fail
  refine (HLA.out _).mono ?_
  rintro e w1 ⟨rfl, hb1⟩
  go_upto_if 26 with fail
  go_cut [4] (fun s4 wx => s4 = .string ⟨#[]⟩ ∧ Below w.heap.size w wx)
  case first =>
    cases fa with
    | true =>
      have hlt := HFL.out rfl
      go_wp2_with fail
      refine (little_no b 18 _ hlt).mono ?_
      rintro e w2 ⟨rfl, hb2⟩
      go_wp2_with fail
      go_meet
      exact ⟨rfl, bel_chain hb1 hb2⟩
    | false =>
      go_wp2_with fail
      go_meet
      exact ⟨rfl, hb1⟩
  case rest =>
    obtain ⟨rfl, hb0⟩ := hcut
    clear HLA HFL hb1
    go_wp2_with fail
    refine (split_any a _ (by omega)).mono ?_
    rintro e w2 ⟨rfl, hb2⟩
    go_wp2_with fail
    refine (split_any b _ (by omega)).mono ?_
    rintro e w3 ⟨rfl, hb3⟩
    have hB3 := bel_chain (bel_chain hb0 hb2) hb3
    have hA3 := hamb.below hB3
    clear hb2 hb3 hb0
    go_wp2_with fail
    refine (divmod_any a.natAbs b.natAbs _ hA3 hbn (by omega) (by omega)).mono ?_
    rintro e w4 ⟨rfl, hb4⟩
    have hB4 := bel_chain hB3 hb4
    have hA4 := hA3.below hb4
    clear hb4 hB3 hA3
    by_cases hsg : (a < 0) ↔ (b < 0)
    · have H := Lib.hid (FD_nat_same HB0.out hsg).eq
      have hsd : decide (a < 0) = decide (b < 0) := by rw [decide_eq_decide]; exact hsg
      have hne : (decide (b < 0) == decide (b < 0)) = true := by simp
      rw [hsd]
      clear hsg hsd hne
      generalize a.natAbs / b.natAbs = q at *
      generalize a.natAbs % b.natAbs = r at *
      by_cases hbs : b < 0
      all_goals
        simp only [hbs, if_true, if_false] at H
        simp only [hbs, decide_true, decide_false]
        clear hbs
        go_wp2_with fail
        refine (join_any false q _ (by omega)).mono ?_
        rintro e w5 ⟨rfl, hb5⟩
        have hB5 := bel_chain hB4 hb5
        go_wp2_with fail
        refine (join_any _ r _ (by omega)).mono ?_
        rintro e w6 ⟨rfl, hb6⟩
        go_wp2_with fail
        go_ret3
        refine ⟨?_, bel_chain hB5 hb6⟩
        rw [H.out.1, H.out.2]; rfl
    · have hsd : (decide (a < 0) == decide (b < 0)) = false := by rw [beq_eq_false_iff_ne, Ne, decide_eq_decide]; exact hsg
      by_cases hr0 : a.natAbs % b.natAbs = 0
      · have H := Lib.hid (FD_nat_zero HB0.out hsg hr0).eq
        rw [hr0]
        have hz := dec_zero_same
        have hz1 : (!(dec 0).toList == [48]) = false := by rw [hz]; rfl
        clear hsg hr0 hrd hbrd hrb
        generalize a.natAbs / b.natAbs = q at *
        generalize decide (a < 0) = n at *
        generalize decide (b < 0) = m at *
        go_wp2_with fail
        refine (join_any true q _ (by omega)).mono ?_
        rintro e w5 ⟨rfl, hb5⟩
        have hB5 := bel_chain hB4 hb5
        go_wp2_with fail
        refine (join_any m 0 _ (by rw [Lib.nDigits_small (by omega)]; omega)).mono ?_
        rintro e w6 ⟨rfl, hb6⟩
        go_wp2_with fail
        go_ret3
        refine ⟨?_, bel_chain hB5 hb6⟩
        rw [H.out.1, H.out.2]
        simp
      · have H := Lib.hid (FD_nat_more HB0.out hsg hr0).eq
        have hz := dec_zero_test hr0
        have hz1 : (!(dec (a.natAbs % b.natAbs)).toList == [48]) = true := by rw [hz]; rfl
        clear hsg hr0
        generalize a.natAbs / b.natAbs = q at *
        generalize a.natAbs % b.natAbs = r at *
        generalize decide (a < 0) = n at *
        by_cases hbs : b < 0
        all_goals
         simp only [hbs, if_true, if_false] at H
         simp only [hbs, decide_true, decide_false] at hsd ⊢
         clear hbs
         go_wp2_with fail
         refine (HAD.out _ hA4).mono ?_
         rintro e w5 ⟨rfl, hb5⟩
         have hB5 := bel_chain hB4 hb5
         have hA5 := hA4.below hb5
         go_wp2_with fail
         refine (sub_any b.natAbs r _ hA5 hrb (by omega) (by omega)).mono ?_
         rintro e w6 ⟨rfl, hb6⟩
         have hB6 := bel_chain hB5 hb6
         go_wp2_with fail
         refine (join_any true (q + 1) _ (by omega)).mono ?_
         rintro e w7 ⟨rfl, hb7⟩
         have hB7 := bel_chain hB6 hb7
         go_wp2_with fail
         refine (join_any _ (b.natAbs - r) _ (by omega)).mono ?_
         rintro e w8 ⟨rfl, hb8⟩
         go_wp2_with fail
         go_ret3
         refine ⟨?_, bel_chain hB7 hb8⟩
         rw [H.out.1, H.out.2]; rfl
/-- whole.DivMod. -/
theorem wdivmod_any (a b : Int) (w : World) (hamb : Amb w) (hb0 : b ≠ 0) (ha : nz a ≤ 900000) (hb : nz b ≤ 900000) :
    Calls Tryz.prog 15 #[.string (itx a), .string (itx b)] w (SmallRes (.tuple #[.string (itx (fq a b)), .string (itx (fr a b)), .int .i64 0]) w) := by
  by_cases hs : ((itx a).size : Int) ≤ 18 ∧ ((itx b).size : Int) ≤ 18
  · exact wdivmod_short a b w hamb hb0 hs.1 hs.2
  · exact wdivmod_long a b w hamb hb0 ha hb hs
theorem little_nat_yes (n : Nat) (w : World) (h : Lib.nDigits n ≤ 18) :
    Calls Tryz.prog 29 #[.string (dec n), .int .i64 18] w (SmallRes (.tuple #[.int .i64 (n : Int), .bool true]) w) := by
  have := little_yes (n : Int) 18 w (by rw [itx_nat, dec_size]; omega) (by omega)
  rwa [itx_nat] at this
theorem little_nat_no (n : Nat) (w : World) (h : 18 < Lib.nDigits n) :
    Calls Tryz.prog 29 #[.string (dec n), .int .i64 18] w (SmallRes (.tuple #[.int .i64 0, .bool false]) w) := by
  have := little_no (n : Int) 18 w (by rw [itx_nat, dec_size]; omega)
  rwa [itx_nat] at this
/-- whole.Lcm. -/
theorem wlcm_any (a b : Int) (w : World) (hamb : Amb w) (ha : nz a ≤ 1000000) (hb : nz b ≤ 1000000) :
    Calls Tryz.prog 18 #[.string (itx a), .string (itx b)] w (SmallRes (.string (dec (Int.lcm a b))) w) := by
  have hA : Lib.nDigits a.natAbs ≤ 1000000 := ha
  have hB : Lib.nDigits b.natAbs ≤ 1000000 := hb
  have HG := Lib.hid (show Int.lcm a b = Nat.lcm a.natAbs b.natAbs from rfl)
  go_enter Tryz.func18, Tryz.ntmps18
  go_wp2_with fail
  refine (abs_any a _ (by omega)).mono ?_
  rintro e w1 ⟨rfl, hb1⟩
  go_wp2_with fail
  refine (abs_any b _ (by omega)).mono ?_
  rintro e w2 ⟨rfl, hb2⟩
  have hB2 := bel_chain hb1 hb2
  go_wp2_with fail
  refine (lcm_any a.natAbs b.natAbs _ (hamb.below hB2) hA hB).mono ?_
  rintro e w3 ⟨rfl, hb3⟩
  go_wp2_with fail
  go_ret
  exact ⟨by rw [HG.out]; rfl, bel_chain hB2 hb3⟩
end Go.Proofs.YtebcmefbpfcgmaaGreatDoor
