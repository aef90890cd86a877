/- Greater text, out of: T15, T16. -/
import Derived.Test.YtdjhngbpfdopnaaGreatDoorGg
import Derived.Deep.DrawnRows
namespace Go.Proofs.YtdjhngbpfdopnaaGreatDoor
section
open Go.RowKit Go.PlainAid

attribute [local go_sem] field_whole0 field_whole1 field_rat0 field_rat1
theorem gcd_stepN (x y : Nat) : Nat.gcd y (x % y) = Nat.gcd x y := by rw [Nat.gcd_comm x y, Nat.gcd_rec y x, Nat.gcd_comm]
set_option maxRecDepth 100000 in
set_option maxHeartbeats 1000000 in
/-- schismaref03.little. -/
theorem t3little_any (v : Value) (z : Int) (d : Nat) (w : World) (hamb : Amb w) (h : W3 w v z) (hz : z.natAbs < 1000000000) (hd0 : 0 < d) (hd : d < 1000000000) :
    Calls Tryz.prog 125 #[v, .int .i64 (d : Int)] w (SmallRes (rv (Rat.divInt z d)) w) := by
  obtain ⟨s, A, n, cap, rfl, hl, hle, hcap, hw⟩ := h.parts
  obtain ⟨A', n', cap', hv, hns⟩ := h
  unfold wv at hv
  simp only [Value.agg.injEq, Array.mk.injEq, List.cons.injEq, Value.bool.injEq, Value.slice.injEq, and_true] at hv
  obtain ⟨hs, rfl, rfl, rfl⟩ := hv
  obtain ⟨x0, hx0⟩ : ∃ x, z.natAbs = x := ⟨_, rfl⟩
  have hn1 : n ≤ 1 := by rw [hl, lims_len_le]; omega
  have hzp : s = true → z < 0 := fun e => of_decide_eq_true (hs.symm.trans e)
  have hzn : s = false → 0 ≤ z := fun e => by have := of_decide_eq_false (hs.symm.trans e); omega
  have hdi : (0 : Int) < (d : Int) := by omega
  obtain ⟨Q, hQ⟩ : ∃ Q, Rat.divInt z (d : Int) = Q := ⟨_, rfl⟩
  have HNUM := Lib.hid (show Q.num = z / ((Int.gcd z d : Nat) : Int) by rw [← hQ]; exact divInt_pos_num z d hdi)
  have HDEN := Lib.hid (show (Q.den : Int) = (d : Int) / ((Int.gcd z d : Nat) : Int) by rw [← hQ]; exact divInt_pos_den z d hdi)
  rw [hQ]
  clear hQ
  have HGC := Lib.hid (show Int.gcd z d = Nat.gcd x0 d by rw [← hx0]; rfl)
  have hg0 : 0 < Nat.gcd x0 d := Nat.gcd_pos_of_pos_right _ hd0
  have HG0 := Lib.hid hg0
  have HX0 := Lib.hid hx0
  have HAMB := Lib.hid hamb
  have HZP := Lib.hid hzp
  have HZN := Lib.hid hzn
  have hxb : x0 < 1000000000 := by omega
  have HN := Lib.hid (lims_len_zero (z := z) hl.symm)
  have HLS := Lib.hid (show n = 1 → lims z.natAbs = [x0] by
    intro e
    rw [hl] at e
    have := lims_single e
    rw [this.2.1, hx0])
  have HNS := Lib.hid (fun wz (h : Below w.heap.size w wz) => hns.below h (Nat.le_refl _))
  clear hw hns hs hl hzp hzn hz hg0 hamb hx0
  go_enter Tryz.func125, Tryz.ntmps125
  go_upto_if 11 with fail
  go_cut [5] (fun s5 wx => s5 = .int .i64 (x0 : Int) ∧ ((w.alloc (.cells #[.bool s, .slice A n cap] 73)).alloc (.cells #[.string ⟨#[]⟩, .string ⟨#[]⟩] 27)) = wx)
  case first =>
    by_cases hn0 : n = 0
    · subst hn0
      have hz0 := HN.out.1 rfl
      have hx00 : x0 = 0 := by rw [← HX0.out, hz0]; rfl
      subst hx00
      clear hz0
      go_wp2_with fail
      go_meet
      exact ⟨rfl, rfl⟩
    · have hn' : n = 1 := by omega
      subst hn'
      have hls := HLS.out rfl
      obtain ⟨g, rfl, hp⟩ := (HNS.out w (Below.refl _ _)).at_ (show 0 < 1 by omega)
      have hg := hp.lt
      have hc := hp.cell 0 (by omega)
      rw [hls] at hc
      clear hp hls
      go_wp2_with fail
      go_meet
      exact ⟨rfl, rfl⟩
  case rest =>
    obtain ⟨rfl, hW⟩ := hcut
    obtain ⟨hX, hBW⟩ := B2.of hW
    have HX := Lib.hid (fun wz (hb : Below wc.heap.size wc wz) => hX.later hb)
    have HB := Lib.hid hBW
    have HA := Lib.hid (fun wz (hb : Below wc.heap.size wc wz) => HAMB.out.below (bel_chain HB.out hb))
    clear hW hX hBW
    go_wp2_with fail
    go_loopw [6, 7] (fun vu vv wr => ∃ u v : Nat, vu = .int .i64 (u : Int) ∧ vv = .int .i64 (v : Int) ∧ u < 1000000000 ∧ v < 1000000000 ∧ Hid (Nat.gcd u v = Nat.gcd x0 d) ∧ Below wc.heap.size wc wr) (fun _ vv _ => (intOf vv).toNat)
    case atStart => exact ⟨x0, d, rfl, rfl, hxb, hd, Lib.hid rfl, Below.refl _ _⟩
    case round =>
      obtain ⟨u, v, rfl, rfl, hu, hv, HG2, hB2⟩ := hrel
      by_cases hv0 : v = 0
      · subst hv0
        have hg := HG2.out
        rw [Nat.gcd_zero_right] at hg
        have hu0 : 0 < u := by rw [hg]; exact HG0.out
        have hu1 : (1 : Int) ≤ (u : Int) := by omega
        have hub : ((u : Int) == 0) = false := by rw [beq_eq_false_iff_ne]; omega
        have HNU := Lib.hid (show Q.num = z / (u : Int) by rw [HNUM.out, HGC.out, hg])
        have HDE := Lib.hid (show (Q.den : Int) = (d : Int) / (u : Int) by rw [HDEN.out, HGC.out, hg])
        have hdv : u ∣ x0 := by rw [hg]; exact Nat.gcd_dvd_left _ _
        obtain ⟨k, hk⟩ := hdv
        have HK := Lib.hid hk
        have hke : (x0 : Int) / (u : Int) = (k : Int) := by rw [hk, Int.natCast_mul, Int.mul_ediv_cancel_left _ (by omega)]
        have hk9 : (x0 : Int) / (u : Int) ≤ 999999999 := Int.le_trans (Int.ediv_le_self _ (by omega)) (by omega)
        have hk0 : 0 ≤ (x0 : Int) / (u : Int) := Int.ediv_nonneg (by omega) (by omega)
        have HKE := Lib.hid hke
        obtain ⟨⟨_, a0, a1, _, _⟩, ⟨r0, r1, r2, r3, r4⟩⟩ := HX.out _ hB2
        have HB2 := Lib.hid hB2
        have hd9 : (d : Int) / (u : Int) ≤ 999999999 := Int.le_trans (Int.ediv_le_self _ (by omega)) (by omega)
        have hd0' : 0 ≤ (d : Int) / (u : Int) := Int.ediv_nonneg (by omega) (by omega)
        clear hg hk hke hB2 HG2
        go_wp2_with fail
        go_quiet (fail)
        cases s with
        | true =>
          have HZZ := Lib.hid (HZP.out rfl)
          have HV := Lib.hid (show -((x0 : Int) / (u : Int)) = Q.num by
            rw [HNU.out, HKE.out]
            have h1 := HZZ.out
            have h2 := HX0.out
            have h3 : z = (u : Int) * -(k : Int) := by rw [Int.mul_neg, ← Int.natCast_mul, ← HK.out]; omega
            rw [h3, Int.mul_ediv_cancel_left _ (by omega)])
          clear HZP HZN
          go_wp2_with fail
          refine (t3int_any (-((x0 : Int) / (u : Int))) _ (HA.out _ (bel_drewN HB2.out _)) (by omega) (by omega)).mono ?_
          rintro e w1 ⟨rfl, hb1⟩
          have hb1' := bel_chain (bel_drewN HB2.out _) hb1
          clear hb1
          go_wp2_with fail
          refine (t3int_any ((d : Int) / (u : Int)) _ (HA.out _ hb1') (by omega) (by omega)).mono ?_
          rintro e w2 ⟨rfl, hb2⟩
          have hb2' := bel_chain hb1' hb2
          obtain ⟨_, ⟨r20, r21, r22, r23, r24⟩⟩ := HX.out _ hb2'
          have HB3 := Lib.hid hb2'
          clear hb2 hb1' hb2'
          go_wp2_with fail
          refine ret_cell rfl rfl (load_rat (g := w.heap.size + 1) ((HX.out _ HB3.out).store1 _ _).2) rfl ?_
          exact ⟨by rw [HV.out, ← HDE.out], ((bel_chain HB.out HB3.out).setCell (by simp <;> omega) _).setCell (by simp <;> omega) _⟩
        | false =>
          have HZZ := Lib.hid (HZN.out rfl)
          have HV := Lib.hid (show ((x0 : Int) / (u : Int)) = Q.num by
            rw [HNU.out]
            have h1 := HZZ.out
            have h2 := HX0.out
            rw [show z = (x0 : Int) by omega])
          clear HZP HZN
          go_wp2_with fail
          refine (t3int_any ((x0 : Int) / (u : Int)) _ (HA.out _ (bel_drewN HB2.out _)) (by omega) (by omega)).mono ?_
          rintro e w1 ⟨rfl, hb1⟩
          have hb1' := bel_chain (bel_drewN HB2.out _) hb1
          clear hb1
          go_wp2_with fail
          refine (t3int_any ((d : Int) / (u : Int)) _ (HA.out _ hb1') (by omega) (by omega)).mono ?_
          rintro e w2 ⟨rfl, hb2⟩
          have hb2' := bel_chain hb1' hb2
          obtain ⟨_, ⟨r20, r21, r22, r23, r24⟩⟩ := HX.out _ hb2'
          have HB3 := Lib.hid hb2'
          clear hb2 hb1' hb2'
          go_wp2_with fail
          refine ret_cell rfl rfl (load_rat (g := w.heap.size + 1) ((HX.out _ HB3.out).store1 _ _).2) rfl ?_
          exact ⟨by rw [HV.out, ← HDE.out], ((bel_chain HB.out HB3.out).setCell (by simp <;> omega) _).setCell (by simp <;> omega) _⟩
      · have hv1 : (1 : Int) ≤ (v : Int) := by omega
        have hvb : ((v : Int) == 0) = false := by rw [beq_eq_false_iff_ne]; omega
        have hm := Nat.mod_lt u (Nat.pos_of_ne_zero hv0)
        have hte : (u : Int).tmod (v : Int) = ((u % v : Nat) : Int) := by rw [Int.tmod_eq_emod_of_nonneg (by omega), Int.natCast_emod]
        have H1 := Lib.hid hm
        have H2 := Lib.hid (show Nat.gcd v (u % v) = Nat.gcd x0 d by rw [gcd_stepN]; exact HG2.out)
        have HT := Lib.hid hte
        clear hm hte
        go_wp2
        go_quiet (fail)
        go_wp2
        go_roundw
        case rel => exact ⟨v, u % v, rfl, vint (by first | exact HT.out | omega), hv, by have := H1.out; omega, H2, bel_drewN hB2 _⟩
        case measure =>
          have := H1.out
          simp [intOf]
          omega
end
section
open Go.RowKit Go.PlainAid
attribute [local go_sem ↓] Go.wp_at_zero Go.wp_at_succ
attribute [local go_sem] field_whole0 field_whole1 field_rat0 field_rat1

/-- Behind the change of signs: the boxes hold a numerator and a positive denominator of the same fraction. -/
def MakeMid (a b : Int) (w wx : World) : Prop := ∃ a' b' s1 A1 n1 c1 s2 A2 n2 c2, 0 < b' ∧ Rat.divInt a' b' = Rat.divInt a b ∧ nz a' = nz a ∧ nz b' = nz b ∧ Below w.heap.size w wx ∧
  B3 w.heap.size (.bool s1) (.slice A1 n1 c1) (.bool s2) (.slice A2 n2 c2) (.string ⟨#[]⟩) (.string ⟨#[]⟩) wx ∧ W3 wx (.agg #[.bool s1, .slice A1 n1 c1]) a' ∧ W3 wx (.agg #[.bool s2, .slice A2 n2 c2]) b' ∧ NoInt wx (w.heap.size + 1 + 1)
theorem W3.sl {w : World} {s : Bool} {A : Option Addr} {n cap : Nat} {z : Int} (h : W3 w (.agg #[.bool s, .slice A n cap]) z) : s = decide (z < 0) ∧ Ns w A n cap (lims z.natAbs) := by
  obtain ⟨A', n', cap', e, hns⟩ := h
  unfold wv at e
  simp only [Value.agg.injEq, Array.mk.injEq, List.cons.injEq, Value.bool.injEq, Value.slice.injEq, and_true] at e
  obtain ⟨rfl, rfl, rfl, rfl⟩ := e
  exact ⟨rfl, hns⟩
theorem sg_div (a : Int) (g : Nat) (h : g ∣ a.natAbs) : sgZ (decide (a < 0)) (a.natAbs / g) = a / (g : Int) := by
  obtain ⟨k, hk⟩ := h
  by_cases hg : g = 0
  · subst hg; simp [sgZ]
  rw [hk, Nat.mul_div_cancel_left _ (by omega)]
  unfold sgZ
  by_cases hn : a < 0
  · rw [if_pos (decide_eq_true hn)]
    have h3 : a = (g : Int) * -(k : Int) := by rw [Int.mul_neg, ← Int.natCast_mul, ← hk]; omega
    rw [h3, Int.mul_ediv_cancel_left _ (by omega)]
  · rw [decide_eq_false hn]
    have h3 : a = (g : Int) * (k : Int) := by rw [← Int.natCast_mul, ← hk]; omega
    rw [h3, Int.mul_ediv_cancel_left _ (by omega)]; rfl
theorem noInt_two {w W : World} {c1 c2 c3 : Array Value} {T1 T2 T3 : TypeId} (h : (((w.alloc (.cells c1 T1)).alloc (.cells c2 T2)).alloc (.cells c3 T3)) = W) (hT1 : T1 ≠ 3) (hT2 : T2 ≠ 3) : NoInt W w.heap.size ∧ NoInt W (w.heap.size + 1) := by
  subst h
  have h2 := NoInt.new (w.alloc (.cells c1 T1)) c2 T2 hT2
  rw [World.size_alloc] at h2
  exact ⟨((NoInt.new w c1 T1 hT1).alloc _).alloc _, h2.alloc _⟩
set_option maxRecDepth 100000 in
set_option maxHeartbeats 4000000 in
/-- schismaref03.Make. -/
theorem t3make_any (v1 v2 : Value) (a b : Int) (w : World) (hamb : Amb w) (h1 : W3 w v1 a) (h2 : W3 w v2 b) (hb0 : b ≠ 0) (ha : nz a ≤ 90000) (hb : nz b ≤ 90000) :
    Calls Tryz.prog 72 #[v1, v2] w (SmallRes (rv (Rat.divInt a b)) w) := by
  obtain ⟨s1, A1, n1, c1, rfl, hl1, hle1, hcap1, hp⟩ := h1.parts
  obtain ⟨s2, A2, n2, c2, rfl, hl2, hle2, hcap2, hq⟩ := h2.parts
  have HP := Lib.hid hp
  have HQ := Lib.hid hq
  have HAMB := Lib.hid hamb
  obtain ⟨Q, hQ⟩ : ∃ Q, Rat.divInt a b = Q := ⟨_, rfl⟩
  have HQQ := Lib.hid hQ
  rw [hQ]
  clear hp hq hl1 hl2 hamb h1 h2 hQ
  go_enter Tryz.func72, Tryz.ntmps72
  go_wp2_with fail
  obtain ⟨W, hW⟩ : ∃ W, (((w.alloc (.cells #[.bool s1, .slice A1 n1 c1] 73)).alloc (.cells #[.bool s2, .slice A2 n2 c2] 73)).alloc (.cells #[.string ⟨#[]⟩, .string ⟨#[]⟩] 27)) = W := ⟨_, rfl⟩
  rw [hW]
  have HNI := Lib.hid (And.intro (noInt_two hW whole_ne_int whole_ne_int) (NoInt.three hW (by decide)))
  obtain ⟨hX, hBW⟩ := B3.of hW
  clear hW
  refine (t3sign_any _ b _ (HQ.out _ hBW)).mono ?_
  rintro e w1 ⟨rfl, hb1⟩
  have hX1 := hX.later hb1
  have HX1 := Lib.hid hX1
  have HNI1 := Lib.hid (show NoInt w1 w.heap.size ∧ NoInt w1 (w.heap.size + 1) ∧ NoInt w1 (w.heap.size + 1 + 1) from ⟨HNI.out.1.1.later hb1, HNI.out.1.2.later hb1, HNI.out.2.later hb1⟩)
  have HB1 := Lib.hid (bel_chain hBW hb1)
  obtain ⟨⟨ga0, ga1, ga2, ga3, ga4⟩, ⟨gb0, gb1, gb2, gb3, gb4⟩, ⟨gr0, gr1, gr2, gr3, gr4⟩⟩ := hX1
  clear hX hBW hb1 HNI
  go_upto_if 12 with fail
  go_cut [40] (fun s40 wx => s40 = s40 ∧ MakeMid a b w wx)
  case first =>
    by_cases hneg : b < 0
    · have hsg : b.sign = -1 := Int.sign_eq_neg_one_of_neg hneg
      have HD := Lib.hid ((Below.refl w1.heap.size w1).drew)
      have HN1 := Lib.hid (t3neg_any _ a w1.drew (HP.out _ HB1.out.drew))
      go_wp2_with fail
      go_region_with (first
        | (have _h2 := hz6; ((with_reducible refine HN2.out.mono ?_); rintro e w7 ⟨v7, rfl, hw7, hb7⟩; obtain ⟨s7, A7, n7, c7, hv7, he7, _, _, HW7⟩ := hw7.parts; subst hv7; clear he7; have hz7 := bel_chain hz6 hb7; have hx7 := HX1.out.later hz7; have HX7 := Lib.hid hx7; obtain ⟨⟨_, a70, a71, a72, a73⟩, ⟨_, b70, b71, b72, b73⟩, _⟩ := hx7))
        | ((with_reducible refine HN1.out.mono ?_); rintro e w6 ⟨v6, rfl, hw6, hb6⟩; obtain ⟨s6, A6, n6, c6, hv6, he6, _, _, HW6⟩ := hw6.parts; subst hv6; clear he6; have hz6 := bel_chain HD.out hb6; have hx6 := HX1.out.later hz6; obtain ⟨⟨_, a60, a61, a62, a63⟩, ⟨_, b60, b61, b62, b63⟩, _⟩ := hx6; have HN2 := Lib.hid (t3neg_any _ b w6 (HQ.out _ (bel_chain HB1.out hz6)))))
      all_goals
        go_wp2_with fail
        go_meet
        have hni := HNI1.out.1.later hz7
        have hni2 := HNI1.out.2.1.later hz7
        have hni3 := HNI1.out.2.2.later hz7
        exact ⟨trivial, -a, -b, s6, A6, n6, c6, s7, A7, n7, c7, by omega, Rat.neg_divInt_neg a b, nz_neg a, nz_neg b,
          ((((bel_chain HB1.out hz7).setCell (by simp) _).setCell (by simp) _).setCell (by simp <;> omega) _).setCell (by simp <;> omega) _, (HX7.out.store0 _ _).store1 _ _,
          ((HW6 w7 hb7).store2 hni _ _).store2 ((hni2.setCell _ _).setCell _ _) _ _, ((HW7 w7 (Below.refl _ _)).store2 hni _ _).store2 ((hni2.setCell _ _).setCell _ _) _ _, (((hni3.setCell _ _).setCell _ _).setCell _ _).setCell _ _⟩
    · have hsg : b.sign = 1 := Int.sign_eq_one_of_pos (by omega)
      go_wp2_with fail
      go_meet
      exact ⟨trivial, a, b, s1, A1, n1, c1, s2, A2, n2, c2, by omega, rfl, rfl, rfl, HB1.out, HX1.out, HP.out _ HB1.out, HQ.out _ HB1.out, HNI1.out.2.2⟩
  case rest =>
    obtain ⟨_, a', b', t1, D1, m1, k1, t2, D2, m2, k2, hbp, hdi, hna, hnb, hB, hX, hw1, hw2, hni⟩ := hcut
    obtain ⟨x, rfl⟩ : ∃ x : Nat, b' = x := ⟨b'.toNat, by omega⟩
    rw [HQQ.out] at hdi
    have HNUM := Lib.hid (show Q.num = a' / ((Int.gcd a' (x : Int) : Nat) : Int) by rw [← hdi]; exact divInt_pos_num a' x hbp)
    have HDEN := Lib.hid (show (Q.den : Int) = (x : Int) / ((Int.gcd a' (x : Int) : Nat) : Int) by rw [← hdi]; exact divInt_pos_den a' x hbp)
    have HDI := Lib.hid hdi
    obtain ⟨ht1, hns1⟩ := hw1.sl
    obtain ⟨ht2, hns2⟩ := hw2.sl
    rw [Int.natAbs_natCast] at hns2
    have hx0 : 0 < x := by omega
    have HS1 := Lib.hid ht1
    have HN1 := Lib.hid hns1
    have HN2 := Lib.hid hns2
    have hm1 := hns1.cap_le
    have hm2 := hns2.cap_le
    have hle1' := hns1.le
    have hle2' := hns2.le
    have HL1 := Lib.hid hns1.len
    have HL2 := Lib.hid hns2.len
    have HX := Lib.hid hX
    have HB := Lib.hid hB
    have HNI := Lib.hid hni
    have HW1 := hw1.hid
    have HW2 := hw2.hid
    have HA := Lib.hid (fun wz (hb : Below wc.heap.size wc wz) => HAMB.out.below (bel_chain HB.out hb))
    obtain ⟨⟨_, a0, a1, _, _⟩, ⟨_, b0, b1, _, _⟩, ⟨_, r0, r1, r2, r3⟩⟩ := hX
    clear hdi ht1 ht2 hns1 hns2 hB hni hw1 hw2 HQQ HNI1 HP HQ HX1 HB1
    by_cases hs : m1 ≤ 1 ∧ m2 = 1
    · obtain ⟨hs1, rfl⟩ := hs
      have hsi : (m1 : Int) ≤ 1 := by omega
      have hls := lims_single HL2.out
      have hxb : x < 1000000000 := hls.1
      have hab : a'.natAbs < 1000000000 := by
        have h := (lims_len_le a'.natAbs 1).1 (by rw [HL1.out]; exact hs1)
        simpa using h
      obtain ⟨g, rfl, hp⟩ := HN2.out.at_ (show 0 < 1 by omega)
      have hgl := hp.lt
      have hge := hp.ne HNI.out
      have hce := hp.cell 0 (by omega)
      rw [hls.2.1] at hce
      have HCE := Lib.hid (show ∀ wz, Below wc.heap.size wc wz → wz.cell? ⟨g, 0, none⟩ = some (.int .i64 (x : Int)) from fun wz hb => (hb.cell (p := ⟨g, 0, none⟩) hgl).trans hce)
      have hc1 := t3little_any _ a' x wc.drew (HA.out _ (Below.refl _ _).drew) (HW1.out _ (Below.refl _ _).drew) hab hx0 hxb
      rw [HDI.out] at hc1
      have HC1 := Lib.hid hc1
      have HD := Lib.hid ((Below.refl wc.heap.size wc).drew)
      have HGE := Lib.hid hge
      clear hls hp hge hc1
      go_wp2_with fail
      go_region_held3 (fun w' => w'.cell? ⟨w.heap.size, 0, none⟩ = some (.bool t1) ∧ w'.cell? ⟨w.heap.size, 1, none⟩ = some (.slice D1 m1 k1) ∧ w'.cell? ⟨w.heap.size + 1, 1, none⟩ = some (.slice (some ⟨g, 0, none⟩) 1 k2) ∧ w'.cell? ⟨g, 0, none⟩ = some (.int .i64 (x : Int)))
        (first | exact ⟨(HXL.out.store2 _ _).1.2.1, (HXL.out.store2 _ _).1.2.2.1, (HXL.out.store2 _ _).2.1.2.2.1, HKL.out _ _⟩ | go_keep)
        (first
          | ((with_reducible refine HC1.out.mono ?_); rintro e w2 ⟨rfl, hb2⟩; have hz2 := bel_chain HD.out hb2; have hce2 := HCE.out _ hz2; have HXL := Lib.hid (HX.out.later hz2); have HKL := Lib.hid (fun (u v : Value) => show ((w2.setCell ⟨w.heap.size + 1 + 1, 0, none⟩ u).setCell ⟨w.heap.size + 1 + 1, 1, none⟩ v).cell? ⟨g, 0, none⟩ = some (.int .i64 (x : Int)) from by rw [World.cell?_setCell_other _ _ _ _ (by intro e; injection e with e; exact HGE.out (by first | exact e | exact e.symm)), World.cell?_setCell_other _ _ _ _ (by intro e; injection e with e; exact HGE.out (by first | exact e | exact e.symm))]; exact hce2); obtain ⟨⟨_, a20, a21, _, _⟩, ⟨_, b20, b21, _, _⟩, ⟨_, r20, r21, r22, r23⟩⟩ := HX.out.later hz2))
      go_wp2_with fail
      refine ret_cell rfl rfl (load_rat (g := w.heap.size + 1 + 1) (HXL.out.store2 _ _).2.2) rfl ?_
      exact ⟨rfl, ((bel_chain HB.out hz2).setCell (by simp <;> omega) _).setCell (by simp <;> omega) _⟩
    · have hcase : (1 : Int) < (m1 : Int) ∨ ((m1 : Int) ≤ 1 ∧ ((m2 : Int) == 1) = false) := by
        by_cases h : m1 ≤ 1
        · exact .inr ⟨by omega, by rw [beq_eq_false_iff_ne]; omega⟩
        · exact .inl (by omega)
      have hna9 : nz a' ≤ 90000 := by omega
      have hnx9 : nz (x : Int) ≤ 90000 := by omega
      have hm19 : m1 ≤ 90000 := by rw [← HL1.out]; exact nz_lims hna9
      have hm29 : m2 ≤ 90000 := by rw [← HL2.out]; exact nz_lims (z := (x : Int)) hnx9
      obtain ⟨g, hg⟩ : ∃ g, Int.gcd a' (x : Int) = g := ⟨_, rfl⟩
      have hg0 : 0 < g := by rw [← hg]; exact Nat.gcd_pos_of_pos_right _ hx0
      rw [hg] at HNUM HDEN
      have HD1 := Lib.hid (show g ∣ a'.natAbs by rw [← hg]; exact Nat.gcd_dvd_left _ _)
      have HGX := Lib.hid (show g ≤ x by rw [← hg]; exact Nat.gcd_le_right _ hx0)
      have hc1 := t3gcd_any _ _ a' (x : Int) wc (HW1.out _ (Below.refl _ _)) (HW2.out _ (Below.refl _ _)) hna9 hnx9
      rw [hg] at hc1
      have HC1 := Lib.hid hc1
      clear hs hc1 hg hna hnb
      rcases hcase with hc | ⟨hc, hc2⟩
      all_goals
        go_wp2_with fail
        refine HC1.out.mono ?_
        rintro e w2 ⟨v2, rfl, hv2, hb2⟩
        obtain ⟨s5, A5, n5, c5, rfl, hl5, hle5, hcap5, hw5⟩ := hv2.parts
        obtain ⟨hs5, hns5⟩ := hv2.sl
        rw [Int.natAbs_natCast] at hns5
        have HN5 := Lib.hid hns5
        have hn5 : n5 ≤ 90000 := by rw [← hns5.len]; exact nz_lims (z := (g : Int)) (Nat.le_trans (nz_mono (by have := HGX.out; omega)) hnx9)
        have HX2 := Lib.hid (HX.out.later hb2)
        have HB2 := Lib.hid hb2
        obtain ⟨⟨_, a20, a21, _, _⟩, ⟨_, b20, b21, _, _⟩, ⟨_, r20, r21, r22, r23⟩⟩ := HX2.out
        clear hv2 hs5 hns5 hb2 hl5 hw5
        go_wp2_with fail
        have hb3 : Below w2.heap.size w2 (w2.alloc (.cells #[.bool s5, .slice A5 n5 c5] 73)) := (Below.refl _ _).alloc (Nat.le_refl _) _
        have hx3 := Box2.new w2 (.bool s5) (.slice A5 n5 c5) 73
        refine (t3divide_any D1 m1 k1 A5 n5 c5 a'.natAbs g _ (HN1.out.below (bel_chain HB2.out hb3) (Nat.le_refl _)) (HN5.out.below hb3 (Nat.le_refl _)) hg0 (by omega) (by omega)).mono ?_
        rintro e w4 ⟨Aq, nq, cq, Ar, nr, cr, rfl, hq4, hr4, hb4⟩
        have HX4 := Lib.hid (hx3.later hb4)
        have HB4 := Lib.hid (bel_chain hb3 hb4)
        have HN4 := Lib.hid (fun wz (hb : Below w4.heap.size w4 wz) => hq4.below hb (Nat.le_refl _))
        obtain ⟨⟨_, a40, a41, _, _⟩, ⟨_, b40, b41, _, _⟩, ⟨_, r40, r41, r42, r43⟩⟩ := HX2.out.later HB4.out
        obtain ⟨_, g40, g41, _, _⟩ := HX4.out
        clear hb3 hx3 hq4 hr4 hb4
        go_wp2_with fail
        refine (t3divide_any D2 m2 k2 A5 n5 c5 x g _ (HN2.out.below (bel_chain HB2.out HB4.out) (Nat.le_refl _)) (HN5.out.below HB4.out (Nat.le_refl _)) hg0 (by omega) (by omega)).mono ?_
        rintro e w5 ⟨Ap, np, cp, As, ns, cs, rfl, hp5, hs5, hb5⟩
        have HB5 := Lib.hid (bel_chain (bel_chain HB2.out HB4.out) hb5)
        have HP5 := Lib.hid hp5
        have HC5 := Lib.hid (t3trim_lims t1 Aq nq cq (a'.natAbs / g) w5 (HN4.out _ hb5))
        have HQ5 := Lib.hid (HN4.out _ hb5)
        obtain ⟨⟨_, a50, a51, _, _⟩, ⟨_, b50, b51, _, _⟩, ⟨_, r50, r51, r52, r53⟩⟩ := HX.out.later HB5.out
        clear hp5 hs5 hb5
        go_wp2_with fail
        refine HC5.out.mono ?_
        rintro e w6 ⟨rfl, hb6⟩
        have HB6 := Lib.hid (bel_chain HB5.out hb6)
        have hw6 := W3.of_sg3 (s := t1) (HQ5.out.below hb6 (Nat.le_refl _))
        rw [HS1.out, sg_div a' g HD1.out, ← HS1.out] at hw6
        have HC6 := Lib.hid (t3from_any _ _ w6 (HA.out _ HB6.out) hw6 (Nat.le_trans (nz_mono (natAbs_ediv_le _ _ (by omega))) (show nz a' ≤ 1000000 by omega)))
        have HP6 := Lib.hid (HP5.out.below hb6 (Nat.le_refl _))
        obtain ⟨⟨_, a60, a61, _, _⟩, ⟨_, b60, b61, _, _⟩, ⟨_, r60, r61, r62, r63⟩⟩ := HX.out.later HB6.out
        clear hb6 hw6
        go_wp2_with fail
        refine HC6.out.mono ?_
        rintro e w7 ⟨rfl, hb7⟩
        have HB7 := Lib.hid (bel_chain HB6.out hb7)
        have hw7 : W3 w7 (.agg #[.bool false, .slice Ap np cp]) ((x / g : Nat) : Int) := ⟨Ap, np, cp, by rw [decide_eq_false (Int.not_lt.2 (Int.natCast_nonneg _))]; rfl, by rw [Int.natAbs_natCast]; exact HP6.out.below hb7 (Nat.le_refl _)⟩
        have HC7 := Lib.hid (t3from_any _ _ w7 (HA.out _ HB7.out) hw7 (Nat.le_trans (nz_mono (by rw [Int.natAbs_natCast, Int.natAbs_natCast]; exact Nat.div_le_self _ _)) (show nz (x : Int) ≤ 1000000 by omega)))
        obtain ⟨⟨_, a70, a71, _, _⟩, ⟨_, b70, b71, _, _⟩, ⟨_, r70, r71, r72, r73⟩⟩ := HX.out.later HB7.out
        clear hb7 hw7
        go_wp2_with fail
        refine HC7.out.mono ?_
        rintro e w8 ⟨rfl, hb8⟩
        have HB8 := Lib.hid (bel_chain HB7.out hb8)
        have HX8 := Lib.hid (HX.out.later HB8.out)
        obtain ⟨_, _, ⟨_, r80, r81, r82, r83⟩⟩ := HX8.out
        clear hb8
        go_wp2_with fail
        refine ret_cell rfl rfl (load_rat (g := w.heap.size + 1 + 1) (HX8.out.store2 _ _).2.2) rfl ?_
        refine ⟨?_, ((bel_chain HB.out HB8.out).setCell (by simp <;> omega) _).setCell (by simp <;> omega) _⟩
        rw [← HNUM.out, ← HDEN.out]
end
end Go.Proofs.YtdjhngbpfdopnaaGreatDoor
