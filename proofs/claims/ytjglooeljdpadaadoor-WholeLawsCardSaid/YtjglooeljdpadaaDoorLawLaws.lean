/- The walk of WholeLaws: it returns true, for any descriptions. -/
import Derived.Test.YtjglooeljdpadaaDoorLaw2Base
import Derived.Deep.DrawnRows
import Derived.Test.YtjglooeljdpadaaDoorWC2
import Derived.Test.YtjglooeljdpadaaDoorLaw2Plain
namespace Go.Proofs.YtjglooeljdpadaaDoor
open Go.RowKit Go.PlainAid
attribute [local go_sem ↓] Go.wp_at_zero Go.wp_at_succ

set_option maxRecDepth 100000 in
set_option maxHeartbeats 4000000 in
theorem lawLaws_walk (g0 g1 g2 : Bool) (A0 A1 A2 : Option Addr) (k0 k1 k2 c0 c1 c2 : Nat) (l0 l1 l2 : List UInt8) (w : World) (hamb : Amb w) (h0 : InB w A0 k0 c0 l0) (h1 : InB w A1 k1 c1 l1) (h2 : InB w A2 k2 c2 l2) :
    Calls Tryd.prog 6 #[.agg #[.bool g0, .slice A0 k0 c0], .agg #[.bool g1, .slice A1 k1 c1], .agg #[.bool g2, .slice A2 k2 c2]] w (SmallRes (.bool true) w) := by
  obtain ⟨a, Ha⟩ : ∃ a, Hid (mkZ g0 l0 24 = a) := ⟨_, rfl⟩
  have hna : nz a ≤ 24 := by rw [← Ha.out]; exact mkZ_nz g0 l0 23
  obtain ⟨b, Hb⟩ : ∃ b, Hid (mkZ g1 l1 24 = b) := ⟨_, rfl⟩
  have hnb : nz b ≤ 24 := by rw [← Hb.out]; exact mkZ_nz g1 l1 23
  obtain ⟨c, Hc⟩ : ∃ c, Hid (mkZ g2 l2 24 = c) := ⟨_, rfl⟩
  have hnc : nz c ≤ 24 := by rw [← Hc.out]; exact mkZ_nz g2 l2 23
  go_enter Tryd.func6, Tryd.ntmps6
  go_wp2_with fail
  obtain ⟨W, hW⟩ : ∃ W, (((w.alloc (.cells #[.bool g0, .slice A0 k0 c0] 30)).alloc (.cells #[.bool g1, .slice A1 k1 c1] 30)).alloc (.cells #[.bool g2, .slice A2 k2 c2] 30)) = W := ⟨_, rfl⟩
  have hBW : Below w.heap.size w W := by rw [← hW]; exact ((((Below.refl _ _).alloc (Nat.le_refl _) _).alloc (by simp only [World.size_alloc]; omega) _).alloc (by simp only [World.size_alloc]; omega) _)
  have hx0 : Boxed W w.heap.size g0 A0 k0 c0 := by rw [← hW]; exact ((Boxed.new _ _ _ _ _ _).alloc _).alloc _
  have hx1 : Boxed W (w.heap.size + 1) g1 A1 k1 c1 := by
    rw [← hW]
    have h := Boxed.new (w.alloc (.cells #[.bool g0, .slice A0 k0 c0] 30)) g1 A1 k1 c1 30
    simp only [World.size_alloc] at h
    exact (h).alloc _
  have hx2 : Boxed W (w.heap.size + 2) g2 A2 k2 c2 := by
    rw [← hW]
    have h := Boxed.new ((w.alloc (.cells #[.bool g0, .slice A0 k0 c0] 30)).alloc (.cells #[.bool g1, .slice A1 k1 c1] 30)) g2 A2 k2 c2 30
    simp only [World.size_alloc, Nat.add_assoc, Nat.reduceAdd] at h
    exact h
  rw [hW]
  clear hW
  refine (known2_any _ (hamb.below hBW)).mono ?_
  rintro e w1 ⟨rfl, hb1⟩
  have hB1 := bel_chain hBW hb1
  have hy0 := hx0.below hb1
  have hi0 := h0.below hB1
  have hy1 := hx1.below hb1
  have hi1 := h1.below hB1
  have hy2 := hx2.below hb1
  have hi2 := h2.below hB1
  clear hx0 hx1 hx2 hBW hb1
  go_upto_region 3 with fail
  go_cut [7, 8, 9] (fun s7 s8 s9 wx => s7 = .string (itx a) ∧ s8 = .string (itx b) ∧ s9 = .string (itx c) ∧ Below w.heap.size w wx)
  case first =>
    obtain ⟨hl0, hc00, hc01⟩ := hy0
    have HI0 := Lib.hid (hi0.below (bel_drewN (Below.refl _ _) 1))
    obtain ⟨hl1, hc10, hc11⟩ := hy1
    have HI1 := Lib.hid (hi1.below (bel_drewN (Below.refl _ _) 1))
    obtain ⟨hl2, hc20, hc21⟩ := hy2
    have HI2 := Lib.hid (hi2.below (bel_drewN (Below.refl _ _) 1))
    clear hi0 hi1 hi2
    go_region_with (first
      | ((with_reducible refine Calls.mono (make2_any g0 A0 k0 c0 l0 24 _ ?_ (by omega)) ?_); (focus (exact HI0.out)); rw [Ha.out]; rintro e w2 ⟨rfl, hb2⟩; have hd0_10 := (hb2.cell (p := ⟨w.heap.size + 1, 0, none⟩) hl1).trans hc10; have hd0_11 := (hb2.cell (p := ⟨w.heap.size + 1, 1, none⟩) hl1).trans hc11; have hm0_1 := Nat.lt_of_lt_of_le hl1 hb2.size; have hd0_20 := (hb2.cell (p := ⟨w.heap.size + 2, 0, none⟩) hl2).trans hc20; have hd0_21 := (hb2.cell (p := ⟨w.heap.size + 2, 1, none⟩) hl2).trans hc21; have hm0_2 := Nat.lt_of_lt_of_le hl2 hb2.size)
      | ((with_reducible refine Calls.mono (make2_any g1 A1 k1 c1 l1 24 _ ?_ (by omega)) ?_); (focus (exact (HI1.out).below hb2)); rw [Hb.out]; rintro e w3 ⟨rfl, hb3⟩; have hd1_20 := (hb3.cell (p := ⟨w.heap.size + 2, 0, none⟩) hm0_2).trans hd0_20; have hd1_21 := (hb3.cell (p := ⟨w.heap.size + 2, 1, none⟩) hm0_2).trans hd0_21; have hm1_2 := Nat.lt_of_lt_of_le hm0_2 hb3.size)
      | ((with_reducible refine Calls.mono (make2_any g2 A2 k2 c2 l2 24 _ ?_ (by omega)) ?_); (focus (exact ((HI2.out).below hb2).below hb3)); rw [Hc.out]; rintro e w4 ⟨rfl, hb4⟩))
    all_goals (go_wp2_with fail; go_meet; exact ⟨rfl, rfl, rfl, bel_chain (bel_chain (bel_chain (bel_drewN hB1 1) hb2) hb3) hb4⟩)
  case rest =>
    obtain ⟨rfl, rfl, rfl, hB0⟩ := hcut
    have hA0 := hamb.below hB0
    clear hB1 hy0 hi0 hy1 hi1 hy2 hi2
    have ep := Lib.hid (parse_itx a (by omega))
    have e1 := Lib.hid (Int.add_comm b a)
    have e2 := Lib.hid (Int.mul_comm b a)
    have e3 := Lib.hid (Int.add_sub_cancel a b)
    have e4 := Lib.hid (Int.mul_add a b c)
    have e5 := Lib.hid (cmpZ_add a b c)
    have e6 := Lib.hid (gcd_lcm a b)
    have n1 := nz_add a b
    have n2 := nz_mul a b
    have n3 := nz_add b c
    have n4 := nz_mul a c
    have n5 := nz_add a c
    have n6 := nz_gcd a b
    have n7 := nz_lcm a b
    have hsp : (itx a).size ≤ 1000000 := Nat.le_trans (itx_size_le a) (by omega)
    go_wp2_with fail
    refine (wparse_any (itx a) _ hsp).mono ?_
    rintro e w1 ⟨rfl, hb1⟩
    have hB1 := bel_chain hB0 hb1
    have hA1 := hA0.below hb1
    clear hB0 hA0 hb1
    rw [ep.out]
    go_wp2_with fail
    refine (wadd_any a b _ hA1 (by omega) (by omega)).mono ?_
    rintro e w2 ⟨rfl, hb2⟩
    have hB2 := bel_chain hB1 hb2
    have hA2 := hA1.below hb2
    clear hB1 hA1 hb2
    go_wp2_with fail
    refine (wadd_any b a _ hA2 (by omega) (by omega)).mono ?_
    rintro e w3 ⟨rfl, hb3⟩
    have hB3 := bel_chain hB2 hb3
    have hA3 := hA2.below hb3
    clear hB2 hA2 hb3
    rw [e1.out]
    go_wp2_with fail
    refine (wmul_any a b _ hA3 (by omega) (by omega)).mono ?_
    rintro e w4 ⟨rfl, hb4⟩
    have hB4 := bel_chain hB3 hb4
    have hA4 := hA3.below hb4
    clear hB3 hA3 hb4
    go_wp2_with fail
    refine (wmul_any b a _ hA4 (by omega) (by omega)).mono ?_
    rintro e w5 ⟨rfl, hb5⟩
    have hB5 := bel_chain hB4 hb5
    have hA5 := hA4.below hb5
    clear hB4 hA4 hb5
    rw [e2.out]
    go_wp2_with fail
    refine (wadd_any a b _ hA5 (by omega) (by omega)).mono ?_
    rintro e w6 ⟨rfl, hb6⟩
    have hB6 := bel_chain hB5 hb6
    have hA6 := hA5.below hb6
    clear hB5 hA5 hb6
    go_wp2_with fail
    refine (wsub_any (a + b) b _ hA6 (by omega) (by omega)).mono ?_
    rintro e w7 ⟨rfl, hb7⟩
    have hB7 := bel_chain hB6 hb7
    have hA7 := hA6.below hb7
    clear hB6 hA6 hb7
    rw [e3.out]
    go_wp2_with fail
    refine (wadd_any b c _ hA7 (by omega) (by omega)).mono ?_
    rintro e w8 ⟨rfl, hb8⟩
    have hB8 := bel_chain hB7 hb8
    have hA8 := hA7.below hb8
    clear hB7 hA7 hb8
    go_wp2_with fail
    refine (wmul_any a (b + c) _ hA8 (by omega) (by omega)).mono ?_
    rintro e w9 ⟨rfl, hb9⟩
    have hB9 := bel_chain hB8 hb9
    have hA9 := hA8.below hb9
    clear hB8 hA8 hb9
    rw [e4.out]
    go_wp2_with fail
    refine (wmul_any a b _ hA9 (by omega) (by omega)).mono ?_
    rintro e w10 ⟨rfl, hb10⟩
    have hB10 := bel_chain hB9 hb10
    have hA10 := hA9.below hb10
    clear hB9 hA9 hb10
    go_wp2_with fail
    refine (wmul_any a c _ hA10 (by omega) (by omega)).mono ?_
    rintro e w11 ⟨rfl, hb11⟩
    have hB11 := bel_chain hB10 hb11
    have hA11 := hA10.below hb11
    clear hB10 hA10 hb11
    go_wp2_with fail
    refine (wadd_any (a * b) (a * c) _ hA11 (by omega) (by omega)).mono ?_
    rintro e w12 ⟨rfl, hb12⟩
    have hB12 := bel_chain hB11 hb12
    have hA12 := hA11.below hb12
    clear hB11 hA11 hb12
    go_wp2_with fail
    refine (wadd_any a c _ hA12 (by omega) (by omega)).mono ?_
    rintro e w13 ⟨rfl, hb13⟩
    have hB13 := bel_chain hB12 hb13
    have hA13 := hA12.below hb13
    clear hB12 hA12 hb13
    go_wp2_with fail
    refine (wadd_any b c _ hA13 (by omega) (by omega)).mono ?_
    rintro e w14 ⟨rfl, hb14⟩
    have hB14 := bel_chain hB13 hb14
    have hA14 := hA13.below hb14
    clear hB13 hA13 hb14
    go_wp2_with fail
    refine (wcompare_any (a + c) (b + c) _ (by omega) (by omega)).mono ?_
    rintro e w15 ⟨rfl, hb15⟩
    have hB15 := bel_chain hB14 hb15
    have hA15 := hA14.below hb15
    clear hB14 hA14 hb15
    rw [e5.out]
    go_wp2_with fail
    refine (wcompare_any a b _ (by omega) (by omega)).mono ?_
    rintro e w16 ⟨rfl, hb16⟩
    have hB16 := bel_chain hB15 hb16
    have hA16 := hA15.below hb16
    clear hB15 hA15 hb16
    go_wp2_with fail
    refine (wgcd_itx a b _ hA16 (by omega) (by omega)).mono ?_
    rintro e w17 ⟨rfl, hb17⟩
    have hB17 := bel_chain hB16 hb17
    have hA17 := hA16.below hb17
    clear hB16 hA16 hb17
    go_wp2_with fail
    refine (wlcm_itx a b _ hA17 (by omega) (by omega)).mono ?_
    rintro e w18 ⟨rfl, hb18⟩
    have hB18 := bel_chain hB17 hb18
    have hA18 := hA17.below hb18
    clear hB17 hA17 hb18
    go_wp2_with fail
    refine (wmul_any ((Int.gcd a b : Nat) : Int) ((Int.lcm a b : Nat) : Int) _ hA18 (by omega) (by omega)).mono ?_
    rintro e w19 ⟨rfl, hb19⟩
    have hB19 := bel_chain hB18 hb19
    have hA19 := hA18.below hb19
    clear hB18 hA18 hb19
    rw [e6.out]
    go_wp2_with fail
    refine (wmul_any a b _ hA19 (by omega) (by omega)).mono ?_
    rintro e w20 ⟨rfl, hb20⟩
    have hB20 := bel_chain hB19 hb20
    have hA20 := hA19.below hb20
    clear hB19 hA19 hb20
    go_wp2_with fail
    refine (abs_itx (a * b) _ (by omega)).mono ?_
    rintro e w21 ⟨rfl, hb21⟩
    have hB21 := bel_chain hB20 hb21
    have hA21 := hA20.below hb21
    clear hB20 hA20 hb21
    go_wp2_with fail
    go_ret
    exact ⟨rfl, hB21⟩
end Go.Proofs.YtjglooeljdpadaaDoor
