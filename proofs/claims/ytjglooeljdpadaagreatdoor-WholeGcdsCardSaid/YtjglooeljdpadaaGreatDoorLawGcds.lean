/- The walk of WholeGcds: it returns true, for any descriptions. -/
import Derived.Test.YtjglooeljdpadaaGreatDoorLaw2Base
import Derived.Deep.DrawnRows
import Derived.Test.YtjglooeljdpadaaGreatDoorRI
namespace Go.Proofs.YtjglooeljdpadaaGreatDoor
open Go.RowKit Go.PlainAid
attribute [local go_sem ↓] Go.wp_at_zero Go.wp_at_succ

set_option maxRecDepth 100000 in
set_option maxHeartbeats 4000000 in
theorem lawGcds_walk (g0 g1 g2 : Bool) (A0 A1 A2 : Option Addr) (k0 k1 k2 c0 c1 c2 : Nat) (l0 l1 l2 : List UInt8) (w : World) (hamb : Amb w) (h0 : InB w A0 k0 c0 l0) (h1 : InB w A1 k1 c1 l1) (h2 : InB w A2 k2 c2 l2) :
    Calls Tryz.prog 6 #[.agg #[.bool g0, .slice A0 k0 c0], .agg #[.bool g1, .slice A1 k1 c1], .agg #[.bool g2, .slice A2 k2 c2]] w (SmallRes (.bool true) w) := by
  obtain ⟨a, Ha⟩ : ∃ a, Hid (mkZ g0 l0 22 = a) := ⟨_, rfl⟩
  have hna : nz a ≤ 22 := by rw [← Ha.out]; exact mkZ_nz g0 l0 21
  obtain ⟨b, Hb⟩ : ∃ b, Hid (mkZ g1 l1 22 = b) := ⟨_, rfl⟩
  have hnb : nz b ≤ 22 := by rw [← Hb.out]; exact mkZ_nz g1 l1 21
  obtain ⟨c, Hc⟩ : ∃ c, Hid (mkZ g2 l2 6 = c) := ⟨_, rfl⟩
  have hnc : nz c ≤ 6 := by rw [← Hc.out]; exact mkZ_nz g2 l2 5
  go_enter Tryz.func6, Tryz.ntmps6
  go_wp2_with fail
  obtain ⟨W, hW⟩ : ∃ W, (((w.alloc (.cells #[.bool g0, .slice A0 k0 c0] 24)).alloc (.cells #[.bool g1, .slice A1 k1 c1] 24)).alloc (.cells #[.bool g2, .slice A2 k2 c2] 24)) = W := ⟨_, rfl⟩
  have hBW : Below w.heap.size w W := by rw [← hW]; exact ((((Below.refl _ _).alloc (Nat.le_refl _) _).alloc (by simp only [World.size_alloc]; omega) _).alloc (by simp only [World.size_alloc]; omega) _)
  have hx0 : Boxed W w.heap.size g0 A0 k0 c0 := by rw [← hW]; exact ((Boxed.new _ _ _ _ _ _).alloc _).alloc _
  have hx1 : Boxed W (w.heap.size + 1) g1 A1 k1 c1 := by
    rw [← hW]
    have h := Boxed.new (w.alloc (.cells #[.bool g0, .slice A0 k0 c0] 24)) g1 A1 k1 c1 24
    simp only [World.size_alloc] at h
    exact (h).alloc _
  have hx2 : Boxed W (w.heap.size + 2) g2 A2 k2 c2 := by
    rw [← hW]
    have h := Boxed.new ((w.alloc (.cells #[.bool g0, .slice A0 k0 c0] 24)).alloc (.cells #[.bool g1, .slice A1 k1 c1] 24)) g2 A2 k2 c2 24
    simp only [World.size_alloc, Nat.add_assoc, Nat.reduceAdd] at h
    exact h
  rw [hW]
  clear hW
  refine (known2_any _ (hamb.below hBW)).mono ?_
  rintro e w1 ⟨rfl, hb1⟩
  have hB1 := bel_chain hBW hb1
  have hy0 := hx0.below hb1
  have hi0 := h0.below hB1
  have hy1 := hx1.below hb1
  have hi1 := h1.below hB1
  have hy2 := hx2.below hb1
  have hi2 := h2.below hB1
  clear hx0 hx1 hx2 hBW hb1
  obtain ⟨hl2, hc20, hc21⟩ := hy2
  have hc22 : w1.cell? ⟨w.heap.size + 1 + 1, 0, none⟩ = some (.bool g2) := hc20
  have hc23 : w1.cell? ⟨w.heap.size + 1 + 1, 1, none⟩ = some (.slice A2 k2 c2) := hc21
  go_wp2_with fail
  refine (make2_any g2 A2 k2 c2 l2 6 _ hi2 (by omega)).mono ?_
  rw [Hc.out]
  rintro e w2 ⟨rfl, hb2⟩
  have hB2 := bel_chain hB1 hb2
  have hA2 := hamb.below hB2
  have hz0 := hy0.below hb2
  have hz1 := hy1.below hb2
  have hj0 := hi0.below hb2
  have hj1 := hi1.below hb2
  have n1 := nz_mul a c
  have n2 := nz_mul b c
  clear hy0 hy1 hi0 hi1 hi2 hB1 hb2 hl2 hc20 hc21 hc22 hc23
  go_upto_region 4 with fail
  go_cut [8, 9] (fun s8 s9 wx => s8 = .string (itx (a * c)) ∧ s9 = .string (itx (b * c)) ∧ Below w.heap.size w wx)
  case first =>
    obtain ⟨hl0, hc00, hc01⟩ := hz0
    obtain ⟨hl1, hc10, hc11⟩ := hz1
    have HI0 := Lib.hid (hj0.below (bel_drewN (Below.refl _ _) 1))
    have HI1 := Lib.hid (hj1.below (bel_drewN (Below.refl _ _) 1))
    have hAd := Lib.hid (hA2.drewN 1)
    clear hj0 hj1
    go_region_with (first
      | ((with_reducible refine Calls.mono (make2_any g0 A0 k0 c0 l0 22 _ ?_ (by omega)) ?_); (focus (exact HI0.out)); rw [Ha.out]; rintro e w3 ⟨rfl, hb3⟩; have hA3 := Lib.hid (hAd.out.below hb3); have hd10 := (hb3.cell (p := ⟨w.heap.size + 1, 0, none⟩) hl1).trans hc10; have hd11 := (hb3.cell (p := ⟨w.heap.size + 1, 1, none⟩) hl1).trans hc11; have hm1 := Nat.lt_of_lt_of_le hl1 hb3.size)
      | ((with_reducible refine Calls.mono (r2mul_any a c _ hA3.out (by omega) (by omega)) ?_); rintro e w4 ⟨rfl, hb4⟩; have hA4 := Lib.hid (hA3.out.below hb4); have he10 := (hb4.cell (p := ⟨w.heap.size + 1, 0, none⟩) hm1).trans hd10; have he11 := (hb4.cell (p := ⟨w.heap.size + 1, 1, none⟩) hm1).trans hd11)
      | ((with_reducible refine Calls.mono (make2_any g1 A1 k1 c1 l1 22 _ ?_ (by omega)) ?_); (focus (exact (HI1.out.below hb3).below hb4)); rw [Hb.out]; rintro e w5 ⟨rfl, hb5⟩; have hA5 := Lib.hid (hA4.out.below hb5))
      | ((with_reducible refine Calls.mono (r2mul_any b c _ hA5.out (by omega) (by omega)) ?_); rintro e w6 ⟨rfl, hb6⟩))
    all_goals (go_wp2_with fail; go_meet; exact ⟨rfl, rfl, bel_chain (bel_chain (bel_chain (bel_chain (bel_drewN hB2 1) hb3) hb4) hb5) hb6⟩)
  case rest =>
    obtain ⟨rfl, rfl, hB0⟩ := hcut
    have hA0 := hamb.below hB0
    clear hB2 hA2 hz0 hz1 hj0 hj1
    generalize a * c = x at *
    generalize b * c = y at *
    go_wp2_with fail
    refine (wbezout_any x y _ hA0 (by omega) (by omega)).mono ?_
    rintro e w1 ⟨rfl, hb1⟩
    have hB1 := bel_chain hB0 hb1
    have hA1 := hA0.below hb1
    clear hB0 hA0 hb1
    go_wp2_with fail
    refine (r2bezout_any x y _ hA1 (by omega) (by omega)).mono ?_
    rintro e w2 ⟨rfl, hb2⟩
    have hB2 := bel_chain hB1 hb2
    have hA2 := hA1.below hb2
    clear hB1 hA1 hb2
    go_wp2_with fail
    refine (wgcd_any x y _ hA2 (by omega) (by omega)).mono ?_
    rintro e w3 ⟨rfl, hb3⟩
    have hB3 := bel_chain hB2 hb3
    have hA3 := hA2.below hb3
    clear hB2 hA2 hb3
    go_wp2_with fail
    refine (r2gcd_any x y _ hA3 (by omega) (by omega)).mono ?_
    rintro e w4 ⟨rfl, hb4⟩
    have hB4 := bel_chain hB3 hb4
    have hA4 := hA3.below hb4
    clear hB3 hA3 hb4
    go_wp2_with fail
    refine (wlcm_any x y _ hA4 (by omega) (by omega)).mono ?_
    rintro e w5 ⟨rfl, hb5⟩
    have hB5 := bel_chain hB4 hb5
    have hA5 := hA4.below hb5
    clear hB4 hA4 hb5
    go_wp2_with fail
    refine (r2lcm_any x y _ hA5 (by omega) (by omega)).mono ?_
    rintro e w6 ⟨rfl, hb6⟩
    have hB6 := bel_chain hB5 hb6
    have hA6 := hA5.below hb6
    clear hB5 hA5 hb6
    go_wp2_with fail
    go_ret
    exact ⟨rfl, hB6⟩
end Go.Proofs.YtjglooeljdpadaaGreatDoor
