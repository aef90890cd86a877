/- The walk of WholeDivides: it returns true, for any descriptions. -/
import Derived.Test.YtjglooeljdpadaaGreatDoorLaw2Base
import Derived.Deep.DrawnRows
import Derived.Test.YtjglooeljdpadaaGreatDoorRH
namespace Go.Proofs.YtjglooeljdpadaaGreatDoor
open Go.RowKit Go.PlainAid
attribute [local go_sem ↓] Go.wp_at_zero Go.wp_at_succ

set_option maxRecDepth 100000 in
set_option maxHeartbeats 4000000 in
theorem lawDivides_walk (g0 g1 : Bool) (A0 A1 : Option Addr) (k0 k1 c0 c1 : Nat) (l0 l1 : List UInt8) (w : World) (hamb : Amb w) (h0 : InB w A0 k0 c0 l0) (h1 : InB w A1 k1 c1 l1) :
    Calls Tryz.prog 5 #[.agg #[.bool g0, .slice A0 k0 c0], .agg #[.bool g1, .slice A1 k1 c1]] w (SmallRes (.bool true) w) := by
  obtain ⟨a, Ha⟩ : ∃ a, Hid (mkZ g0 l0 60 = a) := ⟨_, rfl⟩
  have hna : nz a ≤ 60 := by rw [← Ha.out]; exact mkZ_nz g0 l0 59
  obtain ⟨b, Hb⟩ : ∃ b, Hid (mkZ g1 l1 60 = b) := ⟨_, rfl⟩
  have hnb : nz b ≤ 60 := by rw [← Hb.out]; exact mkZ_nz g1 l1 59
  go_enter Tryz.func5, Tryz.ntmps5
  go_wp2_with fail
  obtain ⟨W, hW⟩ : ∃ W, ((w.alloc (.cells #[.bool g0, .slice A0 k0 c0] 24)).alloc (.cells #[.bool g1, .slice A1 k1 c1] 24)) = W := ⟨_, rfl⟩
  have hBW : Below w.heap.size w W := by rw [← hW]; exact (((Below.refl _ _).alloc (Nat.le_refl _) _).alloc (by simp only [World.size_alloc]; omega) _)
  have hx0 : Boxed W w.heap.size g0 A0 k0 c0 := by rw [← hW]; exact (Boxed.new _ _ _ _ _ _).alloc _
  have hx1 : Boxed W (w.heap.size + 1) g1 A1 k1 c1 := by
    rw [← hW]
    have h := Boxed.new (w.alloc (.cells #[.bool g0, .slice A0 k0 c0] 24)) g1 A1 k1 c1 24
    simp only [World.size_alloc] at h
    exact h
  rw [hW]
  clear hW
  refine (known2_any _ (hamb.below hBW)).mono ?_
  rintro e w1 ⟨rfl, hb1⟩
  have hB1 := bel_chain hBW hb1
  have hy0 := hx0.below hb1
  have hi0 := h0.below hB1
  have hy1 := hx1.below hb1
  have hi1 := h1.below hB1
  clear hx0 hx1 hBW hb1
  go_upto_region 3 with fail
  go_cut [5, 6] (fun s5 s6 wx => s5 = .string (itx a) ∧ s6 = .string (itx b) ∧ Below w.heap.size w wx)
  case first =>
    obtain ⟨hl0, hc00, hc01⟩ := hy0
    have HI0 := Lib.hid (hi0.below (bel_drewN (Below.refl _ _) 1))
    obtain ⟨hl1, hc10, hc11⟩ := hy1
    have HI1 := Lib.hid (hi1.below (bel_drewN (Below.refl _ _) 1))
    clear hi0 hi1
    go_region_with (first
      | ((with_reducible refine Calls.mono (make2_any g0 A0 k0 c0 l0 60 _ ?_ (by omega)) ?_); (focus (exact HI0.out)); rw [Ha.out]; rintro e w2 ⟨rfl, hb2⟩; have hd0_10 := (hb2.cell (p := ⟨w.heap.size + 1, 0, none⟩) hl1).trans hc10; have hd0_11 := (hb2.cell (p := ⟨w.heap.size + 1, 1, none⟩) hl1).trans hc11; have hm0_1 := Nat.lt_of_lt_of_le hl1 hb2.size)
      | ((with_reducible refine Calls.mono (make2_any g1 A1 k1 c1 l1 60 _ ?_ (by omega)) ?_); (focus (exact (HI1.out).below hb2)); rw [Hb.out]; rintro e w3 ⟨rfl, hb3⟩))
    all_goals (go_wp2_with fail; go_meet; exact ⟨rfl, rfl, bel_chain (bel_chain (bel_drewN hB1 1) hb2) hb3⟩)
  case rest =>
    obtain ⟨rfl, rfl, hB0⟩ := hcut
    have hA0 := hamb.below hB0
    clear hB1 hy0 hi0 hy1 hi1
    by_cases hb0 : b = 0
    · subst hb0
      have hz := itx_zero_same
      go_wp2_with fail
      refine (wdivmod_zero a _).mono ?_
      rintro e w1 ⟨rfl, hb1⟩
      have hB1 := bel_chain hB0 hb1
      have hA1 := hA0.below hb1
      clear hB0 hA0 hb1
      go_wp2_with fail
      go_ret
      exact ⟨rfl, hB1⟩
    · have hz := itx_zero_test hb0
      go_wp2_with fail
      refine (wdivmod_any a b _ hA0 hb0 (by omega) (by omega)).mono ?_
      rintro e w1 ⟨rfl, hb1⟩
      have hB1 := bel_chain hB0 hb1
      have hA1 := hA0.below hb1
      clear hB0 hA0 hb1
      go_wp2_with fail
      refine (r2divmod_any a b _ hA1 hb0 (by omega) (by omega)).mono ?_
      rintro e w2 ⟨rfl, hb2⟩
      have hB2 := bel_chain hB1 hb2
      have hA2 := hA1.below hb2
      clear hB1 hA1 hb2
      go_wp2_with fail
      go_ret
      exact ⟨rfl, hB2⟩
end Go.Proofs.YtjglooeljdpadaaGreatDoor
