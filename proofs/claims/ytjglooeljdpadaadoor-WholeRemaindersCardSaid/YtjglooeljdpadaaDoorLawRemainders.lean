/- The walk of WholeRemainders: it returns true, for any descriptions. -/
import Derived.Test.YtjglooeljdpadaaDoorLaw2Base
import Derived.Deep.DrawnRows
import Derived.Test.YtjglooeljdpadaaDoorWC2
import Derived.Test.YtjglooeljdpadaaDoorLaw2Plain
namespace Go.Proofs.YtjglooeljdpadaaDoor
open Go.RowKit Go.PlainAid
attribute [local go_sem ↓] Go.wp_at_zero Go.wp_at_succ

set_option maxRecDepth 100000 in
set_option maxHeartbeats 4000000 in
theorem lawRemainders_walk (g0 g1 : Bool) (A0 A1 : Option Addr) (k0 k1 c0 c1 : Nat) (l0 l1 : List UInt8) (w : World) (hamb : Amb w) (h0 : InB w A0 k0 c0 l0) (h1 : InB w A1 k1 c1 l1) :
    Calls Tryd.prog 7 #[.agg #[.bool g0, .slice A0 k0 c0], .agg #[.bool g1, .slice A1 k1 c1]] w (SmallRes (.bool true) w) := by
  obtain ⟨a, Ha⟩ : ∃ a, Hid (mkZ g0 l0 30 = a) := ⟨_, rfl⟩
  have hna : nz a ≤ 30 := by rw [← Ha.out]; exact mkZ_nz g0 l0 29
  obtain ⟨b, Hb⟩ : ∃ b, Hid (mkZ g1 l1 30 = b) := ⟨_, rfl⟩
  have hnb : nz b ≤ 30 := by rw [← Hb.out]; exact mkZ_nz g1 l1 29
  go_enter Tryd.func7, Tryd.ntmps7
  go_wp2_with fail
  obtain ⟨W, hW⟩ : ∃ W, ((w.alloc (.cells #[.bool g0, .slice A0 k0 c0] 30)).alloc (.cells #[.bool g1, .slice A1 k1 c1] 30)) = W := ⟨_, rfl⟩
  have hBW : Below w.heap.size w W := by rw [← hW]; exact (((Below.refl _ _).alloc (Nat.le_refl _) _).alloc (by simp only [World.size_alloc]; omega) _)
  have hx0 : Boxed W w.heap.size g0 A0 k0 c0 := by rw [← hW]; exact (Boxed.new _ _ _ _ _ _).alloc _
  have hx1 : Boxed W (w.heap.size + 1) g1 A1 k1 c1 := by
    rw [← hW]
    have h := Boxed.new (w.alloc (.cells #[.bool g0, .slice A0 k0 c0] 30)) g1 A1 k1 c1 30
    simp only [World.size_alloc] at h
    exact h
  rw [hW]
  clear hW
  refine (known2_any _ (hamb.below hBW)).mono ?_
  rintro e w1 ⟨rfl, hb1⟩
  have hB1 := bel_chain hBW hb1
  have hy0 := hx0.below hb1
  have hi0 := h0.below hB1
  have hy1 := hx1.below hb1
  have hi1 := h1.below hB1
  clear hx0 hx1 hBW hb1
  go_upto_region 3 with fail
  go_cut [5, 6] (fun s5 s6 wx => s5 = .string (itx a) ∧ s6 = .string (itx b) ∧ Below w.heap.size w wx)
  case first =>
    obtain ⟨hl0, hc00, hc01⟩ := hy0
    have HI0 := Lib.hid (hi0.below (bel_drewN (Below.refl _ _) 1))
    obtain ⟨hl1, hc10, hc11⟩ := hy1
    have HI1 := Lib.hid (hi1.below (bel_drewN (Below.refl _ _) 1))
    clear hi0 hi1
    go_region_with (first
      | ((with_reducible refine Calls.mono (make2_any g0 A0 k0 c0 l0 30 _ ?_ (by omega)) ?_); (focus (exact HI0.out)); rw [Ha.out]; rintro e w2 ⟨rfl, hb2⟩; have hd0_10 := (hb2.cell (p := ⟨w.heap.size + 1, 0, none⟩) hl1).trans hc10; have hd0_11 := (hb2.cell (p := ⟨w.heap.size + 1, 1, none⟩) hl1).trans hc11; have hm0_1 := Nat.lt_of_lt_of_le hl1 hb2.size)
      | ((with_reducible refine Calls.mono (make2_any g1 A1 k1 c1 l1 30 _ ?_ (by omega)) ?_); (focus (exact (HI1.out).below hb2)); rw [Hb.out]; rintro e w3 ⟨rfl, hb3⟩))
    all_goals (go_wp2_with fail; go_meet; exact ⟨rfl, rfl, bel_chain (bel_chain (bel_drewN hB1 1) hb2) hb3⟩)
  case rest =>
    obtain ⟨rfl, rfl, hB0⟩ := hcut
    have hA0 := hamb.below hB0
    clear hB1 hy0 hi0 hy1 hi1
    have eb := Lib.hid (bez_combine a b)
    have eg := Lib.hid (bezG_gcd a b)
    have nx := bezX_nz a b
    have ny := bezY_nz a b
    have n1 := nz_mul a (bezX a b)
    have n2 := nz_mul b (bezY a b)
    by_cases hb0 : b = 0
    · have hz : ((itx b).toList == [48]) = true := by rw [hb0]; exact itx_zero_same
      clear hb0
      go_wp2_with fail
      refine (wbezout_any a b _ hA0 (by omega) (by omega)).mono ?_
      rintro e w1 ⟨rfl, hb1⟩
      have hB1 := bel_chain hB0 hb1
      have hA1 := hA0.below hb1
      clear hB0 hA0 hb1
      rw [eg.out]
      generalize bezX a b = u at *
      generalize bezY a b = v at *
      go_wp2_with fail
      refine (wmul_any a u _ hA1 (by omega) (by omega)).mono ?_
      rintro e w2 ⟨rfl, hb2⟩
      have hB2 := bel_chain hB1 hb2
      have hA2 := hA1.below hb2
      clear hB1 hA1 hb2
      go_wp2_with fail
      refine (wmul_any b v _ hA2 (by omega) (by omega)).mono ?_
      rintro e w3 ⟨rfl, hb3⟩
      have hB3 := bel_chain hB2 hb3
      have hA3 := hA2.below hb3
      clear hB2 hA2 hb3
      go_wp2_with fail
      refine (wadd_any (a * u) (b * v) _ hA3 (by omega) (by omega)).mono ?_
      rintro e w4 ⟨rfl, hb4⟩
      have hB4 := bel_chain hB3 hb4
      have hA4 := hA3.below hb4
      clear hB3 hA3 hb4
      rw [eb.out]
      go_wp2_with fail
      refine (wgcd_itx a b _ hA4 (by omega) (by omega)).mono ?_
      rintro e w5 ⟨rfl, hb5⟩
      have hB5 := bel_chain hB4 hb5
      have hA5 := hA4.below hb5
      clear hB4 hA4 hb5
      go_wp2_with fail
      go_ret
      exact ⟨rfl, hB5⟩
    · have hz := itx_zero_test hb0
      have ed := Lib.hid (fd_back a hb0)
      have er := Lib.hid (fr_sign a hb0)
      have nq : nz (fq a b) ≤ 31 := Nat.le_trans (nz_succ (fq_le a b)) (by omega)
      have nr := nz_mono (fr_le a hb0)
      have n3 := nz_mul b (fq a b)
      go_wp2_with fail
      refine (wbezout_any a b _ hA0 (by omega) (by omega)).mono ?_
      rintro e w1 ⟨rfl, hb1⟩
      have hB1 := bel_chain hB0 hb1
      have hA1 := hA0.below hb1
      clear hB0 hA0 hb1
      rw [eg.out]
      generalize bezX a b = u at *
      generalize bezY a b = v at *
      go_wp2_with fail
      refine (wmul_any a u _ hA1 (by omega) (by omega)).mono ?_
      rintro e w2 ⟨rfl, hb2⟩
      have hB2 := bel_chain hB1 hb2
      have hA2 := hA1.below hb2
      clear hB1 hA1 hb2
      go_wp2_with fail
      refine (wmul_any b v _ hA2 (by omega) (by omega)).mono ?_
      rintro e w3 ⟨rfl, hb3⟩
      have hB3 := bel_chain hB2 hb3
      have hA3 := hA2.below hb3
      clear hB2 hA2 hb3
      go_wp2_with fail
      refine (wadd_any (a * u) (b * v) _ hA3 (by omega) (by omega)).mono ?_
      rintro e w4 ⟨rfl, hb4⟩
      have hB4 := bel_chain hB3 hb4
      have hA4 := hA3.below hb4
      clear hB3 hA3 hb4
      rw [eb.out]
      go_wp2_with fail
      refine (wgcd_itx a b _ hA4 (by omega) (by omega)).mono ?_
      rintro e w5 ⟨rfl, hb5⟩
      have hB5 := bel_chain hB4 hb5
      have hA5 := hA4.below hb5
      clear hB4 hA4 hb5
      go_wp2_with fail
      refine (wdivmod_any a b _ hA5 hb0 (by omega) (by omega)).mono ?_
      rintro e w6 ⟨rfl, hb6⟩
      have hB6 := bel_chain hB5 hb6
      have hA6 := hA5.below hb6
      clear hB5 hA5 hb6
      generalize fq a b = q at *
      generalize fr a b = r at *
      go_wp2_with fail
      refine (wmul_any b q _ hA6 (by omega) (by omega)).mono ?_
      rintro e w7 ⟨rfl, hb7⟩
      have hB7 := bel_chain hB6 hb7
      have hA7 := hA6.below hb7
      clear hB6 hA6 hb7
      go_wp2_with fail
      refine (wadd_any (b * q) r _ hA7 (by omega) (by omega)).mono ?_
      rintro e w8 ⟨rfl, hb8⟩
      have hB8 := bel_chain hB7 hb8
      have hA8 := hA7.below hb8
      clear hB7 hA7 hb8
      rw [ed.out]
      by_cases hr0 : r = 0
      · have hzr : ((itx r).toList == [48]) = true := by rw [hr0]; exact itx_zero_same
        clear hr0
        go_wp2_with fail
        go_ret
        exact ⟨rfl, hB8⟩
      · have hzr := itx_zero_test hr0
        have ec := Lib.hid (er.out hr0).2
        have es := Lib.hid (er.out hr0).1
        have nb1 : nz ((b.natAbs : Nat) : Int) ≤ 30 := by rw [nz_nat]; exact hnb
        have nr1 : nz ((r.natAbs : Nat) : Int) ≤ 30 := by rw [nz_nat]; unfold nz at nr hnb; omega
        go_wp2_with fail
        refine (sign_any r _ (by omega)).mono ?_
        rintro e w9 ⟨rfl, hb9⟩
        have hB9 := bel_chain hB8 hb9
        have hA9 := hA8.below hb9
        clear hB8 hA8 hb9
        rw [es.out]
        go_wp2_with fail
        refine (sign_any b _ (by omega)).mono ?_
        rintro e w10 ⟨rfl, hb10⟩
        have hB10 := bel_chain hB9 hb10
        have hA10 := hA9.below hb10
        clear hB9 hA9 hb10
        go_wp2_with fail
        refine (abs_itx r _ (by omega)).mono ?_
        rintro e w11 ⟨rfl, hb11⟩
        have hB11 := bel_chain hB10 hb11
        have hA11 := hA10.below hb11
        clear hB10 hA10 hb11
        go_wp2_with fail
        refine (abs_itx b _ (by omega)).mono ?_
        rintro e w12 ⟨rfl, hb12⟩
        have hB12 := bel_chain hB11 hb12
        have hA12 := hA11.below hb12
        clear hB11 hA11 hb12
        go_wp2_with fail
        refine (wcompare_any ((r.natAbs : Nat) : Int) ((b.natAbs : Nat) : Int) _ (by omega) (by omega)).mono ?_
        rintro e w13 ⟨rfl, hb13⟩
        have hB13 := bel_chain hB12 hb13
        have hA13 := hA12.below hb13
        clear hB12 hA12 hb13
        rw [ec.out]
        go_wp2_with fail
        go_ret
        exact ⟨rfl, hB13⟩
end Go.Proofs.YtjglooeljdpadaaDoor
