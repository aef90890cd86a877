/- The walk of WholePowers: it returns true, for any descriptions. -/
import Derived.Test.YtebcmefbpfcgmaaGreatDoorLaw2Base
import Derived.Deep.DrawnRows
import Derived.Test.YtebcmefbpfcgmaaGreatDoorRK
namespace Go.Proofs.YtebcmefbpfcgmaaGreatDoor
open Go.RowKit Go.PlainAid
attribute [local go_sem ↓] Go.wp_at_zero Go.wp_at_succ

set_option maxRecDepth 100000 in
set_option maxHeartbeats 4000000 in
theorem lawPowers_walk (g0 : Bool) (A0 : Option Addr) (k0 c0 : Nat) (l0 : List UInt8) (w : World) (hamb : Amb w) (h0 : InB w A0 k0 c0 l0) (ex : Int) (hlo : -9223372036854775808 ≤ ex) (hhi : ex ≤ 9223372036854775807) :
    Calls Tryz.prog 4 #[.agg #[.bool g0, .slice A0 k0 c0], .int .i64 ex] w (SmallRes (.bool true) w) := by
  obtain ⟨a, Ha⟩ : ∃ a, Hid (mkZ g0 l0 20 = a) := ⟨_, rfl⟩
  have hna : nz a ≤ 20 := by rw [← Ha.out]; exact mkZ_nz g0 l0 19
  go_enter Tryz.func4, Tryz.ntmps4
  go_wp2_with fail
  obtain ⟨W, hW⟩ : ∃ W, (w.alloc (.cells #[.bool g0, .slice A0 k0 c0] 24)) = W := ⟨_, rfl⟩
  have hBW : Below w.heap.size w W := by rw [← hW]; exact ((Below.refl _ _).alloc (Nat.le_refl _) _)
  have hx0 : Boxed W w.heap.size g0 A0 k0 c0 := by rw [← hW]; exact Boxed.new _ _ _ _ _ _
  rw [hW]
  clear hW
  refine (known2_any _ (hamb.below hBW)).mono ?_
  rintro e w1 ⟨rfl, hb1⟩
  have hB1 := bel_chain hBW hb1
  have hy0 := hx0.below hb1
  have hi0 := h0.below hB1
  clear hx0 hBW hb1
  obtain ⟨hl0, hc00, hc01⟩ := hy0
  go_wp2_with fail
  refine (make2_any g0 A0 k0 c0 l0 20 _ hi0 (by omega)).mono ?_
  rw [Ha.out]
  rintro e w2 ⟨rfl, hb2⟩
  have hB0 := bel_chain hB1 hb2
  have hA0 := hamb.below hB0
  clear hB1 hb2 hi0 hc00 hc01 hl0
  have hsz := Lib.hid (show 1 ≤ ((dec a.natAbs).size : Int) by rw [dec_size]; have := Lib.nDigits_pos a.natAbs; omega)
  by_cases hneg : ex < 0
  · clear hsz
    go_wp2_with fail
    refine (wpower_neg a ex _ hneg).mono ?_
    rintro e w1 ⟨rfl, hb1⟩
    have hB1 := bel_chain hB0 hb1
    have hA1 := hA0.below hb1
    clear hB0 hA0 hb1
    go_wp2_with fail
    go_ret
    exact ⟨rfl, hB1⟩
  · have hs1 := hsz.out
    have hs0 : (((dec a.natAbs).size : Int) == 0) = false := by rw [beq_eq_false_iff_ne]; omega
    have hs2 : ((dec a.natAbs).size : Int) ≤ 1000000 := by rw [dec_size]; unfold nz at hna; omega
    by_cases hbig : 4000 / ((dec a.natAbs).size : Int) < ex
    · clear hsz
      go_wp2_with fail
      refine (wpower_big a ex _ (by omega) (by omega) hbig).mono ?_
      rintro e w1 ⟨rfl, hb1⟩
      have hB1 := bel_chain hB0 hb1
      have hA1 := hA0.below hb1
      clear hB0 hA0 hb1
      go_wp2_with fail
      refine (r2abs_any a _ (by omega)).mono ?_
      rintro e w2 ⟨rfl, hb2⟩
      have hB2 := bel_chain hB1 hb2
      have hA2 := hA1.below hb2
      clear hB1 hA1 hb2
      go_wp2_with fail
      go_ret
      exact ⟨rfl, hB2⟩
    · obtain ⟨n, rfl⟩ : ∃ n : Nat, ex = n := ⟨ex.toNat, by omega⟩
      have hn4 : n ≤ 4000 := by
        have h1 : (4000 : Int) / ((dec a.natAbs).size : Int) ≤ 4000 := Int.ediv_le_self _ (by omega)
        omega
      go_wp2_with fail
      refine (wpower_any a n _ hA0 (by omega) hn4 (Int.not_lt.2 hbig)).mono ?_
      rintro e w1 ⟨rfl, hb1⟩
      have hB1 := bel_chain hB0 hb1
      have hA1 := hA0.below hb1
      clear hB0 hA0 hb1
      go_wp2_with fail
      refine (r2abs_any a _ (by omega)).mono ?_
      rintro e w2 ⟨rfl, hb2⟩
      have hB2 := bel_chain hB1 hb2
      have hA2 := hA1.below hb2
      clear hB1 hA1 hb2
      by_cases h40 : 40 < (n : Int)
      · clear hsz
        go_wp2_with fail
        go_ret
        exact ⟨rfl, hB2⟩
      · clear hsz
        go_wp2_with fail
        refine (r2power_any a n _ hA2 (by omega) (by omega)).mono ?_
        rintro e w3 ⟨rfl, hb3⟩
        have hB3 := bel_chain hB2 hb3
        have hA3 := hA2.below hb3
        clear hB2 hA2 hb3
        go_wp2_with fail
        go_ret
        exact ⟨rfl, hB3⟩
end Go.Proofs.YtebcmefbpfcgmaaGreatDoor
