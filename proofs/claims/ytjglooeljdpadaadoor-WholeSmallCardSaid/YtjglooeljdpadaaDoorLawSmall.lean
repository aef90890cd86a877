/- The walk of WholeSmall: it returns true, for any descriptions. -/
import Derived.Test.YtjglooeljdpadaaDoorLaw2Base
import Derived.Deep.DrawnRows
import Derived.Test.YtjglooeljdpadaaDoorWC2
namespace Go.Proofs.YtjglooeljdpadaaDoor
open Go.RowKit Go.PlainAid
attribute [local go_sem ↓] Go.wp_at_zero Go.wp_at_succ

set_option maxRecDepth 100000 in
set_option maxHeartbeats 4000000 in
theorem lawSmall_walk (g0 : Bool) (A0 : Option Addr) (k0 c0 : Nat) (l0 : List UInt8) (w : World) (hamb : Amb w) (h0 : InB w A0 k0 c0 l0) :
    Calls Tryd.prog 4 #[.agg #[.bool g0, .slice A0 k0 c0]] w (SmallRes (.bool true) w) := by
  obtain ⟨a, Ha⟩ : ∃ a, Hid (mkZ g0 l0 25 = a) := ⟨_, rfl⟩
  have hna : nz a ≤ 25 := by rw [← Ha.out]; exact mkZ_nz g0 l0 24
  go_enter Tryd.func4, Tryd.ntmps4
  go_wp2_with fail
  obtain ⟨W, hW⟩ : ∃ W, (w.alloc (.cells #[.bool g0, .slice A0 k0 c0] 30)) = W := ⟨_, rfl⟩
  have hBW : Below w.heap.size w W := by rw [← hW]; exact ((Below.refl _ _).alloc (Nat.le_refl _) _)
  have hx0 : Boxed W w.heap.size g0 A0 k0 c0 := by rw [← hW]; exact Boxed.new _ _ _ _ _ _
  rw [hW]
  clear hW
  refine (known2_any _ (hamb.below hBW)).mono ?_
  rintro e w1 ⟨rfl, hb1⟩
  have hB1 := bel_chain hBW hb1
  have hy0 := hx0.below hb1
  have hi0 := h0.below hB1
  clear hx0 hBW hb1
  obtain ⟨hl0, hc00, hc01⟩ := hy0
  go_wp2_with fail
  refine (make2_any g0 A0 k0 c0 l0 25 _ hi0 (by omega)).mono ?_
  rw [Ha.out]
  rintro e w2 ⟨rfl, hb2⟩
  have hB0 := bel_chain hB1 hb2
  have hA0 := hamb.below hB0
  clear hB1 hb2 hi0 hc00 hc01 hl0
  have hsv : SmallV a = .tuple #[.int .i64 a, .bool true] ∨ SmallV a = .tuple #[.int .i64 0, .bool false] := by unfold SmallV; split <;> simp
  rcases hsv with hsv | hsv
  all_goals
    have HS := Lib.hid hsv
    clear hsv
    go_wp2_with fail
    refine (wsmall_any a _ hA0 (by omega)).mono ?_
    rintro e w1 ⟨rfl, hb1⟩
    have hB1 := bel_chain hB0 hb1
    have hA1 := hA0.below hb1
    clear hB0 hA0 hb1
    rw [HS.out]
    go_wp2_with fail
    refine (r2small_any a _ (by omega)).mono ?_
    rintro e w2 ⟨rfl, hb2⟩
    have hB2 := bel_chain hB1 hb2
    have hA2 := hA1.below hb2
    clear hB1 hA1 hb2
    rw [HS.out]
    go_wp2_with fail
    go_ret
    exact ⟨rfl, hB2⟩
end Go.Proofs.YtjglooeljdpadaaDoor
