/- The walk of WholeParses: it returns true, for any text. -/
import Derived.Test.YtjglooeljdpadaaDoorLaw2Base
import Derived.Test.YtjglooeljdpadaaDoorWC2
namespace Go.Proofs.YtjglooeljdpadaaDoor
open Go.RowKit Go.PlainAid
set_option maxRecDepth 100000 in
set_option maxHeartbeats 4000000 in
theorem lawParses_walk (s : ByteArray) (w : World) (hamb : Amb w) :
    Calls Tryd.prog 3 #[.string s] w (SmallRes (.bool true) w) := by
  by_cases hf : s.size ≤ 420
  · obtain ⟨u, m, hu⟩ : ∃ u m, ParseRes s.data.toList = .tuple #[.string u, .int .i64 m] := by
      unfold ParseRes
      repeat' split
      all_goals exact ⟨_, _, rfl⟩
    have HU := Lib.hid hu
    clear hu
    go_enter Tryd.func3, Tryd.ntmps3
    have hB0 : Below w.heap.size w w := Below.refl _ _
    have hA0 := hamb
    go_wp2_with fail
    refine (known2_any _ hA0).mono ?_
    rintro e w1 ⟨rfl, hb1⟩
    have hB1 := bel_chain hB0 hb1
    have hA1 := hA0.below hb1
    clear hB0 hA0 hb1
    go_wp2_with fail
    refine (wparse_any s _ (by omega)).mono ?_
    rintro e w2 ⟨rfl, hb2⟩
    have hB2 := bel_chain hB1 hb2
    have hA2 := hA1.below hb2
    clear hB1 hA1 hb2
    rw [HU.out]
    go_wp2_with fail
    refine (rparse_any s _ (by omega)).mono ?_
    rintro e w3 ⟨rfl, hb3⟩
    have hB3 := bel_chain hB2 hb3
    have hA3 := hA2.below hb3
    clear hB2 hA2 hb3
    rw [HU.out]
    go_wp2_with fail
    go_ret
    exact ⟨rfl, hB3⟩
  · go_enter Tryd.func3, Tryd.ntmps3
    have hB0 : Below w.heap.size w w := Below.refl _ _
    have hA0 := hamb
    go_wp2_with fail
    refine (known2_any _ hA0).mono ?_
    rintro e w1 ⟨rfl, hb1⟩
    have hB1 := bel_chain hB0 hb1
    have hA1 := hA0.below hb1
    clear hB0 hA0 hb1
    go_wp2_with fail
    refine (known2_any _ hA1).mono ?_
    rintro e w2 ⟨rfl, hb2⟩
    have hB2 := bel_chain hB1 hb2
    have hA2 := hA1.below hb2
    clear hB1 hA1 hb2
    go_wp2_with fail
    go_ret
    exact ⟨rfl, hB2⟩
end Go.Proofs.YtjglooeljdpadaaDoor
