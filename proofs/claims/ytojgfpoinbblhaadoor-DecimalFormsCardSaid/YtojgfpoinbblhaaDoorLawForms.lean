/- The walk of DecimalForms: it returns true, for any string. -/
import Derived.Test.YtojgfpoinbblhaaDoorLawBase1
import Derived.Test.YtojgfpoinbblhaaDoorRefCan
namespace Go.Proofs.YtojgfpoinbblhaaDoor
open Go.RowKit
set_option maxRecDepth 100000 in
set_option maxHeartbeats 4000000 in
theorem lawForms_walk (s : ByteArray) (w : World) (hamb : Amb w) :
    Calls Tryd.prog 6 #[.string s] w (SmallRes (.bool true) w) := by
  by_cases hf : s.size ≤ 500
  · have hcan := fun w1 => canonical_any s w1 (by omega)
    have hrc := fun w1 => rcanonical_any s w1 (by omega)
    have hck := fun w1 => check_any s w1 (by omega)
    by_cases h4 : s.size ≤ 400
    all_goals rcases hcc : canon s.data.toList with _ | _
    all_goals
      rw [hcc] at hcan hrc hck
      simp [h4] at hck
      have HCAN := Lib.hid hcan
      have HRC := Lib.hid hrc
      have HCK := Lib.hid hck
      clear hcan hrc hck hcc
      go_enter Tryd.func6, Tryd.ntmps6
      have hB0 : Below w.heap.size w w := Below.refl _ _
      have hA0 := hamb
      go_wp2_with fail
      refine (known1_any _ hA0).mono ?_
      rintro e w1 ⟨rfl, hb1⟩
      have hB1 := bel_chain hB0 hb1
      have hA1 := hA0.below hb1
      clear hB0 hA0 hb1
      go_wp2_with fail
      refine (HRC.out _).mono ?_
      rintro e w1' ⟨rfl, rfl⟩
      go_wp2_with fail
      refine (HCK.out _).mono ?_
      rintro e w2 ⟨rfl, hb2⟩
      have hB2 := bel_chain hB1 hb2
      have hA2 := hA1.below hb2
      clear hB1 hA1 hb2
      go_wp2_with fail
      refine (HCAN.out _).mono ?_
      rintro e w3 ⟨rfl, hb3⟩
      have hB3 := bel_chain hB2 hb3
      have hA3 := hA2.below hb3
      clear hB2 hA2 hb3
      go_wp2_with fail
      go_ret
      exact ⟨rfl, hB3⟩
  · go_enter Tryd.func6, Tryd.ntmps6
    have hB0 : Below w.heap.size w w := Below.refl _ _
    have hA0 := hamb
    go_wp2_with fail
    refine (known1_any _ hA0).mono ?_
    rintro e w1 ⟨rfl, hb1⟩
    have hB1 := bel_chain hB0 hb1
    have hA1 := hA0.below hb1
    clear hB0 hA0 hb1
    go_wp2_with fail
    refine (known1_any _ hA1).mono ?_
    rintro e w2 ⟨rfl, hb2⟩
    have hB2 := bel_chain hB1 hb2
    have hA2 := hA1.below hb2
    clear hB1 hA1 hb2
    go_wp2_with fail
    go_ret
    exact ⟨rfl, hB2⟩
end Go.Proofs.YtojgfpoinbblhaaDoor
