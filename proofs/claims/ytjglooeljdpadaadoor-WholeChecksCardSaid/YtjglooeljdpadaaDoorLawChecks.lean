/- The walk of WholeChecks: it returns true, for any text. -/
import Derived.Test.YtjglooeljdpadaaDoorLaw2Base
import Derived.Test.YtjglooeljdpadaaDoorWC2
namespace Go.Proofs.YtjglooeljdpadaaDoor
open Go.RowKit Go.PlainAid
set_option maxRecDepth 100000 in
set_option maxHeartbeats 4000000 in
theorem lawChecks_walk (s : ByteArray) (n : Int) (w : World) (hamb : Amb w) (hlo : -9223372036854775808 ≤ n) (hhi : n ≤ 9223372036854775807) :
    Calls Tryd.prog 8 #[.string s, .int .i64 n] w (SmallRes (.bool true) w) := by
  by_cases hf : s.size ≤ 420
  · have HSV := Lib.hid (show SmallV n = .tuple #[.int .i64 n, .bool true] by unfold SmallV; rw [if_pos ⟨hlo, hhi⟩])
    have HOF := Lib.hid (fun w1 (h : Amb w1) => wof_any n w1 h hlo hhi)
    have HRO := Lib.hid (fun w1 (h : Amb w1) => r2of_any n w1 h hlo hhi)
    have hnn : nz n ≤ 100 := Nat.le_trans ((nz_le_iff n 19).2 (by have : (10 : Nat) ^ (19 + 1) = 100000000000000000000 := by decide
                                                                  omega)) (by omega)
    have hck := fun w1 => wcheck_any s w1 (by omega)
    have hrt := fun w1 => r2right_any s w1 (by omega)
    by_cases hg : canonT s.data.toList = true ∧ (magT s.data.toList).length ≤ 400
    · rw [if_pos hg] at hck
      rw [hg.1, decide_eq_true hg.2] at hrt
      have HCK := Lib.hid hck
      have HRT := Lib.hid hrt
      clear hck hrt hg hlo hhi
      go_enter Tryd.func8, Tryd.ntmps8
      have hB0 : Below w.heap.size w w := Below.refl _ _
      have hA0 := hamb
      go_wp2_with fail
      refine (known2_any _ hA0).mono ?_
      rintro e w1 ⟨rfl, hb1⟩
      have hB1 := bel_chain hB0 hb1
      have hA1 := hA0.below hb1
      clear hB0 hA0 hb1
      go_wp2_with fail
      refine (HRT.out _).mono ?_
      rintro e w2 ⟨rfl, hb2⟩
      have hB2 := bel_chain hB1 hb2
      have hA2 := hA1.below hb2
      clear hB1 hA1 hb2
      go_wp2_with fail
      refine (HOF.out _ hA2).mono ?_
      rintro e w3 ⟨rfl, hb3⟩
      have hB3 := bel_chain hB2 hb3
      have hA3 := hA2.below hb3
      clear hB2 hA2 hb3
      go_wp2_with fail
      refine (wsmall_any n _ hA3 (by omega)).mono ?_
      rintro e w4 ⟨rfl, hb4⟩
      have hB4 := bel_chain hB3 hb4
      have hA4 := hA3.below hb4
      clear hB3 hA3 hb4
      rw [HSV.out]
      go_wp2_with fail
      refine (HCK.out _).mono ?_
      rintro e w5 ⟨rfl, hb5⟩
      have hB5 := bel_chain hB4 hb5
      have hA5 := hA4.below hb5
      clear hB4 hA4 hb5
      go_wp2_with fail
      refine (HOF.out _ hA5).mono ?_
      rintro e w6 ⟨rfl, hb6⟩
      have hB6 := bel_chain hB5 hb6
      have hA6 := hA5.below hb6
      clear hB5 hA5 hb6
      go_wp2_with fail
      refine (HRO.out _ hA6).mono ?_
      rintro e w7 ⟨rfl, hb7⟩
      have hB7 := bel_chain hB6 hb7
      have hA7 := hA6.below hb7
      clear hB6 hA6 hb7
      go_wp2_with fail
      go_ret
      exact ⟨rfl, hB7⟩
    · rw [if_neg hg] at hck
      have hgb : (canonT s.data.toList && decide ((magT s.data.toList).length ≤ 400)) = false := by simpa using hg
      rw [hgb] at hrt
      have HCK := Lib.hid hck
      have HRT := Lib.hid hrt
      clear hck hrt hg hgb hlo hhi
      go_enter Tryd.func8, Tryd.ntmps8
      have hB0 : Below w.heap.size w w := Below.refl _ _
      have hA0 := hamb
      go_wp2_with fail
      refine (known2_any _ hA0).mono ?_
      rintro e w1 ⟨rfl, hb1⟩
      have hB1 := bel_chain hB0 hb1
      have hA1 := hA0.below hb1
      clear hB0 hA0 hb1
      go_wp2_with fail
      refine (HRT.out _).mono ?_
      rintro e w2 ⟨rfl, hb2⟩
      have hB2 := bel_chain hB1 hb2
      have hA2 := hA1.below hb2
      clear hB1 hA1 hb2
      go_wp2_with fail
      refine (HOF.out _ hA2).mono ?_
      rintro e w3 ⟨rfl, hb3⟩
      have hB3 := bel_chain hB2 hb3
      have hA3 := hA2.below hb3
      clear hB2 hA2 hb3
      go_wp2_with fail
      refine (wsmall_any n _ hA3 (by omega)).mono ?_
      rintro e w4 ⟨rfl, hb4⟩
      have hB4 := bel_chain hB3 hb4
      have hA4 := hA3.below hb4
      clear hB3 hA3 hb4
      rw [HSV.out]
      go_wp2_with fail
      refine (HCK.out _).mono ?_
      rintro e w5 ⟨rfl, hb5⟩
      have hB5 := bel_chain hB4 hb5
      have hA5 := hA4.below hb5
      clear hB4 hA4 hb5
      go_wp2_with fail
      refine (HOF.out _ hA5).mono ?_
      rintro e w6 ⟨rfl, hb6⟩
      have hB6 := bel_chain hB5 hb6
      have hA6 := hA5.below hb6
      clear hB5 hA5 hb6
      go_wp2_with fail
      refine (HRO.out _ hA6).mono ?_
      rintro e w7 ⟨rfl, hb7⟩
      have hB7 := bel_chain hB6 hb7
      have hA7 := hA6.below hb7
      clear hB6 hA6 hb7
      go_wp2_with fail
      go_ret
      exact ⟨rfl, hB7⟩
  · clear hlo hhi
    go_enter Tryd.func8, Tryd.ntmps8
    have hB0 : Below w.heap.size w w := Below.refl _ _
    have hA0 := hamb
    go_wp2_with fail
    refine (known2_any _ hA0).mono ?_
    rintro e w1 ⟨rfl, hb1⟩
    have hB1 := bel_chain hB0 hb1
    have hA1 := hA0.below hb1
    clear hB0 hA0 hb1
    go_wp2_with fail
    refine (known2_any _ hA1).mono ?_
    rintro e w2 ⟨rfl, hb2⟩
    have hB2 := bel_chain hB1 hb2
    have hA2 := hA1.below hb2
    clear hB1 hA1 hb2
    go_wp2_with fail
    go_ret
    exact ⟨rfl, hB2⟩
end Go.Proofs.YtjglooeljdpadaaDoor
