/- The walk of DecimalCommon: it returns true, for any slices. -/
import Derived.Test.YtojgfpoinbblhaaDoorLawBase1
import Derived.Test.YtojgfpoinbblhaaDoorRefPow
namespace Go.Proofs.YtojgfpoinbblhaaDoor
open Go.RowKit Go.PlainAid
set_option maxRecDepth 100000 in
set_option maxHeartbeats 4000000 in
theorem lawCommon_walk (A0 A1 : Option Addr) (n0 n1 c0 c1 : Nat) (l0 l1 : List UInt8) (w : World) (hamb : Amb w) (h0 : InB w A0 n0 c0 l0) (h1 : InB w A1 n1 c1 l1) :
    Calls Tryd.prog 9 #[.slice A0 n0 c0, .slice A1 n1 c1] w (SmallRes (.bool true) w) := by
  by_cases hf : n0 ≤ 40 ∧ n1 ≤ 40
  · obtain ⟨a, Ha⟩ : ∃ a, Hid (mk l0 = a) := ⟨_, rfl⟩
    obtain ⟨b, Hb⟩ : ∃ b, Hid (mk l1 = b) := ⟨_, rfl⟩
    have hna : Lib.nDigits a ≤ 40 := by rw [← Ha.out]; exact mk_nd_le l0 39 (by have := h0.1; omega)
    have hnb : Lib.nDigits b ≤ 40 := by rw [← Hb.out]; exact mk_nd_le l1 39 (by have := h1.1; omega)
    obtain ⟨hf0, hf1⟩ := hf
    by_cases ha0 : a = 0
    · subst ha0
      have hz := dec_zero_same
      have hz1 : (!(dec 0).toList == [48]) = false := by rw [hz]; rfl
      have HL := Lib.hid (show dec (Nat.lcm 0 b) = ⟨#[48]⟩ by rw [Nat.lcm_zero_left, dec0])
      go_enter Tryd.func9, Tryd.ntmps9
      have hB0 : Below w.heap.size w w := Below.refl _ _
      have hA0 := hamb
      go_wp2_with fail
      refine (known1_any _ hA0).mono ?_
      rintro e w1 ⟨rfl, hb1⟩
      have hB1 := bel_chain hB0 hb1
      have hA1 := hA0.below hb1
      clear hB0 hA0 hb1
      go_wp2_with fail
      refine (make_any A0 n0 c0 l0 _ (h0.below hB1)).mono ?_
      rintro e w2 ⟨rfl, hb2⟩
      have hB2 := bel_chain hB1 hb2
      have hA2 := hA1.below hb2
      clear hB1 hA1 hb2
      rw [Ha.out]
      go_wp2_with fail
      refine (make_any A1 n1 c1 l1 _ (h1.below hB2)).mono ?_
      rintro e w3 ⟨rfl, hb3⟩
      have hB3 := bel_chain hB2 hb3
      have hA3 := hA2.below hb3
      clear hB2 hA2 hb3
      rw [Hb.out]
      go_wp2_with fail
      refine (rgcd_any 0 b _ (by omega) (by omega)).mono ?_
      rintro e w4 ⟨rfl, hb4⟩
      have hB4 := bel_chain hB3 hb4
      have hA4 := hA3.below hb4
      clear hB3 hA3 hb4
      go_wp2_with fail
      refine (gcd_any 0 b _ hA4 (by omega) (by omega)).mono ?_
      rintro e w5 ⟨rfl, hb5⟩
      have hB5 := bel_chain hB4 hb5
      have hA5 := hA4.below hb5
      clear hB4 hA4 hb5
      go_wp2_with fail
      refine (lcm_any 0 b _ hA5 (by omega) (by omega)).mono ?_
      rintro e w6 ⟨rfl, hb6⟩
      have hB6 := bel_chain hB5 hb6
      have hA6 := hA5.below hb6
      clear hB5 hA5 hb6
      rw [HL.out]
      go_wp2_with fail
      go_ret
      exact ⟨rfl, hB6⟩
    · by_cases hb0 : b = 0
      · subst hb0
        have hza := dec_zero_test ha0
        have hza1 : (!(dec a).toList == [48]) = true := by rw [hza]; rfl
        have hz := dec_zero_same
        have hz1 : (!(dec 0).toList == [48]) = false := by rw [hz]; rfl
        have HL := Lib.hid (show dec (Nat.lcm a 0) = ⟨#[48]⟩ by rw [Nat.lcm_zero_right, dec0])
        go_enter Tryd.func9, Tryd.ntmps9
        have hB0 : Below w.heap.size w w := Below.refl _ _
        have hA0 := hamb
        go_wp2_with fail
        refine (known1_any _ hA0).mono ?_
        rintro e w1 ⟨rfl, hb1⟩
        have hB1 := bel_chain hB0 hb1
        have hA1 := hA0.below hb1
        clear hB0 hA0 hb1
        go_wp2_with fail
        refine (make_any A0 n0 c0 l0 _ (h0.below hB1)).mono ?_
        rintro e w2 ⟨rfl, hb2⟩
        have hB2 := bel_chain hB1 hb2
        have hA2 := hA1.below hb2
        clear hB1 hA1 hb2
        rw [Ha.out]
        go_wp2_with fail
        refine (make_any A1 n1 c1 l1 _ (h1.below hB2)).mono ?_
        rintro e w3 ⟨rfl, hb3⟩
        have hB3 := bel_chain hB2 hb3
        have hA3 := hA2.below hb3
        clear hB2 hA2 hb3
        rw [Hb.out]
        go_wp2_with fail
        refine (rgcd_any a 0 _ (by omega) (by omega)).mono ?_
        rintro e w4 ⟨rfl, hb4⟩
        have hB4 := bel_chain hB3 hb4
        have hA4 := hA3.below hb4
        clear hB3 hA3 hb4
        go_wp2_with fail
        refine (gcd_any a 0 _ hA4 (by omega) (by omega)).mono ?_
        rintro e w5 ⟨rfl, hb5⟩
        have hB5 := bel_chain hB4 hb5
        have hA5 := hA4.below hb5
        clear hB4 hA4 hb5
        go_wp2_with fail
        refine (lcm_any a 0 _ hA5 (by omega) (by omega)).mono ?_
        rintro e w6 ⟨rfl, hb6⟩
        have hB6 := bel_chain hB5 hb6
        have hA6 := hA5.below hb6
        clear hB5 hA5 hb6
        rw [HL.out]
        go_wp2_with fail
        go_ret
        exact ⟨rfl, hB6⟩
      · have hza := dec_zero_test ha0
        have hza1 : (!(dec a).toList == [48]) = true := by rw [hza]; rfl
        have hzb := dec_zero_test hb0
        have hzb1 : (!(dec b).toList == [48]) = true := by rw [hzb]; rfl
        have hg0 : 0 < Nat.gcd a b := Nat.gcd_pos_of_pos_left b (Nat.pos_of_ne_zero ha0)
        have hgd := nd_mono (Nat.gcd_le_left b (Nat.pos_of_ne_zero ha0))
        have hmd := nd_mul a b
        have HL := Lib.hid (show a * b / Nat.gcd a b = Nat.lcm a b from rfl)
        go_enter Tryd.func9, Tryd.ntmps9
        have hB0 : Below w.heap.size w w := Below.refl _ _
        have hA0 := hamb
        go_wp2_with fail
        refine (known1_any _ hA0).mono ?_
        rintro e w1 ⟨rfl, hb1⟩
        have hB1 := bel_chain hB0 hb1
        have hA1 := hA0.below hb1
        clear hB0 hA0 hb1
        go_wp2_with fail
        refine (make_any A0 n0 c0 l0 _ (h0.below hB1)).mono ?_
        rintro e w2 ⟨rfl, hb2⟩
        have hB2 := bel_chain hB1 hb2
        have hA2 := hA1.below hb2
        clear hB1 hA1 hb2
        rw [Ha.out]
        go_wp2_with fail
        refine (make_any A1 n1 c1 l1 _ (h1.below hB2)).mono ?_
        rintro e w3 ⟨rfl, hb3⟩
        have hB3 := bel_chain hB2 hb3
        have hA3 := hA2.below hb3
        clear hB2 hA2 hb3
        rw [Hb.out]
        go_wp2_with fail
        refine (rgcd_any a b _ (by omega) (by omega)).mono ?_
        rintro e w4 ⟨rfl, hb4⟩
        have hB4 := bel_chain hB3 hb4
        have hA4 := hA3.below hb4
        clear hB3 hA3 hb4
        go_wp2_with fail
        refine (rmul_any a b _ (by omega) (by omega)).mono ?_
        rintro e w5 ⟨rfl, hb5⟩
        have hB5 := bel_chain hB4 hb5
        have hA5 := hA4.below hb5
        clear hB4 hA4 hb5
        go_wp2_with fail
        refine (rdivmod_any (a * b) (Nat.gcd a b) _ (by omega) (by omega) hg0).mono ?_
        rintro e w6 ⟨rfl, hb6⟩
        have hB6 := bel_chain hB5 hb6
        have hA6 := hA5.below hb6
        clear hB5 hA5 hb6
        rw [HL.out]
        go_wp2_with fail
        refine (gcd_any a b _ hA6 (by omega) (by omega)).mono ?_
        rintro e w7 ⟨rfl, hb7⟩
        have hB7 := bel_chain hB6 hb7
        have hA7 := hA6.below hb7
        clear hB6 hA6 hb7
        go_wp2_with fail
        refine (lcm_any a b _ hA7 (by omega) (by omega)).mono ?_
        rintro e w8 ⟨rfl, hb8⟩
        have hB8 := bel_chain hB7 hb8
        have hA8 := hA7.below hb8
        clear hB7 hA7 hb8
        go_wp2_with fail
        go_ret
        exact ⟨rfl, hB8⟩
  · by_cases hf0 : n0 ≤ 40
    · have hf1 : ¬ n1 ≤ 40 := fun h => hf ⟨hf0, h⟩
      go_enter Tryd.func9, Tryd.ntmps9
      have hB0 : Below w.heap.size w w := Below.refl _ _
      have hA0 := hamb
      go_wp2_with fail
      refine (known1_any _ hA0).mono ?_
      rintro e w1 ⟨rfl, hb1⟩
      have hB1 := bel_chain hB0 hb1
      have hA1 := hA0.below hb1
      clear hB0 hA0 hb1
      go_wp2_with fail
      refine (known1_any _ hA1).mono ?_
      rintro e w2 ⟨rfl, hb2⟩
      have hB2 := bel_chain hB1 hb2
      have hA2 := hA1.below hb2
      clear hB1 hA1 hb2
      go_wp2_with fail
      go_ret
      exact ⟨rfl, hB2⟩
    · clear hf
      go_enter Tryd.func9, Tryd.ntmps9
      have hB0 : Below w.heap.size w w := Below.refl _ _
      have hA0 := hamb
      go_wp2_with fail
      refine (known1_any _ hA0).mono ?_
      rintro e w1 ⟨rfl, hb1⟩
      have hB1 := bel_chain hB0 hb1
      have hA1 := hA0.below hb1
      clear hB0 hA0 hb1
      go_wp2_with fail
      refine (known1_any _ hA1).mono ?_
      rintro e w2 ⟨rfl, hb2⟩
      have hB2 := bel_chain hB1 hb2
      have hA2 := hA1.below hb2
      clear hB1 hA1 hb2
      go_wp2_with fail
      go_ret
      exact ⟨rfl, hB2⟩
end Go.Proofs.YtojgfpoinbblhaaDoor
