/- The walk of DecimalLaws: it returns true, for any three slices. -/
import Derived.Test.YtojgfpoinbblhaaDoorLawBase1
namespace Go.Proofs.YtojgfpoinbblhaaDoor
open Go.RowKit
set_option maxRecDepth 100000 in
set_option maxHeartbeats 4000000 in
theorem lawLaws_walk (A0 A1 A2 : Option Addr) (n0 n1 n2 c0 c1 c2 : Nat) (l0 l1 l2 : List UInt8) (w : World) (hamb : Amb w) (h0 : InB w A0 n0 c0 l0) (h1 : InB w A1 n1 c1 l1) (h2 : InB w A2 n2 c2 l2) :
    Calls Tryd.prog 12 #[.slice A0 n0 c0, .slice A1 n1 c1, .slice A2 n2 c2] w (SmallRes (.bool true) w) := by
  by_cases hf : n0 ≤ 120 ∧ n1 ≤ 120 ∧ n2 ≤ 120
  · obtain ⟨hf0, hf1, hf2⟩ := hf
    have hna := mk_nd l0
    have hnb := mk_nd l1
    have hnc := mk_nd l2
    go_enter Tryd.func12, Tryd.ntmps12
    have hB0 : Below w.heap.size w w := Below.refl _ _
    have hA0 := hamb
    go_wp2_with fail
    refine (known1_any _ hA0).mono ?_
    rintro e w1 ⟨rfl, hb1⟩
    have hB1 := bel_chain hB0 hb1
    have hA1 := hA0.below hb1
    clear hB0 hA0 hb1
    go_wp2_with fail
    refine (few_yes A0 A1 A2 n0 n1 n2 c0 c1 c2 _ hf0 hf1 hf2).mono ?_
    rintro e w1' ⟨rfl, rfl⟩
    go_wp2_with fail
    refine (make_any A0 n0 c0 l0 _ (h0.below hB1)).mono ?_
    rintro e w2 ⟨rfl, hb2⟩
    have hB2 := bel_chain hB1 hb2
    have hA2 := hA1.below hb2
    clear hB1 hA1 hb2
    go_wp2_with fail
    refine (make_any A1 n1 c1 l1 _ (h1.below hB2)).mono ?_
    rintro e w3 ⟨rfl, hb3⟩
    have hB3 := bel_chain hB2 hb3
    have hA3 := hA2.below hb3
    clear hB2 hA2 hb3
    go_wp2_with fail
    refine (make_any A2 n2 c2 l2 _ (h2.below hB3)).mono ?_
    rintro e w4 ⟨rfl, hb4⟩
    have hB4 := bel_chain hB3 hb4
    have hA4 := hA3.below hb4
    clear hB3 hA3 hb4
    obtain ⟨a, ha⟩ : ∃ a, mk l0 = a := ⟨_, rfl⟩
    rw [ha] at hna ⊢
    clear ha
    obtain ⟨b, hb⟩ : ∃ b, mk l1 = b := ⟨_, rfl⟩
    rw [hb] at hnb ⊢
    clear hb
    obtain ⟨c, hc⟩ : ∃ c, mk l2 = c := ⟨_, rfl⟩
    rw [hc] at hnc ⊢
    clear hc
    have hn_add_a_b := nd_add a b
    have hn_add_b_c := nd_add b c
    have hn_mul_a_b := nd_mul a b
    have hn_mul_b_c := nd_mul b c
    have hn_mul_a_c := nd_mul a c
    go_wp2_with fail
    refine (add_any a b _ hA4 (by omega) (by omega)).mono ?_
    rintro e w5 ⟨rfl, hb5⟩
    have hB5 := bel_chain hB4 hb5
    have hA5 := hA4.below hb5
    clear hB4 hA4 hb5
    go_wp2_with fail
    refine (add_any b a _ hA5 (by omega) (by omega)).mono ?_
    rintro e w6 ⟨rfl, hb6⟩
    have hB6 := bel_chain hB5 hb6
    have hA6 := hA5.below hb6
    clear hB5 hA5 hb6
    rw [Nat.add_comm b a]
    go_wp2_with fail
    refine (add_any a b _ hA6 (by omega) (by omega)).mono ?_
    rintro e w7 ⟨rfl, hb7⟩
    have hB7 := bel_chain hB6 hb7
    have hA7 := hA6.below hb7
    clear hB6 hA6 hb7
    go_wp2_with fail
    refine (add_any (a + b) c _ hA7 (by omega) (by omega)).mono ?_
    rintro e w8 ⟨rfl, hb8⟩
    have hB8 := bel_chain hB7 hb8
    have hA8 := hA7.below hb8
    clear hB7 hA7 hb8
    rw [Nat.add_assoc a b c]
    go_wp2_with fail
    refine (add_any b c _ hA8 (by omega) (by omega)).mono ?_
    rintro e w9 ⟨rfl, hb9⟩
    have hB9 := bel_chain hB8 hb9
    have hA9 := hA8.below hb9
    clear hB8 hA8 hb9
    go_wp2_with fail
    refine (add_any a (b + c) _ hA9 (by omega) (by omega)).mono ?_
    rintro e w10 ⟨rfl, hb10⟩
    have hB10 := bel_chain hB9 hb10
    have hA10 := hA9.below hb10
    clear hB9 hA9 hb10
    go_wp2_with fail
    refine (mul_any a b _ hA10 (by omega) (by omega)).mono ?_
    rintro e w11 ⟨rfl, hb11⟩
    have hB11 := bel_chain hB10 hb11
    have hA11 := hA10.below hb11
    clear hB10 hA10 hb11
    go_wp2_with fail
    refine (mul_any b a _ hA11 (by omega) (by omega)).mono ?_
    rintro e w12 ⟨rfl, hb12⟩
    have hB12 := bel_chain hB11 hb12
    have hA12 := hA11.below hb12
    clear hB11 hA11 hb12
    rw [Nat.mul_comm b a]
    go_wp2_with fail
    refine (mul_any a b _ hA12 (by omega) (by omega)).mono ?_
    rintro e w13 ⟨rfl, hb13⟩
    have hB13 := bel_chain hB12 hb13
    have hA13 := hA12.below hb13
    clear hB12 hA12 hb13
    go_wp2_with fail
    refine (mul_any (a * b) c _ hA13 (by omega) (by omega)).mono ?_
    rintro e w14 ⟨rfl, hb14⟩
    have hB14 := bel_chain hB13 hb14
    have hA14 := hA13.below hb14
    clear hB13 hA13 hb14
    rw [Nat.mul_assoc a b c]
    go_wp2_with fail
    refine (mul_any b c _ hA14 (by omega) (by omega)).mono ?_
    rintro e w15 ⟨rfl, hb15⟩
    have hB15 := bel_chain hB14 hb15
    have hA15 := hA14.below hb15
    clear hB14 hA14 hb15
    go_wp2_with fail
    refine (mul_any a (b * c) _ hA15 (by omega) (by omega)).mono ?_
    rintro e w16 ⟨rfl, hb16⟩
    have hB16 := bel_chain hB15 hb16
    have hA16 := hA15.below hb16
    clear hB15 hA15 hb16
    go_wp2_with fail
    refine (add_any a b _ hA16 (by omega) (by omega)).mono ?_
    rintro e w17 ⟨rfl, hb17⟩
    have hB17 := bel_chain hB16 hb17
    have hA17 := hA16.below hb17
    clear hB16 hA16 hb17
    go_wp2_with fail
    refine (sub_any (a + b) b _ hA17 (by omega) (by omega) (by omega)).mono ?_
    rintro e w18 ⟨rfl, hb18⟩
    have hB18 := bel_chain hB17 hb18
    have hA18 := hA17.below hb18
    clear hB17 hA17 hb18
    rw [Nat.add_sub_cancel]
    go_wp2_with fail
    refine (add_any b c _ hA18 (by omega) (by omega)).mono ?_
    rintro e w19 ⟨rfl, hb19⟩
    have hB19 := bel_chain hB18 hb19
    have hA19 := hA18.below hb19
    clear hB18 hA18 hb19
    go_wp2_with fail
    refine (mul_any a (b + c) _ hA19 (by omega) (by omega)).mono ?_
    rintro e w20 ⟨rfl, hb20⟩
    have hB20 := bel_chain hB19 hb20
    have hA20 := hA19.below hb20
    clear hB19 hA19 hb20
    rw [Nat.mul_add a b c]
    go_wp2_with fail
    refine (mul_any a b _ hA20 (by omega) (by omega)).mono ?_
    rintro e w21 ⟨rfl, hb21⟩
    have hB21 := bel_chain hB20 hb21
    have hA21 := hA20.below hb21
    clear hB20 hA20 hb21
    go_wp2_with fail
    refine (mul_any a c _ hA21 (by omega) (by omega)).mono ?_
    rintro e w22 ⟨rfl, hb22⟩
    have hB22 := bel_chain hB21 hb22
    have hA22 := hA21.below hb22
    clear hB21 hA21 hb22
    go_wp2_with fail
    refine (add_any (a * b) (a * c) _ hA22 (by omega) (by omega)).mono ?_
    rintro e w23 ⟨rfl, hb23⟩
    have hB23 := bel_chain hB22 hb23
    have hA23 := hA22.below hb23
    clear hB22 hA22 hb23
    go_wp2_with fail
    go_ret
    exact ⟨rfl, hB23⟩
  · go_enter Tryd.func12, Tryd.ntmps12
    have hB0 : Below w.heap.size w w := Below.refl _ _
    have hA0 := hamb
    go_wp2_with fail
    refine (known1_any _ hA0).mono ?_
    rintro e w1 ⟨rfl, hb1⟩
    have hB1 := bel_chain hB0 hb1
    have hA1 := hA0.below hb1
    clear hB0 hA0 hb1
    go_wp2_with fail
    refine (few_no A0 A1 A2 n0 n1 n2 c0 c1 c2 _ hf).mono ?_
    rintro e w1' ⟨rfl, rfl⟩
    go_wp2_with fail
    refine (known1_any _ hA1).mono ?_
    rintro e w2 ⟨rfl, hb2⟩
    have hB2 := bel_chain hB1 hb2
    have hA2 := hA1.below hb2
    clear hB1 hA1 hb2
    go_wp2_with fail
    go_ret
    exact ⟨rfl, hB2⟩
end Go.Proofs.YtojgfpoinbblhaaDoor
