/- The walk of DecimalDivides: it returns true, for any slices. -/
import Derived.Test.YtojgfpoinbblhaaDoorLawBase1
import Derived.Test.YtojgfpoinbblhaaDoorRefMul
import Derived.Test.YtojgfpoinbblhaaDoorRefCan
namespace Go.Proofs.YtojgfpoinbblhaaDoor
open Go.RowKit Go.PlainAid
set_option maxRecDepth 100000 in
set_option maxHeartbeats 4000000 in
theorem lawDivides_walk (A0 A1 : Option Addr) (n0 n1 c0 c1 : Nat) (l0 l1 : List UInt8) (w : World) (hamb : Amb w) (h0 : InB w A0 n0 c0 l0) (h1 : InB w A1 n1 c1 l1) :
    Calls Tryd.prog 4 #[.slice A0 n0 c0, .slice A1 n1 c1] w (SmallRes (.bool true) w) := by
  by_cases hf : n0 ≤ 120 ∧ n1 ≤ 120
  · obtain ⟨a, Ha⟩ : ∃ a, Hid (mk l0 = a) := ⟨_, rfl⟩
    obtain ⟨b, Hb⟩ : ∃ b, Hid (mk l1 = b) := ⟨_, rfl⟩
    have hna : Lib.nDigits a ≤ 120 := by rw [← Ha.out]; exact mk_nd l0
    have hnb : Lib.nDigits b ≤ 120 := by rw [← Hb.out]; exact mk_nd l1
    by_cases hb0 : b = 0
    · subst hb0
      have hz := dec_zero_same
      go_enter Tryd.func4, Tryd.ntmps4
      have hB0 : Below w.heap.size w w := Below.refl _ _
      have hA0 := hamb
      go_wp2_with fail
      refine (known1_any _ hA0).mono ?_
      rintro e w1 ⟨rfl, hb1⟩
      have hB1 := bel_chain hB0 hb1
      have hA1 := hA0.below hb1
      clear hB0 hA0 hb1
      go_wp2_with fail
      refine (few_yes A0 A1 none n0 n1 0 c0 c1 0 _ hf.1 hf.2 (by omega)).mono ?_
      rintro e w1' ⟨rfl, rfl⟩
      go_wp2_with fail
      refine (make_any A0 n0 c0 l0 _ (h0.below hB1)).mono ?_
      rintro e w2 ⟨rfl, hb2⟩
      have hB2 := bel_chain hB1 hb2
      have hA2 := hA1.below hb2
      clear hB1 hA1 hb2
      rw [Ha.out]
      go_wp2_with fail
      refine (make_any A1 n1 c1 l1 _ (h1.below hB2)).mono ?_
      rintro e w3 ⟨rfl, hb3⟩
      have hB3 := bel_chain hB2 hb3
      have hA3 := hA2.below hb3
      clear hB2 hA2 hb3
      rw [Hb.out]
      go_wp2_with fail
      refine (divmod_zero a _).mono ?_
      rintro e w4 ⟨rfl, hb4⟩
      have hB4 := bel_chain hB3 hb4
      have hA4 := hA3.below hb4
      clear hB3 hA3 hb4
      go_wp2_with fail
      go_ret
      exact ⟨rfl, hB4⟩
    · have hz := dec_zero_test hb0
      have hlt := Nat.mod_lt a (Nat.pos_of_ne_zero hb0)
      have hcm := Lib.hid (cmpI_lt hlt)
      have hq := nd_mono (Nat.div_le_self a b)
      have hr := nd_mono (Nat.mod_le a b)
      have hsq : (dec (a / b)).size ≤ 120 := by rw [dec_size]; omega
      have hsr : (dec (a % b)).size ≤ 120 := by rw [dec_size]; omega
      have hda := Lib.hid (Nat.div_add_mod' a b)
      have hpl := nd_mono (show a / b * b ≤ a from Nat.div_mul_le_self a b)
      have hcq := fun w1 => rcanonical_any (dec (a / b)) w1 (by omega)
      rw [dec_data, canon_dd] at hcq
      have hcr := fun w1 => rcanonical_any (dec (a % b)) w1 (by omega)
      rw [dec_data, canon_dd] at hcr
      have HCQ := Lib.hid hcq
      have HCR := Lib.hid hcr
      clear hcq hcr hlt
      go_enter Tryd.func4, Tryd.ntmps4
      have hB0 : Below w.heap.size w w := Below.refl _ _
      have hA0 := hamb
      go_wp2_with fail
      refine (known1_any _ hA0).mono ?_
      rintro e w1 ⟨rfl, hb1⟩
      have hB1 := bel_chain hB0 hb1
      have hA1 := hA0.below hb1
      clear hB0 hA0 hb1
      go_wp2_with fail
      refine (few_yes A0 A1 none n0 n1 0 c0 c1 0 _ hf.1 hf.2 (by omega)).mono ?_
      rintro e w1' ⟨rfl, rfl⟩
      go_wp2_with fail
      refine (make_any A0 n0 c0 l0 _ (h0.below hB1)).mono ?_
      rintro e w2 ⟨rfl, hb2⟩
      have hB2 := bel_chain hB1 hb2
      have hA2 := hA1.below hb2
      clear hB1 hA1 hb2
      rw [Ha.out]
      go_wp2_with fail
      refine (make_any A1 n1 c1 l1 _ (h1.below hB2)).mono ?_
      rintro e w3 ⟨rfl, hb3⟩
      have hB3 := bel_chain hB2 hb3
      have hA3 := hA2.below hb3
      clear hB2 hA2 hb3
      rw [Hb.out]
      go_wp2_with fail
      refine (divmod_any a b _ hA3 hb0 (by omega) (by omega)).mono ?_
      rintro e w4 ⟨rfl, hb4⟩
      have hB4 := bel_chain hB3 hb4
      have hA4 := hA3.below hb4
      clear hB3 hA3 hb4
      generalize a / b = q at *
      generalize a % b = r at *
      go_wp2_with fail
      refine (HCQ.out _).mono ?_
      rintro e w4' ⟨rfl, rfl⟩
      go_wp2_with fail
      refine (HCR.out _).mono ?_
      rintro e w4' ⟨rfl, rfl⟩
      go_wp2_with fail
      refine (rcompare_any r b _ (by omega) (by omega)).mono ?_
      rintro e w4' ⟨rfl, rfl⟩
      rw [hcm.out]
      go_wp2_with fail
      refine (rmul_any q b _ (by omega) (by omega)).mono ?_
      rintro e w5 ⟨rfl, hb5⟩
      have hB5 := bel_chain hB4 hb5
      have hA5 := hA4.below hb5
      clear hB4 hA4 hb5
      go_wp2_with fail
      refine (radd_any (q * b) r _ (by omega) (by omega)).mono ?_
      rintro e w6 ⟨rfl, hb6⟩
      have hB6 := bel_chain hB5 hb6
      have hA6 := hA5.below hb6
      clear hB5 hA5 hb6
      rw [hda.out]
      go_wp2_with fail
      go_ret
      exact ⟨rfl, hB6⟩
  · go_enter Tryd.func4, Tryd.ntmps4
    have hB0 : Below w.heap.size w w := Below.refl _ _
    have hA0 := hamb
    go_wp2_with fail
    refine (known1_any _ hA0).mono ?_
    rintro e w1 ⟨rfl, hb1⟩
    have hB1 := bel_chain hB0 hb1
    have hA1 := hA0.below hb1
    clear hB0 hA0 hb1
    go_wp2_with fail
    refine (few_no A0 A1 none n0 n1 0 c0 c1 0 _ (fun h => hf ⟨h.1, h.2.1⟩)).mono ?_
    rintro e w1' ⟨rfl, rfl⟩
    go_wp2_with fail
    refine (known1_any _ hA1).mono ?_
    rintro e w2 ⟨rfl, hb2⟩
    have hB2 := bel_chain hB1 hb2
    have hA2 := hA1.below hb2
    clear hB1 hA1 hb2
    go_wp2_with fail
    go_ret
    exact ⟨rfl, hB2⟩
end Go.Proofs.YtojgfpoinbblhaaDoor
