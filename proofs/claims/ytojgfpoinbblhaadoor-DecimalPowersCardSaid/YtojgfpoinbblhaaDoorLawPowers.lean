/- The walk of DecimalPowers: it returns true, for any slice and any int. -/
import Derived.Test.YtojgfpoinbblhaaDoorLawExponents
import Derived.Test.YtojgfpoinbblhaaDoorRefPow
namespace Go.Proofs.YtojgfpoinbblhaaDoor
open Go.RowKit Go.PlainAid
theorem nd_pow20 (a i : Nat) (h : a < 10 ^ 20) (hi : i ≤ 40) : Lib.nDigits (a ^ i) ≤ 801 := by
  refine (nd_le_iff _ 800).2 ?_
  have h1 : a ^ i ≤ (10 ^ 20) ^ i := Nat.pow_le_pow_left (Nat.le_of_lt h) i
  rw [← Nat.pow_mul] at h1
  obtain ⟨K, hK⟩ : ∃ K, 800 = K := ⟨_, rfl⟩
  have h2 : 10 ^ (20 * i) < 10 ^ (K + 1) := Nat.pow_lt_pow_right (by decide) (by omega)
  rw [hK]
  omega
theorem pow_no2 {a k d : Nat} (ha : 2 ≤ a) (hd : Lib.nDigits a = d + 1) (h : 20000 < max (d * min k 30000) (min k 100000 / 4)) : ¬ Lib.nDigits (a ^ k) ≤ 20000 := by
  rcases Nat.lt_or_ge 20000 (d * min k 30000) with h1 | h1
  · intro h2
    have h3 := (nd_le_iff (a ^ k) 19999).1 h2
    have h4 := pow_le_of_nd a d (by omega) hd
    have h5 : (10 ^ d) ^ k ≤ a ^ k := Nat.pow_le_pow_left h4 k
    rw [← Nat.pow_mul] at h5
    have h7 : d * min k 30000 ≤ d * k := Nat.mul_le_mul_left d (Nat.min_le_left _ _)
    obtain ⟨K, hK⟩ : ∃ K, 19999 + 1 = K := ⟨_, rfl⟩
    rw [hK] at h3
    have h6 : 10 ^ K ≤ 10 ^ (d * k) := Nat.pow_le_pow_right (by decide) (by omega)
    omega
  · have h2 : 20000 < min k 100000 / 4 := by omega
    refine pow_no (by omega) ?_
    have hb2 : 2 ≤ bitsN a := by
      have h3 := bitsN_mono ha
      have h4 : bitsN 2 = 2 := bitsN_unique _ 1 (by decide) (by decide)
      omega
    have h5 : 1 * k ≤ (bitsN a - 1) * k := Nat.mul_le_mul_right k (by omega)
    omega
set_option maxRecDepth 100000 in
set_option maxHeartbeats 4000000 in
theorem lawPowers_walk (A0 : Option Addr) (n0 c0 : Nat) (l0 : List UInt8) (n : Int) (w : World) (hamb : Amb w) (h0 : InB w A0 n0 c0 l0) (hlo : -9223372036854775808 ≤ n) (hhi : n ≤ 9223372036854775807) :
    Calls Tryd.prog 5 #[.slice A0 n0 c0, .int .i64 n] w (SmallRes (.bool true) w) := by
  by_cases hf : n0 ≤ 20
  · obtain ⟨a, Ha⟩ : ∃ a, Hid (mk l0 = a) := ⟨_, rfl⟩
    have hna : Lib.nDigits a ≤ 20 := by rw [← Ha.out]; exact mk_nd_le l0 19 (by have := h0.1; omega)
    have ha20 : a < 10 ^ 20 := (nd_le_iff a 19).1 hna
    have HA20 := Lib.hid ha20
    clear ha20
    by_cases hneg : n < 0
    · go_enter Tryd.func5, Tryd.ntmps5
      have hB0 : Below w.heap.size w w := Below.refl _ _
      have hA0 := hamb
      go_wp2_with fail
      refine (known1_any _ hA0).mono ?_
      rintro e w1 ⟨rfl, hb1⟩
      have hB1 := bel_chain hB0 hb1
      have hA1 := hA0.below hb1
      clear hB0 hA0 hb1
      go_wp2_with fail
      refine (make_any A0 n0 c0 l0 _ (h0.below hB1)).mono ?_
      rintro e w2 ⟨rfl, hb2⟩
      have hB2 := bel_chain hB1 hb2
      have hA2 := hA1.below hb2
      clear hB1 hA1 hb2
      rw [Ha.out]
      go_wp2_with fail
      refine (power_neg a n hneg _).mono ?_
      rintro e w3 ⟨rfl, hb3⟩
      have hB3 := bel_chain hB2 hb3
      have hA3 := hA2.below hb3
      clear hB2 hA2 hb3
      go_wp2_with fail
      go_ret
      exact ⟨rfl, hB3⟩
    · obtain ⟨k, rfl⟩ : ∃ k : Nat, n = (k : Int) := ⟨n.toNat, by omega⟩
      clear hneg hlo
      by_cases ha0 : a = 0
      · subst ha0
        have hz := dec_zero_same
        by_cases hk0 : k = 0
        · subst hk0
          have hr := fun w1 => rpower_any 0 0 1000 w1 (.inr ⟨rfl, rfl⟩) (by omega) (by omega) (by omega) (fun i hi => by rw [show i = 0 by omega, Nat.pow_zero]; exact Nat.le_trans ((nd_le_iff 1 0).2 (by decide)) (by decide))
          rw [Nat.pow_zero] at hr
          have HR := Lib.hid hr
          clear hr
          go_enter Tryd.func5, Tryd.ntmps5
          have hB0 : Below w.heap.size w w := Below.refl _ _
          have hA0 := hamb
          go_wp2_with fail
          refine (known1_any _ hA0).mono ?_
          rintro e w1 ⟨rfl, hb1⟩
          have hB1 := bel_chain hB0 hb1
          have hA1 := hA0.below hb1
          clear hB0 hA0 hb1
          go_wp2_with fail
          refine (make_any A0 n0 c0 l0 _ (h0.below hB1)).mono ?_
          rintro e w2 ⟨rfl, hb2⟩
          have hB2 := bel_chain hB1 hb2
          have hA2 := hA1.below hb2
          clear hB1 hA1 hb2
          rw [Ha.out]
          go_wp2_with fail
          refine (power_zero 0 _).mono ?_
          rintro e w3 ⟨rfl, hb3⟩
          have hB3 := bel_chain hB2 hb3
          have hA3 := hA2.below hb3
          clear hB2 hA2 hb3
          go_wp2_with fail
          refine (HR.out _).mono ?_
          rintro e w4 ⟨rfl, hb4⟩
          have hB4 := bel_chain hB3 hb4
          have hA4 := hA3.below hb4
          clear hB3 hA3 hb4
          go_wp2_with fail
          go_ret
          exact ⟨rfl, hB4⟩
        · by_cases hk40 : k ≤ 40
          · go_enter Tryd.func5, Tryd.ntmps5
            have hB0 : Below w.heap.size w w := Below.refl _ _
            have hA0 := hamb
            go_wp2_with fail
            refine (known1_any _ hA0).mono ?_
            rintro e w1 ⟨rfl, hb1⟩
            have hB1 := bel_chain hB0 hb1
            have hA1 := hA0.below hb1
            clear hB0 hA0 hb1
            go_wp2_with fail
            refine (make_any A0 n0 c0 l0 _ (h0.below hB1)).mono ?_
            rintro e w2 ⟨rfl, hb2⟩
            have hB2 := bel_chain hB1 hb2
            have hA2 := hA1.below hb2
            clear hB1 hA1 hb2
            rw [Ha.out]
            go_wp2_with fail
            refine (power_of_zero (k : Int) (by omega) _).mono ?_
            rintro e w3 ⟨rfl, hb3⟩
            have hB3 := bel_chain hB2 hb3
            have hA3 := hA2.below hb3
            clear hB2 hA2 hb3
            go_wp2_with fail
            refine (rpower_zero (k : Int) 1000 (by omega) _).mono ?_
            rintro e w3' ⟨rfl, rfl⟩
            go_wp2_with fail
            go_ret
            exact ⟨rfl, hB3⟩
          · have hkd : decide ((k : Int) ≤ 40) = false := by simp; omega
            go_enter Tryd.func5, Tryd.ntmps5
            have hB0 : Below w.heap.size w w := Below.refl _ _
            have hA0 := hamb
            go_wp2_with fail
            refine (known1_any _ hA0).mono ?_
            rintro e w1 ⟨rfl, hb1⟩
            have hB1 := bel_chain hB0 hb1
            have hA1 := hA0.below hb1
            clear hB0 hA0 hb1
            go_wp2_with fail
            refine (make_any A0 n0 c0 l0 _ (h0.below hB1)).mono ?_
            rintro e w2 ⟨rfl, hb2⟩
            have hB2 := bel_chain hB1 hb2
            have hA2 := hA1.below hb2
            clear hB1 hA1 hb2
            rw [Ha.out]
            go_wp2_with fail
            refine (power_of_zero (k : Int) (by omega) _).mono ?_
            rintro e w3 ⟨rfl, hb3⟩
            have hB3 := bel_chain hB2 hb3
            have hA3 := hA2.below hb3
            clear hB2 hA2 hb3
            go_wp2_with fail
            refine (rpower_zero (k : Int) 1000 (by omega) _).mono ?_
            rintro e w3' ⟨rfl, rfl⟩
            go_wp2_with fail
            go_ret
            exact ⟨rfl, hB3⟩
      · have hz := dec_zero_test ha0
        by_cases ha1 : a = 1
        · subst ha1
          have hz1 := dec_one_same
          by_cases hk0 : k = 0
          · subst hk0
            go_enter Tryd.func5, Tryd.ntmps5
            have hB0 : Below w.heap.size w w := Below.refl _ _
            have hA0 := hamb
            go_wp2_with fail
            refine (known1_any _ hA0).mono ?_
            rintro e w1 ⟨rfl, hb1⟩
            have hB1 := bel_chain hB0 hb1
            have hA1 := hA0.below hb1
            clear hB0 hA0 hb1
            go_wp2_with fail
            refine (make_any A0 n0 c0 l0 _ (h0.below hB1)).mono ?_
            rintro e w2 ⟨rfl, hb2⟩
            have hB2 := bel_chain hB1 hb2
            have hA2 := hA1.below hb2
            clear hB1 hA1 hb2
            rw [Ha.out]
            go_wp2_with fail
            refine (power_zero 1 _).mono ?_
            rintro e w3 ⟨rfl, hb3⟩
            have hB3 := bel_chain hB2 hb3
            have hA3 := hA2.below hb3
            clear hB2 hA2 hb3
            go_wp2_with fail
            refine (rpower_one 0 1000 _).mono ?_
            rintro e w3' ⟨rfl, rfl⟩
            go_wp2_with fail
            go_ret
            exact ⟨rfl, hB3⟩
          · by_cases hk40 : k ≤ 40
            · go_enter Tryd.func5, Tryd.ntmps5
              have hB0 : Below w.heap.size w w := Below.refl _ _
              have hA0 := hamb
              go_wp2_with fail
              refine (known1_any _ hA0).mono ?_
              rintro e w1 ⟨rfl, hb1⟩
              have hB1 := bel_chain hB0 hb1
              have hA1 := hA0.below hb1
              clear hB0 hA0 hb1
              go_wp2_with fail
              refine (make_any A0 n0 c0 l0 _ (h0.below hB1)).mono ?_
              rintro e w2 ⟨rfl, hb2⟩
              have hB2 := bel_chain hB1 hb2
              have hA2 := hA1.below hb2
              clear hB1 hA1 hb2
              rw [Ha.out]
              go_wp2_with fail
              refine (power_of_one (k : Int) (by omega) _).mono ?_
              rintro e w3 ⟨rfl, hb3⟩
              have hB3 := bel_chain hB2 hb3
              have hA3 := hA2.below hb3
              clear hB2 hA2 hb3
              go_wp2_with fail
              refine (rpower_one (k : Int) 1000 _).mono ?_
              rintro e w3' ⟨rfl, rfl⟩
              go_wp2_with fail
              go_ret
              exact ⟨rfl, hB3⟩
            · have hkd : decide ((k : Int) ≤ 40) = false := by simp; omega
              go_enter Tryd.func5, Tryd.ntmps5
              have hB0 : Below w.heap.size w w := Below.refl _ _
              have hA0 := hamb
              go_wp2_with fail
              refine (known1_any _ hA0).mono ?_
              rintro e w1 ⟨rfl, hb1⟩
              have hB1 := bel_chain hB0 hb1
              have hA1 := hA0.below hb1
              clear hB0 hA0 hb1
              go_wp2_with fail
              refine (make_any A0 n0 c0 l0 _ (h0.below hB1)).mono ?_
              rintro e w2 ⟨rfl, hb2⟩
              have hB2 := bel_chain hB1 hb2
              have hA2 := hA1.below hb2
              clear hB1 hA1 hb2
              rw [Ha.out]
              go_wp2_with fail
              refine (power_of_one (k : Int) (by omega) _).mono ?_
              rintro e w3 ⟨rfl, hb3⟩
              have hB3 := bel_chain hB2 hb3
              have hA3 := hA2.below hb3
              clear hB2 hA2 hb3
              go_wp2_with fail
              refine (rpower_one (k : Int) 1000 _).mono ?_
              rintro e w3' ⟨rfl, rfl⟩
              go_wp2_with fail
              go_ret
              exact ⟨rfl, hB3⟩
        · have hz1 := dec_one_test ha1
          have ha2 : 2 ≤ a := by omega
          by_cases hk : k ≤ 40
          · have HP := Lib.hid (Nat.le_trans (nd_pow20 a k HA20.out hk) (by decide : 801 ≤ 20000))
            have hr := fun w1 => rpower_any a k 1000 w1 (.inl ha2) (by omega) (by omega) (by omega) (fun i hi => Nat.le_trans (nd_pow20 a i HA20.out (by omega)) (by decide))
            have HR := Lib.hid hr
            clear hr
            go_enter Tryd.func5, Tryd.ntmps5
            have hB0 : Below w.heap.size w w := Below.refl _ _
            have hA0 := hamb
            go_wp2_with fail
            refine (known1_any _ hA0).mono ?_
            rintro e w1 ⟨rfl, hb1⟩
            have hB1 := bel_chain hB0 hb1
            have hA1 := hA0.below hb1
            clear hB0 hA0 hb1
            go_wp2_with fail
            refine (make_any A0 n0 c0 l0 _ (h0.below hB1)).mono ?_
            rintro e w2 ⟨rfl, hb2⟩
            have hB2 := bel_chain hB1 hb2
            have hA2 := hA1.below hb2
            clear hB1 hA1 hb2
            rw [Ha.out]
            go_wp2_with fail
            refine (power_ok a k _ hA2 (by omega) (by omega) HP.out).mono ?_
            rintro e w3 ⟨rfl, hb3⟩
            have hB3 := bel_chain hB2 hb3
            have hA3 := hA2.below hb3
            clear hB2 hA2 hb3
            go_wp2_with fail
            refine (HR.out _).mono ?_
            rintro e w4 ⟨rfl, hb4⟩
            have hB4 := bel_chain hB3 hb4
            have hA4 := hA3.below hb4
            clear hB3 hA3 hb4
            go_wp2_with fail
            go_ret
            exact ⟨rfl, hB4⟩
          · have hkd : decide ((k : Int) ≤ 40) = false := by simp; omega
            have hp := fun w1 (h : Amb w1) => power_any a k w1 h ha2 (by omega) (by omega) (by omega)
            obtain ⟨d, hd⟩ : ∃ d, Lib.nDigits a = d + 1 := ⟨Lib.nDigits a - 1, by have := Lib.nDigits_pos a; omega⟩
            have hsz : ((dec a).size : Int) - 1 = (d : Int) := by rw [dec_size, hd]; omega
            have HNO := Lib.hid (fun h => pow_no2 (k := k) ha2 hd h)
            obtain ⟨m1, hm1⟩ : ∃ m1, min k 30000 = m1 := ⟨_, rfl⟩
            obtain ⟨m2, hm2⟩ : ∃ m2, min k 100000 = m2 := ⟨_, rfl⟩
            have hi1 : min (k : Int) 30000 = (m1 : Int) := by omega
            have hi2 : min (k : Int) 100000 = (m2 : Int) := by omega
            rw [hm1, hm2] at HNO
            have hd19 : d ≤ 19 := by omega
            have hm130 : m1 ≤ 30000 := by omega
            have hm210 : m2 ≤ 100000 := by omega
            have hmul : d * m1 ≤ 19 * 30000 := Nat.mul_le_mul hd19 hm130
            obtain ⟨p, hp1⟩ : ∃ p, d * m1 = p := ⟨_, rfl⟩
            have hip : (d : Int) * (m1 : Int) = (p : Int) := by rw [← hp1]; exact (Int.natCast_mul d m1).symm
            rw [hp1] at hmul HNO
            have hpm : p ≤ 570000 := by omega
            have hi3 : max (p : Int) ((m2 : Int) / 4) = ((max p (m2 / 4) : Nat) : Int) := by omega
            obtain ⟨q, hq⟩ : ∃ q, max p (m2 / 4) = q := ⟨_, rfl⟩
            rw [hq] at hi3 HNO
            clear hd hm1 hm2 hp1 hq hmul
            by_cases hbig : Lib.nDigits (a ^ k) ≤ 20000
            · have hno : ¬ 20000 < q := fun h => HNO.out h hbig
              unfold PowRes at hp
              simp only [if_pos hbig] at hp
              have HPW := Lib.hid hp
              clear hp hbig
              go_enter Tryd.func5, Tryd.ntmps5
              have hB0 : Below w.heap.size w w := Below.refl _ _
              have hA0 := hamb
              go_wp2_with fail
              refine (known1_any _ hA0).mono ?_
              rintro e w1 ⟨rfl, hb1⟩
              have hB1 := bel_chain hB0 hb1
              have hA1 := hA0.below hb1
              clear hB0 hA0 hb1
              go_wp2_with fail
              refine (make_any A0 n0 c0 l0 _ (h0.below hB1)).mono ?_
              rintro e w2 ⟨rfl, hb2⟩
              have hB2 := bel_chain hB1 hb2
              have hA2 := hA1.below hb2
              clear hB1 hA1 hb2
              rw [Ha.out]
              go_wp2_with fail
              refine (HPW.out _ hA2).mono ?_
              rintro e w3 ⟨rfl, hb3⟩
              have hB3 := bel_chain hB2 hb3
              have hA3 := hA2.below hb3
              clear hB2 hA2 hb3
              go_wp2_with fail
              go_ret
              exact ⟨rfl, hB3⟩
            · unfold PowRes at hp
              simp only [if_neg hbig] at hp
              have HPW := Lib.hid hp
              clear hp hbig
              by_cases hC : 20000 < q
              · go_enter Tryd.func5, Tryd.ntmps5
                have hB0 : Below w.heap.size w w := Below.refl _ _
                have hA0 := hamb
                go_wp2_with fail
                refine (known1_any _ hA0).mono ?_
                rintro e w1 ⟨rfl, hb1⟩
                have hB1 := bel_chain hB0 hb1
                have hA1 := hA0.below hb1
                clear hB0 hA0 hb1
                go_wp2_with fail
                refine (make_any A0 n0 c0 l0 _ (h0.below hB1)).mono ?_
                rintro e w2 ⟨rfl, hb2⟩
                have hB2 := bel_chain hB1 hb2
                have hA2 := hA1.below hb2
                clear hB1 hA1 hb2
                rw [Ha.out]
                go_wp2_with fail
                refine (HPW.out _ hA2).mono ?_
                rintro e w3 ⟨rfl, hb3⟩
                have hB3 := bel_chain hB2 hb3
                have hA3 := hA2.below hb3
                clear hB2 hA2 hb3
                go_wp2_with fail
                go_ret
                exact ⟨rfl, hB3⟩
              · go_enter Tryd.func5, Tryd.ntmps5
                have hB0 : Below w.heap.size w w := Below.refl _ _
                have hA0 := hamb
                go_wp2_with fail
                refine (known1_any _ hA0).mono ?_
                rintro e w1 ⟨rfl, hb1⟩
                have hB1 := bel_chain hB0 hb1
                have hA1 := hA0.below hb1
                clear hB0 hA0 hb1
                go_wp2_with fail
                refine (make_any A0 n0 c0 l0 _ (h0.below hB1)).mono ?_
                rintro e w2 ⟨rfl, hb2⟩
                have hB2 := bel_chain hB1 hb2
                have hA2 := hA1.below hb2
                clear hB1 hA1 hb2
                rw [Ha.out]
                go_wp2_with fail
                refine (HPW.out _ hA2).mono ?_
                rintro e w3 ⟨rfl, hb3⟩
                have hB3 := bel_chain hB2 hb3
                have hA3 := hA2.below hb3
                clear hB2 hA2 hb3
                go_wp2_with fail
                go_ret
                exact ⟨rfl, hB3⟩
  · go_enter Tryd.func5, Tryd.ntmps5
    have hB0 : Below w.heap.size w w := Below.refl _ _
    have hA0 := hamb
    go_wp2_with fail
    refine (known1_any _ hA0).mono ?_
    rintro e w1 ⟨rfl, hb1⟩
    have hB1 := bel_chain hB0 hb1
    have hA1 := hA0.below hb1
    clear hB0 hA0 hb1
    go_wp2_with fail
    refine (known1_any _ hA1).mono ?_
    rintro e w2 ⟨rfl, hb2⟩
    have hB2 := bel_chain hB1 hb2
    have hA2 := hA1.below hb2
    clear hB1 hA1 hb2
    go_wp2_with fail
    go_ret
    exact ⟨rfl, hB2⟩
end Go.Proofs.YtojgfpoinbblhaaDoor
