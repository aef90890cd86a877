/- Proved here: lemmas and walks of this part (LawExponents). -/
import Derived.Test.YtojgfpoinbblhaaDoorLawBase1
namespace Go.Proofs.YtojgfpoinbblhaaDoor
open Go.RowKit
theorem power_ok (a n : Nat) (w : World) (hamb : Amb w) (hd : Lib.nDigits a ≤ 1000000) (hn64 : n ≤ 9223372036854775807) (hp : Lib.nDigits (a ^ n) ≤ 20000) :
    Calls Tryd.prog 25 #[.string (dec a), .int .i64 (n : Int)] w (SmallRes (.tuple #[.string (dec (a ^ n)), .int .i64 0]) w) := by
  by_cases hn : n = 0
  · subst hn; exact power_zero a w
  · by_cases h0 : a = 0
    · subst h0
      rw [Nat.zero_pow (by omega)]
      exact power_of_zero (n : Int) (by omega) w
    · by_cases h1 : a = 1
      · subst h1
        rw [Nat.one_pow]
        exact power_of_one (n : Int) (by omega) w
      · have := power_any a n w hamb (by omega) hd (by omega) hn64
        unfold PowRes at this
        rwa [if_pos hp] at this
theorem nd_pow (a n k : Nat) (h : a < 10 ^ k) (hkn : k * n ≤ 10000) : Lib.nDigits (a ^ n) ≤ 10001 := by
  refine (nd_le_iff _ 10000).2 ?_
  have h1 : a ^ n ≤ (10 ^ k) ^ n := Nat.pow_le_pow_left (Nat.le_of_lt h) n
  rw [← Nat.pow_mul] at h1
  obtain ⟨K, hK⟩ : ∃ K, 10000 = K := ⟨_, rfl⟩
  rw [hK] at hkn ⊢
  have h2 : 10 ^ (k * n) < 10 ^ (K + 1) := Nat.pow_lt_pow_right (by decide) (by omega)
  omega
theorem cmpI_le {a b : Nat} (h : a ≤ b) : cmpI a b ≤ 0 := by
  rcases Nat.lt_or_eq_of_le h with h | h
  · rw [cmpI_lt h]; decide
  · rw [h, cmpI_eq]; decide
theorem bits_pow (a n : Nat) (h : a < 10 ^ 10) (hn : n ≤ 30) : bitsN (a ^ n) ≤ 2000 := by
  have h1 : a ^ n ≤ (10 ^ 10) ^ n := Nat.pow_le_pow_left (Nat.le_of_lt h) n
  have h2 : (10 ^ 10) ^ n ≤ (10 ^ 10) ^ 30 := Nat.pow_le_pow_right (by decide) hn
  have h3 : bitsN ((10 ^ 10) ^ 30) ≤ 2000 := by
    have h4 : (10 ^ 10) ^ 30 ≤ (2 ^ 34) ^ 30 := Nat.pow_le_pow_left (by decide) 30
    rw [← Nat.pow_mul 2] at h4
    by_cases h5 : ((10 ^ 10) ^ 30 : Nat) = 0
    · rw [h5, bitsN_zero]; omega
    · have h6 := bitsN_ge _ h5
      have h7 := (Nat.pow_le_pow_iff_right (show 1 < 2 by decide)).1 (Nat.le_trans h6 h4)
      omega
  exact Nat.le_trans (bitsN_mono (Nat.le_trans h1 h2)) h3
set_option maxRecDepth 100000 in
set_option maxHeartbeats 4000000 in
theorem lawExponents_walk (A0 : Option Addr) (n0 c0 : Nat) (l0 : List UInt8) (m n : Int) (w : World) (hamb : Amb w) (h0 : InB w A0 n0 c0 l0) (hm0 : 0 ≤ m) (hm1 : m ≤ 255) (hn0 : 0 ≤ n) (hn1 : n ≤ 255) :
    Calls Tryd.prog 10 #[.slice A0 n0 c0, .int .u8 m, .int .u8 n] w (SmallRes (.bool true) w) := by
  by_cases hf : n0 ≤ 10
  · obtain ⟨i, hi⟩ : ∃ i : Nat, m % 16 = (i : Int) := ⟨(m % 16).toNat, by omega⟩
    obtain ⟨k, hk⟩ : ∃ k : Nat, n % 16 = (k : Int) := ⟨(n % 16).toNat, by omega⟩
    have hi15 : i ≤ 15 := by omega
    have hk15 : k ≤ 15 := by omega
    have hl0 := h0.1
    have hmk := mk_lt l0
    have ha10 : mk l0 < 10 ^ 10 := Nat.lt_of_lt_of_le hmk (Nat.pow_le_pow_right (by decide) (by omega))
    have hnd := mk_nd l0
    obtain ⟨a, ha⟩ : ∃ a, mk l0 = a := ⟨_, rfl⟩
    rw [ha] at ha10 hnd
    have HA := Lib.hid ha
    have HI := Lib.hid hi
    have HK := Lib.hid hk
    have e1 := nd_pow a i 10 ha10 (by omega)
    have e2 := nd_pow a k 10 ha10 (by omega)
    have e3 := nd_pow a (i + k) 10 ha10 (by omega)
    have hb := bits_pow a (i + k) ha10 (by omega)
    have HPA := Lib.hid (Nat.pow_add a i k)
    clear ha hi hk hmk ha10 hl0
    go_enter Tryd.func10, Tryd.ntmps10
    have hB0 : Below w.heap.size w w := Below.refl _ _
    have hA0 := hamb
    go_wp2_with fail
    refine (known1_any _ hA0).mono ?_
    rintro e w1 ⟨rfl, hb1⟩
    have hB1 := bel_chain hB0 hb1
    have hA1 := hA0.below hb1
    clear hB0 hA0 hb1
    go_wp2_with fail
    refine (make_any A0 n0 c0 l0 _ (h0.below hB1)).mono ?_
    rintro e w2 ⟨rfl, hb2⟩
    have hB2 := bel_chain hB1 hb2
    have hA2 := hA1.below hb2
    clear hB1 hA1 hb2
    rw [HA.out]
    go_wp2_with fail
    rw [HI.out]
    go_wp2_with fail
    refine (power_ok a i _ hA2 (by omega) (by omega) (by omega)).mono ?_
    rintro e w3 ⟨rfl, hb3⟩
    have hB3 := bel_chain hB2 hb3
    have hA3 := hA2.below hb3
    clear hB2 hA2 hb3
    go_wp2_with fail
    rw [HK.out]
    go_wp2_with fail
    refine (power_ok a k _ hA3 (by omega) (by omega) (by omega)).mono ?_
    rintro e w4 ⟨rfl, hb4⟩
    have hB4 := bel_chain hB3 hb4
    have hA4 := hA3.below hb4
    clear hB3 hA3 hb4
    have hp3 := fun w1 (h : Amb w1) => power_ok a (i + k) w1 h (by omega) (by omega) (by omega)
    rw [Int.natCast_add] at hp3
    have HP3 := Lib.hid hp3
    clear hp3
    go_wp2_with fail
    refine (HP3.out _ hA4).mono ?_
    rintro e w5 ⟨rfl, hb5⟩
    have hB5 := bel_chain hB4 hb5
    have hA5 := hA4.below hb5
    clear hB4 hA4 hb5
    go_wp2_with fail
    refine (mul_any (a ^ i) (a ^ k) _ hA5 (by omega) (by omega)).mono ?_
    rintro e w6 ⟨rfl, hb6⟩
    have hB6 := bel_chain hB5 hb6
    have hA6 := hA5.below hb6
    clear hB5 hA5 hb6
    rw [← HPA.out]
    clear e1 e2
    generalize a ^ (i + k) = z at *
    go_wp2_with fail
    refine (bits_any z _ hA6 (by omega)).mono ?_
    rintro e w7 ⟨rfl, hb7⟩
    have hB7 := bel_chain hB6 hb7
    have hA7 := hA6.below hb7
    clear hB6 hA6 hb7
    by_cases hz : z = 0
    · subst hz
      have hz0 := dec_zero_same
      have hb0 := bitsN_zero
      rw [hb0]
      clear hb0
      go_wp2_with fail
      go_ret
      exact ⟨rfl, hB7⟩
    · have hz0 := dec_zero_test hz
      have hge := bitsN_ge z hz
      have hlt := bitsN_lt z
      obtain ⟨b, hbb⟩ : ∃ b, bitsN z = b + 1 := ⟨bitsN z - 1, by rw [bitsN_pos hz]; omega⟩
      rw [hbb] at hge hlt hb ⊢
      rw [Nat.add_sub_cancel] at hge
      have hb1 : ((b + 1 : Nat) : Int) = (b : Int) + 1 := by omega
      rw [hb1]
      have hpl : Lib.nDigits (2 ^ b) ≤ 10001 := nd_pow 2 b 1 (by decide) (by omega)
      have hcl : cmpI (2 ^ b) z ≤ 0 := cmpI_le hge
      have hcm : cmpI z (2 ^ b + 2 ^ b) = -1 := cmpI_lt (by rw [Nat.pow_succ] at hlt; omega)
      have hlit : (⟨#[50]⟩ : ByteArray) = dec 2 := lit_dec [50] _ (by decide) (by decide)
      have hp2 := fun w1 (h : Amb w1) => power_ok 2 b w1 h (nd_small 1 (by decide) (by decide)) (by omega) (by omega)
      rw [← hlit] at hp2
      have HP2 := Lib.hid hp2
      have HCM := Lib.hid hcm
      have HCL := Lib.hid hcl
      have hnn := nd_add (2 ^ b) (2 ^ b)
      clear hp2 hcm hcl hlit hb1 hge hlt hbb
      go_wp2_with fail
      refine (HP2.out _ hA7).mono ?_
      rintro e w8 ⟨rfl, hb8⟩
      have hB8 := bel_chain hB7 hb8
      have hA8 := hA7.below hb8
      clear hB7 hA7 hb8
      generalize 2 ^ b = low at *
      go_wp2_with fail
      refine (compare_any low z _ (by omega) (by omega)).mono ?_
      rintro e w8' ⟨rfl, rfl⟩
      have hcl := HCL.out
      generalize cmpI low z = cm at *
      go_wp2_with fail
      refine (add_any low low _ hA8 (by omega) (by omega)).mono ?_
      rintro e w9 ⟨rfl, hb9⟩
      have hB9 := bel_chain hB8 hb9
      have hA9 := hA8.below hb9
      clear hB8 hA8 hb9
      go_wp2_with fail
      refine (compare_any z (low + low) _ (by omega) (by omega)).mono ?_
      rintro e w9' ⟨rfl, rfl⟩
      rw [HCM.out]
      go_wp2_with fail
      go_ret
      exact ⟨rfl, hB9⟩
  · go_enter Tryd.func10, Tryd.ntmps10
    have hB0 : Below w.heap.size w w := Below.refl _ _
    have hA0 := hamb
    go_wp2_with fail
    refine (known1_any _ hA0).mono ?_
    rintro e w1 ⟨rfl, hb1⟩
    have hB1 := bel_chain hB0 hb1
    have hA1 := hA0.below hb1
    clear hB0 hA0 hb1
    go_wp2_with fail
    refine (known1_any _ hA1).mono ?_
    rintro e w2 ⟨rfl, hb2⟩
    have hB2 := bel_chain hB1 hb2
    have hA2 := hA1.below hb2
    clear hB1 hA1 hb2
    go_wp2_with fail
    go_ret
    exact ⟨rfl, hB2⟩
end Go.Proofs.YtojgfpoinbblhaaDoor
