/- The walk of Power: for any number of at most 1000000 digits and any int. -/
import Derived.Test.YtojgfpoinbblhaaDoorBits
namespace Go.Proofs.YtojgfpoinbblhaaDoor
open Go.RowKit

theorem dec_one_test {a : Nat} (h : a ≠ 1) : ((dec a).toList == [49]) = false := by
  rw [dec_toList, beq_eq_false_iff_ne]
  intro e
  have : Lib.decDigits a = Lib.decDigits 1 := by rw [e, dd_small (by omega)]; rfl
  exact h (dd_inj this)
theorem dec_one_same : ((dec 1).toList == [49]) = true := by rw [dec_toList, dd_small (by omega)]; rfl
theorem dec1 : dec 1 = ⟨#[49]⟩ := by unfold dec; rw [dd_small (by omega)]; rfl
theorem i64_and_one (m : Nat) (h : m ≤ 9223372036854775807) : bits .and .i64 (m : Int) 1 = ((m % 2 : Nat) : Int) := by
  have e1 : (BitVec.ofInt 64 (m : Int)).toNat = m := by rw [BitVec.ofInt_natCast, BitVec.toNat_ofNat]; exact Nat.mod_eq_of_lt (by omega)
  have e2 : (BitVec.ofInt 64 (1 : Int)).toNat = 1 := by decide
  show IntKind.i64.wrap ((BitVec.ofInt 64 (m : Int) &&& BitVec.ofInt 64 (1 : Int)).toNat : Int) = _
  rw [BitVec.toNat_and, e1, e2, Nat.and_one_is_mod, IntKind.wrap_i64]
  omega
theorem big_pow (K : Nat) (h : K = 66440) : 10 ^ (19999 + 1) ≤ 2 ^ K := by subst h; decide +kernel
/-- What Power hands back for a number greater than 1 and an exponent greater than 0. -/
def PowRes (a n : Nat) : Value := if Lib.nDigits (a ^ n) ≤ 20000 then .tuple #[.string (dec (a ^ n)), .int .i64 0] else .tuple #[.string ⟨#[]⟩, .int .i64 4]
theorem pow_two_le {a : Nat} (ha : a ≠ 0) (n : Nat) : 2 ^ ((bitsN a - 1) * n) ≤ a ^ n := by
  rw [Nat.pow_mul]; exact Nat.pow_le_pow_left (bitsN_ge a ha) n
theorem pow_no {a n : Nat} (ha : a ≠ 0) (h : 66440 ≤ (bitsN a - 1) * n) : ¬ Lib.nDigits (a ^ n) ≤ 20000 := by
  intro h1
  have h2 := (nd_le_iff (a ^ n) 19999).1 h1
  have h3 := pow_two_le ha n
  obtain ⟨K, hK⟩ : ∃ K, K = 66440 := ⟨_, rfl⟩
  rw [← hK] at h
  have h4 : 2 ^ K ≤ 2 ^ ((bitsN a - 1) * n) := Nat.pow_le_pow_right (by decide) h
  have h5 := big_pow K hK
  exact absurd h2 (Nat.not_lt.2 (Nat.le_trans h5 (Nat.le_trans h4 h3)))
theorem pow_len {a n k : Nat} (ha : 2 ≤ a) (hk : k = bitsN a - 1) (hn : n * k ≤ 66439) (hn0 : 0 < n) : (lims (a ^ n)).length ≤ 66439 := by
  have h1 := bitsN_lt a
  have hb : 1 ≤ k := by
    have : 2 ≤ bitsN a := by
      have h3 := bitsN_mono ha
      have h2 : bitsN 2 = 2 := bitsN_unique _ 1 (by decide) (by decide)
      omega
    omega
  rw [lims_len_le]
  have h2 : a ^ n < (2 ^ bitsN a) ^ n := Nat.pow_lt_pow_left h1 (by omega)
  rw [← Nat.pow_mul] at h2
  obtain ⟨K, hK⟩ : ∃ K, 66439 = K := ⟨_, rfl⟩
  rw [hK] at hn ⊢
  have h3 : 2 ^ (bitsN a * n) ≤ 2 ^ (2 * K) := Nat.pow_le_pow_right (by decide) (by
    have : bitsN a = k + 1 := by omega
    rw [this, Nat.add_mul, Nat.one_mul, Nat.mul_comm k]
    have := Nat.le_mul_of_pos_right n hb
    omega)
  have h4 : (2 : Nat) ^ (2 * K) ≤ 1000000000 ^ K := by rw [Nat.pow_mul]; exact Nat.pow_le_pow_left (by decide) _
  exact Nat.lt_of_lt_of_le h2 (Nat.le_trans h3 h4)
/-- What holds at the beginning of a round: o p^m is the power. -/
structure PowAt (a n m o p : Nat) : Prop where
  prod : o * p ^ m = a ^ n
  pos : 0 < o
  pos' : 0 < p
theorem PowAt.o_le {a n m o p : Nat} (h : PowAt a n m o p) : o ≤ a ^ n := by
  rw [← h.prod]; exact Nat.le_mul_of_pos_right o (Nat.pow_pos h.pos')
theorem PowAt.p_le {a n m o p : Nat} (h : PowAt a n m o p) (k : Nat) (hk : k ≤ m) : p ^ k ≤ a ^ n := by
  rw [← h.prod]
  exact Nat.le_trans (Nat.pow_le_pow_right h.pos' hk) (Nat.le_mul_of_pos_left _ h.pos)
theorem PowAt.even {a n m o p : Nat} (h : PowAt a n m o p) (hm : m % 2 = 0) : PowAt a n (m / 2) o (p * p) := by
  refine ⟨?_, h.pos, Nat.mul_pos h.pos' h.pos'⟩
  rw [← h.prod, show p * p = p ^ 2 from (Nat.pow_two p).symm, ← Nat.pow_mul, show 2 * (m / 2) = m by omega]
theorem PowAt.odd {a n m o p : Nat} (h : PowAt a n m o p) (hm : m % 2 = 1) : PowAt a n (m / 2) (o * p) (p * p) := by
  refine ⟨?_, Nat.mul_pos h.pos h.pos', Nat.mul_pos h.pos' h.pos'⟩
  rw [← h.prod, show p * p = p ^ 2 from (Nat.pow_two p).symm, ← Nat.pow_mul]
  have e : p ^ m = p * p ^ (2 * (m / 2)) := by rw [← Nat.pow_succ']; congr 1; omega
  rw [e, Nat.mul_assoc]
theorem PowAt.one {a n o p : Nat} (h : PowAt a n 1 o p) : PowAt a n 0 (o * p) p := by
  refine ⟨?_, Nat.mul_pos h.pos h.pos', h.pos'⟩
  rw [← h.prod, Nat.pow_zero, Nat.mul_one, Nat.pow_one]
def PowRel (a n m : Nat) (vo vp : Value) (w wr : World) : Prop :=
  Below w.heap.size w wr ∧ ∃ (o p go_ co lo gp cp lp : Nat), PowAt a n m o p ∧ (lims o).length = lo ∧ (lims p).length = lp ∧ vo = .slice (some ⟨go_, 0, none⟩) lo co ∧ vp = .slice (some ⟨gp, 0, none⟩) lp cp ∧ Pc wr go_ lo co (lims o) ∧ Pc wr gp lp cp (lims p)

set_option maxRecDepth 100000 in
set_option maxHeartbeats 1000000 in
theorem power_neg (a : Nat) (n : Int) (hn : n < 0) (w : World) :
    Calls Tryd.prog 25 #[.string (dec a), .int .i64 n] w (SmallRes (.tuple #[.string ⟨#[]⟩, .int .i64 3]) w) := by
  go_enter Tryd.func25, Tryd.ntmps25
  go_wp2_with fail
  go_ret2
  exact ⟨rfl, Below.refl _ _⟩
set_option maxRecDepth 100000 in
theorem power_zero (a : Nat) (w : World) :
    Calls Tryd.prog 25 #[.string (dec a), .int .i64 0] w (SmallRes (.tuple #[.string (dec 1), .int .i64 0]) w) := by
  go_enter Tryd.func25, Tryd.ntmps25
  go_wp2_with fail
  go_ret2
  exact ⟨by rw [dec1]; rfl, Below.refl _ _⟩
set_option maxRecDepth 100000 in
theorem power_of_one (n : Int) (hn : 0 < n) (w : World) :
    Calls Tryd.prog 25 #[.string (dec 1), .int .i64 n] w (SmallRes (.tuple #[.string (dec 1), .int .i64 0]) w) := by
  have h1 := dec_one_same
  have h0 : (n == 0) = false := by simp; omega
  go_enter Tryd.func25, Tryd.ntmps25
  go_wp2_with fail
  go_ret2
  exact ⟨by rw [dec1]; rfl, Below.refl _ _⟩
set_option maxRecDepth 100000 in
theorem power_of_zero (n : Int) (hn : 0 < n) (w : World) :
    Calls Tryd.prog 25 #[.string (dec 0), .int .i64 n] w (SmallRes (.tuple #[.string (dec 0), .int .i64 0]) w) := by
  have h1 := dec_one_test (a := 0) (by omega)
  have h2 := dec_zero_same
  have h0 : (n == 0) = false := by simp; omega
  go_enter Tryd.func25, Tryd.ntmps25
  go_wp2_with fail
  go_ret2
  exact ⟨by rw [dec0]; rfl, Below.refl _ _⟩

set_option maxRecDepth 100000 in
set_option maxHeartbeats 1000000 in
/-- decimal.Power of a number greater than 1, with an exponent greater than 0. -/
theorem power_any (a n : Nat) (w : World) (hamb : Amb w) (ha : 2 ≤ a) (hd : Lib.nDigits a ≤ 1000000) (hn : 0 < n) (hn64 : n ≤ 9223372036854775807) :
    Calls Tryd.prog 25 #[.string (dec a), .int .i64 (n : Int)] w (SmallRes (PowRes a n) w) := by
  have h1 := dec_one_test (a := a) (by omega)
  have h2 := dec_zero_test (b := a) (by omega)
  have h0 : ((n : Int) == 0) = false := by simp; omega
  have hb2 : 2 ≤ bitsN a := by
    have h3 := bitsN_mono ha
    have h2 : bitsN 2 = 2 := bitsN_unique _ 1 (by decide) (by decide)
    omega
  have hb3 : bitsN a ≤ 100000000 := by
    have h4 := bitsN_ge a (by omega)
    have h5 := (nd_le_iff a 999999).1 hd
    rcases Nat.lt_or_ge 100000000 (bitsN a) with h6 | h6
    · exfalso
      obtain ⟨K, hK⟩ : ∃ K, 999999 + 1 = K := ⟨_, rfl⟩
      rw [hK] at h5
      have h7 : (10 : Nat) ^ K ≤ (2 ^ 4) ^ K := Nat.pow_le_pow_left (by decide) K
      rw [← Nat.pow_mul] at h7
      have h8 : (2 : Nat) ^ (4 * K) ≤ 2 ^ (bitsN a - 1) := Nat.pow_le_pow_right (by decide) (by omega)
      omega
    · exact h6
  obtain ⟨k, hk⟩ : ∃ k, bitsN a = k + 1 := ⟨bitsN a - 1, by omega⟩
  have hk1 : 1 ≤ k := by omega
  have HK := Lib.hid hk
  have hbits := bits_any a w hamb hd
  rw [hk] at hbits hb3
  have hk3 : ((k + 1 : Nat) : Int) = (k : Int) + 1 := by omega
  rw [hk3] at hbits
  have HB := Lib.hid hbits
  clear hbits hk hb2 hk3
  by_cases hbig : 66439 / k < n
  · have hno := pow_no (a := a) (n := n) (by omega) (by
      rw [HK.out, Nat.add_sub_cancel, Nat.mul_comm]
      have := Nat.lt_mul_of_div_lt hbig (by omega)
      omega)
    have HNO := Lib.hid hno
    have hdi : (66439 : Int) / (k : Int) < (n : Int) := by
      have : ((66439 / k : Nat) : Int) < (n : Int) := by omega
      rwa [Int.natCast_ediv] at this
    clear hno hbig
    go_enter Tryd.func25, Tryd.ntmps25
    go_wp2_with fail
    refine HB.out.mono ?_
    rintro e w1 ⟨rfl, hb1⟩
    go_wp2_with fail
    go_ret2
    exact ⟨by unfold PowRes; rw [if_neg HNO.out]; rfl, hb1⟩
  · have hmul : n * k ≤ 66439 := by
      have h4 : n ≤ 66439 / k := by omega
      have h5 := Nat.mul_le_mul_right k h4
      have h6 := Nat.div_mul_le_self 66439 k
      omega
    have hlen := pow_len ha (k := k) (by rw [HK.out]; omega) hmul hn
    have HLEN := Lib.hid hlen
    have hdi : ¬ (66439 : Int) / (k : Int) < (n : Int) := by
      have : ¬ ((66439 / k : Nat) : Int) < (n : Int) := by omega
      rwa [Int.natCast_ediv] at this
    have hdd : decide ((66439 : Int) / (k : Int) < (n : Int)) = false := decide_eq_false hdi
    have hlle : ∀ x, x ≤ a ^ n → (lims x).length ≤ 66439 := fun x hx => Nat.le_trans (lims_len_mono hx) HLEN.out
    have HLLE := Lib.hid hlle
    have hal : (lims a).length ≤ 66439 := hlle a (by
      have := Nat.pow_le_pow_right (show 0 < a by omega) hn
      simpa using this)
    clear hlen hmul hbig hlle
    go_enter Tryd.func25, Tryd.ntmps25
    go_wp2_with fail
    refine HB.out.mono ?_
    rintro e w1 ⟨rfl, hb1⟩
    have hA1 := hamb.below hb1
    have hone := Pc.one w1 1
    have hl1 : lims 1 = [1] := by rw [lims_pos (by omega), show 1 / 1000000000 = 0 by omega, lims_zero]
    rw [← hl1] at hone
    have HL1 := Lib.hid hl1
    clear hl1
    go_wp2_with fail
    refine (cut_dec a _ (by omega)).mono ?_
    rintro e w2 ⟨gp, capp, rfl, hgp, hpp, hb2⟩
    have hB2 : Below w.heap.size w w2 := (hb1.alloc hb1.size _).trans (hb2.mono (by rw [World.size_alloc]; have := hb1.size; omega))
    have hone2 := hone.below hb2 hone.lt
    have hA2 := hamb.below hB2
    clear hb1 hb2 hone hgp
    generalize hla : (lims a).length = la at *
    have HLA := Lib.hid hla
    clear hla
    have hstart : PowAt a n n 1 a := ⟨Nat.one_mul _, by omega, by omega⟩
    have HST := Lib.hid hstart
    clear hstart
    go_wp2_with fail
    go_loopw [1, 7, 8] (fun vm vo vp wr => ∃ m : Nat, m ≤ n ∧ vm = .int .i64 (m : Int) ∧ PowRel a n m vo vp w2 wr) (fun vm _ _ _ => (intOf vm).toNat)
    case atStart => exact ⟨n, Nat.le_refl _, rfl, Below.refl _ _, 1, a, _, 1, 1, gp, capp, la, HST.out, by rw [HL1.out]; rfl, HLA.out, rfl, rfl, hone2, hpp⟩
    case round =>
      obtain ⟨m, hm, rfl, hB, o, p, go_, co, lo, gp2, cp, lp, hP, hlo, hlp, rfl, rfl, hPo, hPp⟩ := hrel
      have hlo2 := HLLE.out o hP.o_le
      rw [hlo] at hlo2
      have HLO := Lib.hid hlo
      have HLP := Lib.hid hlp
      clear hlo hlp
      have HP := Lib.hid hP
      clear hP
      by_cases hm0 : m = 0
      · subst hm0
        have hov : o = a ^ n := by have := HP.out.prod; rwa [Nat.pow_zero, Nat.mul_one] at this
        have HOV := Lib.hid hov
        clear hov
        go_wp2_with fail
        refine (text_any _ _ _ o _ hPo (by omega)).mono ?_
        rintro e w5 ⟨rfl, hb5⟩
        have hsz : (dec o).size = Lib.nDigits (a ^ n) := by rw [dec_size, HOV.out]
        have hszb : (dec o).size ≤ 9 * 66439 + 9 := by
          rw [hsz]
          have h4 := (lims_len_le (a ^ n) 66439).1 (HLLE.out _ (Nat.le_refl _))
          obtain ⟨K, hK⟩ : ∃ K, 66439 = K := ⟨_, rfl⟩
          rw [hK] at h4 ⊢
          rw [show (1000000000 : Nat) = 10 ^ 9 from rfl, ← Nat.pow_mul] at h4
          have h5 := (nd_le_iff (a ^ n) (9 * K)).2 (by rw [Nat.pow_succ]; omega)
          omega
        have HSZ := Lib.hid hsz
        clear hsz
        by_cases h20 : (dec o).size ≤ 20000
        · go_wp2_with fail
          go_ret2
          refine ⟨?_, bel_chain (bel_chain hB2 hB) hb5⟩
          unfold PowRes
          rw [if_pos (by rw [← HSZ.out]; exact h20), ← HOV.out]; rfl
        · go_wp2_with fail
          go_ret2
          refine ⟨?_, bel_chain (bel_chain hB2 hB) hb5⟩
          unfold PowRes
          rw [if_neg (by rw [← HSZ.out]; exact h20)]; rfl
      · have hlp2 : lp ≤ 66439 := by
          have := HLLE.out p (by have := HP.out.p_le 1 (by omega); rwa [Nat.pow_one] at this)
          rw [HLP.out] at this; exact this
        have hand := i64_and_one m (by omega)
        have hlp3 : 1 < m → (lims (p * p)).length ≤ 66439 := fun h => HLLE.out _ (by have := HP.out.p_le 2 (by omega); rwa [Nat.pow_two] at this)
        have HLP3 := Lib.hid hlp3
        clear hlp3
        by_cases hodd : m % 2 = 1
        · rw [hodd] at hand
          have HODD := Lib.hid hodd
          clear hodd
          by_cases hm1 : m = 1
          · subst hm1
            go_wp2_with fail
            refine (times_any _ _ _ _ _ _ _ _ _ hPo hPp (Lims_lims o) (Lims_lims p) (by omega)).mono ?_
            rintro e w4 ⟨g4, cap4, rfl, hg4, hp4, hb4⟩
            rw [lv_lims, lv_lims] at hp4 ⊢
            have hPp4 := hPp.below hb4 hPp.lt
            go_wp2_with fail
            go_roundw
            case rel => exact ⟨0, by omega, by go_num, bel_chain hB hb4, o * p, p, g4, cap4, _, gp2, cp, lp, HP.out.one, rfl, HLP.out, rfl, rfl, hp4, hPp4⟩
            case measure => simp [intOf]
          · have hm2 : 1 < m := by omega
            go_wp2_with fail
            refine (times_any _ _ _ _ _ _ _ _ _ hPo hPp (Lims_lims o) (Lims_lims p) (by omega)).mono ?_
            rintro e w4 ⟨g4, cap4, rfl, hg4, hp4, hb4⟩
            rw [lv_lims, lv_lims] at hp4 ⊢
            have hPp4 := hPp.below hb4 hPp.lt
            go_wp2_with fail
            refine (times_any _ _ _ _ _ _ _ _ _ hPp4 hPp4 (Lims_lims p) (Lims_lims p) (by omega)).mono ?_
            rintro e w5 ⟨g5, cap5, rfl, hg5, hp5, hb5⟩
            rw [lv_lims] at hp5 ⊢
            have hp45 := hp4.below hb5 hp4.lt
            go_wp2_with fail
            go_roundw
            case rel => exact ⟨m / 2, by omega, by go_num, bel_chain (bel_chain hB hb4) hb5, o * p, p * p, g4, cap4, _, g5, cap5, _, HP.out.odd HODD.out, rfl, rfl, rfl, rfl, hp45, hp5⟩
            case measure => simp [intOf]; omega
        · have hev : m % 2 = 0 := by omega
          rw [hev] at hand
          have HEV := Lib.hid hev
          have hm2 : 1 < m := by omega
          clear hodd hev
          go_wp2_with fail
          refine (times_any _ _ _ _ _ _ _ _ _ hPp hPp (Lims_lims p) (Lims_lims p) (by omega)).mono ?_
          rintro e w5 ⟨g5, cap5, rfl, hg5, hp5, hb5⟩
          rw [lv_lims] at hp5 ⊢
          have hPo5 := hPo.below hb5 hPo.lt
          go_wp2_with fail
          go_roundw
          case rel => exact ⟨m / 2, by omega, by go_num, bel_chain hB hb5, o, p * p, go_, co, lo, g5, cap5, _, HP.out.even HEV.out, HLO.out, rfl, rfl, rfl, hPo5, hp5⟩
          case measure => simp [intOf]; omega
end Go.Proofs.YtojgfpoinbblhaaDoor
