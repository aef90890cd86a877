/- The second chapter's powers: the reference's Power and whole.Power. -/
import Derived.Test.YtebcmefbpfcgmaaGreatDoorRG
import Derived.Test.YtebcmefbpfcgmaaGreatDoorPowAll
namespace Go.Proofs.YtebcmefbpfcgmaaGreatDoor
open Go.RowKit Go.PlainAid

/-- What is left of a power: o times p to the m; their digits stay below a bound. -/
def RPowAt (a : Int) (n m B C : Nat) (o p : Int) : Prop := o * p ^ m = a ^ n ∧ nz o ≤ C ∧ nz p ≤ B ∧ C + B * m ≤ 801
theorem sq_pow (p : Int) (k : Nat) : (p * p) ^ k = p ^ (2 * k) := by
  rw [Int.pow_mul]; congr 1; rw [Int.pow_succ, Int.pow_succ, Int.pow_zero, Int.one_mul]
theorem RPowAt.even {a : Int} {n m B C : Nat} {o p : Int} (h : RPowAt a n m B C o p) (hm : m % 2 = 0) : RPowAt a n (m / 2) (2 * B) C o (p * p) := by
  obtain ⟨h1, h2, h3, h4⟩ := h
  refine ⟨?_, h2, Nat.le_trans (nz_mul p p) (by omega), ?_⟩
  · rw [← h1, sq_pow, show 2 * (m / 2) = m by omega]
  · rw [Nat.mul_comm 2 B, Nat.mul_assoc, show 2 * (m / 2) = m by omega]; exact h4
theorem RPowAt.odd {a : Int} {n m B C : Nat} {o p : Int} (h : RPowAt a n m B C o p) (hm : m % 2 = 1) : RPowAt a n (m / 2) (2 * B) (C + B) (o * p) (p * p) := by
  obtain ⟨h1, h2, h3, h4⟩ := h
  have e : m = 2 * (m / 2) + 1 := by omega
  refine ⟨?_, Nat.le_trans (nz_mul o p) (by omega), Nat.le_trans (nz_mul p p) (by omega), ?_⟩
  · have e2 : p ^ m = p ^ (2 * (m / 2)) * p := by conv => lhs; rw [e, Int.pow_succ]
    rw [← h1, sq_pow, e2, Int.mul_assoc, Int.mul_comm p]
  · rw [e, Nat.mul_add, Nat.mul_one] at h4
    rw [Nat.mul_comm 2 B, Nat.mul_assoc]; omega
theorem RPowAt.one {a : Int} {n B C : Nat} {o p : Int} (h : RPowAt a n 1 B C o p) : RPowAt a n 0 B (C + B) (o * p) p := by
  obtain ⟨h1, h2, h3, h4⟩ := h
  refine ⟨?_, Nat.le_trans (nz_mul o p) (by omega), h3, by omega⟩
  rw [← h1, Int.pow_zero, Int.mul_one, Int.pow_succ, Int.pow_zero, Int.one_mul]
theorem RPowAt.small {a : Int} {n m B C : Nat} {o p : Int} (h : RPowAt a n m B C o p) (hm : 0 < m) : nz o ≤ 801 ∧ nz p ≤ 801 := by
  obtain ⟨h1, h2, h3, h4⟩ := h
  have : B * 1 ≤ B * m := Nat.mul_le_mul_left _ hm
  omega
set_option maxRecDepth 100000 in
set_option maxHeartbeats 1000000 in
/-- schismaref02.Power, of at most 20 digits and an exponent of at most 40. -/
theorem r2power_any (a : Int) (n : Nat) (w : World) (hamb : Amb w) (ha : nz a ≤ 20) (hn : n ≤ 40) :
    Calls Tryz.prog 14 #[.string (itx a), .int .i64 (n : Int)] w (SmallRes (.string (itx (a ^ n))) w) := by
  have HS := Lib.hid (show RPowAt a n n 20 1 1 a from ⟨by rw [Int.one_mul], by unfold nz; rw [show (1 : Int).natAbs = 1 from rfl, Lib.nDigits_small (by omega)]; exact Nat.le_refl 1, ha, by omega⟩)
  have HL1 := Lib.hid itx_lit_one
  go_enter Tryz.func14, Tryz.ntmps14
  go_wp2_with fail
  go_loopw [0, 1, 5] (fun vp vm vo wr => ∃ (m B C : Nat) (o p : Int), m ≤ 40 ∧ vp = .string (itx p) ∧ vm = .int .i64 (m : Int) ∧ vo = .string (itx o) ∧ Hid (RPowAt a n m B C o p) ∧ Below w.heap.size w wr) (fun _ vm _ _ => (intOf vm).toNat)
  case atStart => exact ⟨n, 20, 1, 1, a, hn, rfl, rfl, by rw [HL1.out], HS, Below.refl _ _⟩
  case round =>
    obtain ⟨m, B, C, o, p, hm, rfl, rfl, rfl, HP, hB⟩ := hrel
    have hA := hamb.below hB
    by_cases hm0 : m = 0
    · subst hm0
      have HE := Lib.hid (show o = a ^ n by have := HP.out.1; rwa [Int.pow_zero, Int.mul_one] at this)
      go_wp2_with fail
      go_ret
      exact ⟨by rw [← HE.out]; rfl, hB⟩
    · have hsm := HP.out.small (by omega)
      have hs1 := hsm.1
      have hs2 := hsm.2
      clear hsm
      by_cases hpar : m % 2 = 1
      · have hpi : (m : Int) % 2 = 1 := by omega
        by_cases h1 : m = 1
        · subst h1
          have H2 := Lib.hid HP.out.one
          clear hpar hm0
          go_wp2_with fail
          refine (r2mul_any o p _ hA (by omega) (by omega)).mono ?_
          rintro e w1 ⟨rfl, hb1⟩
          go_wp2_with fail
          go_roundw
          case rel => exact ⟨0, B, C + B, o * p, p, by omega, rfl, by go_num, rfl, H2, bel_chain hB hb1⟩
          case measure => simp [intOf]
        · have H2 := Lib.hid (HP.out.odd hpar)
          have hhalf : 0 < (m : Int) / 2 := by omega
          clear hpar
          go_wp2_with fail
          refine (r2mul_any o p _ hA (by omega) (by omega)).mono ?_
          rintro e w1 ⟨rfl, hb1⟩
          have hB1 := bel_chain hB hb1
          go_wp2_with fail
          refine (r2mul_any p p _ (hamb.below hB1) (by omega) (by omega)).mono ?_
          rintro e w2 ⟨rfl, hb2⟩
          go_wp2_with fail
          go_roundw
          case rel => exact ⟨m / 2, 2 * B, C + B, o * p, p * p, by omega, rfl, by go_num, rfl, H2, bel_chain hB1 hb2⟩
          case measure => simp [intOf]; omega
      · have hpi : ((m : Int) % 2 == 1) = false := by rw [beq_eq_false_iff_ne]; omega
        have H2 := Lib.hid (HP.out.even (by omega))
        have hhalf : 0 < (m : Int) / 2 := by omega
        clear hpar
        go_wp2_with fail
        refine (r2mul_any p p _ hA (by omega) (by omega)).mono ?_
        rintro e w2 ⟨rfl, hb2⟩
        go_wp2_with fail
        go_roundw
        case rel => exact ⟨m / 2, 2 * B, C, o, p * p, by omega, rfl, by go_num, rfl, H2, bel_chain hB hb2⟩
        case measure => simp [intOf]; omega
theorem nz_pow (a : Nat) (n : Nat) : Lib.nDigits (a ^ n) ≤ Lib.nDigits a * n + 1 := by
  induction n with
  | zero => rw [Nat.pow_zero, Lib.nDigits_small (by omega)]; omega
  | succ n ih =>
    have h := nz_mul ((a ^ n : Nat) : Int) (a : Int)
    rw [← Int.natCast_mul, nz_nat, nz_nat, nz_nat] at h
    rw [Nat.pow_succ, Nat.mul_succ]; omega
/-- decimal.Power, where the power is short. -/
theorem dpower_fit (a n : Nat) (w : World) (hamb : Amb w) (hd : Lib.nDigits a ≤ 1000000) (hn : Lib.nDigits a * n ≤ 4000) :
    Calls Tryz.prog 38 #[.string (dec a), .int .i64 (n : Int)] w (SmallRes (.tuple #[.string (dec (a ^ n)), .int .i64 0]) w) := by
  by_cases h0 : n = 0
  · subst h0
    rw [Nat.pow_zero]
    exact power_zero a w
  · by_cases h1 : a = 1
    · subst h1
      rw [Nat.one_pow]
      exact power_of_one n (by omega) w
    · by_cases h2 : a = 0
      · subst h2
        rw [Nat.zero_pow (by omega)]
        exact power_of_zero n (by omega) w
      · have hp := power_any a n w hamb (by omega) hd (by omega) (by
          have : 1 * n ≤ Lib.nDigits a * n := Nat.mul_le_mul_right _ (Lib.nDigits_pos a)
          omega)
        have hr : PowRes a n = .tuple #[.string (dec (a ^ n)), .int .i64 0] := by
          unfold PowRes
          rw [if_pos (by have := nz_pow a n; omega)]
        rw [hr] at hp
        exact hp
theorem pow_sign (a : Int) (n : Nat) : (if (decide (a < 0) && decide (n % 2 = 1)) = true then -((a.natAbs ^ n : Nat) : Int) else ((a.natAbs ^ n : Nat) : Int)) = a ^ n := by
  by_cases h : a < 0
  · have e : a = -(a.natAbs : Int) := by omega
    rw [decide_eq_true h, Bool.true_and]
    generalize a.natAbs = m at *
    subst e
    clear h
    induction n with
    | zero => simp
    | succ n ih =>
      rw [Int.pow_succ, ← ih, Nat.pow_succ, Int.natCast_mul]
      by_cases hp : n % 2 = 1
      · have hq : ¬ (n + 1) % 2 = 1 := by omega
        rw [decide_eq_true hp, decide_eq_false hq, if_pos rfl, if_neg (by decide), Int.neg_mul_neg]
      · have hq : (n + 1) % 2 = 1 := by omega
        rw [decide_eq_false hp, decide_eq_true hq, if_pos rfl, if_neg (by decide), Int.mul_neg]
  · have e : a = (a.natAbs : Int) := by omega
    rw [decide_eq_false h, Bool.false_and, if_neg (by decide), Int.natCast_pow, ← e]
theorem join_hid (b : Bool) (m : Nat) (w : World) (hm : Lib.nDigits m ≤ 1000000000) :
    Calls Tryz.prog 32 #[.bool b, .string (dec m)] w (SmallRes (.string (itx (sgnT b m))) w) := join_any b m w hm
/-- whole.Power of a negative exponent. -/
theorem wpower_neg (a : Int) (n : Int) (w : World) (hn : n < 0) :
    Calls Tryz.prog 12 #[.string (itx a), .int .i64 n] w (SmallRes (.tuple #[.string ⟨#[]⟩, .int .i64 3]) w) := by
  go_enter Tryz.func12, Tryz.ntmps12
  go_wp2_with fail
  go_ret2
  exact ⟨rfl, Below.refl _ _⟩
/-- whole.Power of an exponent that is too great. -/
theorem wpower_big (a : Int) (n : Int) (w : World) (ha : nz a ≤ 1000000) (hn : 0 ≤ n) (h : 4000 / ((dec a.natAbs).size : Int) < n) :
    Calls Tryz.prog 12 #[.string (itx a), .int .i64 n] w (SmallRes (.tuple #[.string ⟨#[]⟩, .int .i64 4]) w) := by
  have hs1 : 1 ≤ ((dec a.natAbs).size : Int) := by rw [dec_size]; have := Lib.nDigits_pos a.natAbs; omega
  have hs0 : (((dec a.natAbs).size : Int) == 0) = false := by rw [beq_eq_false_iff_ne]; omega
  have hs2 : ((dec a.natAbs).size : Int) ≤ 1000000 := by rw [dec_size]; unfold nz at ha; omega
  go_enter Tryz.func12, Tryz.ntmps12
  go_wp2_with fail
  refine (split_any a _ (by omega)).mono ?_
  rintro e w1 ⟨rfl, hb1⟩
  go_wp2_with fail
  go_ret2
  exact ⟨rfl, hb1⟩
/-- whole.Power. -/
theorem wpower_any (a : Int) (n : Nat) (w : World) (hamb : Amb w) (ha : nz a ≤ 1000000) (hn : n ≤ 4000) (h : ¬ 4000 / ((dec a.natAbs).size : Int) < (n : Int)) :
    Calls Tryz.prog 12 #[.string (itx a), .int .i64 (n : Int)] w (SmallRes (.tuple #[.string (itx (a ^ n)), .int .i64 0]) w) := by
  have hs1 : 1 ≤ ((dec a.natAbs).size : Int) := by rw [dec_size]; have := Lib.nDigits_pos a.natAbs; omega
  have hs0 : (((dec a.natAbs).size : Int) == 0) = false := by rw [beq_eq_false_iff_ne]; omega
  have hs2 : ((dec a.natAbs).size : Int) ≤ 1000000 := by rw [dec_size]; unfold nz at ha; omega
  have hfit : Lib.nDigits a.natAbs * n ≤ 4000 := by
    rw [dec_size] at h hs1
    generalize Lib.nDigits a.natAbs = k at *
    have h1 : (n : Int) ≤ 4000 / (k : Int) := by omega
    have h2 : (n : Int) * (k : Int) ≤ 4000 := by
      have := (Int.le_ediv_iff_mul_le (show (0 : Int) < (k : Int) by omega)).1 h1
      exact this
    have h3 : ((k * n : Nat) : Int) ≤ 4000 := by rw [Int.natCast_mul, Int.mul_comm]; exact h2
    omega
  have HPW := Lib.hid (fun w1 (h : Amb w1) => dpower_fit a.natAbs n w1 h ha hfit)
  have HND := Lib.hid (show Lib.nDigits (a.natAbs ^ n) ≤ 4001 from Nat.le_trans (nz_pow _ n) (by omega))
  have HR := Lib.hid (show sgnT (decide (a < 0) && decide (n % 2 = 1)) (a.natAbs ^ n) = a ^ n from pow_sign a n)
  clear hfit
  go_enter Tryz.func12, Tryz.ntmps12
  go_wp2_with fail
  refine (split_any a _ (by omega)).mono ?_
  rintro e w1 ⟨rfl, hb1⟩
  go_wp2_with fail
  refine (HPW.out _ (hamb.below hb1)).mono ?_
  rintro e w2 ⟨rfl, hb2⟩
  have hB2 := bel_chain hb1 hb2
  have HJ := Lib.hid (fun bb => join_hid bb (a.natAbs ^ n) w2 (by have := HND.out; omega))
  have HRB := Lib.hid HR.out
  clear HR HPW hs1 hs0 hs2 h
  by_cases hneg : a < 0
  · rw [decide_eq_true hneg] at HRB ⊢
    by_cases hp : n % 2 = 1
    · have hpi : (n : Int) % 2 = 1 := by omega
      rw [decide_eq_true hp] at HRB
      clear hneg hp
      go_wp2_with fail
      refine (HJ.out _).mono ?_
      rintro e w3 ⟨rfl, hb3⟩
      go_wp2_with fail
      go_ret2
      exact ⟨by rw [← HRB.out]; rfl, bel_chain hB2 hb3⟩
    · have hpi : ((n : Int) % 2 == 1) = false := by rw [beq_eq_false_iff_ne]; omega
      rw [decide_eq_false hp] at HRB
      clear hneg hp
      go_wp2_with fail
      refine (HJ.out _).mono ?_
      rintro e w3 ⟨rfl, hb3⟩
      go_wp2_with fail
      go_ret2
      exact ⟨by rw [← HRB.out]; rfl, bel_chain hB2 hb3⟩
  · rw [decide_eq_false hneg] at HRB ⊢
    clear hneg
    go_wp2_with fail
    refine (HJ.out _).mono ?_
    rintro e w3 ⟨rfl, hb3⟩
    go_wp2_with fail
    go_ret2
    exact ⟨by rw [← HRB.out]; rfl, bel_chain hB2 hb3⟩
end Go.Proofs.YtebcmefbpfcgmaaGreatDoor
