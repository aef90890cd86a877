/- The canonical decimal text of a natural number: its digits, their value, their order. Plain lemmas, no program. -/
import Derived.Lib.ItoaNum
import GoSem.Op.String
namespace Go.Proofs.YtebcmefbpfcgmaaGreatDoor

/-! The canonical decimal text of a natural number. -/

def dec (n : Nat) : ByteArray := ⟨(Lib.decDigits n).toArray⟩
/-- The value of decimal digits, the first one the greatest. -/
def val (l : List UInt8) : Nat := l.foldl (fun a c => 10 * a + (c.toNat - 48)) 0
def isDig (c : UInt8) : Bool := decide (48 ≤ c.toNat) && decide (c.toNat ≤ 57)
/-- Digits without a zero ahead, but for "0" itself. -/
def canon (l : List UInt8) : Bool := l.all isDig && (l.length == 1 || (decide (1 < l.length) && !(l.getD 0 0 == 48)))

theorem val_nil : val [] = 0 := rfl
theorem val_snoc (l : List UInt8) (c : UInt8) : val (l ++ [c]) = 10 * val l + (c.toNat - 48) := by
  unfold val; rw [List.foldl_append]; rfl
theorem val_one (c : UInt8) : val [c] = c.toNat - 48 := by simp [val]

theorem foldl_val (l : List UInt8) (a : Nat) : l.foldl (fun a c => 10 * a + (c.toNat - 48)) a = a * 10 ^ l.length + val l := by
  induction l generalizing a with
  | nil => simp [val]
  | cons c l ih =>
    have e : val (c :: l) = l.foldl (fun a c => 10 * a + (c.toNat - 48)) (10 * 0 + (c.toNat - 48)) := rfl
    rw [List.foldl_cons, ih, e, ih, List.length_cons, Nat.pow_succ]
    simp only [Nat.mul_zero, Nat.zero_add, Nat.add_mul]
    rw [show 10 * a * 10 ^ l.length = a * (10 ^ l.length * 10) by rw [Nat.mul_comm 10 a, Nat.mul_assoc, Nat.mul_comm 10]]
    omega
theorem val_append (l m : List UInt8) : val (l ++ m) = val l * 10 ^ m.length + val m := by
  have : val (l ++ m) = m.foldl (fun a c => 10 * a + (c.toNat - 48)) (val l) := by unfold val; rw [List.foldl_append]
  rw [this, foldl_val]
theorem val_cons (c : UInt8) (l : List UInt8) : val (c :: l) = (c.toNat - 48) * 10 ^ l.length + val l := by
  have := val_append [c] l
  rw [val_one] at this; exact this

theorem ofNat_toNat_dig (d : Nat) (h : d < 10) : (UInt8.ofNat (48 + d)).toNat = 48 + d := by
  simp [UInt8.toNat_ofNat']; omega

theorem isDig_ofNat (d : Nat) (h : d < 10) : isDig (UInt8.ofNat (48 + d)) = true := by
  unfold isDig; rw [ofNat_toNat_dig d h]; simp; omega

theorem dd_small {n : Nat} (h : n < 10) : Lib.decDigits n = [UInt8.ofNat (48 + n)] := by rw [Lib.decDigits, dif_pos h]
theorem dd_big {n : Nat} (h : ¬ n < 10) : Lib.decDigits n = Lib.decDigits (n / 10) ++ [UInt8.ofNat (48 + n % 10)] := by rw [Lib.decDigits, dif_neg h]

theorem val_dd (n : Nat) : val (Lib.decDigits n) = n := by
  induction n using Nat.strongRecOn with
  | _ n ih =>
    by_cases h : n < 10
    · rw [dd_small h, val_one, ofNat_toNat_dig n h]; omega
    · rw [dd_big h, val_snoc, ih (n / 10) (by omega), ofNat_toNat_dig (n % 10) (by omega)]; omega

theorem all_dd (n : Nat) : (Lib.decDigits n).all isDig = true := by
  induction n using Nat.strongRecOn with
  | _ n ih =>
    by_cases h : n < 10
    · rw [dd_small h, List.all_cons, isDig_ofNat n h]; rfl
    · rw [dd_big h, List.all_append, ih (n / 10) (by omega), List.all_cons, isDig_ofNat (n % 10) (by omega)]; rfl

theorem dd_ne_nil (n : Nat) : Lib.decDigits n ≠ [] := by
  intro h; have := Lib.decDigits_length n; rw [h] at this; have := Lib.nDigits_pos n; simp at *; omega

theorem dd_head (n : Nat) (h : 0 < n) : (Lib.decDigits n).getD 0 0 ≠ 48 := by
  induction n using Nat.strongRecOn with
  | _ n ih =>
    by_cases h10 : n < 10
    · rw [dd_small h10]
      intro e
      have e2 : UInt8.ofNat (48 + n) = 48 := e
      have := congrArg UInt8.toNat e2
      rw [ofNat_toNat_dig n h10] at this
      have e3 : (48 : UInt8).toNat = 48 := rfl
      omega
    · rw [dd_big h10]
      have := ih (n / 10) (by omega) (by omega)
      cases hl : Lib.decDigits (n / 10) with
      | nil => exact absurd hl (dd_ne_nil _)
      | cons a l => rw [hl] at this; simpa using this

theorem dd_len_one (n : Nat) : (Lib.decDigits n).length = 1 ↔ n < 10 := by
  rw [Lib.decDigits_length]
  by_cases h : n < 10
  · simp [Lib.nDigits_small h, h]
  · rw [Lib.nDigits_big h]; have := Lib.nDigits_pos (n / 10); omega

theorem canon_dd (n : Nat) : canon (Lib.decDigits n) = true := by
  unfold canon
  rw [all_dd]
  by_cases h : n < 10
  · simp [(dd_len_one n).2 h]
  · have h1 : 1 < (Lib.decDigits n).length := by
      have := mt (dd_len_one n).1 h
      have := Lib.decDigits_length n
      have := Lib.nDigits_pos n
      omega
    have h2 := dd_head n (by omega)
    simp only [List.getD_eq_getElem?_getD] at h2 ⊢
    simp [h1, h2]

theorem isDig_iff (c : UInt8) : isDig c = true ↔ 48 ≤ c.toNat ∧ c.toNat ≤ 57 := by simp [isDig]

theorem dig_eq (c : UInt8) (h : isDig c = true) : UInt8.ofNat (48 + (c.toNat - 48)) = c := by
  rw [isDig_iff] at h
  rw [show 48 + (c.toNat - 48) = c.toNat by omega]
  simp

theorem val_lt (l : List UInt8) (h : l.all isDig = true) : val l < 10 ^ l.length := by
  induction l with
  | nil => simp [val]
  | cons c l ih =>
    rw [List.all_cons, Bool.and_eq_true, isDig_iff] at h
    have := ih h.2
    rw [val_cons, List.length_cons, Nat.pow_succ]
    have hc : c.toNat - 48 ≤ 9 := by omega
    have := Nat.mul_le_mul_right (10 ^ l.length) hc
    omega

/-- Digits that do not begin with 0 are the digits of their value. -/
theorem dd_val_pos : ∀ (k : Nat) (l : List UInt8), l.length = k → l.all isDig = true → l ≠ [] → l.getD 0 0 ≠ 48 → Lib.decDigits (val l) = l ∧ 0 < val l
  | 0, l, hl, _, hn, _ => absurd (List.eq_nil_of_length_eq_zero hl) hn
  | k + 1, l, hl, ha, hn, h0 => by
    obtain ⟨m, c, rfl⟩ : ∃ m c, l = m ++ [c] := ⟨l.dropLast, l.getLast hn, (List.dropLast_concat_getLast hn).symm⟩
    rw [List.all_append, Bool.and_eq_true] at ha
    have hc : isDig c = true := by simpa using ha.2
    have hc' := (isDig_iff c).1 hc
    have hlm : m.length = k := by simpa using hl
    rw [val_snoc]
    by_cases hm : m = []
    · subst hm
      have h48 : c ≠ 48 := by simpa using h0
      have : c.toNat ≠ 48 := fun e => h48 (UInt8.toNat_inj.1 e)
      rw [val_nil, dd_small (by omega)]
      refine ⟨?_, by omega⟩
      rw [Nat.mul_zero, Nat.zero_add, dig_eq c hc]; rfl
    · have hm0 : m.getD 0 0 ≠ 48 := by
        cases m with
        | nil => exact absurd rfl hm
        | cons a m => simpa using h0
      obtain ⟨e, hp⟩ := dd_val_pos k m hlm ha.1 hm hm0
      refine ⟨?_, by omega⟩
      rw [dd_big (by omega), show (10 * val m + (c.toNat - 48)) / 10 = val m by omega, e, show (10 * val m + (c.toNat - 48)) % 10 = c.toNat - 48 by omega, dig_eq c hc]

theorem dd_val (l : List UInt8) (h : canon l = true) : Lib.decDigits (val l) = l := by
  unfold canon at h
  rw [Bool.and_eq_true, Bool.or_eq_true, Bool.and_eq_true] at h
  rcases h with ⟨ha, h1 | ⟨h1, h0⟩⟩
  · have h1' : l.length = 1 := by simpa using h1
    obtain ⟨c, rfl⟩ := List.length_eq_one_iff.1 h1'
    have hc : isDig c = true := by simpa using ha
    have hc' := (isDig_iff c).1 hc
    rw [val_one, dd_small (by omega), dig_eq c hc]
  · have h1' : 1 < l.length := by simpa using h1
    refine (dd_val_pos l.length l rfl ha ?_ ?_).1
    · intro e; subst e; simp at h1'
    · have h0' : ¬ (l.getD 0 0 = 48) := by simpa using h0
      exact h0'

theorem canon_iff (l : List UInt8) : canon l = true ↔ ∃ n, l = Lib.decDigits n :=
  ⟨fun h => ⟨val l, (dd_val l h).symm⟩, fun ⟨n, e⟩ => e ▸ canon_dd n⟩

theorem dd_inj {a b : Nat} (h : Lib.decDigits a = Lib.decDigits b) : a = b := by rw [← val_dd a, h, val_dd]
theorem dd_eq_iff {a b : Nat} : Lib.decDigits a = Lib.decDigits b ↔ a = b := ⟨dd_inj, fun e => by rw [e]⟩

/-! How many digits. -/
theorem nd_le_iff (n k : Nat) : Lib.nDigits n ≤ k + 1 ↔ n < 10 ^ (k + 1) := by
  induction k generalizing n with
  | zero =>
    by_cases h : n < 10
    · simp [Lib.nDigits_small h, h]
    · rw [Lib.nDigits_big h]; have := Lib.nDigits_pos (n / 10); omega
  | succ k ih =>
    by_cases h : n < 10
    · rw [Lib.nDigits_small h]
      have : 10 ^ 1 ≤ 10 ^ (k + 1 + 1) := Nat.pow_le_pow_right (by decide) (by omega)
      simp only [Nat.pow_one] at this
      omega
    · rw [Lib.nDigits_big h, Nat.add_le_add_iff_right, ih, Nat.pow_succ 10 (k + 1)]; omega

theorem nd_lt_of_lt {a b : Nat} (h : Lib.nDigits a < Lib.nDigits b) : a < b := by
  have h1 := Lib.lt_pow_nDigits a
  have hp := Lib.nDigits_pos a
  rcases Nat.lt_or_ge a b with h2 | h2
  · exact h2
  · have : Lib.nDigits b ≤ (Lib.nDigits a - 1) + 1 := (nd_le_iff b _).2 (by rw [show Lib.nDigits a - 1 + 1 = Lib.nDigits a by omega]; omega)
    omega
theorem nd_mono {a b : Nat} (h : a ≤ b) : Lib.nDigits a ≤ Lib.nDigits b := by
  rcases Nat.lt_or_ge (Lib.nDigits b) (Lib.nDigits a) with h1 | h1
  · have := nd_lt_of_lt h1; omega
  · exact h1
theorem pow_le_of_nd (n k : Nat) (hn : 0 < n) (h : Lib.nDigits n = k + 1) : 10 ^ k ≤ n := by
  cases k with
  | zero => simp; omega
  | succ k =>
    rcases Nat.lt_or_ge n (10 ^ (k + 1)) with h1 | h1
    · have := (nd_le_iff n k).2 h1; omega
    · exact h1

/-! The order of texts of one length. -/
theorem val_lt_lex : ∀ (l m : List UInt8), l.length = m.length → l.all isDig = true → m.all isDig = true → (Op.bytesLess l m = true ↔ val l < val m)
  | [], [], _, _, _ => by simp [Op.bytesLess]
  | a :: l, b :: m, h, hl, hm => by
    have h' : l.length = m.length := by simpa using h
    rw [List.all_cons, Bool.and_eq_true] at hl hm
    have ih := val_lt_lex l m h' hl.2 hm.2
    have h1 := val_lt l hl.2
    have h2 := val_lt m hm.2
    have ha := (isDig_iff a).1 hl.1
    have hb := (isDig_iff b).1 hm.1
    rw [val_cons, val_cons, h']
    rw [h'] at h1
    simp only [Op.bytesLess, Bool.or_eq_true, Bool.and_eq_true, decide_eq_true_eq, beq_iff_eq, UInt8.lt_iff_toNat_lt, ih]
    rcases Nat.lt_trichotomy a.toNat b.toNat with h3 | h3 | h3
    · have := Nat.mul_le_mul_right (10 ^ m.length) (show a.toNat - 48 + 1 ≤ b.toNat - 48 by omega)
      rw [Nat.add_mul] at this
      constructor
      · intro _; omega
      · intro _; exact .inl h3
    · have e : a = b := UInt8.toNat_inj.1 h3
      subst e
      constructor
      · rintro (h | ⟨_, h⟩) <;> omega
      · intro h; exact .inr ⟨rfl, by omega⟩
    · have := Nat.mul_le_mul_right (10 ^ m.length) (show b.toNat - 48 + 1 ≤ a.toNat - 48 by omega)
      rw [Nat.add_mul] at this
      constructor
      · rintro (h | ⟨h, _⟩)
        · omega
        · rw [h] at h3; omega
      · intro h; omega

theorem dd_less (a b : Nat) (h : Lib.nDigits a = Lib.nDigits b) : Op.bytesLess (Lib.decDigits a) (Lib.decDigits b) = decide (a < b) := by
  have := val_lt_lex (Lib.decDigits a) (Lib.decDigits b) (by rw [Lib.decDigits_length, Lib.decDigits_length, h]) (all_dd a) (all_dd b)
  rw [val_dd, val_dd] at this
  rw [Bool.eq_iff_iff, this, decide_eq_true_eq]

theorem dec_size (n : Nat) : (dec n).size = Lib.nDigits n := by simp [dec, ByteArray.size, Lib.decDigits_length]
theorem dec_data (n : Nat) : (dec n).data.toList = Lib.decDigits n := by simp [dec]
theorem ba_ext {a b : ByteArray} (h : a.data.toList = b.data.toList) : a = b := by
  cases a; cases b; congr; exact Array.toList_inj.1 h
theorem dec_inj {a b : Nat} (h : dec a = dec b) : a = b := dd_inj (by rw [← dec_data, h, dec_data])
theorem eq_dec_of (s : ByteArray) (h : canon s.data.toList = true) : s = dec (val s.data.toList) := ba_ext (by rw [dec_data, dd_val _ h])
end Go.Proofs.YtebcmefbpfcgmaaGreatDoor
