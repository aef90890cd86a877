/- Greater text, out of: Num, Limb, LimbOps, Words, Base, Trim, Back, Take, Times, Smallp, Pcmp, Rev, Cut, Zeros, DivPlain, Scaled, Divide. -/
import Derived.Test.YtolnojkdalbppaaGreatDoorProg
import Derived.Lib.ItoaNum
import GoSem.Op.String
import Derived.WalkKit
import Derived.Below
import Derived.OwnWalk
import Derived.Laws.MakeOwn
import Derived.Maps.AppendAt
import Derived.Deep.Draws
import Derived.Laws.IdiomStrings
import Derived.Outline
import Derived.WalkSpells
import Derived.WalkLawsBesides
import Derived.Lib.Hide
import Derived.Handy
import Derived.ShutString
import Derived.RegionTactic
import Derived.BigQuiet
import Derived.Deep.QuietTactic
import Derived.Deep.DeepFit
import Derived.Lib.ConvBytes
import Derived.Lib.AppendZerosOnto
import Derived.Laws.CopyRow
namespace Go.Proofs.YtolnojkdalbppaaGreatDoor
section
/-! The canonical decimal text of a natural number. -/

def dec (n : Nat) : ByteArray := ⟨(Lib.decDigits n).toArray⟩
/-- The value of decimal digits, the first one the greatest. -/
def val (l : List UInt8) : Nat := l.foldl (fun a c => 10 * a + (c.toNat - 48)) 0
def isDig (c : UInt8) : Bool := decide (48 ≤ c.toNat) && decide (c.toNat ≤ 57)
/-- Digits without a zero ahead, but for "0" itself. -/
def canon (l : List UInt8) : Bool := l.all isDig && (l.length == 1 || (decide (1 < l.length) && !(l.getD 0 0 == 48)))

theorem val_nil : val [] = 0 := rfl
theorem val_snoc (l : List UInt8) (c : UInt8) : val (l ++ [c]) = 10 * val l + (c.toNat - 48) := by
  unfold val; rw [List.foldl_append]; rfl
theorem val_one (c : UInt8) : val [c] = c.toNat - 48 := by simp [val]

theorem foldl_val (l : List UInt8) (a : Nat) : l.foldl (fun a c => 10 * a + (c.toNat - 48)) a = a * 10 ^ l.length + val l := by
  induction l generalizing a with
  | nil => simp [val]
  | cons c l ih =>
    have e : val (c :: l) = l.foldl (fun a c => 10 * a + (c.toNat - 48)) (10 * 0 + (c.toNat - 48)) := rfl
    rw [List.foldl_cons, ih, e, ih, List.length_cons, Nat.pow_succ]
    simp only [Nat.mul_zero, Nat.zero_add, Nat.add_mul]
    rw [show 10 * a * 10 ^ l.length = a * (10 ^ l.length * 10) by rw [Nat.mul_comm 10 a, Nat.mul_assoc, Nat.mul_comm 10]]
    omega
theorem val_append (l m : List UInt8) : val (l ++ m) = val l * 10 ^ m.length + val m := by
  have : val (l ++ m) = m.foldl (fun a c => 10 * a + (c.toNat - 48)) (val l) := by unfold val; rw [List.foldl_append]
  rw [this, foldl_val]
theorem val_cons (c : UInt8) (l : List UInt8) : val (c :: l) = (c.toNat - 48) * 10 ^ l.length + val l := by
  have := val_append [c] l
  rw [val_one] at this; exact this

theorem ofNat_toNat_dig (d : Nat) (h : d < 10) : (UInt8.ofNat (48 + d)).toNat = 48 + d := by
  simp [UInt8.toNat_ofNat']; omega

theorem isDig_ofNat (d : Nat) (h : d < 10) : isDig (UInt8.ofNat (48 + d)) = true := by
  unfold isDig; rw [ofNat_toNat_dig d h]; simp; omega

theorem dd_small {n : Nat} (h : n < 10) : Lib.decDigits n = [UInt8.ofNat (48 + n)] := by rw [Lib.decDigits, dif_pos h]
theorem dd_big {n : Nat} (h : ¬ n < 10) : Lib.decDigits n = Lib.decDigits (n / 10) ++ [UInt8.ofNat (48 + n % 10)] := by rw [Lib.decDigits, dif_neg h]

theorem val_dd (n : Nat) : val (Lib.decDigits n) = n := by
  induction n using Nat.strongRecOn with
  | _ n ih =>
    by_cases h : n < 10
    · rw [dd_small h, val_one, ofNat_toNat_dig n h]; omega
    · rw [dd_big h, val_snoc, ih (n / 10) (by omega), ofNat_toNat_dig (n % 10) (by omega)]; omega

theorem all_dd (n : Nat) : (Lib.decDigits n).all isDig = true := by
  induction n using Nat.strongRecOn with
  | _ n ih =>
    by_cases h : n < 10
    · rw [dd_small h, List.all_cons, isDig_ofNat n h]; rfl
    · rw [dd_big h, List.all_append, ih (n / 10) (by omega), List.all_cons, isDig_ofNat (n % 10) (by omega)]; rfl

theorem dd_ne_nil (n : Nat) : Lib.decDigits n ≠ [] := by
  intro h; have := Lib.decDigits_length n; rw [h] at this; have := Lib.nDigits_pos n; simp at *; omega

theorem dd_head (n : Nat) (h : 0 < n) : (Lib.decDigits n).getD 0 0 ≠ 48 := by
  induction n using Nat.strongRecOn with
  | _ n ih =>
    by_cases h10 : n < 10
    · rw [dd_small h10]
      intro e
      have e2 : UInt8.ofNat (48 + n) = 48 := e
      have := congrArg UInt8.toNat e2
      rw [ofNat_toNat_dig n h10] at this
      have e3 : (48 : UInt8).toNat = 48 := rfl
      omega
    · rw [dd_big h10]
      have := ih (n / 10) (by omega) (by omega)
      cases hl : Lib.decDigits (n / 10) with
      | nil => exact absurd hl (dd_ne_nil _)
      | cons a l => rw [hl] at this; simpa using this

theorem dd_len_one (n : Nat) : (Lib.decDigits n).length = 1 ↔ n < 10 := by
  rw [Lib.decDigits_length]
  by_cases h : n < 10
  · simp [Lib.nDigits_small h, h]
  · rw [Lib.nDigits_big h]; have := Lib.nDigits_pos (n / 10); omega

theorem canon_dd (n : Nat) : canon (Lib.decDigits n) = true := by
  unfold canon
  rw [all_dd]
  by_cases h : n < 10
  · simp [(dd_len_one n).2 h]
  · have h1 : 1 < (Lib.decDigits n).length := by
      have := mt (dd_len_one n).1 h
      have := Lib.decDigits_length n
      have := Lib.nDigits_pos n
      omega
    have h2 := dd_head n (by omega)
    simp only [List.getD_eq_getElem?_getD] at h2 ⊢
    simp [h1, h2]

theorem isDig_iff (c : UInt8) : isDig c = true ↔ 48 ≤ c.toNat ∧ c.toNat ≤ 57 := by simp [isDig]

theorem dig_eq (c : UInt8) (h : isDig c = true) : UInt8.ofNat (48 + (c.toNat - 48)) = c := by
  rw [isDig_iff] at h
  rw [show 48 + (c.toNat - 48) = c.toNat by omega]
  simp

theorem val_lt (l : List UInt8) (h : l.all isDig = true) : val l < 10 ^ l.length := by
  induction l with
  | nil => simp [val]
  | cons c l ih =>
    rw [List.all_cons, Bool.and_eq_true, isDig_iff] at h
    have := ih h.2
    rw [val_cons, List.length_cons, Nat.pow_succ]
    have hc : c.toNat - 48 ≤ 9 := by omega
    have := Nat.mul_le_mul_right (10 ^ l.length) hc
    omega

/-- Digits that do not begin with 0 are the digits of their value. -/
theorem dd_val_pos : ∀ (k : Nat) (l : List UInt8), l.length = k → l.all isDig = true → l ≠ [] → l.getD 0 0 ≠ 48 → Lib.decDigits (val l) = l ∧ 0 < val l
  | 0, l, hl, _, hn, _ => absurd (List.eq_nil_of_length_eq_zero hl) hn
  | k + 1, l, hl, ha, hn, h0 => by
    obtain ⟨m, c, rfl⟩ : ∃ m c, l = m ++ [c] := ⟨l.dropLast, l.getLast hn, (List.dropLast_concat_getLast hn).symm⟩
    rw [List.all_append, Bool.and_eq_true] at ha
    have hc : isDig c = true := by simpa using ha.2
    have hc' := (isDig_iff c).1 hc
    have hlm : m.length = k := by simpa using hl
    rw [val_snoc]
    by_cases hm : m = []
    · subst hm
      have h48 : c ≠ 48 := by simpa using h0
      have : c.toNat ≠ 48 := fun e => h48 (UInt8.toNat_inj.1 e)
      rw [val_nil, dd_small (by omega)]
      refine ⟨?_, by omega⟩
      rw [Nat.mul_zero, Nat.zero_add, dig_eq c hc]; rfl
    · have hm0 : m.getD 0 0 ≠ 48 := by
        cases m with
        | nil => exact absurd rfl hm
        | cons a m => simpa using h0
      obtain ⟨e, hp⟩ := dd_val_pos k m hlm ha.1 hm hm0
      refine ⟨?_, by omega⟩
      rw [dd_big (by omega), show (10 * val m + (c.toNat - 48)) / 10 = val m by omega, e, show (10 * val m + (c.toNat - 48)) % 10 = c.toNat - 48 by omega, dig_eq c hc]

theorem dd_val (l : List UInt8) (h : canon l = true) : Lib.decDigits (val l) = l := by
  unfold canon at h
  rw [Bool.and_eq_true, Bool.or_eq_true, Bool.and_eq_true] at h
  rcases h with ⟨ha, h1 | ⟨h1, h0⟩⟩
  · have h1' : l.length = 1 := by simpa using h1
    obtain ⟨c, rfl⟩ := List.length_eq_one_iff.1 h1'
    have hc : isDig c = true := by simpa using ha
    have hc' := (isDig_iff c).1 hc
    rw [val_one, dd_small (by omega), dig_eq c hc]
  · have h1' : 1 < l.length := by simpa using h1
    refine (dd_val_pos l.length l rfl ha ?_ ?_).1
    · intro e; subst e; simp at h1'
    · have h0' : ¬ (l.getD 0 0 = 48) := by simpa using h0
      exact h0'

theorem canon_iff (l : List UInt8) : canon l = true ↔ ∃ n, l = Lib.decDigits n :=
  ⟨fun h => ⟨val l, (dd_val l h).symm⟩, fun ⟨n, e⟩ => e ▸ canon_dd n⟩

theorem dd_inj {a b : Nat} (h : Lib.decDigits a = Lib.decDigits b) : a = b := by rw [← val_dd a, h, val_dd]
theorem dd_eq_iff {a b : Nat} : Lib.decDigits a = Lib.decDigits b ↔ a = b := ⟨dd_inj, fun e => by rw [e]⟩

/-! How many digits. -/
theorem nd_le_iff (n k : Nat) : Lib.nDigits n ≤ k + 1 ↔ n < 10 ^ (k + 1) := by
  induction k generalizing n with
  | zero =>
    by_cases h : n < 10
    · simp [Lib.nDigits_small h, h]
    · rw [Lib.nDigits_big h]; have := Lib.nDigits_pos (n / 10); omega
  | succ k ih =>
    by_cases h : n < 10
    · rw [Lib.nDigits_small h]
      have : 10 ^ 1 ≤ 10 ^ (k + 1 + 1) := Nat.pow_le_pow_right (by decide) (by omega)
      simp only [Nat.pow_one] at this
      omega
    · rw [Lib.nDigits_big h, Nat.add_le_add_iff_right, ih, Nat.pow_succ 10 (k + 1)]; omega

theorem nd_lt_of_lt {a b : Nat} (h : Lib.nDigits a < Lib.nDigits b) : a < b := by
  have h1 := Lib.lt_pow_nDigits a
  have hp := Lib.nDigits_pos a
  rcases Nat.lt_or_ge a b with h2 | h2
  · exact h2
  · have : Lib.nDigits b ≤ (Lib.nDigits a - 1) + 1 := (nd_le_iff b _).2 (by rw [show Lib.nDigits a - 1 + 1 = Lib.nDigits a by omega]; omega)
    omega
theorem nd_mono {a b : Nat} (h : a ≤ b) : Lib.nDigits a ≤ Lib.nDigits b := by
  rcases Nat.lt_or_ge (Lib.nDigits b) (Lib.nDigits a) with h1 | h1
  · have := nd_lt_of_lt h1; omega
  · exact h1
theorem pow_le_of_nd (n k : Nat) (hn : 0 < n) (h : Lib.nDigits n = k + 1) : 10 ^ k ≤ n := by
  cases k with
  | zero => simp; omega
  | succ k =>
    rcases Nat.lt_or_ge n (10 ^ (k + 1)) with h1 | h1
    · have := (nd_le_iff n k).2 h1; omega
    · exact h1

/-! The order of texts of one length. -/
theorem val_lt_lex : ∀ (l m : List UInt8), l.length = m.length → l.all isDig = true → m.all isDig = true → (Op.bytesLess l m = true ↔ val l < val m)
  | [], [], _, _, _ => by simp [Op.bytesLess]
  | a :: l, b :: m, h, hl, hm => by
    have h' : l.length = m.length := by simpa using h
    rw [List.all_cons, Bool.and_eq_true] at hl hm
    have ih := val_lt_lex l m h' hl.2 hm.2
    have h1 := val_lt l hl.2
    have h2 := val_lt m hm.2
    have ha := (isDig_iff a).1 hl.1
    have hb := (isDig_iff b).1 hm.1
    rw [val_cons, val_cons, h']
    rw [h'] at h1
    simp only [Op.bytesLess, Bool.or_eq_true, Bool.and_eq_true, decide_eq_true_eq, beq_iff_eq, UInt8.lt_iff_toNat_lt, ih]
    rcases Nat.lt_trichotomy a.toNat b.toNat with h3 | h3 | h3
    · have := Nat.mul_le_mul_right (10 ^ m.length) (show a.toNat - 48 + 1 ≤ b.toNat - 48 by omega)
      rw [Nat.add_mul] at this
      constructor
      · intro _; omega
      · intro _; exact .inl h3
    · have e : a = b := UInt8.toNat_inj.1 h3
      subst e
      constructor
      · rintro (h | ⟨_, h⟩) <;> omega
      · intro h; exact .inr ⟨rfl, by omega⟩
    · have := Nat.mul_le_mul_right (10 ^ m.length) (show b.toNat - 48 + 1 ≤ a.toNat - 48 by omega)
      rw [Nat.add_mul] at this
      constructor
      · rintro (h | ⟨h, _⟩)
        · omega
        · rw [h] at h3; omega
      · intro h; omega

theorem dd_less (a b : Nat) (h : Lib.nDigits a = Lib.nDigits b) : Op.bytesLess (Lib.decDigits a) (Lib.decDigits b) = decide (a < b) := by
  have := val_lt_lex (Lib.decDigits a) (Lib.decDigits b) (by rw [Lib.decDigits_length, Lib.decDigits_length, h]) (all_dd a) (all_dd b)
  rw [val_dd, val_dd] at this
  rw [Bool.eq_iff_iff, this, decide_eq_true_eq]

theorem dec_size (n : Nat) : (dec n).size = Lib.nDigits n := by simp [dec, ByteArray.size, Lib.decDigits_length]
theorem dec_data (n : Nat) : (dec n).data.toList = Lib.decDigits n := by simp [dec]
theorem ba_ext {a b : ByteArray} (h : a.data.toList = b.data.toList) : a = b := by
  cases a; cases b; congr; exact Array.toList_inj.1 h
theorem dec_inj {a b : Nat} (h : dec a = dec b) : a = b := dd_inj (by rw [← dec_data, h, dec_data])
theorem eq_dec_of (s : ByteArray) (h : canon s.data.toList = true) : s = dec (val s.data.toList) := ba_ext (by rw [dec_data, dd_val _ h])
end
section
/-! Pieces of nine digits, the least significant one first. -/

def lv : List Nat → Nat
  | [] => 0
  | x :: xs => x + 1000000000 * lv xs
def Lims (xs : List Nat) : Prop := ∀ x ∈ xs, x < 1000000000
/-- The pieces of a number, without zeros at the end. -/
def lims (n : Nat) : List Nat := if h : n = 0 then [] else n % 1000000000 :: lims (n / 1000000000)
  termination_by n
  decreasing_by omega

theorem lims_zero : lims 0 = [] := by rw [lims, dif_pos rfl]
theorem lims_pos {n : Nat} (h : n ≠ 0) : lims n = n % 1000000000 :: lims (n / 1000000000) := by rw [lims, dif_neg h]
theorem lv_lims (n : Nat) : lv (lims n) = n := by
  induction n using Nat.strongRecOn with
  | _ n ih =>
    by_cases h : n = 0
    · subst h; rw [lims_zero]; rfl
    · rw [lims_pos h, lv, ih _ (by omega)]; omega
theorem Lims_lims (n : Nat) : Lims (lims n) := by
  induction n using Nat.strongRecOn with
  | _ n ih =>
    by_cases h : n = 0
    · subst h; rw [lims_zero]; intro x hx; cases hx
    · rw [lims_pos h]
      intro x hx
      rcases List.mem_cons.1 hx with rfl | hx
      · omega
      · exact ih _ (by omega) x hx
theorem Lims_nil : Lims [] := fun _ hx => by cases hx
theorem Lims_cons {x : Nat} {xs : List Nat} : Lims (x :: xs) ↔ x < 1000000000 ∧ Lims xs := by simp [Lims]
theorem Lims_append {xs ys : List Nat} : Lims (xs ++ ys) ↔ Lims xs ∧ Lims ys := by
  simp only [Lims, List.mem_append]
  exact ⟨fun h => ⟨fun x hx => h x (.inl hx), fun x hx => h x (.inr hx)⟩, fun h x hx => hx.elim (h.1 x) (h.2 x)⟩

theorem lv_append (xs ys : List Nat) : lv (xs ++ ys) = lv xs + 1000000000 ^ xs.length * lv ys := by
  induction xs with
  | nil => simp [lv]
  | cons x xs ih => rw [List.cons_append, lv, ih, lv, List.length_cons, Nat.pow_succ, Nat.mul_add, Nat.mul_comm (1000000000 ^ xs.length) 1000000000, Nat.mul_assoc]; omega
theorem lv_one (x : Nat) : lv [x] = x := by simp [lv]
theorem lv_snoc (xs : List Nat) (y : Nat) : lv (xs ++ [y]) = lv xs + 1000000000 ^ xs.length * y := by rw [lv_append, lv_one]
theorem lv_zeros (k : Nat) : lv (List.replicate k 0) = 0 := by
  induction k with
  | zero => rfl
  | succ k ih => rw [List.replicate_succ, lv, ih]
theorem lv_lt (xs : List Nat) (h : Lims xs) : lv xs < 1000000000 ^ xs.length := by
  induction xs with
  | nil => simp [lv]
  | cons x xs ih =>
    rw [Lims_cons] at h
    have := ih h.2
    rw [lv, List.length_cons, Nat.pow_succ]
    omega
theorem lv_mod (xs : List Nat) (h : Lims xs) (k : Nat) (hk : k ≤ xs.length) : lv (xs.take k) = lv xs % 1000000000 ^ k := by
  have e := lv_append (xs.take k) (xs.drop k)
  rw [List.take_append_drop] at e
  have hl : (xs.take k).length = k := by rw [List.length_take]; omega
  have h1 := lv_lt (xs.take k) (fun x hx => h x (List.mem_of_mem_take hx))
  rw [hl] at e h1
  rw [e, Nat.add_mul_mod_self_left, Nat.mod_eq_of_lt h1]
theorem lv_drop (xs : List Nat) (h : Lims xs) (k : Nat) (hk : k ≤ xs.length) : lv (xs.drop k) = lv xs / 1000000000 ^ k := by
  have e := lv_append (xs.take k) (xs.drop k)
  rw [List.take_append_drop] at e
  have hl : (xs.take k).length = k := by rw [List.length_take]; omega
  have h1 := lv_lt (xs.take k) (fun x hx => h x (List.mem_of_mem_take hx))
  rw [hl] at e h1
  rw [e, Nat.add_mul_div_left _ _ (Nat.pos_of_ne_zero (by simp [Nat.pow_eq_zero])), Nat.div_eq_of_lt h1]; omega

/-- What is left behind zeros at the end. -/
def trimL (xs : List Nat) : List Nat := (xs.reverse.dropWhile (· == 0)).reverse
theorem trimL_nil : trimL [] = [] := rfl
theorem trimL_snoc_zero (xs : List Nat) : trimL (xs ++ [0]) = trimL xs := by simp [trimL]
theorem trimL_snoc (xs : List Nat) (y : Nat) (h : y ≠ 0) : trimL (xs ++ [y]) = xs ++ [y] := by simp [trimL, h]
theorem lims_snoc : ∀ (xs : List Nat) (y : Nat), Lims xs → y < 1000000000 → y ≠ 0 → lims (lv (xs ++ [y])) = xs ++ [y]
  | [], y, _, hy, h0 => by
    rw [List.nil_append, lv_one, lims_pos h0, Nat.mod_eq_of_lt hy, Nat.div_eq_of_lt hy, lims_zero]
  | x :: xs, y, h, hy, h0 => by
    rw [Lims_cons] at h
    have ih := lims_snoc xs y h.2 hy h0
    have hp : lv (xs ++ [y]) ≠ 0 := by intro e; rw [e, lims_zero] at ih; simp at ih
    have e1 : x + 1000000000 * lv (xs ++ [y]) ≠ 0 := by omega
    have e2 : (x + 1000000000 * lv (xs ++ [y])) % 1000000000 = x := by omega
    have e3 : (x + 1000000000 * lv (xs ++ [y])) / 1000000000 = lv (xs ++ [y]) := by omega
    rw [List.cons_append, lv, lims_pos e1, e2, e3, ih]
theorem lims_of_snoc_zero (xs : List Nat) : lims (lv (xs ++ [0])) = lims (lv xs) := by rw [lv_snoc]; simp
theorem trimL_eq (xs : List Nat) (h : Lims xs) : trimL xs = lims (lv xs) := by
  have key : ∀ k (xs : List Nat), xs.length = k → Lims xs → trimL xs = lims (lv xs) := by
    intro k
    induction k with
    | zero => intro xs hl _; obtain rfl := List.eq_nil_of_length_eq_zero hl; rw [trimL_nil, lv, lims_zero]
    | succ k ih =>
      intro xs hl hx
      have hn : xs ≠ [] := by intro e; subst e; simp at hl
      obtain ⟨m, y, rfl⟩ : ∃ m y, xs = m ++ [y] := ⟨xs.dropLast, xs.getLast hn, (List.dropLast_concat_getLast hn).symm⟩
      have hm := (Lims_append.1 hx).1
      have hy := (Lims_append.1 hx).2 y (by simp)
      by_cases h0 : y = 0
      · subst h0
        rw [trimL_snoc_zero, lims_of_snoc_zero, ih m (by simpa using hl) hm]
      · rw [trimL_snoc _ _ h0, lims_snoc m y hm hy h0]
  exact key _ xs rfl h
theorem lims_lv (xs : List Nat) (h : Lims xs) (hn : ∀ m y, xs = m ++ [y] → y ≠ 0) : lims (lv xs) = xs := by
  rw [← trimL_eq xs h]
  by_cases e : xs = []
  · subst e; rfl
  · obtain ⟨m, y, e2⟩ : ∃ m y, xs = m ++ [y] := ⟨xs.dropLast, xs.getLast e, (List.dropLast_concat_getLast e).symm⟩
    rw [e2, trimL_snoc _ _ (hn m y e2)]
theorem lims_last (n : Nat) (hn : n ≠ 0) : ∃ m y, lims n = m ++ [y] ∧ y ≠ 0 ∧ y < 1000000000 ∧ Lims m := by
  have hne : lims n ≠ [] := by rw [lims_pos hn]; simp
  obtain ⟨m, y, e⟩ : ∃ m y, lims n = m ++ [y] := ⟨_, _, (List.dropLast_concat_getLast hne).symm⟩
  have hL := Lims_lims n
  rw [e] at hL
  have hy := (Lims_append.1 hL).2 y (by simp)
  refine ⟨m, y, e, ?_, hy, (Lims_append.1 hL).1⟩
  intro h0
  subst h0
  have h1 := trimL_eq (m ++ [0]) hL
  rw [trimL_snoc_zero, ← e, lv_lims, e] at h1
  have h2 : (trimL m).length ≤ m.length := by
    unfold trimL
    rw [List.length_reverse]
    have := (List.dropWhile_sublist (l := m.reverse) (· == 0)).length_le
    simpa using this
  rw [h1, List.length_append, List.length_singleton] at h2
  omega

/-- How many pieces. -/
theorem lims_len_le (n k : Nat) : (lims n).length ≤ k ↔ n < 1000000000 ^ k := by
  induction k generalizing n with
  | zero =>
    by_cases h : n = 0
    · subst h; simp [lims_zero]
    · rw [lims_pos h]; simp; omega
  | succ k ih =>
    by_cases h : n = 0
    · subst h; rw [lims_zero]; simp [Nat.pow_pos]
    · rw [lims_pos h, List.length_cons, Nat.add_le_add_iff_right, ih, Nat.pow_succ]; omega
theorem lims_len_mono {a b : Nat} (h : a ≤ b) : (lims a).length ≤ (lims b).length := by
  rw [lims_len_le]
  have := (lims_len_le b (lims b).length).1 (Nat.le_refl _)
  omega
theorem lims_ne_nil {n : Nat} : lims n = [] ↔ n = 0 := by
  constructor
  · intro h; have := lv_lims n; rw [h] at this; exact this.symm
  · intro h; subst h; exact lims_zero
theorem pow_le_lims (n : Nat) (h : n ≠ 0) : 1000000000 ^ ((lims n).length - 1) ≤ n := by
  rcases Nat.lt_or_ge n (1000000000 ^ ((lims n).length - 1)) with h1 | h1
  · have := (lims_len_le n _).2 h1
    have : (lims n).length ≠ 0 := by intro e; exact h (lims_ne_nil.1 (List.eq_nil_of_length_eq_zero e))
    omega
  · exact h1

/-! A piece that is set. -/
theorem lv_set : ∀ (xs : List Nat) (j v : Nat), j < xs.length → lv (xs.set j v) + xs.getD j 0 * 1000000000 ^ j = lv xs + v * 1000000000 ^ j
  | [], j, v, h => by simp at h
  | x :: xs, 0, v, _ => by simp [lv]; omega
  | x :: xs, j + 1, v, h => by
    have ih := lv_set xs j v (by simpa using h)
    rw [List.set_cons_succ, lv, lv, Nat.pow_succ]
    have e : (x :: xs).getD (j + 1) 0 = xs.getD j 0 := by simp
    rw [e]
    have e1 : xs.getD j 0 * (1000000000 ^ j * 1000000000) = 1000000000 * (xs.getD j 0 * 1000000000 ^ j) := by rw [← Nat.mul_assoc, Nat.mul_comm]
    have e2 : v * (1000000000 ^ j * 1000000000) = 1000000000 * (v * 1000000000 ^ j) := by rw [← Nat.mul_assoc, Nat.mul_comm]
    rw [e1, e2]
    omega
theorem Lims_set {xs : List Nat} (h : Lims xs) (j v : Nat) (hv : v < 1000000000) : Lims (xs.set j v) := by
  intro x hx
  rcases List.mem_or_eq_of_mem_set hx with hx | rfl
  · exact h x hx
  · exact hv
theorem Lims_getD {xs : List Nat} (h : Lims xs) (j : Nat) : xs.getD j 0 < 1000000000 := by
  rw [List.getD_eq_getElem?_getD]
  cases e : xs[j]? with
  | none => simp
  | some y => exact h y (List.mem_of_getElem? e)
theorem getD_set_same (xs : List Nat) (j v : Nat) (h : j < xs.length) : (xs.set j v).getD j 0 = v := by
  rw [List.getD_eq_getElem?_getD, List.getElem?_set_self h]; rfl
theorem getD_set_other (xs : List Nat) (j k v : Nat) (h : j ≠ k) : (xs.set j v).getD k 0 = xs.getD k 0 := by
  rw [List.getD_eq_getElem?_getD, List.getElem?_set_ne h, ← List.getD_eq_getElem?_getD]
theorem lv_take_succ (xs : List Nat) (k : Nat) (h : k < xs.length) : lv (xs.take (k + 1)) = lv (xs.take k) + xs.getD k 0 * 1000000000 ^ k := by
  rw [List.take_succ_eq_append_getElem h, lv_snoc, List.length_take, Nat.min_eq_left (Nat.le_of_lt h), List.getD_eq_getElem?_getD, List.getElem?_eq_getElem h, Nat.mul_comm]; rfl
theorem lv_drop_pred (xs : List Nat) (k : Nat) (h : k < xs.length) : lv (xs.drop k) = xs.getD k 0 + 1000000000 * lv (xs.drop (k + 1)) := by
  rw [List.drop_eq_getElem_cons h, lv, List.getD_eq_getElem?_getD, List.getElem?_eq_getElem h]; rfl
end
section
theorem lv_take_succ' (xs : List Nat) (k : Nat) : lv (xs.take (k + 1)) = lv (xs.take k) + xs.getD k 0 * 1000000000 ^ k := by
  rcases Nat.lt_or_ge k xs.length with h | h
  · exact lv_take_succ xs k h
  · rw [List.take_of_length_le (by omega), List.take_of_length_le h, List.getD_eq_getElem?_getD, List.getElem?_eq_none h]; simp
theorem pow_step (k : Nat) : 1000000000 ^ (k + 1) = 1000000000 * 1000000000 ^ k := by rw [Nat.pow_succ, Nat.mul_comm]
theorem take_set_succ (xs : List Nat) (j v : Nat) (h : j < xs.length) : lv ((xs.set j v).take (j + 1)) = lv (xs.take j) + v * 1000000000 ^ j := by
  rw [lv_take_succ', getD_set_same xs j v h, List.take_set_of_le (Nat.le_refl j)]
theorem drop_set_succ (xs : List Nat) (j v : Nat) : (xs.set j v).drop (j + 1) = xs.drop (j + 1) := by
  rw [List.drop_set_of_lt (by omega)]
theorem drop_of_drop {xs zs : List Nat} {j : Nat} (h : zs.drop j = xs.drop j) : zs.drop (j + 1) = xs.drop (j + 1) := by
  rw [← List.drop_drop, h, List.drop_drop]
theorem getD_of_drop {xs zs : List Nat} {j : Nat} (h : zs.drop j = xs.drop j) : zs.getD j 0 = xs.getD j 0 := by
  have e : ∀ l : List Nat, l.getD j 0 = (l.drop j).getD 0 0 := fun l => by simp [List.getD_eq_getElem?_getD, List.getElem?_drop]
  rw [e zs, e xs, h]

/-! ### times -/
/-- The state of a row of a multiplication: q's first k pieces times a are in. -/
structure TimesAt (v0 i a : Nat) (q : List Nat) (k c : Nat) (o : List Nat) : Prop where
  sum : lv o + c * 1000000000 ^ (i + k) = v0 + a * lv (q.take k) * 1000000000 ^ i
  lims : Lims o
  carry : c < 1000000000
  zero : ∀ j, i + q.length ≤ j → o.getD j 0 = 0
theorem TimesAt.start {i a : Nat} {q o : List Nat} (hL : Lims o) (hz : ∀ j, i + q.length ≤ j → o.getD j 0 = 0) : TimesAt (lv o) i a q 0 0 o :=
  ⟨by simp [lv], hL, by omega, hz⟩
theorem times_bound {a b c d : Nat} (ha : a < 1000000000) (hb : b < 1000000000) (hc : c < 1000000000) (hd : d < 1000000000) : c + (d + a * b) ≤ 999999999999999999 := by
  have h1 : a * b ≤ 999999999 * 999999999 := Nat.mul_le_mul (by omega) (by omega)
  omega
theorem TimesAt.step {v0 i a : Nat} {q : List Nat} {k c : Nat} {o : List Nat} (h : TimesAt v0 i a q k c o) (hk : k < q.length) (hl : i + k < o.length) (ha : a < 1000000000) (hq : Lims q) :
    TimesAt v0 i a q (k + 1) ((c + (o.getD (i + k) 0 + a * q.getD k 0)) / 1000000000) (o.set (i + k) ((c + (o.getD (i + k) 0 + a * q.getD k 0)) % 1000000000)) := by
  have hb := times_bound ha (Lims_getD hq k) h.carry (Lims_getD h.lims (i + k))
  refine ⟨?_, Lims_set h.lims _ _ (Nat.mod_lt _ (by decide)), by omega, fun j hj => ?_⟩
  · have h1 := lv_set o (i + k) ((c + (o.getD (i + k) 0 + a * q.getD k 0)) % 1000000000) hl
    have h2 := h.sum
    have h3 := lv_take_succ' q k
    generalize ht : c + (o.getD (i + k) 0 + a * q.getD k 0) = t at h1 ⊢
    rw [show i + (k + 1) = i + k + 1 by omega, pow_step, h3, Nat.mul_add, Nat.add_mul]
    have e1 : a * (q.getD k 0 * 1000000000 ^ k) * 1000000000 ^ i = a * q.getD k 0 * 1000000000 ^ (i + k) := by
      rw [Nat.pow_add, ← Nat.mul_assoc, Nat.mul_assoc, Nat.mul_comm (1000000000 ^ k)]
    have e2 : t / 1000000000 * (1000000000 * 1000000000 ^ (i + k)) + t % 1000000000 * 1000000000 ^ (i + k) = t * 1000000000 ^ (i + k) := by
      rw [← Nat.mul_assoc, ← Nat.add_mul]; congr 1; omega
    have e3 : t * 1000000000 ^ (i + k) = c * 1000000000 ^ (i + k) + (o.getD (i + k) 0 * 1000000000 ^ (i + k) + a * q.getD k 0 * 1000000000 ^ (i + k)) := by
      rw [← ht, Nat.add_mul, Nat.add_mul]
    omega
  · rw [getD_set_other _ _ _ _ (by omega)]; exact h.zero j hj
theorem TimesAt.finish {v0 i a : Nat} {q : List Nat} {c : Nat} {o : List Nat} (h : TimesAt v0 i a q q.length c o) (hl : i + q.length < o.length) :
    lv (o.set (i + q.length) c) = v0 + a * lv q * 1000000000 ^ i ∧ Lims (o.set (i + q.length) c) ∧ ∀ j, i + 1 + q.length ≤ j → (o.set (i + q.length) c).getD j 0 = 0 := by
  refine ⟨?_, Lims_set h.lims _ _ h.carry, fun j hj => ?_⟩
  · have h1 := lv_set o (i + q.length) c hl
    have h2 := h.sum
    rw [List.take_length] at h2
    rw [h.zero _ (Nat.le_refl _)] at h1
    omega
  · rw [getD_set_other _ _ _ _ (by omega)]; exact h.zero j (by omega)
/-- Rows 0 .. i-1 are in. -/
theorem times_row {p q : List Nat} {i : Nat} : lv (p.take i) * lv q + p.getD i 0 * lv q * 1000000000 ^ i = lv (p.take (i + 1)) * lv q := by
  rw [lv_take_succ', Nat.add_mul, Nat.mul_right_comm]

/-! ### small -/
theorem small_step {p o : List Nat} {i n r : Nat} (_hn : 0 < n) (hl : i < p.length) (ho : i < o.length) (h : lv (p.drop (i + 1)) = n * lv (o.drop (i + 1)) + r) :
    lv (p.drop i) = n * lv ((o.set i ((r * 1000000000 + p.getD i 0) / n)).drop i) + (r * 1000000000 + p.getD i 0) % n := by
  rw [lv_drop_pred p i hl, h, lv_drop_pred (o.set i _) i (by simpa using ho), drop_set_succ, getD_set_same _ _ _ ho]
  have := Nat.div_add_mod (r * 1000000000 + p.getD i 0) n
  generalize lv (o.drop (i + 1)) = z at *
  have e : n * ((r * 1000000000 + p.getD i 0) / n + 1000000000 * z) = n * ((r * 1000000000 + p.getD i 0) / n) + 1000000000 * (n * z) := by
    rw [Nat.mul_add]; congr 1; rw [← Nat.mul_assoc, ← Nat.mul_assoc, Nat.mul_comm n]
  rw [e]
  omega
theorem small_lt {r n x : Nat} (hr : r < n) (hx : x < 1000000000) : (r * 1000000000 + x) / n < 1000000000 := by
  rw [Nat.div_lt_iff_lt_mul (by omega)]
  have := Nat.mul_le_mul_left 1000000000 (show r + 1 ≤ n by omega)
  omega
theorem small_end {p o : List Nat} {n r : Nat} (hr : r < n) (h : lv (p.drop 0) = n * lv (o.drop 0) + r) : lv o = lv p / n ∧ r = lv p % n := by
  simp only [List.drop_zero] at h
  rw [h]
  have hn : 0 < n := by omega
  constructor
  · rw [Nat.mul_add_div hn, Nat.div_eq_of_lt hr, Nat.add_zero]
  · rw [Nat.mul_add_mod, Nat.mod_eq_of_lt hr]

/-! ### take -/
/-- The first k pieces of n times ys have been taken away from xs, moved by t places. c: what is still to be taken; b: the borrow. -/
structure TakeAt (xs ys : List Nat) (n t : Nat) (k c b : Nat) (zs : List Nat) : Prop where
  sum : lv (zs.take (t + k)) + n * lv (ys.take k) * 1000000000 ^ t = lv (xs.take (t + k)) + (c + b) * 1000000000 ^ (t + k)
  lims : Lims zs
  len : zs.length = xs.length
  rest : zs.drop (t + k) = xs.drop (t + k)
  carry : c ≤ n
  borrow : b ≤ 1
theorem TakeAt.start {xs ys : List Nat} {n t : Nat} (h : Lims xs) : TakeAt xs ys n t 0 0 0 xs := ⟨by simp [lv], h, rfl, rfl, by omega, by omega⟩
theorem take_bound {c n y : Nat} (hc : c ≤ n) (_hn : n < 1000000000) (hy : y < 1000000000) : c + n * y ≤ 999999999999999999 := by
  have h1 : n * y ≤ n * 999999999 := Nat.mul_le_mul_left _ (by omega)
  omega
theorem TakeAt.step {xs ys : List Nat} {n t k c b : Nat} {zs : List Nat} (h : TakeAt xs ys n t k c b zs) (hl : t + k < xs.length) (hy : Lims ys) (c1 d b' : Nat) (hc1 : c1 = c + n * ys.getD k 0)
    (hd : d + c1 % 1000000000 + b = zs.getD (t + k) 0 + b' * 1000000000) (hd' : d < 1000000000) (hb' : b' ≤ 1) :
    TakeAt xs ys n t (k + 1) (c1 / 1000000000) b' (zs.set (t + k) d) := by
  have hl' : t + k < zs.length := by rw [h.len]; exact hl
  refine ⟨?_, Lims_set h.lims _ _ hd', by rw [List.length_set, h.len], ?_, ?_, hb'⟩
  · have h1 := take_set_succ zs (t + k) d hl'
    have h2 := h.sum
    have h3 := lv_take_succ' ys k
    have h4 := lv_take_succ' xs (t + k)
    rw [show t + (k + 1) = t + k + 1 by omega, h1, h3, h4, pow_step, Nat.mul_add, Nat.add_mul]
    have e1 : n * (ys.getD k 0 * 1000000000 ^ k) * 1000000000 ^ t = n * ys.getD k 0 * 1000000000 ^ (t + k) := by
      rw [Nat.pow_add, ← Nat.mul_assoc, Nat.mul_assoc, Nat.mul_comm (1000000000 ^ k)]
    rw [e1]
    rw [getD_of_drop h.rest] at hd
    generalize 1000000000 ^ (t + k) = P at *
    have e2 : d * P + (c1 % 1000000000) * P + b * P = xs.getD (t + k) 0 * P + b' * 1000000000 * P := by rw [← Nat.add_mul, ← Nat.add_mul, hd, Nat.add_mul]
    have e3 : c1 * P = c * P + n * ys.getD k 0 * P := by rw [hc1, Nat.add_mul]
    have e4 : c1 * P = (c1 / 1000000000) * (1000000000 * P) + (c1 % 1000000000) * P := by rw [← Nat.mul_assoc, ← Nat.add_mul]; congr 1; omega
    have e5 : (c1 / 1000000000 + b') * (1000000000 * P) = (c1 / 1000000000) * (1000000000 * P) + b' * 1000000000 * P := by rw [Nat.add_mul, ← Nat.mul_assoc b']
    have e6 : (c + b) * P = c * P + b * P := Nat.add_mul _ _ _
    omega
  · rw [show t + (k + 1) = t + k + 1 by omega, drop_set_succ]; exact drop_of_drop h.rest
  · have h1 : n * ys.getD k 0 ≤ n * 999999999 := Nat.mul_le_mul_left _ (by have := Lims_getD hy k; omega)
    have := h.carry
    omega
theorem TakeAt.finish {xs ys : List Nat} {n t c b : Nat} {zs : List Nat} (h : TakeAt xs ys n t (ys.length + 1) c b zs) (hc : c = 0) :
    lv (zs.take (t + ys.length + 1)) + n * lv ys * 1000000000 ^ t = lv (xs.take (t + ys.length + 1)) + b * 1000000000 ^ (t + ys.length + 1) := by
  have := h.sum
  rw [List.take_of_length_le (by omega : ys.length ≤ ys.length + 1), hc] at this
  simpa [Nat.add_assoc] using this

/-! ### back -/
structure BackAt (xs ys : List Nat) (t : Nat) (k c : Nat) (zs : List Nat) : Prop where
  sum : lv (zs.take (t + k)) + c * 1000000000 ^ (t + k) = lv (xs.take (t + k)) + lv (ys.take k) * 1000000000 ^ t
  lims : Lims zs
  len : zs.length = xs.length
  rest : zs.drop (t + k) = xs.drop (t + k)
  carry : c ≤ 1
theorem BackAt.start {xs ys : List Nat} {t : Nat} (h : Lims xs) : BackAt xs ys t 0 0 xs := ⟨by simp [lv], h, rfl, rfl, by omega⟩
theorem BackAt.step {xs ys : List Nat} {t k c : Nat} {zs : List Nat} (h : BackAt xs ys t k c zs) (hl : t + k < xs.length) (hy : Lims ys) (c1 : Nat) (hc1 : c1 = c + zs.getD (t + k) 0 + ys.getD k 0) :
    BackAt xs ys t (k + 1) (c1 / 1000000000) (zs.set (t + k) (c1 % 1000000000)) := by
  have hl' : t + k < zs.length := by rw [h.len]; exact hl
  have hy' := Lims_getD hy k
  have hz' := Lims_getD h.lims (t + k)
  have hcc := h.carry
  refine ⟨?_, Lims_set h.lims _ _ (Nat.mod_lt _ (by decide)), by rw [List.length_set, h.len], ?_, by omega⟩
  · have h1 := take_set_succ zs (t + k) (c1 % 1000000000) hl'
    have h2 := h.sum
    have h3 := lv_take_succ' ys k
    have h4 := lv_take_succ' xs (t + k)
    rw [show t + (k + 1) = t + k + 1 by omega, h1, h3, h4, pow_step, Nat.add_mul (lv (ys.take k))]
    have e1 : ys.getD k 0 * 1000000000 ^ k * 1000000000 ^ t = ys.getD k 0 * 1000000000 ^ (t + k) := by rw [Nat.pow_add, Nat.mul_assoc, Nat.mul_comm (1000000000 ^ k)]
    rw [e1]
    rw [getD_of_drop h.rest] at hc1
    generalize 1000000000 ^ (t + k) = P at *
    have e3 : c1 * P = c * P + xs.getD (t + k) 0 * P + ys.getD k 0 * P := by rw [hc1, Nat.add_mul, Nat.add_mul]
    have e4 : c1 * P = (c1 / 1000000000) * (1000000000 * P) + (c1 % 1000000000) * P := by rw [← Nat.mul_assoc, ← Nat.add_mul]; congr 1; omega
    omega
  · rw [show t + (k + 1) = t + k + 1 by omega, drop_set_succ]; exact drop_of_drop h.rest
theorem BackAt.finish {xs ys : List Nat} {t c : Nat} {zs : List Nat} (h : BackAt xs ys t (ys.length + 1) c zs) :
    lv (zs.take (t + ys.length + 1)) + c * 1000000000 ^ (t + ys.length + 1) = lv (xs.take (t + ys.length + 1)) + lv ys * 1000000000 ^ t := by
  have := h.sum
  rw [List.take_of_length_le (by omega : ys.length ≤ ys.length + 1)] at this
  simpa [Nat.add_assoc] using this

/-! ### compare -/
theorem lv_less {xs ys : List Nat} (hx : Lims xs) (i : Nat) (hi : i < ys.length) (hd : xs.drop (i + 1) = ys.drop (i + 1)) (hl : xs.length = ys.length) (h : xs.getD i 0 < ys.getD i 0) : lv xs < lv ys := by
  have e1 := lv_append (xs.take i) (xs.drop i)
  have e2 := lv_append (ys.take i) (ys.drop i)
  rw [List.take_append_drop] at e1 e2
  have l1 : (xs.take i).length = i := by rw [List.length_take]; omega
  have l2 : (ys.take i).length = i := by rw [List.length_take]; omega
  rw [lv_drop_pred xs i (by omega), l1] at e1
  rw [lv_drop_pred ys i hi, l2, ← hd] at e2
  have b1 := lv_lt (xs.take i) (fun x hx' => hx x (List.mem_of_mem_take hx'))
  rw [l1] at b1
  generalize 1000000000 ^ i = P at *
  generalize lv (xs.drop (i + 1)) = Z at *
  have := Nat.mul_le_mul_left P (show xs.getD i 0 + 1000000000 * Z + 1 ≤ ys.getD i 0 + 1000000000 * Z by omega)
  rw [Nat.mul_add P _ 1] at this
  omega
end
section
open Go.RowKit

/-- Only block g, and what is new, has turned. -/
def Only (g : Nat) (w w' : World) : Prop := w.grownBy w' (some g)
section
variable {w a b : World} {g : Nat}
theorem Only.refl (g : Nat) (w : World) : Only g w w := ⟨rfl, rfl, rfl, Nat.le_refl _, fun _ _ _ => rfl⟩
theorem Only.trans (h : Only g w a) (k : Only g a b) : Only g w b :=
  ⟨k.os.trans h.os, k.tape.trans h.tape, k.output.trans h.output, Nat.le_trans h.size k.size, fun i hi hne => (k.block i (Nat.lt_of_lt_of_le hi h.size) hne).trans (h.block i hi hne)⟩
theorem Only.drew (h : Only g w a) : Only g w a.drew := ⟨h.os, h.tape, h.output, h.size, h.block⟩
theorem Only.drewN (h : Only g w a) (n : Nat) : Only g w (a.drewN n) := ⟨h.os, h.tape, h.output, h.size, h.block⟩
theorem Only.setCell (h : Only g w a) (j : Nat) (u : Value) : Only g w (a.setCell ⟨g, j, none⟩ u) :=
  ⟨h.os, h.tape, h.output, by have := h.size; simpa [World.setCell] using this, fun i hi hne => (Below.heap_setCell a ⟨g, j, none⟩ u i (by intro e; exact hne (by rw [e]))).trans (h.block i hi hne)⟩
theorem Only.alloc (h : Only g w a) (o : Obj) : Only g w (a.alloc o) :=
  ⟨h.os, h.tape, h.output, Nat.le_trans h.size (by simp), fun i hi hne => (Below.heap_alloc a o i (Nat.lt_of_lt_of_le hi h.size)).trans (h.block i hi hne)⟩
theorem Only.of_below (h : Below w.heap.size w a) : Only g w a := ⟨h.os, h.tape, h.output, h.size, fun i hi _ => h.block i hi⟩
theorem bel_only {B : Nat} {w0 : World} (h : Below B w0 w) (k : Only g w a) (hg : B ≤ g) (hB : B ≤ w.heap.size) : Below B w0 a :=
  h.grown k hB (fun i hi => by injection hi with hi; omega)
theorem bel_drewN {B : Nat} (h : Below B w a) (n : Nat) : Below B w (a.drewN n) := ⟨h.os, h.tape, h.output, h.size, h.block⟩
end

/-! ## uint64's -/
/-- uint64's, as cells. -/
def U (xs : List Nat) : List Value := xs.map fun (x : Nat) => Value.int .u64 (x : Int)
theorem U_len (xs : List Nat) : (U xs).length = xs.length := by simp [U]
theorem U_get (xs : List Nat) (j : Nat) (h : j < xs.length) : (U xs)[j]? = some (.int .u64 ((xs.getD j 0 : Nat) : Int)) := by
  simp [U, List.getD_eq_getElem?_getD, List.getElem?_eq_getElem h]
theorem U_take (xs : List Nat) (k : Nat) : (U xs).take k = U (xs.take k) := by simp [U]
theorem U_set (xs : List Nat) (j : Nat) (x : Nat) : (U xs).set j (.int .u64 (x : Int)) = U (xs.set j x) := by simp [U, List.map_set]
theorem U_append (xs ys : List Nat) : U xs ++ U ys = U (xs ++ ys) := by simp [U]
theorem U_one' (xs : List Nat) : ∀ u ∈ U xs, u.oneCell' = true := by
  intro u hu
  obtain ⟨x, _, rfl⟩ := List.mem_map.1 hu
  rfl

/-- Block g holds a slice of these, of length n, at its head; its elements are xs. -/
def Pc (w : World) (g n cap : Nat) (xs : List Nat) : Prop := w.ownsRow 0 84 1 (.slice (some ⟨g, 0, none⟩) n cap) n (U xs)

section
variable {w w' : World} {g n cap : Nat} {xs : List Nat}
theorem Pc.len (h : Pc w g n cap xs) : xs.length = n := by have := h.1; rw [U_len] at this; omega
theorem Pc.form (h : Pc w g n cap xs) : ∃ cur, w.heap[g]? = some (.cells cur 84 (0, 0)) ∧ n ≤ cap ∧ cap ≤ maxLen ∧ cur.size = cap ∧ cur.toList.take n = U xs := by
  rcases h.2 with ⟨e, _⟩ | ⟨g', cap', cur, e, _, hh, h1, h2, h3, h4⟩
  · cases e
  · cases e; exact ⟨cur, hh, h1, h2, by omega, by rw [Nat.mul_one] at h4; exact h4⟩
theorem Pc.mk' {cur : Array Value} (hh : w.heap[g]? = some (.cells cur 84 (0, 0))) (h1 : n ≤ cap) (h2 : cap ≤ maxLen) (h3 : cur.size = cap) (h4 : cur.toList.take n = U xs) : Pc w g n cap xs := by
  have hl : (U xs).length = n := by rw [← h4, List.length_take, Array.length_toList]; omega
  exact ⟨by omega, .inr ⟨g, cap, cur, rfl, Nat.zero_le _, hh, h1, h2, by omega, by rw [Nat.mul_one]; exact h4⟩⟩
theorem Pc.of_own {B g' cap' : Nat} {v : Value} (h : w.ownsRow B 84 1 v n (U xs)) (hv : v = .slice (some ⟨g', 0, none⟩) n cap') : Pc w g' n cap' xs := by
  subst hv
  refine ⟨h.1, ?_⟩
  rcases h.2 with ⟨e, _⟩ | ⟨g2, cap2, cur, e, _, r⟩
  · cases e
  · exact .inr ⟨g2, cap2, cur, e, Nat.zero_le _, r⟩
theorem Pc.to_own (h : Pc w g n cap xs) {B : Nat} (hB : B ≤ g) : w.ownsRow B 84 1 (.slice (some ⟨g, 0, none⟩) n cap) n (U xs) := by
  refine ⟨h.1, ?_⟩
  rcases h.2 with ⟨e, _⟩ | ⟨g2, cap2, cur, e, _, r⟩
  · cases e
  · cases e; exact .inr ⟨g, cap, cur, rfl, hB, r⟩
theorem Pc.lt (h : Pc w g n cap xs) : g < w.heap.size := by
  obtain ⟨cur, hh, _⟩ := h.form
  exact (Array.getElem?_eq_some_iff.1 hh).1
theorem Pc.le (h : Pc w g n cap xs) : n ≤ cap := by obtain ⟨_, _, h1, _⟩ := h.form; exact h1
theorem Pc.cap_le (h : Pc w g n cap xs) : cap ≤ 9223372036854775807 := by obtain ⟨_, _, _, h1, _⟩ := h.form; exact h1
theorem Pc.cell (h : Pc w g n cap xs) (j : Nat) (hj : j < n) : w.cell? ⟨g, j, none⟩ = some (.int .u64 ((xs.getD j 0 : Nat) : Int)) := by
  have := World.ownsRow.cellAt h j (by omega)
  rw [this, U_get xs j (by rw [h.len]; exact hj)]
theorem Pc.free (h : Pc w g n cap xs) (j : Nat) : w.frozen? ⟨g, j, none⟩ = false := World.ownsRow.frozenAt h j
theorem Pc.take (h : Pc w g n cap xs) (k : Nat) (hk : k ≤ n) : Pc w g k cap (xs.take k) := by
  obtain ⟨cur, hh, h1, h2, h3, h4⟩ := h.form
  refine Pc.mk' hh (by omega) h2 h3 ?_
  rw [← U_take, ← h4, List.take_take, Nat.min_eq_left hk]
theorem Pc.of_heap (h : Pc w g n cap xs) (e : w'.heap[g]? = w.heap[g]?) : Pc w' g n cap xs := by
  obtain ⟨cur, hh, h1, h2, h3, h4⟩ := h.form
  exact Pc.mk' (e.trans hh) h1 h2 h3 h4
theorem Pc.below (h : Pc w g n cap xs) {B : Nat} (hb : Below B w w') (hg : g < B) : Pc w' g n cap xs := h.of_heap (hb.block g hg)
theorem Pc.drew (h : Pc w g n cap xs) : Pc w.drew g n cap xs := h
theorem Pc.drewN (h : Pc w g n cap xs) (k : Nat) : Pc (w.drewN k) g n cap xs := h
theorem Pc.alloc (h : Pc w g n cap xs) (o : Obj) : Pc (w.alloc o) g n cap xs := h.of_heap (Below.heap_alloc w o g h.lt)
theorem Pc.far (h : Pc w g n cap xs) {p : Addr} (hp : g ≠ p.block) (u : Value) : Pc (w.setCell p u) g n cap xs := h.of_heap (Below.heap_setCell w p u g hp)
theorem Pc.set (h : Pc w g n cap xs) (j : Nat) (x : Nat) : Pc (w.setCell ⟨g, j, none⟩ (.int .u64 (x : Int))) g n cap (xs.set j x) := by
  obtain ⟨cur, hh, h1, h2, h3, h4⟩ := h.form
  refine Pc.mk' (cur := cur.setIfInBounds j (.int .u64 (x : Int))) (by simp [World.setCell, Array.getElem?_modify, hh]) h1 h2 (by simpa using h3) ?_
  rw [Array.toList_setIfInBounds, List.take_set, h4, U_set]
theorem Pc.grown (h : Pc w g n cap xs) {row : Option Nat} (hg : w.grownBy w' row) (hne : some g ≠ row) : Pc w' g n cap xs := h.of_heap (hg.block g h.lt hne)
theorem Only.Pc {a : World} {g0 : Nat} (h : Only g0 w a) {g' n cap : Nat} {xs : List Nat} (hp : Pc w g' n cap xs) (hne : g' ≠ g0) : Pc a g' n cap xs := hp.of_heap (h.block g' hp.lt (by intro e; injection e with e; exact hne e))
/-- A new block of one element, as an append lays it. -/
theorem Pc.one (w : World) (x : Nat) : Pc (w.alloc (.cells #[.int .u64 (x : Int)] 84)) w.heap.size 1 1 [x] :=
  Pc.mk' (heap_alloc_new w _) (Nat.le_refl _) (by unfold maxLen; omega) rfl rfl
end

theorem Tryz.infoPc : (Tryz.prog.info? 84).map (fun i => (i.zero, i.size, i.bytes)) = some (some (.int .u64 0), 1, 8) := by kernel_rfl
/-- n zeros, in a new block. -/
def UZ (n : Nat) : Array Value := madeCells #[.int .u64 0] n
theorem UZ_size (n : Nat) : (UZ n).size = n := size_madeCells _ n
theorem UZ_list (n : Nat) : (UZ n).toList = U (List.replicate n 0) := by
  unfold UZ U
  (rw [toList_madeCells_one, List.map_replicate]) <;> rfl
theorem make_Pc (T : TypeId) (hT : Tryz.prog.underlying T = some (.slice 84)) (l c : Nat) (hl : l ≤ c) (hc : c ≤ 1000000000000) (w : World) :
    (Instr.makeSlice T (.int .i64 (l : Int)) (.int .i64 (c : Int))).run Tryz.prog w = .ok (.slice (some ⟨w.heap.size, 0, none⟩) l c) (w.alloc (.cells (UZ c) 84)) := by
  obtain ⟨i, hi, hz, hs, hb⟩ := info_parts Tryz.infoPc
  have h := run_make (P := Tryz.prog) w T 84 i _ hT hi hz .i64 .i64 (l : Int) (c : Int) (by omega) (by omega) (by rw [hb]; omega) (by omega)
  simp only [Int.toNat_natCast, hs, Nat.mul_one] at h
  exact h
theorem Pc.made (w : World) (l c : Nat) (hl : l ≤ c) (hc : c ≤ 1000000000000) : Pc (w.alloc (.cells (UZ c) 84)) w.heap.size l c (List.replicate l 0) := by
  refine Pc.mk' (heap_alloc_new w _) hl (by unfold maxLen; omega) (UZ_size c) ?_
  rw [UZ_list, U_take, List.take_replicate, Nat.min_eq_left hl]

/-- append: onto a row of the call's own, of another row (one new element, or '...'). -/
theorem append_Pc {ops : Array Oper} {rest : List Oper} {o : Oper} {a : Act} {w : World} {Q : Exit → Act → World → Prop} (hgd : o.guard = none) (s x : Operand) (t : TypeId)
    (ho : o.op = .call { callee := .builtin .append, args := #[s, x], argTypes := #[t, t] }) (ht : Tryz.prog.underlying t = some (.slice 84))
    (g n cap : Nat) (xs : List Nat) (hs : a.eval s = .slice (some ⟨g, 0, none⟩) n cap) (hp : Pc w g n cap xs)
    (g2 m c : Nat) (ys : List Nat) (hx : a.eval x = .slice (some ⟨g2, 0, none⟩) m c) (hq : Pc w g2 m c ys) (hbd : n + m ≤ 1000000000000)
    (h : ∀ g' cap' w', Pc w' g' (n + m) cap' (xs ++ ys) → Only g w w' → (g' = g ∨ g' = w.heap.size) → wpList Tryz.prog ops Q rest (a.put o.dst (.slice (some ⟨g', 0, none⟩) (n + m) cap')) w') :
    wpList Tryz.prog ops Q (o :: rest) a w := by
  obtain ⟨i, hi, hz, hsz, hb⟩ := info_parts Tryz.infoPc
  have hl := hq.len
  obtain ⟨v', w', hr, h2, h3, h4, h5⟩ := run_append_own_at (P := Tryz.prog) w 0 t o.type 84 i _ 1 8 ht hi hz hsz hb rfl (by decide) _ n (U xs) hp ⟨g2, 0, none⟩ m c (U ys) (by rw [U_len]; omega)
    (fun j u hu => by
      have hj : j < m := by have := (List.getElem?_eq_some_iff.1 hu).1; rw [U_len] at this; omega
      have hadd : (⟨g2, 0, none⟩ : Addr).add j = ⟨g2, j, none⟩ := by unfold Addr.add; split <;> simp_all
      rw [hadd, World.ownsRow.cellAt hq j (by omega), hu])
    (U_one' ys) (by unfold maxLen; omega) (by omega) (Nat.zero_le _)
  obtain ⟨g', cap', rfl, hlt⟩ : ∃ g' cap', v' = .slice (some ⟨g', 0, none⟩) (n + m) cap' ∧ True := by
    rcases h2.2 with ⟨e, _⟩ | ⟨g', cap', cur, e, _⟩
    · have := (h4.1 e).1; cases this
    · exact ⟨g', cap', e, trivial⟩
  refine wpList_plain hgd fun _ hK => ?_
  unfold Oper.wp execOp
  simp only [ho, resolve, invoke, builtin, Sem.run_bind, Sem.run_pure, Result.andThen_ok, List.map_toArray, List.map_cons, List.map_nil, hs, hx, hr]
  refine hK _ _ (h g' cap' w' ?_ h3 ?_)
  · rw [U_append] at h2; exact h2
  · rcases h5 with h5 | h5
    · left; simpa [Value.ownBlock] using h5
    · right; simpa [Value.ownBlock] using h5

/-! ## Bytes -/
/-- Bytes, as cells. -/
def V (xs : List UInt8) : List Value := xs.map fun (x : UInt8) => Value.int .u8 (x.toNat : Int)
theorem V_len (xs : List UInt8) : (V xs).length = xs.length := by simp [V]
theorem V_get (xs : List UInt8) (j : Nat) (h : j < xs.length) : (V xs)[j]? = some (.int .u8 ((xs.getD j 0).toNat : Int)) := by
  simp [V, List.getD_eq_getElem?_getD, List.getElem?_eq_getElem h]
theorem V_take (xs : List UInt8) (k : Nat) : (V xs).take k = V (xs.take k) := by simp [V]
theorem V_set (xs : List UInt8) (j : Nat) (x : UInt8) : (V xs).set j (.int .u8 (x.toNat : Int)) = V (xs.set j x) := by simp [V, List.map_set]
theorem V_append (xs ys : List UInt8) : V xs ++ V ys = V (xs ++ ys) := by simp [V]
theorem V_one' (xs : List UInt8) : ∀ u ∈ V xs, u.oneCell' = true := by
  intro u hu
  obtain ⟨x, _, rfl⟩ := List.mem_map.1 hu
  rfl

/-- Block g holds a slice of these, of length n, at its head; its elements are xs. -/
def Bc (w : World) (g n cap : Nat) (xs : List UInt8) : Prop := w.ownsRow 0 5 1 (.slice (some ⟨g, 0, none⟩) n cap) n (V xs)

section
variable {w w' : World} {g n cap : Nat} {xs : List UInt8}
theorem Bc.len (h : Bc w g n cap xs) : xs.length = n := by have := h.1; rw [V_len] at this; omega
theorem Bc.form (h : Bc w g n cap xs) : ∃ cur, w.heap[g]? = some (.cells cur 5 (0, 0)) ∧ n ≤ cap ∧ cap ≤ maxLen ∧ cur.size = cap ∧ cur.toList.take n = V xs := by
  rcases h.2 with ⟨e, _⟩ | ⟨g', cap', cur, e, _, hh, h1, h2, h3, h4⟩
  · cases e
  · cases e; exact ⟨cur, hh, h1, h2, by omega, by rw [Nat.mul_one] at h4; exact h4⟩
theorem Bc.mk' {cur : Array Value} (hh : w.heap[g]? = some (.cells cur 5 (0, 0))) (h1 : n ≤ cap) (h2 : cap ≤ maxLen) (h3 : cur.size = cap) (h4 : cur.toList.take n = V xs) : Bc w g n cap xs := by
  have hl : (V xs).length = n := by rw [← h4, List.length_take, Array.length_toList]; omega
  exact ⟨by omega, .inr ⟨g, cap, cur, rfl, Nat.zero_le _, hh, h1, h2, by omega, by rw [Nat.mul_one]; exact h4⟩⟩
theorem Bc.of_own {B g' cap' : Nat} {v : Value} (h : w.ownsRow B 5 1 v n (V xs)) (hv : v = .slice (some ⟨g', 0, none⟩) n cap') : Bc w g' n cap' xs := by
  subst hv
  refine ⟨h.1, ?_⟩
  rcases h.2 with ⟨e, _⟩ | ⟨g2, cap2, cur, e, _, r⟩
  · cases e
  · exact .inr ⟨g2, cap2, cur, e, Nat.zero_le _, r⟩
theorem Bc.to_own (h : Bc w g n cap xs) {B : Nat} (hB : B ≤ g) : w.ownsRow B 5 1 (.slice (some ⟨g, 0, none⟩) n cap) n (V xs) := by
  refine ⟨h.1, ?_⟩
  rcases h.2 with ⟨e, _⟩ | ⟨g2, cap2, cur, e, _, r⟩
  · cases e
  · cases e; exact .inr ⟨g, cap, cur, rfl, hB, r⟩
theorem Bc.lt (h : Bc w g n cap xs) : g < w.heap.size := by
  obtain ⟨cur, hh, _⟩ := h.form
  exact (Array.getElem?_eq_some_iff.1 hh).1
theorem Bc.le (h : Bc w g n cap xs) : n ≤ cap := by obtain ⟨_, _, h1, _⟩ := h.form; exact h1
theorem Bc.cap_le (h : Bc w g n cap xs) : cap ≤ 9223372036854775807 := by obtain ⟨_, _, _, h1, _⟩ := h.form; exact h1
theorem Bc.cell (h : Bc w g n cap xs) (j : Nat) (hj : j < n) : w.cell? ⟨g, j, none⟩ = some (.int .u8 ((xs.getD j 0).toNat : Int)) := by
  have := World.ownsRow.cellAt h j (by omega)
  rw [this, V_get xs j (by rw [h.len]; exact hj)]
theorem Bc.free (h : Bc w g n cap xs) (j : Nat) : w.frozen? ⟨g, j, none⟩ = false := World.ownsRow.frozenAt h j
theorem Bc.take (h : Bc w g n cap xs) (k : Nat) (hk : k ≤ n) : Bc w g k cap (xs.take k) := by
  obtain ⟨cur, hh, h1, h2, h3, h4⟩ := h.form
  refine Bc.mk' hh (by omega) h2 h3 ?_
  rw [← V_take, ← h4, List.take_take, Nat.min_eq_left hk]
theorem Bc.of_heap (h : Bc w g n cap xs) (e : w'.heap[g]? = w.heap[g]?) : Bc w' g n cap xs := by
  obtain ⟨cur, hh, h1, h2, h3, h4⟩ := h.form
  exact Bc.mk' (e.trans hh) h1 h2 h3 h4
theorem Bc.below (h : Bc w g n cap xs) {B : Nat} (hb : Below B w w') (hg : g < B) : Bc w' g n cap xs := h.of_heap (hb.block g hg)
theorem Bc.drew (h : Bc w g n cap xs) : Bc w.drew g n cap xs := h
theorem Bc.drewN (h : Bc w g n cap xs) (k : Nat) : Bc (w.drewN k) g n cap xs := h
theorem Bc.alloc (h : Bc w g n cap xs) (o : Obj) : Bc (w.alloc o) g n cap xs := h.of_heap (Below.heap_alloc w o g h.lt)
theorem Bc.far (h : Bc w g n cap xs) {p : Addr} (hp : g ≠ p.block) (u : Value) : Bc (w.setCell p u) g n cap xs := h.of_heap (Below.heap_setCell w p u g hp)
theorem Bc.set (h : Bc w g n cap xs) (j : Nat) (x : UInt8) : Bc (w.setCell ⟨g, j, none⟩ (.int .u8 (x.toNat : Int))) g n cap (xs.set j x) := by
  obtain ⟨cur, hh, h1, h2, h3, h4⟩ := h.form
  refine Bc.mk' (cur := cur.setIfInBounds j (.int .u8 (x.toNat : Int))) (by simp [World.setCell, Array.getElem?_modify, hh]) h1 h2 (by simpa using h3) ?_
  rw [Array.toList_setIfInBounds, List.take_set, h4, V_set]
theorem Bc.grown (h : Bc w g n cap xs) {row : Option Nat} (hg : w.grownBy w' row) (hne : some g ≠ row) : Bc w' g n cap xs := h.of_heap (hg.block g h.lt hne)
theorem Only.Bc {a : World} {g0 : Nat} (h : Only g0 w a) {g' n cap : Nat} {xs : List UInt8} (hp : Bc w g' n cap xs) (hne : g' ≠ g0) : Bc a g' n cap xs := hp.of_heap (h.block g' hp.lt (by intro e; injection e with e; exact hne e))
/-- A new block of one element, as an append lays it. -/
theorem Bc.one (w : World) (x : UInt8) : Bc (w.alloc (.cells #[.int .u8 (x.toNat : Int)] 5)) w.heap.size 1 1 [x] :=
  Bc.mk' (heap_alloc_new w _) (Nat.le_refl _) (by unfold maxLen; omega) rfl rfl
end

theorem Tryz.infoBc : (Tryz.prog.info? 5).map (fun i => (i.zero, i.size, i.bytes)) = some (some (.int .u8 0), 1, 1) := by kernel_rfl
/-- n zeros, in a new block. -/
def VZ (n : Nat) : Array Value := madeCells #[.int .u8 0] n
theorem VZ_size (n : Nat) : (VZ n).size = n := size_madeCells _ n
theorem VZ_list (n : Nat) : (VZ n).toList = V (List.replicate n 0) := by
  unfold VZ V
  (rw [toList_madeCells_one, List.map_replicate]) <;> rfl
theorem make_Bc (T : TypeId) (hT : Tryz.prog.underlying T = some (.slice 5)) (l c : Nat) (hl : l ≤ c) (hc : c ≤ 1000000000000) (w : World) :
    (Instr.makeSlice T (.int .i64 (l : Int)) (.int .i64 (c : Int))).run Tryz.prog w = .ok (.slice (some ⟨w.heap.size, 0, none⟩) l c) (w.alloc (.cells (VZ c) 5)) := by
  obtain ⟨i, hi, hz, hs, hb⟩ := info_parts Tryz.infoBc
  have h := run_make (P := Tryz.prog) w T 5 i _ hT hi hz .i64 .i64 (l : Int) (c : Int) (by omega) (by omega) (by rw [hb]; omega) (by omega)
  simp only [Int.toNat_natCast, hs, Nat.mul_one] at h
  exact h
theorem Bc.made (w : World) (l c : Nat) (hl : l ≤ c) (hc : c ≤ 1000000000000) : Bc (w.alloc (.cells (VZ c) 5)) w.heap.size l c (List.replicate l 0) := by
  refine Bc.mk' (heap_alloc_new w _) hl (by unfold maxLen; omega) (VZ_size c) ?_
  rw [VZ_list, V_take, List.take_replicate, Nat.min_eq_left hl]

/-- append: onto a row of the call's own, of another row (one new element, or '...'). -/
theorem append_Bc {ops : Array Oper} {rest : List Oper} {o : Oper} {a : Act} {w : World} {Q : Exit → Act → World → Prop} (hgd : o.guard = none) (s x : Operand) (t : TypeId)
    (ho : o.op = .call { callee := .builtin .append, args := #[s, x], argTypes := #[t, t] }) (ht : Tryz.prog.underlying t = some (.slice 5))
    (g n cap : Nat) (xs : List UInt8) (hs : a.eval s = .slice (some ⟨g, 0, none⟩) n cap) (hp : Bc w g n cap xs)
    (g2 m c : Nat) (ys : List UInt8) (hx : a.eval x = .slice (some ⟨g2, 0, none⟩) m c) (hq : Bc w g2 m c ys) (hbd : n + m ≤ 1000000000000)
    (h : ∀ g' cap' w', Bc w' g' (n + m) cap' (xs ++ ys) → Only g w w' → (g' = g ∨ g' = w.heap.size) → wpList Tryz.prog ops Q rest (a.put o.dst (.slice (some ⟨g', 0, none⟩) (n + m) cap')) w') :
    wpList Tryz.prog ops Q (o :: rest) a w := by
  obtain ⟨i, hi, hz, hsz, hb⟩ := info_parts Tryz.infoBc
  have hl := hq.len
  obtain ⟨v', w', hr, h2, h3, h4, h5⟩ := run_append_own_at (P := Tryz.prog) w 0 t o.type 5 i _ 1 1 ht hi hz hsz hb rfl (by decide) _ n (V xs) hp ⟨g2, 0, none⟩ m c (V ys) (by rw [V_len]; omega)
    (fun j u hu => by
      have hj : j < m := by have := (List.getElem?_eq_some_iff.1 hu).1; rw [V_len] at this; omega
      have hadd : (⟨g2, 0, none⟩ : Addr).add j = ⟨g2, j, none⟩ := by unfold Addr.add; split <;> simp_all
      rw [hadd, World.ownsRow.cellAt hq j (by omega), hu])
    (V_one' ys) (by unfold maxLen; omega) (by omega) (Nat.zero_le _)
  obtain ⟨g', cap', rfl, hlt⟩ : ∃ g' cap', v' = .slice (some ⟨g', 0, none⟩) (n + m) cap' ∧ True := by
    rcases h2.2 with ⟨e, _⟩ | ⟨g', cap', cur, e, _⟩
    · have := (h4.1 e).1; cases this
    · exact ⟨g', cap', e, trivial⟩
  refine wpList_plain hgd fun _ hK => ?_
  unfold Oper.wp execOp
  simp only [ho, resolve, invoke, builtin, Sem.run_bind, Sem.run_pure, Result.andThen_ok, List.map_toArray, List.map_cons, List.map_nil, hs, hx, hr]
  refine hK _ _ (h g' cap' w' ?_ h3 ?_)
  · rw [V_append] at h2; exact h2
  · rcases h5 with h5 | h5
    · left; simpa [Value.ownBlock] using h5
    · right; simpa [Value.ownBlock] using h5

/-! ## ints -/
/-- ints, as cells. -/
def I (xs : List Int) : List Value := xs.map fun (x : Int) => Value.int .i64 x
theorem I_len (xs : List Int) : (I xs).length = xs.length := by simp [I]
theorem I_get (xs : List Int) (j : Nat) (h : j < xs.length) : (I xs)[j]? = some (.int .i64 (xs.getD j 0)) := by
  simp [I, List.getD_eq_getElem?_getD, List.getElem?_eq_getElem h]
theorem I_take (xs : List Int) (k : Nat) : (I xs).take k = I (xs.take k) := by simp [I]
theorem I_set (xs : List Int) (j : Nat) (x : Int) : (I xs).set j (.int .i64 x) = I (xs.set j x) := by simp [I, List.map_set]
theorem I_append (xs ys : List Int) : I xs ++ I ys = I (xs ++ ys) := by simp [I]
theorem I_one' (xs : List Int) : ∀ u ∈ I xs, u.oneCell' = true := by
  intro u hu
  obtain ⟨x, _, rfl⟩ := List.mem_map.1 hu
  rfl

/-- Block g holds a slice of these, of length n, at its head; its elements are xs. -/
def Ic (w : World) (g n cap : Nat) (xs : List Int) : Prop := w.ownsRow 0 3 1 (.slice (some ⟨g, 0, none⟩) n cap) n (I xs)

section
variable {w w' : World} {g n cap : Nat} {xs : List Int}
theorem Ic.len (h : Ic w g n cap xs) : xs.length = n := by have := h.1; rw [I_len] at this; omega
theorem Ic.form (h : Ic w g n cap xs) : ∃ cur, w.heap[g]? = some (.cells cur 3 (0, 0)) ∧ n ≤ cap ∧ cap ≤ maxLen ∧ cur.size = cap ∧ cur.toList.take n = I xs := by
  rcases h.2 with ⟨e, _⟩ | ⟨g', cap', cur, e, _, hh, h1, h2, h3, h4⟩
  · cases e
  · cases e; exact ⟨cur, hh, h1, h2, by omega, by rw [Nat.mul_one] at h4; exact h4⟩
theorem Ic.mk' {cur : Array Value} (hh : w.heap[g]? = some (.cells cur 3 (0, 0))) (h1 : n ≤ cap) (h2 : cap ≤ maxLen) (h3 : cur.size = cap) (h4 : cur.toList.take n = I xs) : Ic w g n cap xs := by
  have hl : (I xs).length = n := by rw [← h4, List.length_take, Array.length_toList]; omega
  exact ⟨by omega, .inr ⟨g, cap, cur, rfl, Nat.zero_le _, hh, h1, h2, by omega, by rw [Nat.mul_one]; exact h4⟩⟩
theorem Ic.of_own {B g' cap' : Nat} {v : Value} (h : w.ownsRow B 3 1 v n (I xs)) (hv : v = .slice (some ⟨g', 0, none⟩) n cap') : Ic w g' n cap' xs := by
  subst hv
  refine ⟨h.1, ?_⟩
  rcases h.2 with ⟨e, _⟩ | ⟨g2, cap2, cur, e, _, r⟩
  · cases e
  · exact .inr ⟨g2, cap2, cur, e, Nat.zero_le _, r⟩
theorem Ic.to_own (h : Ic w g n cap xs) {B : Nat} (hB : B ≤ g) : w.ownsRow B 3 1 (.slice (some ⟨g, 0, none⟩) n cap) n (I xs) := by
  refine ⟨h.1, ?_⟩
  rcases h.2 with ⟨e, _⟩ | ⟨g2, cap2, cur, e, _, r⟩
  · cases e
  · cases e; exact .inr ⟨g, cap, cur, rfl, hB, r⟩
theorem Ic.lt (h : Ic w g n cap xs) : g < w.heap.size := by
  obtain ⟨cur, hh, _⟩ := h.form
  exact (Array.getElem?_eq_some_iff.1 hh).1
theorem Ic.le (h : Ic w g n cap xs) : n ≤ cap := by obtain ⟨_, _, h1, _⟩ := h.form; exact h1
theorem Ic.cap_le (h : Ic w g n cap xs) : cap ≤ 9223372036854775807 := by obtain ⟨_, _, _, h1, _⟩ := h.form; exact h1
theorem Ic.cell (h : Ic w g n cap xs) (j : Nat) (hj : j < n) : w.cell? ⟨g, j, none⟩ = some (.int .i64 (xs.getD j 0)) := by
  have := World.ownsRow.cellAt h j (by omega)
  rw [this, I_get xs j (by rw [h.len]; exact hj)]
theorem Ic.free (h : Ic w g n cap xs) (j : Nat) : w.frozen? ⟨g, j, none⟩ = false := World.ownsRow.frozenAt h j
theorem Ic.take (h : Ic w g n cap xs) (k : Nat) (hk : k ≤ n) : Ic w g k cap (xs.take k) := by
  obtain ⟨cur, hh, h1, h2, h3, h4⟩ := h.form
  refine Ic.mk' hh (by omega) h2 h3 ?_
  rw [← I_take, ← h4, List.take_take, Nat.min_eq_left hk]
theorem Ic.of_heap (h : Ic w g n cap xs) (e : w'.heap[g]? = w.heap[g]?) : Ic w' g n cap xs := by
  obtain ⟨cur, hh, h1, h2, h3, h4⟩ := h.form
  exact Ic.mk' (e.trans hh) h1 h2 h3 h4
theorem Ic.below (h : Ic w g n cap xs) {B : Nat} (hb : Below B w w') (hg : g < B) : Ic w' g n cap xs := h.of_heap (hb.block g hg)
theorem Ic.drew (h : Ic w g n cap xs) : Ic w.drew g n cap xs := h
theorem Ic.drewN (h : Ic w g n cap xs) (k : Nat) : Ic (w.drewN k) g n cap xs := h
theorem Ic.alloc (h : Ic w g n cap xs) (o : Obj) : Ic (w.alloc o) g n cap xs := h.of_heap (Below.heap_alloc w o g h.lt)
theorem Ic.far (h : Ic w g n cap xs) {p : Addr} (hp : g ≠ p.block) (u : Value) : Ic (w.setCell p u) g n cap xs := h.of_heap (Below.heap_setCell w p u g hp)
theorem Ic.set (h : Ic w g n cap xs) (j : Nat) (x : Int) : Ic (w.setCell ⟨g, j, none⟩ (.int .i64 x)) g n cap (xs.set j x) := by
  obtain ⟨cur, hh, h1, h2, h3, h4⟩ := h.form
  refine Ic.mk' (cur := cur.setIfInBounds j (.int .i64 x)) (by simp [World.setCell, Array.getElem?_modify, hh]) h1 h2 (by simpa using h3) ?_
  rw [Array.toList_setIfInBounds, List.take_set, h4, I_set]
theorem Ic.grown (h : Ic w g n cap xs) {row : Option Nat} (hg : w.grownBy w' row) (hne : some g ≠ row) : Ic w' g n cap xs := h.of_heap (hg.block g h.lt hne)
theorem Only.Ic {a : World} {g0 : Nat} (h : Only g0 w a) {g' n cap : Nat} {xs : List Int} (hp : Ic w g' n cap xs) (hne : g' ≠ g0) : Ic a g' n cap xs := hp.of_heap (h.block g' hp.lt (by intro e; injection e with e; exact hne e))
/-- A new block of one element, as an append lays it. -/
theorem Ic.one (w : World) (x : Int) : Ic (w.alloc (.cells #[.int .i64 x] 3)) w.heap.size 1 1 [x] :=
  Ic.mk' (heap_alloc_new w _) (Nat.le_refl _) (by unfold maxLen; omega) rfl rfl
end

theorem Tryz.infoIc : (Tryz.prog.info? 3).map (fun i => (i.zero, i.size, i.bytes)) = some (some (.int .i64 0), 1, 8) := by kernel_rfl
/-- n zeros, in a new block. -/
def IZ (n : Nat) : Array Value := madeCells #[.int .i64 0] n
theorem IZ_size (n : Nat) : (IZ n).size = n := size_madeCells _ n
theorem IZ_list (n : Nat) : (IZ n).toList = I (List.replicate n 0) := by
  unfold IZ I
  (rw [toList_madeCells_one, List.map_replicate]) <;> rfl
theorem make_Ic (T : TypeId) (hT : Tryz.prog.underlying T = some (.slice 3)) (l c : Nat) (hl : l ≤ c) (hc : c ≤ 1000000000000) (w : World) :
    (Instr.makeSlice T (.int .i64 (l : Int)) (.int .i64 (c : Int))).run Tryz.prog w = .ok (.slice (some ⟨w.heap.size, 0, none⟩) l c) (w.alloc (.cells (IZ c) 3)) := by
  obtain ⟨i, hi, hz, hs, hb⟩ := info_parts Tryz.infoIc
  have h := run_make (P := Tryz.prog) w T 3 i _ hT hi hz .i64 .i64 (l : Int) (c : Int) (by omega) (by omega) (by rw [hb]; omega) (by omega)
  simp only [Int.toNat_natCast, hs, Nat.mul_one] at h
  exact h
theorem Ic.made (w : World) (l c : Nat) (hl : l ≤ c) (hc : c ≤ 1000000000000) : Ic (w.alloc (.cells (IZ c) 3)) w.heap.size l c (List.replicate l 0) := by
  refine Ic.mk' (heap_alloc_new w _) hl (by unfold maxLen; omega) (IZ_size c) ?_
  rw [IZ_list, I_take, List.take_replicate, Nat.min_eq_left hl]

/-- append: onto a row of the call's own, of another row (one new element, or '...'). -/
theorem append_Ic {ops : Array Oper} {rest : List Oper} {o : Oper} {a : Act} {w : World} {Q : Exit → Act → World → Prop} (hgd : o.guard = none) (s x : Operand) (t : TypeId)
    (ho : o.op = .call { callee := .builtin .append, args := #[s, x], argTypes := #[t, t] }) (ht : Tryz.prog.underlying t = some (.slice 3))
    (g n cap : Nat) (xs : List Int) (hs : a.eval s = .slice (some ⟨g, 0, none⟩) n cap) (hp : Ic w g n cap xs)
    (g2 m c : Nat) (ys : List Int) (hx : a.eval x = .slice (some ⟨g2, 0, none⟩) m c) (hq : Ic w g2 m c ys) (hbd : n + m ≤ 1000000000000)
    (h : ∀ g' cap' w', Ic w' g' (n + m) cap' (xs ++ ys) → Only g w w' → (g' = g ∨ g' = w.heap.size) → wpList Tryz.prog ops Q rest (a.put o.dst (.slice (some ⟨g', 0, none⟩) (n + m) cap')) w') :
    wpList Tryz.prog ops Q (o :: rest) a w := by
  obtain ⟨i, hi, hz, hsz, hb⟩ := info_parts Tryz.infoIc
  have hl := hq.len
  obtain ⟨v', w', hr, h2, h3, h4, h5⟩ := run_append_own_at (P := Tryz.prog) w 0 t o.type 3 i _ 1 8 ht hi hz hsz hb rfl (by decide) _ n (I xs) hp ⟨g2, 0, none⟩ m c (I ys) (by rw [I_len]; omega)
    (fun j u hu => by
      have hj : j < m := by have := (List.getElem?_eq_some_iff.1 hu).1; rw [I_len] at this; omega
      have hadd : (⟨g2, 0, none⟩ : Addr).add j = ⟨g2, j, none⟩ := by unfold Addr.add; split <;> simp_all
      rw [hadd, World.ownsRow.cellAt hq j (by omega), hu])
    (I_one' ys) (by unfold maxLen; omega) (by omega) (Nat.zero_le _)
  obtain ⟨g', cap', rfl, hlt⟩ : ∃ g' cap', v' = .slice (some ⟨g', 0, none⟩) (n + m) cap' ∧ True := by
    rcases h2.2 with ⟨e, _⟩ | ⟨g', cap', cur, e, _⟩
    · have := (h4.1 e).1; cases this
    · exact ⟨g', cap', e, trivial⟩
  refine wpList_plain hgd fun _ hK => ?_
  unfold Oper.wp execOp
  simp only [ho, resolve, invoke, builtin, Sem.run_bind, Sem.run_pure, Result.andThen_ok, List.map_toArray, List.map_cons, List.map_nil, hs, hx, hr]
  refine hK _ _ (h g' cap' w' ?_ h3 ?_)
  · rw [I_append] at h2; exact h2
  · rcases h5 with h5 | h5
    · left; simpa [Value.ownBlock] using h5
    · right; simpa [Value.ownBlock] using h5

/-- string(b) of bytes that are known. -/
theorem str_of_Bc {w : World} {g n cap : Nat} {l : List UInt8} (src dst : TypeId) (hs : Tryz.prog.underlying src = some (.slice 5)) (hd : Tryz.prog.underlying dst = some .string) (h : Bc w g n cap l) :
    (convert src dst (.slice (some ⟨g, 0, none⟩) n cap)).run Tryz.prog w = .ok (.string ⟨l.toArray⟩) w := by
  have hl := h.len
  subst hl
  refine run_convert_bytes_back w src dst 5 ⟨g, 0, none⟩ cap l hs Tryz.underlying5 hd (fun j hj => ?_)
  have hadd : (⟨g, 0, none⟩ : Addr).add j = ⟨g, j, none⟩ := by unfold Addr.add; split <;> simp_all
  rw [hadd, h.cell j hj, List.getD_eq_getElem?_getD, List.getElem?_eq_getElem hj]; rfl
end
section
open Go.RowKit

theorem ret_int {k : IntKind} {a b : Int} (h : a = b) : Ending.returned (.int k a) = .returned (.int k b) := by rw [h]
theorem vint {k : IntKind} {a b : Int} (h : a = b) : Value.int k a = .int k b := by rw [h]
theorem ret_bool {a b : Bool} (h : a = b) : Ending.returned (.bool a) = .returned (.bool b) := by rw [h]
theorem ret_str {a b : ByteArray} (h : a = b) : Ending.returned (.string a) = .returned (.string b) := by rw [h]
theorem toList_data (s : ByteArray) : s.toList = s.data.toList := ByteArray.toList_eq s
theorem dec_toList (n : Nat) : (dec n).toList = Lib.decDigits n := by rw [toList_data, dec_data]

theorem bytes_below (w : World) (e : TypeId) (s : ByteArray) : Below w.heap.size w (Lib.bytesWorld w e s) :=
  ⟨rfl, rfl, rfl, by rw [Lib.bytesWorld_size]; omega, fun k hk => Lib.bytesWorld_at_old w e s k hk⟩
/-- What a function leaves that hands back new pieces r. -/
def NewPc (r : List Nat) (w : World) (e : Ending) (w' : World) : Prop :=
  ∃ g cap, e = .returned (.slice (some ⟨g, 0, none⟩) r.length cap) ∧ w.heap.size ≤ g ∧ Pc w' g r.length cap r ∧ Below w.heap.size w w'
def lenOf : Value → Nat | .slice _ n _ => n | _ => 0
/-- A comparison's answer. -/
def cmpI (a b : Nat) : Int := if a < b then -1 else if b < a then 1 else 0
theorem cmpI_lt {a b : Nat} (h : a < b) : cmpI a b = -1 := by rw [cmpI, if_pos h]
theorem cmpI_gt {a b : Nat} (h : b < a) : cmpI a b = 1 := by rw [cmpI, if_neg (by omega), if_pos h]
theorem cmpI_eq (a : Nat) : cmpI a a = 0 := by rw [cmpI, if_neg (by omega), if_neg (by omega)]
theorem trimL_take (xs : List Nat) : trimL xs = xs.take (trimL xs).length := by
  have h : trimL xs <+: xs := by
    unfold trimL
    have := List.dropWhile_suffix (l := xs.reverse) (· == 0)
    simpa using List.reverse_prefix.2 this
  exact (List.prefix_iff_eq_take.1 h)
end
section
open Go.RowKit

theorem trimL_step {xs : List Nat} {k : Nat} (hk : k + 1 ≤ xs.length) (h0 : xs.getD k 0 = 0) : trimL (xs.take (k + 1)) = trimL (xs.take k) := by
  rw [List.take_succ_eq_append_getElem (by omega)]
  rw [List.getD_eq_getElem?_getD, List.getElem?_eq_getElem (by omega)] at h0
  have : xs[k] = 0 := h0
  rw [this, trimL_snoc_zero]
theorem trimL_stop {xs : List Nat} {k : Nat} (hk : k + 1 ≤ xs.length) (h0 : xs.getD k 0 ≠ 0) : (trimL (xs.take (k + 1))).length = k + 1 := by
  rw [List.take_succ_eq_append_getElem (by omega)]
  rw [List.getD_eq_getElem?_getD, List.getElem?_eq_getElem (by omega)] at h0
  have : xs[k] ≠ 0 := h0
  rw [trimL_snoc _ _ this, List.length_append, List.length_take, List.length_singleton]
  omega

/-- (decimal.pieces).trim: without the zeros at the end; the world is as it was. -/
theorem trim_any (g n cap : Nat) (xs : List Nat) (w : World) (h : Pc w g n cap xs) :
    Calls Tryz.prog 109 #[.slice (some ⟨g, 0, none⟩) n cap] w fun e w' => e = .returned (.slice (some ⟨g, 0, none⟩) (trimL xs).length cap) ∧ w = w' := by
  have hn := h.len
  have hcap := h.cap_le
  have hle := h.le
  have HN := Lib.hid hn
  clear hn
  go_enter Tryz.func109, Tryz.ntmps109
  go_wp2
  go_loop [0] (fun v => ∃ k : Nat, k ≤ n ∧ v = .slice (some ⟨g, 0, none⟩) k cap ∧ Hid (trimL (xs.take k) = trimL xs)) (fun v => lenOf v)
  case atStart => exact ⟨n, Nat.le_refl _, rfl, by rw [List.take_of_length_le (by have := HN.out; omega)]; rfl⟩
  case round =>
    obtain ⟨k, hk, rfl, HI⟩ := hrel
    by_cases hk0 : k = 0
    · subst hk0
      go_wp2
      go_ret
      refine ⟨?_, rfl⟩
      have := HI.out
      rw [← this]; rfl
    · obtain ⟨j, rfl⟩ : ∃ j, k = j + 1 := ⟨k - 1, by omega⟩
      have hc := h.cell j (by omega)
      by_cases h0 : xs.getD j 0 = 0
      · rw [h0] at hc
        have H0 := Lib.hid h0
        clear h0
        go_wp2
        go_round
        case rel => exact ⟨j, by omega, rfl, (trimL_step (by have := HN.out; omega) H0.out).symm.trans HI.out⟩
        case measure => simp [lenOf]
      · have h1 : (((xs.getD j 0 : Nat) : Int) == 0) = false := by simpa using h0
        have h2 := trimL_stop (k := j) (xs := xs) (by have := HN.out; omega) h0
        have H2 := Lib.hid h2
        generalize xs.getD j 0 = x at *
        clear h2 h0
        go_wp2
        go_ret
        refine ⟨?_, rfl⟩
        rw [← HI.out, H2.out]; rfl
end
section
open Go.RowKit
/-- What back leaves. -/
def BackPost (g n cap : Nat) (xs ys : List Nat) (t : Nat) (w : World) (e : Ending) (w' : World) : Prop :=
  e = .returned (.tuple #[]) ∧ Only g w w' ∧ ∃ c zs, BackAt xs ys t (ys.length + 1) c zs ∧ Pc w' g n cap zs
def BackRel (g n cap : Nat) (xs ys : List Nat) (t k c : Nat) (w wr : World) : Prop := Only g w wr ∧ ∃ zs, BackAt xs ys t k c zs ∧ Pc wr g n cap zs

/-- (decimal.pieces).back: adds other pieces, moved by t places. -/
theorem back_any (g n cap : Nat) (xs : List Nat) (g2 n2 cap2 : Nat) (ys : List Nat) (t : Nat) (w : World) (hp : Pc w g n cap xs) (hq : Pc w g2 n2 cap2 ys) (hne : g2 ≠ g) (ht : t + n2 < n) (hx : Lims xs) (hy : Lims ys) :
    Calls Tryz.prog 108 #[.slice (some ⟨g, 0, none⟩) n cap, .slice (some ⟨g2, 0, none⟩) n2 cap2, .int .i64 (t : Int)] w (BackPost g n cap xs ys t w) := by
  have hcap := hp.cap_le
  have hle := hp.le
  have hle2 := hq.le
  have hcap2 := hq.cap_le
  have HL := Lib.hid hp.len
  have HL2 := Lib.hid hq.len
  go_enter Tryz.func108, Tryz.ntmps108
  go_wp2
  go_loopw [6, 7] (fun vc vk wr => ∃ k c : Nat, k ≤ n2 + 1 ∧ c ≤ 1 ∧ vk = .int .i64 (k : Int) ∧ vc = .int .u64 (c : Int) ∧ BackRel g n cap xs ys t k c w wr) (fun _ vk _ => n2 + 1 - (intOf vk).toNat)
  case atStart => exact ⟨0, 0, by omega, by omega, rfl, rfl, Only.refl _ _, xs, BackAt.start hx, hp⟩
  case round =>
    obtain ⟨k, c, hk, hc, rfl, rfl, ho, zs, hb, hz⟩ := hrel
    have hz1 := hz.len
    by_cases hk2 : k = n2 + 1
    · subst hk2
      have HB := Lib.hid hb
      clear hb hz1
      go_wp2
      go_end0
      exact ⟨rfl, ho, c, zs, by rw [HL2.out]; exact HB.out, hz⟩
    · have hzL := Lims_getD hb.lims (t + k)
      have hcell := hz.cell (t + k) (by omega)
      have hfr := hz.free (t + k)
      have hyL := Lims_getD hy k
      have hyn : ¬ k < n2 → ys.getD k 0 = 0 := fun h => by rw [List.getD_eq_getElem?_getD, List.getElem?_eq_none (by have := HL2.out; omega)]; rfl
      have hcell2 : k < n2 → wr.cell? ⟨g2, k, none⟩ = some (.int .u64 ((ys.getD k 0 : Nat) : Int)) := fun h => (ho.Pc hq hne).cell k h
      have hstep := hb.step (by rw [HL.out]; omega) hy _ rfl
      have hset := fun v => hz.set (t + k) v
      have HS := Lib.hid hstep
      have HT := Lib.hid hset
      have HO := Lib.hid ho
      clear hstep hset hz hb hz1 ho
      generalize zs.getD (t + k) 0 = z at *
      generalize ys.getD k 0 = y at *
      by_cases hkn : k < n2
      · have hcell3 := hcell2 hkn
        clear hcell2 hyn
        go_wp2
        go_roundw
        case rel =>
          refine ⟨k + 1, (c + z + y) / 1000000000, by omega, by omega, by go_num, ?_, HO.out.setCell _ _, zs.set (t + k) ((c + z + y) % 1000000000), HS.out, ?_⟩
          · congr 1
          · exact HT.out _
        case measure => simp [intOf]; omega
      · have hy0 := Lib.hid (hyn hkn)
        clear hcell2 hyn
        go_wp2
        go_roundw
        case rel =>
          have e0 := hy0.out
          refine ⟨k + 1, (c + z) / 1000000000, by omega, by omega, by go_num, ?_, HO.out.setCell _ _, zs.set (t + k) ((c + z) % 1000000000), ?_, ?_⟩
          · congr 1
          · have := HS.out; rw [e0, Nat.add_zero] at this; exact this
          · exact HT.out _
        case measure => simp [intOf]; omega
end
section
open Go.RowKit
/-- What take leaves. -/
def TakePost (g n cap : Nat) (xs ys : List Nat) (m t : Nat) (w : World) (e : Ending) (w' : World) : Prop :=
  Only g w w' ∧ ∃ (c b : Nat) (zs : List Nat), e = .returned (.bool (decide (0 < b))) ∧ TakeAt xs ys m t (ys.length + 1) c b zs ∧ c = 0 ∧ Pc w' g n cap zs
def TakeRel (g n cap : Nat) (xs ys : List Nat) (m t k c b : Nat) (w wr : World) : Prop := Only g w wr ∧ ∃ zs, TakeAt xs ys m t k c b zs ∧ (k = ys.length + 1 → c = 0) ∧ Pc wr g n cap zs

/-- (decimal.pieces).take: takes a multiple of other pieces away, moved by t places; it reports whether it was too much. -/
theorem take_any (g n cap : Nat) (xs : List Nat) (g2 n2 cap2 : Nat) (ys : List Nat) (m t : Nat) (w : World) (hp : Pc w g n cap xs) (hq : Pc w g2 n2 cap2 ys) (hne : g2 ≠ g) (ht : t + n2 < n) (hx : Lims xs) (hy : Lims ys) (hm : m < 1000000000) :
    Calls Tryz.prog 111 #[.slice (some ⟨g, 0, none⟩) n cap, .slice (some ⟨g2, 0, none⟩) n2 cap2, .int .u64 (m : Int), .int .i64 (t : Int)] w (TakePost g n cap xs ys m t w) := by
  have hcap := hp.cap_le
  have hle := hp.le
  have hle2 := hq.le
  have hcap2 := hq.cap_le
  have HL := Lib.hid hp.len
  have HL2 := Lib.hid hq.len
  go_enter Tryz.func111, Tryz.ntmps111
  go_wp2
  go_loopw [9, 10, 11] (fun vb vc vk wr => ∃ k c b : Nat, k ≤ n2 + 1 ∧ c ≤ m ∧ b ≤ 1 ∧ vk = .int .i64 (k : Int) ∧ vc = .int .u64 (c : Int) ∧ vb = .int .i64 (b : Int) ∧ TakeRel g n cap xs ys m t k c b w wr) (fun _ _ vk _ => n2 + 1 - (intOf vk).toNat)
  case atStart => exact ⟨0, 0, 0, by omega, by omega, by omega, rfl, rfl, rfl, Only.refl _ _, xs, TakeAt.start hx, fun h => by omega, hp⟩
  case round =>
    obtain ⟨k, c, b, hk, hc, hb1, rfl, rfl, rfl, ho, zs, hb, hc0, hz⟩ := hrel
    have hz1 := hz.len
    by_cases hk2 : k = n2 + 1
    · subst hk2
      have HB := Lib.hid hb
      have HC := Lib.hid hc0
      clear hb hz1 hc0
      go_wp2
      go_ret
      exact ⟨ho, c, b, zs, rfl, by rw [HL2.out]; exact HB.out, HC.out (by rw [HL2.out]), hz⟩
    · have hzL := Lims_getD hb.lims (t + k)
      have hcell := hz.cell (t + k) (by omega)
      have hfr := hz.free (t + k)
      have hyL := Lims_getD hy k
      have hyn : ¬ k < n2 → ys.getD k 0 = 0 := fun h => by rw [List.getD_eq_getElem?_getD, List.getElem?_eq_none (by have := HL2.out; omega)]; rfl
      have hcell2 : k < n2 → wr.cell? ⟨g2, k, none⟩ = some (.int .u64 ((ys.getD k 0 : Nat) : Int)) := fun h => (ho.Pc hq hne).cell k h
      have hstep := fun (c1 d b' : Nat) => hb.step (by rw [HL.out]; omega) hy c1 d b'
      have hset := fun v => hz.set (t + k) v
      have hbd := take_bound hc hm hyL
      have HS := Lib.hid hstep
      have HT := Lib.hid hset
      have HO := Lib.hid ho
      clear hstep hset hz hb hz1 ho hc0
      generalize zs.getD (t + k) 0 = z at *
      generalize ys.getD k 0 = y at *
      have hnn : (0 : Int) ≤ (m : Int) * (y : Int) := Int.mul_nonneg (by omega) (by omega)
      have hbd' : (c : Int) + (m : Int) * (y : Int) ≤ 999999999999999999 := by
        have : ((c + m * y : Nat) : Int) ≤ 999999999999999999 := by omega
        rwa [Int.natCast_add, Int.natCast_mul] at this
      by_cases hkn : k < n2
      · have hcell3 := hcell2 hkn
        have HCAST := Lib.hid (show ((c + m * y : Nat) : Int) = (c : Int) + (m : Int) * (y : Int) from by rw [Int.natCast_add, Int.natCast_mul])
        clear hcell2 hyn hbd
        by_cases hs : (z : Int) - ((c : Int) + (m : Int) * (y : Int)) % 1000000000 - (b : Int) < 0
        · go_wp2
          go_roundw
          case rel =>
            have hcast := HCAST.out
            have hstep := HS.out (c + m * y) (z - (c + m * y) % 1000000000 - b + 1000000000 : Int).toNat 1 rfl (by omega) (by omega) (by omega)
            refine ⟨k + 1, (c + m * y) / 1000000000, 1, by omega, hstep.carry, by omega, by go_num, ?_, rfl, HO.out.setCell _ _, _, hstep, fun h => ?_, ?_⟩
            · congr 1
            · have := HL2.out; omega
            · have := HT.out (z - (c + m * y) % 1000000000 - b + 1000000000 : Int).toNat
              rw [Int.toNat_of_nonneg (by omega)] at this
              exact this
          case measure => simp [intOf]; omega
        · go_wp2
          go_roundw
          case rel =>
            have hcast := HCAST.out
            have hstep := HS.out (c + m * y) (z - (c + m * y) % 1000000000 - b : Int).toNat 0 rfl (by omega) (by omega) (by omega)
            refine ⟨k + 1, (c + m * y) / 1000000000, 0, by omega, hstep.carry, by omega, by go_num, ?_, rfl, HO.out.setCell _ _, _, hstep, fun h => ?_, ?_⟩
            · congr 1
            · have := HL2.out; omega
            · have := HT.out (z - (c + m * y) % 1000000000 - b : Int).toNat
              rw [Int.toNat_of_nonneg (by omega)] at this
              exact this
          case measure => simp [intOf]; omega
      · have hy0 := Lib.hid (hyn hkn)
        clear hcell2 hyn hbd hbd' hnn
        by_cases hs : (z : Int) - (c : Int) % 1000000000 - (b : Int) < 0
        · go_wp2
          go_roundw
          case rel =>
            have e0 := hy0.out
            subst e0
            have hstep := HS.out (c + m * 0) (z - c - b + 1000000000 : Int).toNat 1 rfl (by omega) (by omega) (by omega)
            have e : (c + m * 0) / 1000000000 = 0 := by omega
            rw [e] at hstep
            refine ⟨k + 1, 0, 1, by omega, by omega, by omega, by go_num, ?_, rfl, HO.out.setCell _ _, _, hstep, fun h => rfl, ?_⟩
            · congr 1; omega
            · have := HT.out (z - c - b + 1000000000 : Int).toNat
              rw [Int.toNat_of_nonneg (by omega)] at this
              have e2 : (c : Int) % 1000000000 = c := by omega
              rw [e2]
              exact this
          case measure => simp [intOf]; omega
        · go_wp2
          go_roundw
          case rel =>
            have e0 := hy0.out
            subst e0
            have hstep := HS.out (c + m * 0) (z - c - b : Int).toNat 0 rfl (by omega) (by omega) (by omega)
            have e : (c + m * 0) / 1000000000 = 0 := by omega
            rw [e] at hstep
            refine ⟨k + 1, 0, 0, by omega, by omega, by omega, by go_num, ?_, rfl, HO.out.setCell _ _, _, hstep, fun h => rfl, ?_⟩
            · congr 1; omega
            · have := HT.out (z - c - b : Int).toNat
              rw [Int.toNat_of_nonneg (by omega)] at this
              have e2 : (c : Int) % 1000000000 = c := by omega
              rw [e2]
              exact this
          case measure => simp [intOf]; omega
end
section
open Go.RowKit
def TimesRow (g m : Nat) (xs ys : List Nat) (i : Nat) (w wr : World) : Prop :=
  Below w.heap.size w wr ∧ ∃ o, Pc wr g m m o ∧ Lims o ∧ lv o = lv (xs.take i) * lv ys ∧ ∀ j, i + ys.length ≤ j → o.getD j 0 = 0
def TimesIn (g m : Nat) (ys : List Nat) (v0 i a k c : Nat) (w wr : World) : Prop := Below w.heap.size w wr ∧ ∃ o, Pc wr g m m o ∧ TimesAt v0 i a ys k c o

/-- (decimal.pieces).times: the product. -/
theorem times_any (g1 n1 cap1 : Nat) (xs : List Nat) (g2 n2 cap2 : Nat) (ys : List Nat) (w : World) (hp : Pc w g1 n1 cap1 xs) (hq : Pc w g2 n2 cap2 ys) (hx : Lims xs) (hy : Lims ys) (hn : n1 + n2 ≤ 1000000000) :
    Calls Tryz.prog 94 #[.slice (some ⟨g1, 0, none⟩) n1 cap1, .slice (some ⟨g2, 0, none⟩) n2 cap2] w (NewPc (lims (lv xs * lv ys)) w) := by
  have hcap := hp.cap_le
  have hle := hp.le
  have hle2 := hq.le
  have hcap2 := hq.cap_le
  have hg1 := hp.lt
  have hg2 := hq.lt
  have HL := Lib.hid hp.len
  have HL2 := Lib.hid hq.len
  have hmk := make_Pc 135 Tryz.underlying135 (n1 + n2) (n1 + n2) (Nat.le_refl _) (by omega)
  rw [Int.natCast_add] at hmk
  have hmade := Pc.made w (n1 + n2) (n1 + n2) (Nat.le_refl _) (by omega)
  have HM := Lib.hid hmade
  clear hmade
  go_enter Tryz.func94, Tryz.ntmps94
  go_wp2
  clear hmk
  go_loopw [19] (fun vi wr => ∃ i : Nat, i ≤ n1 ∧ vi = .int .i64 (i : Int) ∧ TimesRow w.heap.size (n1 + n2) xs ys i w wr) (fun vi _ => n1 - (intOf vi).toNat)
  case atStart =>
    refine ⟨0, by omega, rfl, (Below.refl _ _).alloc (Nat.le_refl _) _, _, HM.out, fun x hx => ?_, ?_, fun j _ => ?_⟩
    · rw [List.eq_of_mem_replicate hx]; omega
    · rw [lv_zeros]; simp [lv]
    · rw [List.getD_eq_getElem?_getD, List.getElem?_replicate]; split <;> rfl
  case round =>
    obtain ⟨i, hi, rfl, hb, o, ho, hoL, hov, hoz⟩ := hrel
    have hGn := ho.lt
    obtain ⟨wo, rfl⟩ : ∃ wo : World, wo = wr := ⟨_, rfl⟩
    by_cases hin : i = n1
    · subst hin
      have hfin : trimL o = lims (lv xs * lv ys) := by rw [trimL_eq o hoL, hov, List.take_of_length_le (by rw [HL.out]; omega)]
      have HF := Lib.hid hfin
      clear hfin hoL hov hoz
      go_wp2_with (go_at_call 109; refine (trim_any _ _ _ o _ ho).mono ?_; rintro e w' ⟨rfl, rfl⟩)
      go_ret
      refine ⟨w.heap.size, i + n2, ?_, Nat.le_refl _, ?_, hb⟩
      · rw [← HF.out]; rfl
      · have h3 := ho.take (trimL o).length (by rw [trimL_take o, List.length_take, ho.len]; omega)
        rw [← trimL_take o] at h3
        rw [← HF.out]; exact h3
    · have hin' : i < n1 := by omega
      have hc1 := (hp.below hb hg1).cell i hin'
      have hstart := TimesAt.start (i := i) (a := xs.getD i 0) (q := ys) hoL hoz
      have HS := Lib.hid hstart
      have hrow := times_row (p := xs) (q := ys) (i := i)
      rw [← hov] at hrow
      have HR := Lib.hid hrow
      have ha := Lims_getD hx i
      have HOL := Lib.hid (And.intro hoL (And.intro hov hoz))
      clear hstart hrow hoL hov hoz
      generalize xs.getD i 0 = a at *
      go_wp2
      go_loopw [8, 26] (fun vc vk wr => ∃ k c : Nat, k ≤ n2 ∧ c < 1000000000 ∧ vk = .int .i64 (k : Int) ∧ vc = .int .u64 (c : Int) ∧ TimesIn w.heap.size (n1 + n2) ys (lv o) i a k c w wr) (fun _ vk _ => n2 - (intOf vk).toNat)
      case atStart => exact ⟨0, 0, by omega, by omega, rfl, rfl, hb, o, ho, HS.out⟩
      case round =>
        obtain ⟨k, c, hk, hcc, rfl, rfl, hb2, o2, ho2, hT⟩ := hrel
        by_cases hkn : k = n2
        · subst hkn
          have hlen2 := ho2.len
          have HT := Lib.hid hT
          have hfr := ho2.free (i + k)
          have hcell := ho2.cell (i + k) (by omega)
          have HP2 := Lib.hid ho2
          clear hT hlen2 ho2
          go_wp2
          go_roundw
          case rel =>
            have hT := HT.out
            have e1 := HL2.out
            subst e1
            have hf := hT.finish (by have := HP2.out.len; omega)
            refine ⟨i + 1, by omega, by go_num, hb2.setCell (by simp) _, o2.set (i + ys.length) c, HP2.out.set _ _, hf.2.1, ?_, hf.2.2⟩
            rw [hf.1, HR.out]
          case measure => simp [intOf]; omega
        · have hkn' : k < n2 := by omega
          have hc2 := (hq.below hb2 hg2).cell k hkn'
          have hcell := ho2.cell (i + k) (by omega)
          have hfr := ho2.free (i + k)
          have hyL := Lims_getD hy k
          have hzL := Lims_getD hT.lims (i + k)
          have hstep := hT.step (by rw [HL2.out]; exact hkn') (by rw [ho2.len]; omega) ha hy
          have hset := fun v => ho2.set (i + k) v
          have hbd := times_bound ha hyL hcc hzL
          have HS := Lib.hid hstep
          have HSet := Lib.hid hset
          clear hstep hset hT ho2
          generalize ys.getD k 0 = y at *
          generalize o2.getD (i + k) 0 = z at *
          have hnn : (0 : Int) ≤ (a : Int) * (y : Int) := Int.mul_nonneg (by omega) (by omega)
          have hbd' : (c : Int) + ((z : Int) + (a : Int) * (y : Int)) ≤ 999999999999999999 := by
            have : ((c + (z + a * y) : Nat) : Int) ≤ 999999999999999999 := by omega
            rwa [Int.natCast_add, Int.natCast_add, Int.natCast_mul] at this
          have HCAST := Lib.hid (show ((c + (z + a * y) : Nat) : Int) = (c : Int) + ((z : Int) + (a : Int) * (y : Int)) from by rw [Int.natCast_add, Int.natCast_add, Int.natCast_mul])
          clear hbd
          go_wp2
          go_roundw
          case rel =>
            have hcast := HCAST.out
            have hstep := HS.out
            refine ⟨k + 1, (c + (z + a * y)) / 1000000000, by omega, hstep.carry, by go_num, ?_, hb2.setCell (by simp) _, _, ?_, hstep⟩
            · congr 1
            · have := HSet.out ((c + (z + a * y)) % 1000000000)
              exact this
          case measure => simp [intOf]; omega
end
section
open Go.RowKit
/-- What small leaves: the quotient's pieces and the rest. -/
def SmallPost (q : List Nat) (r : Nat) (w : World) (e : Ending) (w' : World) : Prop :=
  ∃ g cap, e = .returned (.tuple #[.slice (some ⟨g, 0, none⟩) q.length cap, .int .u64 (r : Int)]) ∧ w.heap.size ≤ g ∧ Pc w' g q.length cap q ∧ Below w.heap.size w w'
def SmallRel (g n : Nat) (xs : List Nat) (m i r : Nat) (w wr : World) : Prop :=
  Below w.heap.size w wr ∧ ∃ o, Pc wr g n n o ∧ Lims o ∧ lv (xs.drop i) = m * lv (o.drop i) + r

/-- (decimal.pieces).small: quotient and rest of a division by one small number. -/
theorem small_any (g n cap : Nat) (xs : List Nat) (m : Nat) (w : World) (hp : Pc w g n cap xs) (hx : Lims xs) (hm : m ≤ 1000000000) (hm0 : 0 < m) (hn : n ≤ 1000000000) :
    Calls Tryz.prog 106 #[.slice (some ⟨g, 0, none⟩) n cap, .int .u64 (m : Int)] w (SmallPost (lims (lv xs / m)) (lv xs % m) w) := by
  have hcap := hp.cap_le
  have hle := hp.le
  have hg := hp.lt
  have HL := Lib.hid hp.len
  have hmk := make_Pc 135 Tryz.underlying135 n n (Nat.le_refl _) (by omega)
  have HM := Lib.hid (Pc.made w n n (Nat.le_refl _) (by omega))
  go_enter Tryz.func106, Tryz.ntmps106
  go_wp2
  clear hmk
  go_loopw [7, 8] (fun vr vi wr => ∃ i r : Nat, i ≤ n ∧ r < m ∧ vi = .int .i64 ((i : Int) - 1) ∧ vr = .int .u64 (r : Int) ∧ SmallRel w.heap.size n xs m i r w wr) (fun _ vi _ => (intOf vi + 1).toNat)
  case atStart =>
    refine ⟨n, 0, Nat.le_refl _, hm0, by go_num, rfl, (Below.refl _ _).alloc (Nat.le_refl _) _, _, HM.out, fun x hx => ?_, ?_⟩
    · rw [List.eq_of_mem_replicate hx]; omega
    · rw [List.drop_of_length_le (by rw [HL.out]; omega), List.drop_of_length_le (by simp)]; simp [lv]
  case round =>
    obtain ⟨i, r, hi, hr, rfl, rfl, hb, o, ho, hoL, hov⟩ := hrel
    have hGn := ho.lt
    obtain ⟨wo, rfl⟩ : ∃ wo : World, wo = wr := ⟨_, rfl⟩
    by_cases hin : i = 0
    · subst hin
      have hend := small_end hr hov
      have hfin : trimL o = lims (lv xs / m) := by rw [trimL_eq o hoL, hend.1]
      have HF := Lib.hid hfin
      have HR := Lib.hid hend.2
      clear hfin hoL hov hend
      go_wp2_with (go_at_call 109; refine (trim_any _ _ _ o _ ho).mono ?_; rintro e w' ⟨rfl, rfl⟩)
      go_ret2
      refine ⟨w.heap.size, n, ?_, Nat.le_refl _, ?_, hb⟩
      · rw [← HF.out, ← HR.out]; rfl
      · have h3 := ho.take (trimL o).length (by rw [trimL_take o, List.length_take, ho.len]; omega)
        rw [← trimL_take o] at h3
        rw [← HF.out]; exact h3
    · obtain ⟨j, rfl⟩ : ∃ j, i = j + 1 := ⟨i - 1, by omega⟩
      have ec : ((j + 1 : Nat) : Int) - 1 = (j : Int) := by omega
      rw [ec]
      have hc1 := (hp.below hb hg).cell j (by omega)
      have hcell := ho.cell j (by omega)
      have hfr := ho.free j
      have hxL := Lims_getD hx j
      have hstep := small_step (n := m) (r := r) (p := xs) (o := o) hm0 (by rw [HL.out]; omega) (by rw [ho.len]; omega) hov
      have hlt := small_lt hr hxL
      have HLt := Lib.hid hlt
      have HS := Lib.hid hstep
      have HSet := Lib.hid (fun v => ho.set j v)
      have HOL := Lib.hid hoL
      have hdm := Nat.mod_lt (r * 1000000000 + xs.getD j 0) hm0
      have HDM := Lib.hid hdm
      clear hstep hov ho hoL hlt hdm ec
      generalize xs.getD j 0 = x at *
      generalize o.getD j 0 = z at *
      go_wp2
      go_roundw
      case rel =>
        refine ⟨j, (r * 1000000000 + x) % m, by omega, HDM.out, rfl, by go_num, hb.setCell (by simp) _, _, ?_, Lims_set HOL.out _ _ HLt.out, HS.out⟩
        have := HSet.out ((r * 1000000000 + x) / m)
        exact this
      case measure => simp [intOf]
end
section
open Go.RowKit
def PcmpPost (a b : Nat) (w : World) (e : Ending) (w' : World) : Prop := e = .returned (.int .i64 (cmpI a b)) ∧ Below w.heap.size w w'
theorem pcmp_len {a b : Nat} (h : (lims a).length < (lims b).length) : a < b := by
  rcases Nat.lt_or_ge a b with h1 | h1
  · exact h1
  · have := lims_len_mono h1; omega
theorem pcmp_lt {a b i : Nat} (hl : (lims a).length = (lims b).length) (hi : i < (lims b).length) (hd : (lims a).drop (i + 1) = (lims b).drop (i + 1)) (h : (lims a).getD i 0 < (lims b).getD i 0) : a < b := by
  have := lv_less (Lims_lims a) i hi hd hl h
  rwa [lv_lims, lv_lims] at this
theorem pcmp_eq {a b : Nat} (hd : (lims a).drop 0 = (lims b).drop 0) : a = b := by
  rw [← lv_lims a, ← lv_lims b]; exact congrArg lv hd
theorem drop_step {xs ys : List Nat} {i : Nat} (hx : i < xs.length) (hy : i < ys.length) (hd : xs.drop (i + 1) = ys.drop (i + 1)) (h : xs.getD i 0 = ys.getD i 0) : xs.drop i = ys.drop i := by
  rw [List.drop_eq_getElem_cons hx, List.drop_eq_getElem_cons hy, hd]
  rw [List.getD_eq_getElem?_getD, List.getElem?_eq_getElem hx, List.getD_eq_getElem?_getD, List.getElem?_eq_getElem hy] at h
  have h' : xs[i] = ys[i] := h
  rw [h']

set_option maxHeartbeats 400000 in
/-- (decimal.pieces).compare. -/
theorem pcmp_any (g1 n1 cap1 g2 n2 cap2 a b : Nat) (w : World) (hp : Pc w g1 n1 cap1 (lims a)) (hq : Pc w g2 n2 cap2 (lims b)) :
    Calls Tryz.prog 105 #[.slice (some ⟨g1, 0, none⟩) n1 cap1, .slice (some ⟨g2, 0, none⟩) n2 cap2] w (PcmpPost a b w) := by
  have hcap := hp.cap_le
  have hle := hp.le
  have hle2 := hq.le
  have hcap2 := hq.cap_le
  have hg1 := hp.lt
  have hg2 := hq.lt
  have HL := Lib.hid hp.len
  have HL2 := Lib.hid hq.len
  by_cases hn : n1 = n2
  · subst hn
    have hne : ((n1 : Int) != (n1 : Int)) = false := by simp
    go_enter Tryz.func105, Tryz.ntmps105
    go_wp2
    go_loopw [5] (fun vi wr => ∃ i : Nat, i ≤ n1 ∧ vi = .int .i64 ((i : Int) - 1) ∧ Below w.heap.size w wr ∧ Hid ((lims a).drop i = (lims b).drop i)) (fun vi _ => (intOf vi + 1).toNat)
    case atStart => exact ⟨n1, Nat.le_refl _, rfl, Below.refl _ _, by rw [List.drop_of_length_le (by rw [HL.out]; omega), List.drop_of_length_le (by rw [HL2.out]; omega)]; rfl⟩
    case round =>
      obtain ⟨i, hi, rfl, hb, HD⟩ := hrel
      by_cases hi0 : i = 0
      · subst hi0
        go_wp2
        go_ret
        exact ⟨ret_int (by rw [pcmp_eq HD.out, cmpI_eq]), hb⟩
      · obtain ⟨j, rfl⟩ : ∃ j, i = j + 1 := ⟨i - 1, by omega⟩
        have ec : ((j + 1 : Nat) : Int) - 1 = (j : Int) := by omega
        rw [ec]
        have hc1 := (hp.below hb hg1).cell j (by omega)
        have hc2 := (hq.below hb hg2).cell j (by omega)
        have hb1 : (j : Int) < (n1 : Int) := by omega
        have HLT := Lib.hid (fun h => pcmp_lt (a := a) (b := b) (i := j) (by rw [HL.out, HL2.out]) (by rw [HL2.out]; omega) HD.out h)
        have HGT := Lib.hid (fun h => pcmp_lt (a := b) (b := a) (i := j) (by rw [HL.out, HL2.out]) (by rw [HL.out]; omega) HD.out.symm h)
        have HEQ := Lib.hid (fun h => drop_step (xs := lims a) (ys := lims b) (i := j) (by rw [HL.out]; omega) (by rw [HL2.out]; omega) HD.out h)
        clear ec
        generalize (lims a).getD j 0 = x at *
        generalize (lims b).getD j 0 = y at *
        rcases Nat.lt_trichotomy x y with h | h | h
        · go_wp2
          go_quiet (fail)
          go_wp2
          go_ret
          exact ⟨ret_int (cmpI_lt (HLT.out h)).symm, bel_drewN hb _⟩
        · subst h
          go_wp2
          go_quiet (fail)
          go_wp2
          go_quiet (fail)
          go_wp2
          refine ⟨⟨j, by omega, rfl, ?_, HEQ.out trivial⟩, by simp [intOf]⟩
          first | exact bel_drewN hb _ | exact bel_drewN (bel_drewN hb _) _
        · have hxy : ¬ x < y := by omega
          go_wp2
          go_quiet (fail)
          go_wp2
          go_quiet (fail)
          go_wp2
          go_ret
          refine ⟨ret_int (cmpI_gt (HGT.out h)).symm, ?_⟩
          first | exact bel_drewN hb _ | exact bel_drewN (bel_drewN hb _) _
  · have hne : ((n1 : Int) != (n2 : Int)) = true := by rw [bne_iff_ne]; omega
    rcases Nat.lt_or_gt_of_ne hn with h | h
    · have HC := Lib.hid (cmpI_lt (pcmp_len (a := a) (b := b) (by rw [HL.out, HL2.out]; exact h)))
      go_enter Tryz.func105, Tryz.ntmps105
      go_wp2
      all_goals go_ret
      all_goals exact ⟨ret_int (by rw [HC.out]), Below.refl _ _⟩
    · have HC := Lib.hid (cmpI_gt (pcmp_len (a := b) (b := a) (by rw [HL.out, HL2.out]; exact h)))
      go_enter Tryz.func105, Tryz.ntmps105
      go_wp2
      all_goals go_ret
      all_goals exact ⟨ret_int (by rw [HC.out]), Below.refl _ _⟩
end
section
open Go.RowKit

/-- k bytes at each end have been exchanged. -/
def RevAt (l : List UInt8) (n k : Nat) (m : List UInt8) : Prop := m.length = n ∧ ∀ t, t < n → m.getD t 0 = if t < k ∨ n ≤ t + k then l.getD (n - 1 - t) 0 else l.getD t 0
theorem RevAt.start (l : List UInt8) : RevAt l l.length 0 l := ⟨rfl, fun t ht => by rw [if_neg (by omega)]⟩
theorem getD_set8 (m : List UInt8) (i t : Nat) (x : UInt8) (hi : i < m.length) : (m.set i x).getD t 0 = if t = i then x else m.getD t 0 := by
  rw [List.getD_eq_getElem?_getD, List.getElem?_set, List.getD_eq_getElem?_getD]
  by_cases h : i = t
  · subst h; rw [if_pos rfl, if_pos hi, if_pos rfl]; rfl
  · rw [if_neg h, if_neg (Ne.symm h)]
theorem RevAt.step {l m : List UInt8} {n k j : Nat} (h : RevAt l n k m) (hj : n = k + j + 1) (hk : k < j) : RevAt l n (k + 1) ((m.set k (m.getD j 0)).set j (m.getD k 0)) := by
  have h1 := h.1
  refine ⟨by simp [h1], fun t ht => ?_⟩
  rw [getD_set8 _ _ _ _ (by simp; omega), getD_set8 _ _ _ _ (by omega), h.2 j (by omega), h.2 k (by omega), h.2 t ht]
  by_cases e1 : t = j
  · subst e1; rw [if_pos rfl, if_neg (by omega), if_pos (by omega), show n - 1 - t = k by omega]
  · rw [if_neg e1]
    by_cases e2 : t = k
    · subst e2; rw [if_pos rfl, if_neg (by omega), if_pos (by omega), show n - 1 - t = j by omega]
    · rw [if_neg e2]
      by_cases e3 : t < k ∨ n ≤ t + k
      · rw [if_pos e3, if_pos (by omega)]
      · rw [if_neg e3, if_neg (by omega)]
theorem RevAt.end_ {l m : List UInt8} {n k : Nat} (h : RevAt l n k m) (hl : l.length = n) (hk : n ≤ k + k + 1) : m = l.reverse := by
  apply List.ext_getElem?
  intro t
  have h1 := h.1
  by_cases ht : t < n
  · have h2 := h.2 t ht
    rw [List.getD_eq_getElem?_getD, List.getElem?_eq_getElem (by omega)] at h2
    rw [List.getElem?_reverse (by omega), List.getElem?_eq_getElem (by omega), List.getElem?_eq_getElem (by omega)]
    have h3 : m[t] = (l.getD (n - 1 - t) 0) := by
      have h2' : m[t] = _ := h2
      rw [h2']
      by_cases e : t < k ∨ n ≤ t + k
      · rw [if_pos e]
      · rw [if_neg e, show n - 1 - t = t by omega]
    rw [h3, List.getD_eq_getElem?_getD, List.getElem?_eq_getElem (by omega)]
    simp [hl]
  · rw [List.getElem?_eq_none (by omega), List.getElem?_eq_none (by simp; omega)]

def RevPost (g n cap : Nat) (l : List UInt8) (w : World) (e : Ending) (w' : World) : Prop := e = .returned (.tuple #[]) ∧ Only g w w' ∧ Bc w' g n cap l.reverse
def RevRel (g n cap : Nat) (l : List UInt8) (k : Nat) (w wr : World) : Prop := Only g w wr ∧ ∃ m, RevAt l n k m ∧ Bc wr g n cap m

/-- slices.Reverse of bytes. -/
theorem rev_any (g n cap : Nat) (l : List UInt8) (w : World) (hp : Bc w g n cap l) :
    Calls Tryz.prog 114 #[.slice (some ⟨g, 0, none⟩) n cap] w (RevPost g n cap l w) := by
  have hcap := hp.cap_le
  have hle := hp.le
  have HL := Lib.hid hp.len
  go_enter Tryz.func114, Tryz.ntmps114
  go_wp2
  go_loopw [2, 3] (fun vi vj wr => ∃ k : Nat, k + k ≤ n + 1 ∧ vi = .int .i64 (k : Int) ∧ vj = .int .i64 ((n : Int) - 1 - (k : Int)) ∧ RevRel g n cap l k w wr) (fun vi _ _ => n - (intOf vi).toNat)
  case atStart => exact ⟨0, by omega, rfl, by congr 1; omega, Only.refl _ _, l, by rw [← HL.out]; exact RevAt.start l, hp⟩
  case round =>
    obtain ⟨k, hk, rfl, rfl, ho, m, hm, hb⟩ := hrel
    by_cases hlt : (k : Int) < (n : Int) - 1 - (k : Int)
    · obtain ⟨j, hj⟩ : ∃ j : Nat, n = k + j + 1 := ⟨n - 1 - k, by omega⟩
      have ej : (n : Int) - 1 - (k : Int) = (j : Int) := by omega
      rw [ej]
      have hkj : k < j := by omega
      have hc1 := hb.cell k (by omega)
      have hc2 := hb.cell j (by omega)
      have hf1 := hb.free k
      have hf2 := hb.free j
      have HS := Lib.hid (hm.step hj hkj)
      have HSet := Lib.hid ((hb.set k (m.getD j 0)).set j (m.getD k 0))
      have hb1 : (k : Int) < (n : Int) := by omega
      have hb2 : (j : Int) < (n : Int) := by omega
      have HJ := Lib.hid hj
      clear hj ej hm hb hlt
      generalize (m.getD k 0).toNat = x at *
      generalize (m.getD j 0).toNat = y at *
      go_wp2
      go_region
      all_goals go_wp2
      have h1 := HJ.out
      refine ⟨⟨k + 1, by omega, by go_num, by congr 1; omega, (((ho.setCell _ _).setCell _ _).drew), _, HS.out, HSet.out.drew⟩, by simp [intOf]; omega⟩
    · have HR := Lib.hid hm
      clear hm
      go_wp2
      go_end0
      refine ⟨rfl, ho, ?_⟩
      rw [← HR.out.end_ HL.out (by omega)]; exact hb
end
section
open Go.RowKit

theorem extract_list (s : ByteArray) (a b : Nat) : (s.extract a b).data.toList = (s.data.toList.take b).drop a := by
  simp; rw [List.drop_take]
theorem extract_size' (s : ByteArray) (a b : Nat) : (s.extract a b).size = min b s.size - a := by simp [ByteArray.size_extract]

theorem all_sub {l : List UInt8} (h : l.all isDig = true) (a b : Nat) : ((l.take b).drop a).all isDig = true := by
  rw [List.all_eq_true] at h ⊢
  exact fun x hx => h x (List.mem_of_mem_take (List.mem_of_mem_drop hx))
theorem val_take_succ (l : List UInt8) (j : Nat) (h : j < l.length) : val (l.take (j + 1)) = 10 * val (l.take j) + ((l.getD j 0).toNat - 48) := by
  rw [List.take_succ_eq_append_getElem h, val_snoc, List.getD_eq_getElem?_getD, List.getElem?_eq_getElem h]; rfl
theorem dig_getD {l : List UInt8} (h : l.all isDig = true) (j : Nat) (hj : j < l.length) : 48 ≤ (l.getD j 0).toNat ∧ (l.getD j 0).toNat ≤ 57 := by
  rw [List.getD_eq_getElem?_getD, List.getElem?_eq_getElem hj]
  exact (isDig_iff _).1 (List.all_eq_true.1 h _ (List.getElem_mem hj))
theorem val_take_le {l : List UInt8} (h : l.all isDig = true) (j : Nat) (hj : j ≤ 8) : val (l.take j) ≤ 99999999 := by
  have h1 := val_lt (l.take j) (by rw [List.all_eq_true] at h ⊢; exact fun x hx => h x (List.mem_of_mem_take hx))
  have h2 : 10 ^ (l.take j).length ≤ 10 ^ 8 := Nat.pow_le_pow_right (by decide) (by rw [List.length_take]; omega)
  have h3 : (10 : Nat) ^ 8 = 100000000 := by decide
  omega
theorem val_lt9 {l : List UInt8} (h : l.all isDig = true) (hj : l.length ≤ 9) : val l < 1000000000 := by
  have h1 := val_lt l h
  have h2 : 10 ^ l.length ≤ 10 ^ 9 := Nat.pow_le_pow_right (by decide) hj
  have h3 : (10 : Nat) ^ 9 = 1000000000 := by decide
  omega
/-- The pieces of what stands behind place e. -/
structure CutAt (l : List UInt8) (e : Nat) (more : Bool) (xs : List Nat) : Prop where
  lims : Lims xs
  sum : lv xs = val (l.drop e)
  len : more = true → l.length = e + 9 * xs.length
theorem CutAt.start (l : List UInt8) : CutAt l l.length true [] := ⟨Lims_nil, by rw [List.drop_length]; rfl, fun _ => by simp⟩
theorem CutAt.step {l : List UInt8} {a b : Nat} {m : Bool} {xs : List Nat} (h : CutAt l b true xs) (hd : l.all isDig = true) (hab : a ≤ b) (hbl : b ≤ l.length) (hm : m = true → b = a + 9) (h9 : b ≤ a + 9) :
    CutAt l a m (xs ++ [val ((l.take b).drop a)]) := by
  have hlen := h.len rfl
  have hl9 : ((l.take b).drop a).length ≤ 9 := by rw [List.length_drop, List.length_take]; omega
  refine ⟨Lims_append.2 ⟨h.lims, fun x hx => ?_⟩, ?_, fun e => ?_⟩
  · rw [List.mem_singleton.1 hx]; exact val_lt9 (all_sub hd a b) hl9
  · have e1 : l.drop a = (l.take b).drop a ++ l.drop b := by
      have : l.drop a = (l.take b ++ l.drop b).drop a := by rw [List.take_append_drop]
      rw [this, List.drop_append, List.length_take, Nat.min_eq_left hbl, show a - b = 0 by omega, List.drop_zero]
    rw [e1, val_append, lv_snoc, h.sum, List.length_drop, show l.length - b = 9 * xs.length by omega, Nat.pow_mul, show (10 : Nat) ^ 9 = 1000000000 by decide, Nat.mul_comm]
    omega
  · rw [List.length_append, List.length_singleton]; have := hm e; omega

set_option maxRecDepth 100000 in
set_option maxHeartbeats 400000 in
/-- decimal.cut: the pieces of digits. -/
theorem cut_any (s : ByteArray) (w : World) (hL : s.size ≤ 1000000000) (hd : s.data.toList.all isDig = true) :
    Calls Tryz.prog 93 #[.string s] w (NewPc (lims (val s.data.toList)) w) := by
  have hmk := make_Pc 135 Tryz.underlying135 0 (s.size / 9 + 1) (by omega) (by omega)
  simp only [Int.natCast_add, Int.natCast_ediv, Int.cast_ofNat_Int] at hmk
  have HM := Lib.hid (Pc.made w 0 (s.size / 9 + 1) (by omega) (by omega))
  have HD := Lib.hid hd
  have HSZ := Lib.hid (show s.data.toList.length = s.size from by rw [Array.length_toList]; rfl)
  clear hd
  go_enter Tryz.func93, Tryz.ntmps93
  go_wp2
  clear hmk
  go_loopw [3, 4] (fun vo ve wr => ∃ (g n cap : Nat) (e : Int), e ≤ s.size ∧ -9 ≤ e ∧ n ≤ s.size ∧ vo = .slice (some ⟨g, 0, none⟩) n cap ∧ ve = .int .i64 e ∧ w.heap.size ≤ g ∧ Below w.heap.size w wr ∧ ∃ xs, Pc wr g n cap xs ∧ Hid (CutAt s.data.toList e.toNat (decide (0 < e)) xs)) (fun _ ve _ => (intOf ve).toNat)
  case atStart =>
    refine ⟨w.heap.size, 0, s.size / 9 + 1, s.size, Int.le_refl _, by omega, by omega, rfl, rfl, Nat.le_refl _, (Below.refl _ _).alloc (Nat.le_refl _) _, [], HM.out, ?_⟩
    have h1 := CutAt.start s.data.toList
    rw [HSZ.out] at h1
    exact ⟨h1.lims, h1.sum, fun _ => h1.len rfl⟩
  case round =>
    obtain ⟨g, n, cap, e, he1, he2, hn, rfl, rfl, hg, hb, xs, hp, HC⟩ := hrel
    obtain ⟨wo, rfl⟩ : ∃ wo : World, wo = wr := ⟨_, rfl⟩
    have hgl := hp.lt
    by_cases hpos : 0 < e
    · have hconv := fun t w => Lib.run_convert_string_bytes (P := Tryz.prog) w 46 121 5 t Tryz.underlying46 Tryz.underlying121 Tryz.underlying5
      have HC' : Hid (CutAt s.data.toList e.toNat true xs) := by have := HC.out; rw [decide_eq_true hpos] at this; exact this
      have HX := Lib.hid hp.len
      clear HC
      by_cases h9 : 9 < e
      · obtain ⟨m, rfl⟩ : ∃ m : Nat, e = m + 9 := ⟨(e - 9).toNat, by omega⟩
        have hm0 : 0 < m := by omega
        have hmin : min (m + 9) s.size = m + 9 := by omega
        have hstep := CutAt.step (a := m) (m := true) HC'.out HD.out (by omega) (by rw [HSZ.out]; omega) (by omega) (by omega)
        rw [show ((m : Int) + 9).toNat = m + 9 by omega] at hstep
        obtain ⟨bs, hbs⟩ : ∃ bs, (s.data.toList.take (m + 9)).drop m = bs := ⟨_, rfl⟩
        have hbl : bs.length = 9 := by rw [← hbs, List.length_drop, List.length_take, HSZ.out]; omega
        have hba : bs.all isDig = true := by rw [← hbs]; exact all_sub HD.out m (m + 9)
        rw [hbs] at hstep
        have HS := Lib.hid hstep
        have hcl : ∀ j, j < 9 → (Lib.bytesWorld wo 5 (s.extract m (m + 9))).cell? ⟨wo.heap.size, j, none⟩ = some (.int .u8 ((bs.getD j 0).toNat : Int)) := by
          intro j hj
          rw [Lib.bytesWorld_cell _ _ _ j (by rw [extract_size', hmin]; omega), extract_list, hbs]
        have hbw := bytes_below wo 5 (s.extract m (m + 9))
        have HBA := Lib.hid hba
        have HBL := Lib.hid hbl
        have HCL := Lib.hid hcl
        have HBW := Lib.hid hbw
        clear hcl hbw hstep hbs hba hbl
        go_wp2
        generalize hW : Lib.bytesWorld wo 5 (s.extract m (m + 9)) = W at *
        have hbW := HBW.out
        have hcW := HCL.out
        have hpW := hp.below hbW hgl
        have hBW := hb.trans (hbW.mono (by have := hb.size; omega))
        clear hW hconv hmin hpos h9
        have HCW := Lib.hid hcW
        clear hcW
        go_loop [5, 27] (fun vn vj => ∃ j : Nat, j ≤ 9 ∧ vj = .int .i64 (j : Int) ∧ vn = .int .u64 ((val (bs.take j) : Nat) : Int)) (fun _ vj => 9 - (intOf vj).toNat)
        case atStart => exact ⟨0, by omega, rfl, rfl⟩
        case round =>
          obtain ⟨j, hj, rfl, rfl⟩ := hrel
          by_cases hj9 : j = 9
          · subst hj9
            have hv := val_take_le HBA.out 8 (by omega)
            have htake : bs.take 9 = bs := List.take_of_length_le (by rw [HBL.out]; omega)
            rw [htake]
            have hone := Pc.one W (val bs)
            have hpW1 := hpW.alloc (.cells #[.int .u64 ((val bs : Nat) : Int)] 84)
            clear htake hv
            generalize val bs = v at *
            go_wp2_with (at_builtin; refine append_Pc rfl _ _ 135 rfl Tryz.underlying135 g n cap xs rfl hpW1 W.heap.size 1 1 [v] rfl hone (by omega) ?_; intro g' cap' w' hq hon hat)
            go_roundw
            case rel =>
              refine ⟨g', n + 1, cap', m, by omega, by omega, ?_, rfl, by go_num, ?_, ?_, _, hq, ?_⟩
              · have h1 := HS.out.len rfl
                have h2 := HX.out
                have h3 := HSZ.out
                rw [List.length_append, List.length_singleton] at h1
                omega
              · have h1 := hBW.size
                have h2 : (W.alloc (.cells #[.int .u64 (v : Int)] 84)).heap.size = W.heap.size + 1 := by simp
                rcases hat with h3 | h3 <;> omega
              · exact bel_only (hBW.alloc (by have := hBW.size; omega) _) hon hg (by have := hBW.size; simp; omega)
              · rw [decide_eq_true (by omega)]; exact HS.out
            case measure => simp [intOf]; omega
          · have hj' : j < 9 := by omega
            have hc := HCW.out j hj'
            have hdg := dig_getD HBA.out j (by rw [HBL.out]; exact hj')
            have hv := val_take_le HBA.out j (by omega)
            have hs := val_take_succ bs j (by rw [HBL.out]; exact hj')
            have HSS := Lib.hid hs
            clear hs
            generalize (bs.getD j 0).toNat = d at *
            generalize hvv : val (bs.take j) = v at *
            clear hvv
            go_wp2
            go_round
            case rel =>
              refine ⟨j + 1, by omega, by go_num, ?_⟩
              rw [HSS.out]
              congr 1; omega
            case measure => simp [intOf]; omega
      · obtain ⟨b, rfl⟩ : ∃ b : Nat, e = b := ⟨e.toNat, by omega⟩
        have hb0 : 0 < b := by omega
        have hb9 : b ≤ 9 := by omega
        have hmin : min b s.size = b := by omega
        have hstep := CutAt.step (a := 0) (m := false) HC'.out HD.out (by omega) (by rw [HSZ.out]; omega) (fun h => by cases h) (by omega)
        rw [show (b : Int).toNat = b by omega] at hstep
        obtain ⟨bs, hbs⟩ : ∃ bs, (s.data.toList.take b).drop 0 = bs := ⟨_, rfl⟩
        have hbl : bs.length = b := by rw [← hbs, List.length_drop, List.length_take, HSZ.out]; omega
        have hba : bs.all isDig = true := by rw [← hbs]; exact all_sub HD.out 0 b
        rw [hbs] at hstep
        have HS := Lib.hid hstep
        have hcl : ∀ j, j < b → (Lib.bytesWorld wo 5 (s.extract 0 b)).cell? ⟨wo.heap.size, j, none⟩ = some (.int .u8 ((bs.getD j 0).toNat : Int)) := by
          intro j hj
          rw [Lib.bytesWorld_cell _ _ _ j (by rw [extract_size', hmin]; omega), extract_list, hbs]
        have hbw := bytes_below wo 5 (s.extract 0 b)
        have HBA := Lib.hid hba
        have HBL := Lib.hid hbl
        have HCL := Lib.hid hcl
        have HBW := Lib.hid hbw
        clear hcl hbw hstep hbs hba hbl
        go_wp2
        generalize hW : Lib.bytesWorld wo 5 (s.extract 0 b) = W at *
        have hbW := HBW.out
        have hcW := HCL.out
        have hpW := hp.below hbW hgl
        have hBW := hb.trans (hbW.mono (by have := hb.size; omega))
        clear hW hconv hmin hpos h9
        have HCW := Lib.hid hcW
        clear hcW
        go_loop [5, 27] (fun vn vj => ∃ j : Nat, j ≤ b ∧ vj = .int .i64 (j : Int) ∧ vn = .int .u64 ((val (bs.take j) : Nat) : Int)) (fun _ vj => b - (intOf vj).toNat)
        case atStart => exact ⟨0, by omega, rfl, rfl⟩
        case round =>
          obtain ⟨j, hj, rfl, rfl⟩ := hrel
          by_cases hj9 : j = b
          · subst hj9
            have htake : bs.take j = bs := List.take_of_length_le (by rw [HBL.out]; omega)
            rw [htake]
            have hone := Pc.one W (val bs)
            have hpW1 := hpW.alloc (.cells #[.int .u64 ((val bs : Nat) : Int)] 84)
            clear htake
            generalize val bs = v at *
            go_wp2_with (at_builtin; refine append_Pc rfl _ _ 135 rfl Tryz.underlying135 g n cap xs rfl hpW1 W.heap.size 1 1 [v] rfl hone (by omega) ?_; intro g' cap' w' hq hon hat)
            go_roundw
            case rel =>
              refine ⟨g', n + 1, cap', (j : Int) - 9, by omega, by omega, ?_, rfl, by go_num, ?_, ?_, _, hq, ?_⟩
              · have h1 := HC'.out.len rfl
                have h2 := HX.out
                have h3 := HSZ.out
                omega
              · have h1 := hBW.size
                have h2 : (W.alloc (.cells #[.int .u64 (v : Int)] 84)).heap.size = W.heap.size + 1 := by simp
                rcases hat with h3 | h3 <;> omega
              · exact bel_only (hBW.alloc (by have := hBW.size; omega) _) hon hg (by have := hBW.size; simp; omega)
              · rw [decide_eq_false (by omega), show ((j : Int) - 9).toNat = 0 by omega]; exact HS.out
            case measure => simp [intOf]; omega
          · have hj' : j < b := by omega
            have hc := HCW.out j hj'
            have hdg := dig_getD HBA.out j (by rw [HBL.out]; exact hj')
            have hv := val_take_le HBA.out j (by omega)
            have hs := val_take_succ bs j (by rw [HBL.out]; exact hj')
            have HSS := Lib.hid hs
            clear hs
            generalize (bs.getD j 0).toNat = d at *
            generalize hvv : val (bs.take j) = v at *
            clear hvv
            go_wp2
            go_round
            case rel =>
              refine ⟨j + 1, by omega, by go_num, ?_⟩
              rw [HSS.out]
              congr 1; omega
            case measure => simp [intOf]; omega
    · have hfin : trimL xs = lims (val s.data.toList) := by
        have h1 := HC.out
        rw [show e.toNat = 0 by omega] at h1
        rw [trimL_eq xs h1.lims, h1.sum, List.drop_zero]
      have HF := Lib.hid hfin
      clear hfin HC
      go_wp2_with (go_at_call 109; refine (trim_any _ _ _ xs _ hp).mono ?_; rintro e w' ⟨rfl, rfl⟩)
      go_ret
      refine ⟨g, cap, ?_, hg, ?_, hb⟩
      · rw [← HF.out]; rfl
      · have h3 := hp.take (trimL xs).length (by rw [trimL_take xs, List.length_take, hp.len]; omega)
        rw [← trimL_take xs] at h3
        rw [← HF.out]; exact h3
end
section
open Go.RowKit

theorem zeroCells_one (k : Nat) : (Builtin.zeroCells #[Value.int .u64 0] k).toList = U (List.replicate k 0) := by
  apply List.ext_getElem?
  intro j
  by_cases hj : j < k
  · simp [Builtin.zeroCells, U, hj, Nat.mod_one]
  · simp [Builtin.zeroCells, U, hj]
theorem run_append_zeros (w : World) (T Tn ty : TypeId) (kn : IntKind) (hT : Tryz.prog.underlying T = some (.slice 84)) (hTn : Tryz.prog.underlying Tn = some (.int kn)) (g n cap : Nat) (xs : List Nat) (hp : Pc w g n cap xs) (kq : IntKind) (k : Nat) (hbd : n + k ≤ 1000000000000) :
    ∃ g' cap' w', (Builtin.append_ #[T, Tn] ty #[.slice (some ⟨g, 0, none⟩) n cap, .int kq (k : Int)]).run Tryz.prog w = .ok (.slice (some ⟨g', 0, none⟩) (n + k) cap') w' ∧ Pc w' g' (n + k) cap' (xs ++ List.replicate k 0) ∧ Only g w w' ∧ (g' = g ∨ g' = w.heap.size) := by
  obtain ⟨i, hi, hz, hsz, hb⟩ := info_parts Tryz.infoPc
  obtain ⟨cur, hh, h1, h2, h3, h4⟩ := hp.form
  have hxl := hp.len
  have hcl : Value.cells (.int .u64 0) = #[Value.int .u64 0] := rfl
  by_cases hroom : n + k ≤ cap
  · have hw : IntKind.i64.wrap (k : Int) = k := by rw [IntKind.wrap_i64]; omega
    have hneg : ¬ ((k : Int) < 0) := by omega
    have h48i : ¬ (281474976710656 < (k : Int) * (i.bytes : Int)) := by rw [hb]; omega
    have hst := run_storeCells_at Tryz.prog g n 84 (U (List.replicate k 0)) 0 cur w hh (by rw [U_len, List.length_replicate]; omega) (U_one' _)
    simp only [Nat.add_zero, U_len, List.length_replicate] at hst
    have hset : Pc (w.setRow g (cur.toList.take n ++ U (List.replicate k 0) ++ cur.toList.drop (n + k)).toArray) g (n + k) cap (xs ++ List.replicate k 0) := by
      refine Pc.mk' (setRow_heap w g cur _ 84 _ hh) hroom h2 ?_ ?_
      · simp only [List.size_toArray, List.length_append, List.length_take, List.length_drop, Array.length_toList, U_len, List.length_replicate]; omega
      · rw [h4, U_append]
        exact List.take_left' (by rw [U_len, List.length_append, List.length_replicate]; omega)
    have hon : Only g w (w.setRow g (cur.toList.take n ++ U (List.replicate k 0) ++ cur.toList.drop (n + k)).toArray) :=
      ⟨rfl, rfl, rfl, by simp, fun j _ hj => setRow_other w g j _ (fun e => hj (by rw [e]))⟩
    by_cases hk : k = 0
    · subst hk
      have hw0 : IntKind.i64.wrap 0 = 0 := by rw [IntKind.wrap_i64]; omega
      refine ⟨g, cap, w, ?_, by simpa using hp, Only.refl _ _, .inl rfl⟩
      simp [Builtin.append_, run_underlying hT, run_underlying hTn, sizeOf, typeInfo, hi, asInt, asIntOf, hw0, h1, storeCells, Addr.add_lit]
    · refine ⟨g, cap, _, ?_, hset, hon, .inl rfl⟩
      have hzc : (Builtin.zeroCells (Value.cells (.int .u64 0)) k).toList = U (List.replicate k 0) := zeroCells_one k
      simp [Builtin.append_, run_underlying hT, run_underlying hTn, sizeOf, typeInfo, zeroValue, hi, hz, hsz, asInt, asIntOf, hw, hneg, hk, h48i, hroom, Addr.add_lit, hst, hzc]
  · have hk : 0 < k := by omega
    have holds : ∀ j u, (U xs)[j]? = some u → w.drew.cell? ((⟨g, 0, none⟩ : Addr).add j) = some u := fun j u hu => by
      have hadd : (⟨g, 0, none⟩ : Addr).add j = ⟨g, j, none⟩ := by unfold Addr.add; split <;> simp_all
      have hj : j < n := by have := (List.getElem?_eq_some_iff.1 hu).1; rw [U_len] at this; omega
      rw [hadd, World.cell?_drew, World.ownsRow.cellAt hp j (by omega), hu]
    have hold := run_firstCells_some (P := Tryz.prog) w.drew i.size n ⟨g, 0, none⟩ n cap (U xs) (by rw [hsz, U_len]; omega) holds
    have hnx := nextslicecap_le (need := n + k) (old := cap) (by omega)
    have hr := Lib.run_append_grow_zeros (P := Tryz.prog) w T Tn ty 84 i _ kq kn hT hTn hi hz (some ⟨g, 0, none⟩) n cap (U xs) hold k hk (by omega) (by omega) (by omega) (by rw [hb]; omega) (by rw [hb]; omega)
    refine ⟨w.heap.size, _, _, hr, ?_, ⟨rfl, rfl, rfl, by simp, fun j hj _ => Below.heap_alloc w.drew _ j hj⟩, .inr rfl⟩
    have hge := grownCap_ge w (n + k) cap 84
    have hcm : grownCap w (n + k) cap 84 ≤ maxLen := grownCap_le_maxLen w (n + k) cap 84 (by unfold maxLen; omega)
    refine Pc.mk' (heap_alloc_new w.drew _) hge hcm ?_ ?_
    · simp only [Array.size_append, List.size_toArray, size_zeroCells, U_len, hcl]
      simp
      omega
    · simp only [Array.toList_append, List.append_assoc]
      rw [hcl, zeroCells_one, ← List.append_assoc, U_append]
      exact List.take_left' (by rw [U_len, List.length_append, List.length_replicate]; omega)

/-- At the list of a plain region's operations. -/
theorem append_zeros {ops : Array Oper} {rest : List Oper} {o : Oper} {a : Act} {w : World} {Q : Exit → Act → World → Prop} (hgd : o.guard = none) (s x : Operand) (T Tn : TypeId) (kn : IntKind)
    (ho : o.op = .call { callee := .builtin .append, args := #[s, x], argTypes := #[T, Tn] }) (hT : Tryz.prog.underlying T = some (.slice 84)) (hTn : Tryz.prog.underlying Tn = some (.int kn))
    (g n cap : Nat) (xs : List Nat) (hs : a.eval s = .slice (some ⟨g, 0, none⟩) n cap) (hp : Pc w g n cap xs) (kq : IntKind) (k : Nat) (hx : a.eval x = .int kq (k : Int)) (hbd : n + k ≤ 1000000000000)
    (h : ∀ g' cap' w', Pc w' g' (n + k) cap' (xs ++ List.replicate k 0) → Only g w w' → (g' = g ∨ g' = w.heap.size) → wpList Tryz.prog ops Q rest (a.put o.dst (.slice (some ⟨g', 0, none⟩) (n + k) cap')) w') :
    wpList Tryz.prog ops Q (o :: rest) a w := by
  obtain ⟨g', cap', w', hr, h2, h3, h4⟩ := run_append_zeros w T Tn o.type kn hT hTn g n cap xs hp kq k hbd
  refine wpList_plain hgd fun _ hK => ?_
  unfold Oper.wp execOp
  simp only [ho, resolve, invoke, builtin, Sem.run_bind, Sem.run_pure, Result.andThen_ok, List.map_toArray, List.map_cons, List.map_nil, hs, hx, hr]
  exact hK _ _ (h g' cap' w' h2 h3 h4)
end
section
/-- The quotient's pieces from k on are in out; a is what is left of N. -/
structure DivAt (N : Nat) (ys : List Nat) (k : Nat) (a out : List Nat) : Prop where
  limA : Lims a
  limO : Lims out
  sum : N = lv (out.drop k) * 1000000000 ^ k * lv ys + lv a
  lt : lv a < lv ys * 1000000000 ^ k

theorem pow_pos9 (k : Nat) : 0 < 1000000000 ^ k := Nat.pow_pos (by decide)

/-- The three greatest pieces of a window of n + 1 pieces at i. -/
theorem top3 {a : List Nat} {i n : Nat} (hn : 2 ≤ n) (hL : Lims a) (hl : i + n < a.length) (hz : lv a < 1000000000 ^ (i + n + 1)) :
    ∃ low, low < 1000000000 ^ (n - 2) ∧ lv (a.drop i) = ((a.getD (i + n) 0 * 1000000000 + a.getD (i + n - 1) 0) * 1000000000 + a.getD (i + n - 2) 0) * 1000000000 ^ (n - 2) + low := by
  refine ⟨lv ((a.drop i).take (n - 2)), ?_, ?_⟩
  · have h := lv_lt ((a.drop i).take (n - 2)) (fun x hx => hL x (List.mem_of_mem_drop (List.mem_of_mem_take hx)))
    rw [List.length_take, List.length_drop, Nat.min_eq_left (by omega)] at h
    exact h
  · have e := lv_append ((a.drop i).take (n - 2)) ((a.drop i).drop (n - 2))
    rw [List.take_append_drop, List.length_take, List.length_drop, Nat.min_eq_left (by omega), List.drop_drop] at e
    rw [e]
    have h0 : lv (a.drop (i + n + 1)) = 0 := by rw [lv_drop a hL _ (by omega), Nat.div_eq_of_lt hz]
    have h1 := lv_drop_pred a (i + n) hl
    have h2 := lv_drop_pred a (i + n - 1) (by omega)
    have h3 := lv_drop_pred a (i + n - 2) (by omega)
    rw [show i + n - 1 + 1 = i + n by omega] at h2
    rw [show i + n - 2 + 1 = i + n - 1 by omega] at h3
    rw [show i + (n - 2) = i + n - 2 by omega, h3, h2, h1, h0, Nat.mul_comm]
    generalize 1000000000 ^ (n - 2) = P
    have e2 : a.getD (i + n - 2) 0 + 1000000000 * (a.getD (i + n - 1) 0 + 1000000000 * (a.getD (i + n) 0 + 1000000000 * 0)) = (a.getD (i + n) 0 * 1000000000 + a.getD (i + n - 1) 0) * 1000000000 + a.getD (i + n - 2) 0 := by omega
    rw [e2]; omega
theorem top2 {ys : List Nat} (hn : 2 ≤ ys.length) (hL : Lims ys) :
    ∃ low, low < 1000000000 ^ (ys.length - 2) ∧ lv ys = (ys.getD (ys.length - 1) 0 * 1000000000 + ys.getD (ys.length - 2) 0) * 1000000000 ^ (ys.length - 2) + low := by
  refine ⟨lv (ys.take (ys.length - 2)), ?_, ?_⟩
  · have h := lv_lt (ys.take (ys.length - 2)) (fun x hx => hL x (List.mem_of_mem_take hx))
    rw [List.length_take, Nat.min_eq_left (by omega)] at h
    exact h
  · have e := lv_append (ys.take (ys.length - 2)) (ys.drop (ys.length - 2))
    rw [List.take_append_drop, List.length_take, Nat.min_eq_left (by omega)] at e
    rw [e]
    have h2 := lv_drop_pred ys (ys.length - 1) (by omega)
    have h3 := lv_drop_pred ys (ys.length - 2) (by omega)
    rw [show ys.length - 1 + 1 = ys.length by omega, List.drop_length] at h2
    rw [show ys.length - 2 + 1 = ys.length - 1 by omega] at h3
    rw [h3, h2, Nat.mul_comm]
    have e2 : ys.getD (ys.length - 2) 0 + 1000000000 * (ys.getD (ys.length - 1) 0 + 1000000000 * lv []) = ys.getD (ys.length - 1) 0 * 1000000000 + ys.getD (ys.length - 2) 0 := by simp only [lv]; omega
    rw [e2]; omega

/-- A guess at one piece of the quotient: high = guess b1 + rest, and it is not too small. A: the window; b: the divisor. -/
structure Guess (A b high b1 g r : Nat) : Prop where
  sum : high = g * b1 + r
  ge : A / b ≤ g
theorem Guess.start {A b high b1 b2 a2 P low blow : Nat} (_hP : 0 < P) (hb1 : 0 < b1) (hA : A = (high * 1000000000 + a2) * P + low) (hlow : low < P) (ha2 : a2 < 1000000000) (hb : b = (b1 * 1000000000 + b2) * P + blow) : Guess A b high b1 (high / b1) (high % b1) := by
  refine ⟨by rw [Nat.mul_comm]; exact (Nat.div_add_mod high b1).symm, ?_⟩
  rw [Nat.le_div_iff_mul_le hb1]
  have h1 : A / b * b ≤ A := Nat.div_mul_le_self A b
  generalize A / b = q at *
  -- q b1 1e9 P ≤ q b ≤ A < (high + 1) 1e9 P
  have h2 : q * b1 * (1000000000 * P) ≤ q * b := by
    rw [hb, Nat.mul_assoc]
    refine Nat.mul_le_mul_left q ?_
    rw [← Nat.mul_assoc, Nat.add_mul]; omega
  have h3 : A < (high + 1) * (1000000000 * P) := by
    have h4 : (high * 1000000000 + a2 + 1) * P ≤ (high * 1000000000 + 1000000000) * P := Nat.mul_le_mul_right P (by omega)
    rw [Nat.add_mul _ 1, Nat.one_mul] at h4
    have h5 : (high + 1) * (1000000000 * P) = (high * 1000000000 + 1000000000) * P := by rw [← Nat.mul_assoc, Nat.add_mul high 1, Nat.one_mul]
    rw [h5, hA]; omega
  have h6 : q * b1 * (1000000000 * P) < (high + 1) * (1000000000 * P) := by omega
  have := Nat.lt_of_mul_lt_mul_right h6
  omega
theorem Guess.less {A b high b1 b2 a2 P low blow g r : Nat} (h : Guess A b high b1 g r) (_hP : 0 < P) (hb0 : 0 < b) (hA : A = (high * 1000000000 + a2) * P + low) (hlow : low < P) (hb : b = (b1 * 1000000000 + b2) * P + blow)
    (hq : A < b * 1000000000) (hc : 1000000000 ≤ g ∨ r * 1000000000 + a2 < g * b2) : 0 < g ∧ Guess A b high b1 (g - 1) (r + b1) := by
  have hlt : A / b < g := by
    rcases hc with hc | hc
    · have : A / b < 1000000000 := Nat.div_lt_of_lt_mul hq
      omega
    · rw [Nat.div_lt_iff_lt_mul hb0]
      have h1 : (high * 1000000000 + a2 + 1) * P ≤ (g * (b1 * 1000000000 + b2)) * P := by
        refine Nat.mul_le_mul_right P ?_
        have := h.sum
        rw [Nat.mul_add, ← Nat.mul_assoc]
        omega
      rw [Nat.add_mul _ 1, Nat.one_mul] at h1
      have h2 : g * b = g * (b1 * 1000000000 + b2) * P + g * blow := by rw [hb, Nat.mul_add, Nat.mul_assoc]
      omega
  have h0 : 0 < g := Nat.lt_of_le_of_lt (Nat.zero_le _) hlt
  refine ⟨h0, ?_, by omega⟩
  have := h.sum
  have e : g * b1 = (g - 1) * b1 + b1 := by
    have : g = (g - 1) + 1 := by omega
    rw [this, Nat.add_mul, Nat.one_mul]; simp
  omega
theorem Guess.stop {A b high b1 b2 a2 P low blow g r : Nat} (h : Guess A b high b1 g r) (hb0 : 0 < b) (hA : A = (high * 1000000000 + a2) * P + low) (hb : b = (b1 * 1000000000 + b2) * P + blow) (hblow : blow < P) (hb2 : b2 < 1000000000)
    (hb1 : 0 < b1) (hg : g < 1000000000) (hc : ¬ (r < 1000000000 ∧ r * 1000000000 + a2 < g * b2)) : g = A / b ∨ g = A / b + 1 := by
  have h1 : g * (b1 * 1000000000 + b2) ≤ high * 1000000000 + a2 := by
    have hs := h.sum
    rw [Nat.mul_add, ← Nat.mul_assoc]
    by_cases hr : r < 1000000000
    · have : ¬ r * 1000000000 + a2 < g * b2 := fun h2 => hc ⟨hr, h2⟩
      omega
    · have h3 : g * b2 ≤ 999999999 * 999999999 := Nat.mul_le_mul (by omega) (by omega)
      omega
  have h2 : g * b ≤ (high * 1000000000 + a2) * P + g * blow := by
    rw [hb, Nat.mul_add, ← Nat.mul_assoc]
    have := Nat.mul_le_mul_right P h1
    omega
  have h3 : g * blow < b := by
    have h4 : g * blow ≤ 1000000000 * blow := Nat.mul_le_mul_right _ (by omega)
    have h5 : 1000000000 * P ≤ b1 * 1000000000 * P := by
      refine Nat.mul_le_mul_right P ?_
      omega
    rw [hb, Nat.add_mul]; omega
  have h6 : g * b < A + b := by omega
  have h7 : g ≤ A / b + 1 := by
    have h8 : (g - 1) * b ≤ A := by
      rcases Nat.eq_zero_or_pos g with h0 | h0
      · subst h0; simp
      · have e : g * b = (g - 1) * b + b := by
          have : g = (g - 1) + 1 := by omega
          rw [this, Nat.add_mul, Nat.one_mul]; simp
        omega
    have := (Nat.le_div_iff_mul_le hb0).2 h8
    omega
  have := h.ge
  omega

/-- One piece of the quotient: what is left is less than the divisor at that place. -/
theorem DivAt.next {N : Nat} {ys : List Nat} {i : Nat} {a a' out : List Nat} (h : DivAt N ys (i + 1) a out) (hi : i < out.length) (hy : 0 < lv ys) (ha' : Lims a')
    (e : lv a' + lv a / (lv ys * 1000000000 ^ i) * (lv ys * 1000000000 ^ i) = lv a) : lv a / (lv ys * 1000000000 ^ i) < 1000000000 ∧ DivAt N ys i a' (out.set i (lv a / (lv ys * 1000000000 ^ i))) := by
  have hM : 0 < lv ys * 1000000000 ^ i := Nat.mul_pos hy (pow_pos9 i)
  have hq : lv a / (lv ys * 1000000000 ^ i) < 1000000000 := by
    rw [Nat.div_lt_iff_lt_mul hM]
    have := h.lt
    rw [pow_step] at this
    rw [show 1000000000 * (lv ys * 1000000000 ^ i) = lv ys * (1000000000 * 1000000000 ^ i) by rw [← Nat.mul_assoc, ← Nat.mul_assoc, Nat.mul_comm 1000000000]]
    exact this
  refine ⟨hq, ha', Lims_set h.limO _ _ hq, ?_, ?_⟩
  · have hs := h.sum
    rw [lv_drop_pred _ i (by simpa using hi), getD_set_same _ _ _ hi, drop_set_succ]
    generalize lv a / (lv ys * 1000000000 ^ i) = q at *
    generalize lv (out.drop (i + 1)) = Z at *
    rw [hs, ← e, pow_step, Nat.add_mul, Nat.add_mul]
    have e1 : Z * (1000000000 * 1000000000 ^ i) * lv ys = 1000000000 * Z * 1000000000 ^ i * lv ys := by rw [← Nat.mul_assoc, Nat.mul_comm Z]
    have e2 : q * (lv ys * 1000000000 ^ i) = q * 1000000000 ^ i * lv ys := by rw [Nat.mul_comm (lv ys), Nat.mul_assoc]
    rw [e1, e2]; omega
  · have h1 : lv a' = lv a % (lv ys * 1000000000 ^ i) := by
      have := Nat.div_add_mod (lv a) (lv ys * 1000000000 ^ i)
      rw [Nat.mul_comm] at this
      omega
    rw [h1]; exact Nat.mod_lt _ hM
theorem DivAt.fin {N : Nat} {ys a out : List Nat} (h : DivAt N ys 0 a out) : lv out = N / lv ys ∧ lv a = N % lv ys := by
  have hs := h.sum
  have hl := h.lt
  rw [List.drop_zero, Nat.pow_zero, Nat.mul_one] at hs
  rw [Nat.pow_zero, Nat.mul_one] at hl
  have hy : 0 < lv ys := by omega
  constructor
  · rw [hs, Nat.mul_comm, Nat.mul_add_div hy, Nat.div_eq_of_lt hl, Nat.add_zero]
  · rw [hs, Nat.mul_comm, Nat.mul_add_mod, Nat.mod_eq_of_lt hl]

/-- The window's quotient is the whole's. -/
theorem win_div {a : List Nat} {i b : Nat} (hL : Lims a) (hi : i ≤ a.length) : lv (a.drop i) / b = lv a / (b * 1000000000 ^ i) := by
  rw [lv_drop a hL i hi, Nat.div_div_eq_div_mul, Nat.mul_comm]

/-- What take leaves, if the guess was right. -/
theorem take_right {a ys zs : List Nat} {i m bo : Nat} (hz : Lims zs) (_hlen : zs.length = a.length) (hl : i + ys.length < a.length) (hlt : lv a < lv ys * 1000000000 ^ (i + 1)) (hyl : lv ys < 1000000000 ^ ys.length)
    (hd : zs.drop (i + ys.length + 1) = a.drop (i + ys.length + 1)) (hm : m = lv a / (lv ys * 1000000000 ^ i)) (hbo : bo ≤ 1) (hL : Lims a)
    (h : lv (zs.take (i + ys.length + 1)) + m * lv ys * 1000000000 ^ i = lv (a.take (i + ys.length + 1)) + bo * 1000000000 ^ (i + ys.length + 1)) : bo = 0 ∧ lv zs + m * (lv ys * 1000000000 ^ i) = lv a := by
  have hA : lv a < 1000000000 ^ (i + ys.length + 1) := by
    have : lv ys * 1000000000 ^ (i + 1) ≤ 1000000000 ^ ys.length * 1000000000 ^ (i + 1) := Nat.mul_le_mul_right _ (by omega)
    rw [← Nat.pow_add, show ys.length + (i + 1) = i + ys.length + 1 by omega] at this
    omega
  have h0 : lv (a.drop (i + ys.length + 1)) = 0 := by rw [lv_drop a hL _ (by omega), Nat.div_eq_of_lt hA]
  have ea := lv_append (a.take (i + ys.length + 1)) (a.drop (i + ys.length + 1))
  have ez := lv_append (zs.take (i + ys.length + 1)) (zs.drop (i + ys.length + 1))
  rw [List.take_append_drop, h0] at ea
  rw [List.take_append_drop, hd, h0] at ez
  have hzt := lv_lt (zs.take (i + ys.length + 1)) (fun x hx => hz x (List.mem_of_mem_take hx))
  rw [List.length_take, Nat.min_eq_left (by omega)] at hzt
  rw [Nat.mul_assoc] at h
  have hmle : m * (lv ys * 1000000000 ^ i) ≤ lv a := by rw [hm]; exact Nat.div_mul_le_self _ _
  simp only [Nat.mul_zero, Nat.add_zero] at ea ez
  generalize m * (lv ys * 1000000000 ^ i) = X at *
  have hbo0 : bo = 0 := by
    rcases Nat.eq_zero_or_pos bo with hb | hb
    · exact hb
    · have : bo = 1 := by omega
      subst this
      omega
  subst hbo0
  exact ⟨rfl, by omega⟩
/-- If the guess was too great by one, take says so. -/
theorem take_bo {a ys zs : List Nat} {i m bo : Nat} (hl : i + ys.length < a.length) (hlt : lv a < lv ys * 1000000000 ^ (i + 1)) (hyl : lv ys < 1000000000 ^ ys.length)
    (hm : m = lv a / (lv ys * 1000000000 ^ i) + 1) (hbo : bo ≤ 1) (hL : Lims a) (hy : 0 < lv ys)
    (h : lv (zs.take (i + ys.length + 1)) + m * lv ys * 1000000000 ^ i = lv (a.take (i + ys.length + 1)) + bo * 1000000000 ^ (i + ys.length + 1)) : bo = 1 := by
  have hA : lv a < 1000000000 ^ (i + ys.length + 1) := by
    have : lv ys * 1000000000 ^ (i + 1) ≤ 1000000000 ^ ys.length * 1000000000 ^ (i + 1) := Nat.mul_le_mul_right _ (by omega)
    rw [← Nat.pow_add, show ys.length + (i + 1) = i + ys.length + 1 by omega] at this
    omega
  have h0 : lv (a.drop (i + ys.length + 1)) = 0 := by rw [lv_drop a hL _ (by omega), Nat.div_eq_of_lt hA]
  have ea := lv_append (a.take (i + ys.length + 1)) (a.drop (i + ys.length + 1))
  rw [List.take_append_drop, h0] at ea
  rw [Nat.mul_assoc] at h
  have hM : 0 < lv ys * 1000000000 ^ i := Nat.mul_pos hy (pow_pos9 i)
  have hdm := Nat.div_add_mod (lv a) (lv ys * 1000000000 ^ i)
  have hml := Nat.mod_lt (lv a) hM
  rw [Nat.mul_comm] at hdm
  have e1 : m * (lv ys * 1000000000 ^ i) = lv a / (lv ys * 1000000000 ^ i) * (lv ys * 1000000000 ^ i) + lv ys * 1000000000 ^ i := by rw [hm, Nat.add_mul, Nat.one_mul]
  simp only [Nat.mul_zero, Nat.add_zero] at ea
  rw [e1] at h
  generalize lv a / (lv ys * 1000000000 ^ i) * (lv ys * 1000000000 ^ i) = X at *
  generalize lv ys * 1000000000 ^ i = Y at *
  generalize lv a % Y = Z at *
  rcases Nat.eq_zero_or_pos bo with hb0 | hb0
  · subst hb0; omega
  · omega
/-- What take leaves, if the guess was too great by one; and what back makes of it. -/
theorem take_over {a ys zs us : List Nat} {i m bo c : Nat} (hz : Lims zs) (hu : Lims us) (_hlen : zs.length = a.length) (hlenu : us.length = a.length) (hl : i + ys.length < a.length) (hlt : lv a < lv ys * 1000000000 ^ (i + 1)) (hyl : lv ys < 1000000000 ^ ys.length)
    (hd : zs.drop (i + ys.length + 1) = a.drop (i + ys.length + 1)) (hdu : us.drop (i + ys.length + 1) = zs.drop (i + ys.length + 1)) (hm : m = lv a / (lv ys * 1000000000 ^ i) + 1) (hbo : bo ≤ 1) (hL : Lims a) (hy : 0 < lv ys)
    (h : lv (zs.take (i + ys.length + 1)) + m * lv ys * 1000000000 ^ i = lv (a.take (i + ys.length + 1)) + bo * 1000000000 ^ (i + ys.length + 1)) (hc : c ≤ 1)
    (hb : lv (us.take (i + ys.length + 1)) + c * 1000000000 ^ (i + ys.length + 1) = lv (zs.take (i + ys.length + 1)) + lv ys * 1000000000 ^ i) :
    lv us + (m - 1) * (lv ys * 1000000000 ^ i) = lv a := by
  have hA : lv a < 1000000000 ^ (i + ys.length + 1) := by
    have : lv ys * 1000000000 ^ (i + 1) ≤ 1000000000 ^ ys.length * 1000000000 ^ (i + 1) := Nat.mul_le_mul_right _ (by omega)
    rw [← Nat.pow_add, show ys.length + (i + 1) = i + ys.length + 1 by omega] at this
    omega
  have h0 : lv (a.drop (i + ys.length + 1)) = 0 := by rw [lv_drop a hL _ (by omega), Nat.div_eq_of_lt hA]
  have ea := lv_append (a.take (i + ys.length + 1)) (a.drop (i + ys.length + 1))
  have eu := lv_append (us.take (i + ys.length + 1)) (us.drop (i + ys.length + 1))
  rw [List.take_append_drop, h0] at ea
  rw [List.take_append_drop, hdu, hd, h0] at eu
  have hut := lv_lt (us.take (i + ys.length + 1)) (fun x hx => hu x (List.mem_of_mem_take hx))
  have hzt := lv_lt (zs.take (i + ys.length + 1)) (fun x hx => hz x (List.mem_of_mem_take hx))
  rw [List.length_take, Nat.min_eq_left (by omega)] at hut hzt
  rw [Nat.mul_assoc] at h
  have hM : 0 < lv ys * 1000000000 ^ i := Nat.mul_pos hy (pow_pos9 i)
  have hdm := Nat.div_add_mod (lv a) (lv ys * 1000000000 ^ i)
  have hml := Nat.mod_lt (lv a) hM
  rw [Nat.mul_comm] at hdm
  have e1 : m * (lv ys * 1000000000 ^ i) = lv a / (lv ys * 1000000000 ^ i) * (lv ys * 1000000000 ^ i) + lv ys * 1000000000 ^ i := by rw [hm, Nat.add_mul, Nat.one_mul]
  have e2 : (m - 1) * (lv ys * 1000000000 ^ i) = lv a / (lv ys * 1000000000 ^ i) * (lv ys * 1000000000 ^ i) := by rw [hm, Nat.add_sub_cancel]
  simp only [Nat.mul_zero, Nat.add_zero] at ea eu
  rw [e2]
  rw [e1] at h
  generalize lv a / (lv ys * 1000000000 ^ i) * (lv ys * 1000000000 ^ i) = X at *
  generalize lv ys * 1000000000 ^ i = Y at *
  generalize lv a % Y = Z at *
  have hbo1 : bo = 1 := by
    rcases Nat.eq_zero_or_pos bo with hb0 | hb0
    · subst hb0; omega
    · omega
  subst hbo1
  have hc1 : c = 1 := by
    rcases Nat.eq_zero_or_pos c with hc0 | hc0
    · subst hc0; omega
    · omega
  subst hc1
  omega
end
section
open Go.RowKit
theorem NewPc.base {r : List Nat} {w W w' : World} {e : Ending} (h : NewPc r W e w') (hb : Below w.heap.size w W) : NewPc r w e w' := by
  obtain ⟨g, cap, he, hg, hp, hB⟩ := h
  exact ⟨g, cap, he, Nat.le_trans hb.size hg, hp, hb.trans (hB.mono hb.size)⟩
theorem lims_one (m : Nat) (hm : m < 1000000000) : trimL [m] = lims m := by rw [trimL_eq [m] (by intro x hx; rw [List.mem_singleton.1 hx]; exact hm), lv_one]
/-- (decimal.pieces).scaled: times a small number. -/
theorem scaled_any (g n cap : Nat) (xs : List Nat) (m : Nat) (w : World) (hp : Pc w g n cap xs) (hx : Lims xs) (hm : m < 1000000000) (hn : n ≤ 100000000) :
    Calls Tryz.prog 123 #[.slice (some ⟨g, 0, none⟩) n cap, .int .u64 (m : Int)] w (NewPc (lims (lv xs * m)) w) := by
  have hone := Pc.one w m
  have hal := hp.alloc (.cells #[.int .u64 (m : Int)] 84)
  have HT := Lib.hid (hone.take (trimL [m]).length (by rw [lims_one m hm]; exact (lims_len_le m 1).2 (by omega)))
  have hlen : (trimL [m]).length ≤ 1 := by rw [lims_one m hm]; exact (lims_len_le m 1).2 (by omega)
  have HLM := Lib.hid (lims_one m hm)
  go_enter Tryz.func123, Tryz.ntmps123
  go_wp2_with fail
  refine (trim_any _ _ _ [m] _ hone).mono ?_
  rintro e w' ⟨rfl, rfl⟩
  have hT := HT.out
  rw [← trimL_take] at hT
  go_wp2_with fail
  refine (times_any _ _ _ xs _ _ _ (trimL [m]) _ hal hT hx (by rw [HLM.out]; exact Lims_lims m) (by omega)).mono ?_
  rintro e w' ⟨g2, cap2, rfl, hg2, hp2, hb2⟩
  rw [HLM.out, lv_lims] at hp2 ⊢
  go_wp2
  go_ret
  refine NewPc.base (W := w.alloc (.cells #[.int .u64 (m : Int)] 84)) ⟨g2, cap2, rfl, hg2, hp2, hb2⟩ ((Below.refl _ _).alloc (Nat.le_refl _) _)
end
section
open Go.RowKit
/-- What divide leaves: the pieces of quotient and rest. -/
def DivPost (q r : Nat) (w : World) (e : Ending) (w' : World) : Prop :=
  ∃ g cap g' cap', e = .returned (.tuple #[.slice (some ⟨g, 0, none⟩) (lims q).length cap, .slice (some ⟨g', 0, none⟩) (lims r).length cap']) ∧ Pc w' g (lims q).length cap (lims q) ∧ Pc w' g' (lims r).length cap' (lims r) ∧ Below w.heap.size w w' ∧ w.heap.size ≤ g ∧ w.heap.size ≤ g'
/-- What holds at the beginning of a round of the division. -/
def DivRel (N : Nat) (ys : List Nat) (ga La capa gb nb capb go_ m k : Nat) (w wr : World) : Prop :=
  Below w.heap.size w wr ∧ Pc wr gb nb capb ys ∧ ∃ av ov, DivAt N ys k av ov ∧ Pc wr ga La capa av ∧ Pc wr go_ m m ov
/-- What holds in the search for a guess: a world that only drew. -/
def GueRel (A b high y1 g r : Nat) (w wr : World) : Prop := Guess A b high y1 g r ∧ ∃ n, wr = w.drewN n

theorem div_norm {a b f : Nat} (hf : 0 < f) : a * f / (b * f) = a / b ∧ a * f % (b * f) / f = a % b := by
  refine ⟨Nat.mul_div_mul_right a b hf, ?_⟩
  rw [Nat.mul_mod_mul_right, Nat.mul_div_cancel _ hf]
theorem lims_mul_len {a f : Nat} (hf : 0 < f) (hf' : f < 1000000000) : (lims a).length ≤ (lims (a * f)).length ∧ (lims (a * f)).length ≤ (lims a).length + 1 := by
  refine ⟨lims_len_mono (Nat.le_mul_of_pos_right a hf), ?_⟩
  rw [lims_len_le, Nat.pow_succ]
  have h1 := (lims_len_le a (lims a).length).1 (Nat.le_refl _)
  have h2 := Nat.mul_le_mul_left a (Nat.le_of_lt hf')
  have h3 := Nat.mul_lt_mul_of_pos_right h1 (show 0 < 1000000000 by decide)
  omega

set_option maxRecDepth 100000 in
set_option maxHeartbeats 2000000 in
theorem divide_any (g1 n1 cap1 g2 n2 cap2 a b : Nat) (w : World) (hp : Pc w g1 n1 cap1 (lims a)) (hq : Pc w g2 n2 cap2 (lims b)) (h2 : 2 ≤ n2) (h12 : n2 ≤ n1) (hn : n1 ≤ 10000000) :
    Calls Tryz.prog 107 #[.slice (some ⟨g1, 0, none⟩) n1 cap1, .slice (some ⟨g2, 0, none⟩) n2 cap2] w (DivPost (a / b) (a % b) w) := by
  have hcap := hp.cap_le
  have hle := hp.le
  have hle2 := hq.le
  have hcap2 := hq.cap_le
  have hg1 := hp.lt
  have hg2 := hq.lt
  have HL := Lib.hid hp.len
  have HL2 := Lib.hid hq.len
  have hb0 : b ≠ 0 := by intro e; have := HL2.out; rw [e, lims_zero] at this; simp at this; omega
  have hc := hq.cell (n2 - 1) (by omega)
  have hy := Lims_getD (Lims_lims b) (n2 - 1)
  have hy0 : 0 < (lims b).getD (n2 - 1) 0 := by
    obtain ⟨m, y, e, hy0, _, _⟩ := lims_last b hb0
    have hl : m.length = n2 - 1 := by have := HL2.out; rw [e] at this; simp at this; omega
    rw [e, List.getD_eq_getElem?_getD, ← hl]; simp; omega
  have HB0 := Lib.hid hb0
  clear hb0
  generalize (lims b).getD (n2 - 1) 0 = y at *
  obtain ⟨f, hf⟩ : ∃ f : Nat, 1000000000 / ((y : Int) + 1) = (f : Int) := ⟨1000000000 / (y + 1), by simp⟩
  have hfN : f = 1000000000 / (y + 1) := by have : ((1000000000 / (y + 1) : Nat) : Int) = (f : Int) := by rw [← hf]; simp
                                            omega
  have hf1 : 0 < f := by rw [hfN]; exact Nat.div_pos (by omega) (by omega)
  have hf2 : f ≤ 500000000 := by rw [hfN]; exact Nat.le_trans (Nat.div_le_div_left (show 2 ≤ y + 1 by omega) (by decide)) (by decide)
  have HFN := Lib.hid hfN
  clear hfN
  go_enter Tryz.func107, Tryz.ntmps107
  have HF := Lib.hid hf
  clear hf
  go_wp2_with fail
  rw [HF.out]
  clear hc
  refine (scaled_any _ _ _ (lims a) f _ hp (Lims_lims a) (by omega) (by omega)).mono ?_
  rintro e w1 ⟨ga0, capa0, rfl, hga0, hpa0, hb1⟩
  rw [lv_lims] at hpa0 ⊢
  have hla := lims_mul_len (a := a) hf1 (by omega)
  rw [HL.out] at hla
  generalize hna : (lims (a * f)).length = na at *
  have HNA := Lib.hid hna
  clear hna
  have hone := Pc.one w1 0
  have hal := hpa0.alloc (.cells #[.int .u64 (0 : Int)] 84)
  go_wp2_with (at_builtin; refine append_Pc rfl _ _ 135 rfl Tryz.underlying135 ga0 na capa0 (lims (a * f)) rfl hal w1.heap.size 1 1 [0] rfl hone (by omega) ?_; intro ga capa w2 hpa hon2 hat2)
  have hb1s := hb1.size
  have hga : w.heap.size ≤ ga := by
    have h2 : (w1.alloc (.cells #[.int .u64 (0 : Int)] 84)).heap.size = w1.heap.size + 1 := by simp
    rcases hat2 with h3 | h3 <;> omega
  have hb2 : Below w.heap.size w w2 := bel_only (hb1.alloc hb1s _) hon2 hga0 (by simp; omega)
  clear hon2 hat2 hal hone hpa0 hb1 hb1s
  refine (scaled_any _ _ _ (lims b) f _ (hq.below hb2 hg2) (Lims_lims b) (by omega) (by omega)).mono ?_
  rintro e w3 ⟨gb, capb, rfl, hgb, hpb, hb3⟩
  rw [lv_lims] at hpb ⊢
  have hlb := lims_mul_len (a := b) hf1 (by omega)
  rw [HL2.out] at hlb
  generalize hnb : (lims (b * f)).length = nb at *
  have HNB := Lib.hid hnb
  clear hnb
  have hpa3 := hpa.below hb3 hpa.lt
  have hw2 := hb2.size
  have hB3 : Below w.heap.size w w3 := hb2.trans (hb3.mono hw2)
  have hgbne : gb ≠ ga := by have := hpa.lt; omega
  have hgab : ga < w3.heap.size := hpa3.lt
  have hgbb : gb < w3.heap.size := hpb.lt
  have hgbw : w.heap.size ≤ gb := by omega
  have hacap := hpa3.cap_le
  have hale := hpa3.le
  have hbcap := hpb.cap_le
  have hble := hpb.le
  clear hpa hb3 hw2 hb2
  go_wp2_with fail
  -- the loop that appends zeros: no round
  refine wp_loop_rounds 1 ?_
  rw [rounds_succ]
  obtain ⟨m, hm⟩ : ∃ m : Nat, na + 1 = nb + m := ⟨na + 1 - nb, by omega⟩
  have hm1 : (na : Int) + 1 - (nb : Int) = (m : Int) := by omega
  have hmk := make_Pc 135 Tryz.underlying135 m m (Nat.le_refl _) (by omega)
  have HM := Lib.hid (Pc.made w3 m m (Nat.le_refl _) (by omega))
  have HMN := Lib.hid hm
  clear hm
  go_wp2_with fail
  clear hmk hm1
  -- the main loop
  have hLy := Lims_lims (b * f)
  have hLx : Lims (lims (a * f) ++ [0]) := Lims_append.2 ⟨Lims_lims _, by intro x hx; rw [List.mem_singleton.1 hx]; omega⟩
  have hvy : 0 < lv (lims (b * f)) := by rw [lv_lims]; exact Nat.mul_pos (Nat.pos_of_ne_zero HB0.out) hf1
  have hNx : lv (lims (a * f) ++ [0]) = a * f := by rw [lv_snoc, lv_lims]; simp
  have hstart : DivAt (a * f) (lims (b * f)) m (lims (a * f) ++ [0]) (List.replicate m 0) := by
    refine ⟨hLx, fun x hx => by rw [List.eq_of_mem_replicate hx]; omega, ?_, ?_⟩
    · rw [List.drop_of_length_le (by simp), hNx]; simp [lv]
    · rw [hNx, lv_lims]
      have h1 := (lims_len_le (a * f) na).1 (by rw [HNA.out]; exact Nat.le_refl _)
      have h2 := pow_le_lims (b * f) (by rw [lv_lims] at hvy; omega)
      rw [HNB.out] at h2
      have h3 : 1000000000 ^ (nb - 1) * 1000000000 ^ m ≤ b * f * 1000000000 ^ m := Nat.mul_le_mul_right _ h2
      rw [← Nat.pow_add, show nb - 1 + m = na by have := HMN.out; omega] at h3
      omega
  have HST := Lib.hid hstart
  have HVY := Lib.hid hvy
  have HLY := Lib.hid hLy
  clear hstart hvy hNx hLx hLy
  generalize hys : lims (b * f) = ys at *
  have HYS := Lib.hid hys
  clear hys
  go_loopw [11] (fun vi wr => ∃ k : Nat, k ≤ m ∧ vi = .int .i64 ((k : Int) - 1) ∧ DivRel (a * f) ys ga (na + 1) capa gb nb capb w3.heap.size m k w wr) (fun vi _ => (intOf vi + 1).toNat)
  case atStart => exact ⟨m, Nat.le_refl _, rfl, hB3.alloc hB3.size _, hpb.alloc _, _, _, HST.out, hpa3.alloc _, HM.out⟩
  case round =>
    clear hpa3 hpb hp hq
    obtain ⟨k, hk, rfl, hB, hPb, av, ov, hD, hPa, hPo⟩ := hrel
    obtain ⟨wo, rfl⟩ : ∃ wo : World, wo = wr := ⟨_, rfl⟩
    have hBs := hB.size
    by_cases hk0 : k = 0
    · subst hk0
      have hfin := hD.fin
      rw [← HYS.out, lv_lims] at hfin
      have hnrm := div_norm (a := a) (b := b) hf1
      have hT1 : trimL ov = lims (a / b) := by rw [trimL_eq ov hD.limO, hfin.1, hnrm.1]
      have hT2 : lv (trimL av) / f = a % b := by rw [trimL_eq av hD.limA, lv_lims, hfin.2, hnrm.2]
      have hT3 : Lims (trimL av) := by rw [trimL_eq av hD.limA]; exact Lims_lims _
      have H1 := Lib.hid hT1
      have H2 := Lib.hid hT2
      have hpt := hPa.take (trimL av).length (by rw [trimL_take av, List.length_take, hPa.len]; omega)
      rw [← trimL_take av] at hpt
      have htl : (trimL av).length ≤ na + 1 := by rw [trimL_take av, List.length_take, hPa.len]; omega
      clear hD hfin hnrm hT1 hT2
      go_wp2_with fail
      refine (trim_any _ _ _ av _ hPa).mono ?_
      rintro e w' ⟨rfl, rfl⟩
      go_wp2_with fail
      refine (small_any _ _ _ (trimL av) f _ hpt hT3 (by omega) hf1 (by omega)).mono ?_
      rintro e w4 ⟨gr, capr, rfl, hgr, hpr, hb4⟩
      rw [H2.out] at hpr ⊢
      have hPo4 := hPo.below hb4 hPo.lt
      go_wp2_with fail
      refine (trim_any _ _ _ ov _ hPo4).mono ?_
      rintro e w' ⟨rfl, rfl⟩
      go_wp2
      go_ret2
      refine ⟨w3.heap.size, m, gr, capr, ?_, ?_, hpr, hB.trans (hb4.mono hBs), hB3.size, by omega⟩
      · rw [← H1.out]; rfl
      · have h3 := hPo4.take (trimL ov).length (by rw [trimL_take ov, List.length_take, hPo4.len]; omega)
        rw [← trimL_take ov] at h3
        rw [← H1.out]; exact h3
    · obtain ⟨j, rfl⟩ : ∃ j, k = j + 1 := ⟨k - 1, by omega⟩
      have ec : ((j + 1 : Nat) : Int) - 1 = (j : Int) := by omega
      rw [ec]
      clear ec hk0
      have hnbl := hPb.len
      have hnal := hPa.len
      have hmn := HMN.out
      have hnb2 : 2 ≤ nb := by omega
      -- the pieces that are read
      have hc1 := hPa.cell (j + nb) (by omega)
      have hc2 := hPa.cell (j + nb - 1) (by omega)
      have hc3 := hPa.cell (j + nb - 2) (by omega)
      have hc4 := hPb.cell (nb - 1) (by omega)
      have hc5 := hPb.cell (nb - 2) (by omega)
      have hx1 := Lims_getD hD.limA (j + nb)
      have hx2 := Lims_getD hD.limA (j + nb - 1)
      have hx3 := Lims_getD hD.limA (j + nb - 2)
      have hy1 := Lims_getD HLY.out (nb - 1)
      have hy2 := Lims_getD HLY.out (nb - 2)
      have hltA : lv av < 1000000000 ^ (j + nb + 1) := by
        have h1 := hD.lt
        have h2 := lv_lt ys HLY.out
        rw [hnbl] at h2
        have h3 : lv ys * 1000000000 ^ (j + 1) ≤ 1000000000 ^ nb * 1000000000 ^ (j + 1) := Nat.mul_le_mul_right _ (by omega)
        rw [← Nat.pow_add, show nb + (j + 1) = j + nb + 1 by omega] at h3
        omega
      obtain ⟨low, hlow, htop⟩ := top3 (a := av) (i := j) (n := nb) hnb2 hD.limA (by omega) hltA
      obtain ⟨blow, hblow, hbtop⟩ := top2 (ys := ys) (by omega) HLY.out
      rw [hnbl] at hblow hbtop
      have hy1p : 0 < ys.getD (nb - 1) 0 := by
        obtain ⟨mm, yy, e, hyy0, _, _⟩ := lims_last (b * f) (by intro e; have h5 := HYS.out; rw [e, lims_zero] at h5; rw [← h5] at hnbl; simp at hnbl; omega)
        rw [HYS.out] at e
        have hl : mm.length = nb - 1 := by have := hnbl; rw [e] at this; simp at this; omega
        rw [e, List.getD_eq_getElem?_getD, ← hl]; simp; omega
      have hwin := win_div (a := av) (i := j) (b := lv ys) hD.limA (by omega)
      have hA9 : lv (av.drop j) < lv ys * 1000000000 := by
        have h1 := hD.lt
        rw [lv_drop av hD.limA j (by omega), Nat.div_lt_iff_lt_mul (pow_pos9 j)]
        rw [pow_step, ← Nat.mul_assoc] at h1
        exact h1
      generalize av.getD (j + nb) 0 = x1 at *
      generalize av.getD (j + nb - 1) 0 = x2 at *
      generalize av.getD (j + nb - 2) 0 = x3 at *
      generalize ys.getD (nb - 1) 0 = y1 at *
      generalize ys.getD (nb - 2) 0 = y2 at *
      have HTOP := Lib.hid htop
      have HBT := Lib.hid hbtop
      have HLOW := Lib.hid hlow
      have HBL := Lib.hid hblow
      have HWIN := Lib.hid hwin
      have HA9 := Lib.hid hA9
      have HD := Lib.hid hD
      have HNBL := Lib.hid hnbl
      have HNAL := Lib.hid hnal
      have hPP : 0 < 1000000000 ^ (nb - 2) := pow_pos9 _
      have HPP := Lib.hid hPP
      clear htop hbtop hlow hblow hwin hA9 hD hltA hnbl hnal hmn hPP
      have hi1 : (j : Int) + (nb : Int) < (na : Int) + 1 := by have := HMN.out; omega
      have hi2 : (0 : Int) ≤ (j : Int) + (nb : Int) - 2 := by omega
      have hi3 : (0 : Int) ≤ (nb : Int) - 2 := by omega
      go_wp2
      go_quiet (fail)
      go_wp2
      go_quiet (fail)
      go_wp2
      have hstart := Guess.start (A := lv (av.drop j)) (b := lv ys) (b2 := y2) HPP.out hy1p HTOP.out HLOW.out hx3 HBT.out
      have HS0 := Lib.hid hstart
      clear hstart
      have hhigh : ((x1 : Int) * 1000000000 + (x2 : Int)) / (y1 : Int) = (((x1 * 1000000000 + x2) / y1 : Nat) : Int) := by simp
      have hrest : ((x1 : Int) * 1000000000 + (x2 : Int)) % (y1 : Int) = (((x1 * 1000000000 + x2) % y1 : Nat) : Int) := by simp
      rw [hhigh, hrest]
      clear hhigh hrest
      have hh1 : x1 * 1000000000 + x2 ≤ 999999999999999999 := by omega
      obtain ⟨high, hhi⟩ : ∃ high, x1 * 1000000000 + x2 = high := ⟨_, rfl⟩
      rw [hhi] at HS0 HTOP hh1 ⊢
      obtain ⟨g0, hg0⟩ : ∃ g0, high / y1 = g0 := ⟨_, rfl⟩
      obtain ⟨r0, hr0⟩ : ∃ r0, high % y1 = r0 := ⟨_, rfl⟩
      rw [hg0, hr0] at HS0 ⊢
      clear hhi hg0 hr0 hc1 hc2
      go_loopw [13, 14] (fun vg vr wr => ∃ g r : Nat, vg = .int .u64 (g : Int) ∧ vr = .int .u64 (r : Int) ∧ GueRel (lv (av.drop j)) (lv ys) high y1 g r wo wr) (fun vg _ _ => (intOf vg).toNat)
      case atStart => exact ⟨g0, r0, rfl, rfl, HS0.out, _, by first | rfl | exact World.drewN_drewN _ _ _⟩
      case round =>
        obtain ⟨g, r, rfl, rfl, hG, dn, rfl⟩ := hrel
        have hsum := hG.sum
        have hrb : r ≤ 999999999999999999 := by omega
        have hgb9 : g ≤ 999999999999999999 := by
          have h1 : g * 1 ≤ g * y1 := Nat.mul_le_mul_left g hy1p
          omega
        clear hsum
        have HG := Lib.hid hG
        clear hG
        by_cases hA : 1000000000 ≤ g
        · have hAi : (1000000000 : Int) ≤ (g : Int) := by omega
          go_wp2
          go_quiet (fail)
          go_wp2
          go_roundw
          case rel =>
            have h1 := HG.out.less HPP.out HVY.out HTOP.out HLOW.out HBT.out HA9.out (.inl hA)
            exact ⟨g - 1, r + y1, vint (by omega), by go_num, h1.2, _, rfl⟩
          case measure => simp [intOf]; omega
        · have hg9 : g < 1000000000 := by omega
          have hgf : decide ((1000000000 : Int) ≤ (g : Int)) = false := by simp; omega
          have hnn : (0 : Int) ≤ (g : Int) * (y2 : Int) := Int.mul_nonneg (by omega) (by omega)
          have hgy : (g : Int) * (y2 : Int) ≤ 999999998000000001 := by
            have h1 : g * y2 ≤ 999999999 * 999999999 := Nat.mul_le_mul (by omega) (by omega)
            have h2 : ((g * y2 : Nat) : Int) ≤ 999999998000000001 := by omega
            rwa [Int.natCast_mul] at h2
          by_cases hB2 : r < 1000000000 ∧ r * 1000000000 + x3 < g * y2
          · obtain ⟨hr9, hcmp⟩ := hB2
            have hcmpi : (r : Int) * 1000000000 + (x3 : Int) < (g : Int) * (y2 : Int) := by
              have h2 : ((r * 1000000000 + x3 : Nat) : Int) < ((g * y2 : Nat) : Int) := by omega
              rw [Int.natCast_mul] at h2
              omega
            have HC := Lib.hid hcmp
            have hgpos : 0 < g := (HG.out.less HPP.out HVY.out HTOP.out HLOW.out HBT.out HA9.out (.inr hcmp)).1
            have hrd : decide ((r : Int) < 1000000000) = true := decide_eq_true (by omega)
            have hcd : decide ((r : Int) * 1000000000 + (x3 : Int) < (g : Int) * (y2 : Int)) = true := decide_eq_true hcmpi
            clear hcmp
            go_wp2
            go_quiet (fail)
            go_wp2
            go_roundw
            case rel =>
              have h1 := HG.out.less HPP.out HVY.out HTOP.out HLOW.out HBT.out HA9.out (.inr HC.out)
              exact ⟨g - 1, r + y1, vint (by have := h1.1; omega), by go_num, h1.2, _, rfl⟩
            case measure =>
              simp [intOf]; omega
          · have hstop := HG.out.stop HVY.out HTOP.out HBT.out HBL.out hy2 hy1p hg9 hB2
            rw [HWIN.out] at hstop
            have hlt := HD.out.lt
            have hyl := lv_lt ys HLY.out
            have HLT := Lib.hid hlt
            have HYL := Lib.hid hyl
            have HB2 := Lib.hid hB2
            have hga2 : w3.heap.size ≠ ga := by omega
            have hgb2 : w3.heap.size ≠ gb := by omega
            clear hB2 hlt hyl
            rcases hstop with hq | hq
            all_goals
              have HQ := Lib.hid hq
              clear hq
              have hgf2 : ¬ ((1000000000 : Int) ≤ (g : Int)) := by omega
              by_cases hr : r < 1000000000
            all_goals first
              | (have hrd : decide ((r : Int) < 1000000000) = true := decide_eq_true (by omega)
                 have hcd : decide ((r : Int) * 1000000000 + (x3 : Int) < (g : Int) * (y2 : Int)) = false := decide_eq_false (by
                   intro h
                   refine HB2.out ⟨hr, ?_⟩
                   have h2 : ((r * 1000000000 + x3 : Nat) : Int) < ((g * y2 : Nat) : Int) := by rw [Int.natCast_mul]; omega
                   omega)
                 go_wp2
                 go_quiet (fail)
                 go_wp2_with fail)
              | (have hrd : decide ((r : Int) < 1000000000) = false := decide_eq_false (by omega)
                 go_wp2
                 go_quiet (fail)
                 go_wp2_with fail)
            all_goals
              refine (take_any ga (na + 1) capa av gb nb capb ys g j _ (by exact hPa.of_heap rfl) (by exact hPb.of_heap rfl) hgbne (by have := HMN.out; omega) HD.out.limA HLY.out hg9).mono ?_
              rintro e w4 ⟨hon, c, bo, zs, rfl, hTk, rfl, hPz⟩
              have hfin := hTk.finish rfl
              have hB4 : Below w.heap.size w w4 := bel_only (bel_drewN hB _) hon hga hBs
              have hPb4 := hon.Pc (hPb.of_heap rfl) hgbne
              have hPo4 := hon.Pc (hPo.of_heap rfl) hga2
              have hlimZ := hTk.lims
              have hlenZ := hTk.len
              have hrestZ := hTk.rest
              have hboZ := hTk.borrow
              have hol := hPo.len
              rw [show j + (ys.length + 1) = j + ys.length + 1 by omega] at hrestZ
            · obtain ⟨rfl, hval⟩ := take_right hlimZ hlenZ (by rw [HNBL.out, HNAL.out]; have := HMN.out; omega) HLT.out HYL.out hrestZ HQ.out hboZ HD.out.limA hfin
              have hnext := HD.out.next (by rw [hol]; omega) HVY.out hlimZ (by rw [← HQ.out]; exact hval)
              rw [← HQ.out] at hnext
              have HNX := Lib.hid hnext.2
              have hcello := hPo4.cell j (by omega)
              have hfro := hPo4.free j
              clear hnext hval hfin hrestZ hlenZ hol hTk
              go_wp2
              go_roundw
              case rel => exact ⟨j, by omega, rfl, hB4.setCell hB3.size _, hPb4.far hgb2.symm _, _, _, HNX.out, hPz.far hga2.symm _, hPo4.set j g⟩
              case measure => (simp [intOf]) <;> omega
            · obtain ⟨rfl, hval⟩ := take_right hlimZ hlenZ (by rw [HNBL.out, HNAL.out]; have := HMN.out; omega) HLT.out HYL.out hrestZ HQ.out hboZ HD.out.limA hfin
              have hnext := HD.out.next (by rw [hol]; omega) HVY.out hlimZ (by rw [← HQ.out]; exact hval)
              rw [← HQ.out] at hnext
              have HNX := Lib.hid hnext.2
              have hcello := hPo4.cell j (by omega)
              have hfro := hPo4.free j
              clear hnext hval hfin hrestZ hlenZ hol hTk
              go_wp2
              go_roundw
              case rel => exact ⟨j, by omega, rfl, hB4.setCell hB3.size _, hPb4.far hgb2.symm _, _, _, HNX.out, hPz.far hga2.symm _, hPo4.set j g⟩
              case measure => (simp [intOf]) <;> omega
            · have hbo := take_bo (by rw [HNBL.out, HNAL.out]; have := HMN.out; omega) HLT.out HYL.out HQ.out hboZ HD.out.limA HVY.out hfin
              subst hbo
              have hgpos : 0 < g := by rw [HQ.out]; exact Nat.succ_pos _
              have HFIN := Lib.hid hfin
              have HREST := Lib.hid hrestZ
              have HLENZ := Lib.hid hlenZ
              have HOL := Lib.hid hol
              clear hfin hrestZ hlenZ hol hTk
              go_wp2_with fail
              refine (back_any ga (na + 1) capa zs gb nb capb ys j _ hPz hPb4 hgbne (by have := HMN.out; omega) hlimZ HLY.out).mono ?_
              rintro e w5 ⟨rfl, hon5, c5, us, hBk, hPu⟩
              have hrestU := hBk.rest
              rw [show j + (ys.length + 1) = j + ys.length + 1 by omega] at hrestU
              have hval := take_over hlimZ hBk.lims HLENZ.out (hBk.len.trans HLENZ.out) (by rw [HNBL.out, HNAL.out]; have := HMN.out; omega) HLT.out HYL.out HREST.out hrestU HQ.out (by omega) HD.out.limA HVY.out HFIN.out hBk.carry hBk.finish
              have hq1 : g - 1 = lv av / (lv ys * 1000000000 ^ j) := by have := HQ.out; omega
              have hnext := HD.out.next (by rw [HOL.out]; omega) HVY.out hBk.lims (by rw [← hq1]; exact hval)
              rw [← hq1] at hnext
              have HNX := Lib.hid hnext.2
              have hPo5 := hon5.Pc hPo4 hga2
              have hPb5 := hon5.Pc hPb4 hgbne
              have hcello := hPo5.cell j (by omega)
              have hfro := hPo5.free j
              have hB5 : Below w.heap.size w w5 := bel_only hB4 hon5 hga hB4.size
              have hset := hPo5.set j (g - 1)
              rw [show ((g - 1 : Nat) : Int) = (g : Int) - 1 by omega] at hset
              clear hnext hval hrestU hq1 hBk
              go_wp2
              go_roundw
              case rel => exact ⟨j, by omega, rfl, hB5.setCell hB3.size _, hPb5.far hgb2.symm _, _, _, HNX.out, hPu.far hga2.symm _, hset⟩
              case measure => (simp [intOf]) <;> omega
            · have hbo := take_bo (by rw [HNBL.out, HNAL.out]; have := HMN.out; omega) HLT.out HYL.out HQ.out hboZ HD.out.limA HVY.out hfin
              subst hbo
              have hgpos : 0 < g := by rw [HQ.out]; exact Nat.succ_pos _
              have HFIN := Lib.hid hfin
              have HREST := Lib.hid hrestZ
              have HLENZ := Lib.hid hlenZ
              have HOL := Lib.hid hol
              clear hfin hrestZ hlenZ hol hTk
              go_wp2_with fail
              refine (back_any ga (na + 1) capa zs gb nb capb ys j _ hPz hPb4 hgbne (by have := HMN.out; omega) hlimZ HLY.out).mono ?_
              rintro e w5 ⟨rfl, hon5, c5, us, hBk, hPu⟩
              have hrestU := hBk.rest
              rw [show j + (ys.length + 1) = j + ys.length + 1 by omega] at hrestU
              have hval := take_over hlimZ hBk.lims HLENZ.out (hBk.len.trans HLENZ.out) (by rw [HNBL.out, HNAL.out]; have := HMN.out; omega) HLT.out HYL.out HREST.out hrestU HQ.out (by omega) HD.out.limA HVY.out HFIN.out hBk.carry hBk.finish
              have hq1 : g - 1 = lv av / (lv ys * 1000000000 ^ j) := by have := HQ.out; omega
              have hnext := HD.out.next (by rw [HOL.out]; omega) HVY.out hBk.lims (by rw [← hq1]; exact hval)
              rw [← hq1] at hnext
              have HNX := Lib.hid hnext.2
              have hPo5 := hon5.Pc hPo4 hga2
              have hPb5 := hon5.Pc hPb4 hgbne
              have hcello := hPo5.cell j (by omega)
              have hfro := hPo5.free j
              have hB5 : Below w.heap.size w w5 := bel_only hB4 hon5 hga hB4.size
              have hset := hPo5.set j (g - 1)
              rw [show ((g - 1 : Nat) : Int) = (g : Int) - 1 by omega] at hset
              clear hnext hval hrestU hq1 hBk
              go_wp2
              go_roundw
              case rel => exact ⟨j, by omega, rfl, hB5.setCell hB3.size _, hPb5.far hgb2.symm _, _, _, HNX.out, hPu.far hga2.symm _, hset⟩
              case measure => (simp [intOf]) <;> omega
end
end Go.Proofs.YtolnojkdalbppaaGreatDoor
