/- Sums, differences, products and quotients of pieces, one step each. Plain lemmas, no program. -/
import Derived.Test.YtebcmefbpfcgmaaGreatDoorLimbOps
import Derived.Test.YtebcmefbpfcgmaaGreatDoorDivPlain
namespace Go.Proofs.YtebcmefbpfcgmaaGreatDoor

theorem take_getD_zero (xs : List Nat) (k : Nat) (h : xs.length ≤ k) : xs.getD k 0 = 0 := by
  rw [List.getD_eq_getElem?_getD, List.getElem?_eq_none h]; rfl
/-- The sum's first i pieces, and what is carried. -/
structure PlusAt (xs ys : List Nat) (i c : Nat) (o : List Nat) : Prop where
  sum : lv o + c * 1000000000 ^ i = lv (xs.take i) + lv (ys.take i)
  lims : Lims o
  len : o.length = i
  carry : c ≤ 1
theorem PlusAt.start (xs ys : List Nat) : PlusAt xs ys 0 0 [] := ⟨by simp [lv], Lims_nil, rfl, by omega⟩
theorem PlusAt.step {xs ys : List Nat} {i c : Nat} {o : List Nat} (h : PlusAt xs ys i c o) (hx : Lims xs) (hy : Lims ys) (t : Nat) (ht : t = c + xs.getD i 0 + ys.getD i 0) :
    PlusAt xs ys (i + 1) (t / 1000000000) (o ++ [t % 1000000000]) := by
  have h1 := Lims_getD hx i
  have h2 := Lims_getD hy i
  have h3 := h.carry
  refine ⟨?_, Lims_append.2 ⟨h.lims, fun x hx => ?_⟩, by rw [List.length_append, h.len]; rfl, by omega⟩
  · have e1 := lv_take_succ' xs i
    have e2 := lv_take_succ' ys i
    have e3 := h.sum
    rw [lv_snoc, h.len, e1, e2, pow_step]
    have e4 : t * 1000000000 ^ i = c * 1000000000 ^ i + xs.getD i 0 * 1000000000 ^ i + ys.getD i 0 * 1000000000 ^ i := by rw [ht, Nat.add_mul, Nat.add_mul]
    have e5 : 1000000000 ^ i * (t % 1000000000) + t / 1000000000 * (1000000000 * 1000000000 ^ i) = t * 1000000000 ^ i := by
      rw [Nat.mul_comm, ← Nat.mul_assoc, ← Nat.add_mul]; congr 1; omega
    omega
  · rw [List.mem_singleton.1 hx]; omega
theorem PlusAt.fin {xs ys : List Nat} {i : Nat} {o : List Nat} (h : PlusAt xs ys i 0 o) (h1 : xs.length ≤ i) (h2 : ys.length ≤ i) : lv o = lv xs + lv ys := by
  have := h.sum
  rw [List.take_of_length_le h1, List.take_of_length_le h2] at this
  omega
theorem PlusAt.more {xs ys : List Nat} {i : Nat} {o : List Nat} (h : PlusAt xs ys i 1 o) (hx : Lims xs) (hy : Lims ys) : i ≤ max xs.length ys.length := by
  rcases Nat.lt_or_ge (max xs.length ys.length) i with h1 | h1
  · exfalso
    obtain ⟨j, rfl⟩ : ∃ j, i = j + 1 := ⟨i - 1, by omega⟩
    have h2 := h.sum
    rw [List.take_of_length_le (by omega), List.take_of_length_le (by omega), pow_step] at h2
    have h3 := lv_lt xs hx
    have h4 := lv_lt ys hy
    have h5 : 1000000000 ^ xs.length ≤ 1000000000 ^ j := Nat.pow_le_pow_right (by decide) (by omega)
    have h6 : 1000000000 ^ ys.length ≤ 1000000000 ^ j := Nat.pow_le_pow_right (by decide) (by omega)
    omega
  · exact h1

/-- The difference's first i pieces, and what is borrowed. -/
structure MinusAt (xs ys : List Nat) (i c : Nat) (o : List Nat) : Prop where
  sum : lv o + lv (ys.take i) = lv (xs.take i) + c * 1000000000 ^ i
  lims : Lims o
  len : o.length = i
  borrow : c ≤ 1
theorem MinusAt.start (xs ys : List Nat) : MinusAt xs ys 0 0 [] := ⟨by simp [lv], Lims_nil, rfl, by omega⟩
theorem MinusAt.step {xs ys : List Nat} {i c : Nat} {o : List Nat} (h : MinusAt xs ys i c o) (d c' : Nat) (hd : d + c + ys.getD i 0 = xs.getD i 0 + c' * 1000000000) (hd' : d < 1000000000) (hc' : c' ≤ 1) :
    MinusAt xs ys (i + 1) c' (o ++ [d]) := by
  refine ⟨?_, Lims_append.2 ⟨h.lims, fun x hx => ?_⟩, by rw [List.length_append, h.len]; rfl, hc'⟩
  · have e1 := lv_take_succ' xs i
    have e2 := lv_take_succ' ys i
    have e3 := h.sum
    rw [lv_snoc, h.len, e1, e2, pow_step]
    have e4 : d * 1000000000 ^ i + c * 1000000000 ^ i + ys.getD i 0 * 1000000000 ^ i = xs.getD i 0 * 1000000000 ^ i + c' * 1000000000 * 1000000000 ^ i := by rw [← Nat.add_mul, ← Nat.add_mul, hd, Nat.add_mul]
    rw [Nat.mul_comm _ d, ← Nat.mul_assoc]
    omega
  · rw [List.mem_singleton.1 hx]; exact hd'
theorem MinusAt.fin {xs ys : List Nat} {i c : Nat} {o : List Nat} (h : MinusAt xs ys i c o) (h1 : xs.length = i) (h2 : ys.length ≤ i) (hle : lv ys ≤ lv xs) : lv o = lv xs - lv ys := by
  have e := h.sum
  rw [List.take_of_length_le (show xs.length ≤ i by omega), List.take_of_length_le h2] at e
  have h3 := lv_lt o h.lims
  rw [h.len] at h3
  have h4 := h.borrow
  have : c = 0 := by
    rcases Nat.eq_zero_or_pos c with h5 | h5
    · exact h5
    · have : c = 1 := by omega
      subst this; omega
  subst this
  omega

/-! ### times, with a last round where something is carried -/
theorem TimesAt.stop {v0 i a : Nat} {q : List Nat} {o : List Nat} (h : TimesAt v0 i a q q.length 0 o) :
    lv o = v0 + a * lv q * 1000000000 ^ i ∧ ∀ j, i + 1 + q.length ≤ j → o.getD j 0 = 0 := by
  have := h.sum
  rw [List.take_length] at this
  exact ⟨by omega, fun j hj => h.zero j (by omega)⟩

/-! ### divide -/
theorem lims_cons (x R : Nat) (hx : x < 1000000000) : trimL (x :: lims R) = lims (x + 1000000000 * R) := by
  rw [trimL_eq _ (Lims_cons.2 ⟨hx, Lims_lims R⟩), lv, lv_lims]
theorem lims_one_of {x : Nat} (h0 : x ≠ 0) (hx : x < 1000000000) : lims x = [x] := by
  rw [lims_pos h0, Nat.mod_eq_of_lt hx, Nat.div_eq_of_lt hx, lims_zero]
/-- The dividend's pieces from i on: quotient's pieces from i on and the rest R. -/
def QuoAt (xs : List Nat) (b i R : Nat) (o : List Nat) : Prop := o.length = xs.length ∧ Lims o ∧ lv (xs.drop i) = b * lv (o.drop i) + R ∧ R < b
theorem QuoAt.start {xs : List Nat} {b : Nat} (hb : 0 < b) : QuoAt xs b xs.length 0 (List.replicate xs.length 0) :=
  ⟨by simp, fun x hx => by rw [List.eq_of_mem_replicate hx]; omega, by rw [List.drop_length, List.drop_of_length_le (by simp)]; simp [lv], hb⟩
theorem QuoAt.step {xs : List Nat} {b i R : Nat} {o : List Nat} (h : QuoAt xs b (i + 1) R o) (hx : Lims xs) (hi : i < xs.length) :
    QuoAt xs b i ((xs.getD i 0 + 1000000000 * R) % b) (o.set i ((xs.getD i 0 + 1000000000 * R) / b)) ∧ (xs.getD i 0 + 1000000000 * R) / b < 1000000000 := by
  obtain ⟨h1, h2, h3, h4⟩ := h
  have hg := Lims_getD hx i
  have hq : (xs.getD i 0 + 1000000000 * R) / b < 1000000000 := by
    rw [Nat.div_lt_iff_lt_mul (by omega)]
    have := Nat.mul_le_mul_left 1000000000 (show R + 1 ≤ b by omega)
    omega
  refine ⟨⟨by rw [List.length_set, h1], Lims_set h2 _ _ hq, ?_, Nat.mod_lt _ (by omega)⟩, hq⟩
  have e := Nat.div_add_mod (xs.getD i 0 + 1000000000 * R) b
  rw [lv_drop_pred xs i hi, h3, lv_drop_pred (o.set i _) i (by rw [List.length_set, h1]; exact hi), drop_set_succ, getD_set_same _ _ _ (by rw [h1]; exact hi)]
  generalize (xs.getD i 0 + 1000000000 * R) / b = q at *
  rw [Nat.mul_add b q, Nat.mul_left_comm b 1000000000]
  omega
theorem QuoAt.fin {xs : List Nat} {b R : Nat} {o : List Nat} (h : QuoAt xs b 0 R o) : lv o = lv xs / b ∧ R = lv xs % b := by
  obtain ⟨h1, h2, h3, h4⟩ := h
  rw [List.drop_zero, List.drop_zero] at h3
  rw [h3]
  have hb : 0 < b := by omega
  exact ⟨by rw [Nat.mul_add_div hb, Nat.div_eq_of_lt h4, Nat.add_zero], by rw [Nat.mul_add_mod, Nat.mod_eq_of_lt h4]⟩
theorem mid_le {b N q m : Nat} (hb : 0 < b) (hq : N / b = q) : m * b ≤ N ↔ m ≤ q := by
  rw [← hq, Nat.le_div_iff_mul_le hb]
end Go.Proofs.YtebcmefbpfcgmaaGreatDoor
