/- Natural numbers as pieces of nine digits. Plain lemmas, no program. -/
import Derived.Lib.ItoaNum
namespace Go.Proofs.YtebcmefbpfcgmaaGreatDoor

/-! Pieces of nine digits, the least significant one first. -/

def lv : List Nat → Nat
  | [] => 0
  | x :: xs => x + 1000000000 * lv xs
def Lims (xs : List Nat) : Prop := ∀ x ∈ xs, x < 1000000000
/-- The pieces of a number, without zeros at the end. -/
def lims (n : Nat) : List Nat := if h : n = 0 then [] else n % 1000000000 :: lims (n / 1000000000)
  termination_by n
  decreasing_by omega

theorem lims_zero : lims 0 = [] := by rw [lims, dif_pos rfl]
theorem lims_pos {n : Nat} (h : n ≠ 0) : lims n = n % 1000000000 :: lims (n / 1000000000) := by rw [lims, dif_neg h]
theorem lv_lims (n : Nat) : lv (lims n) = n := by
  induction n using Nat.strongRecOn with
  | _ n ih =>
    by_cases h : n = 0
    · subst h; rw [lims_zero]; rfl
    · rw [lims_pos h, lv, ih _ (by omega)]; omega
theorem Lims_lims (n : Nat) : Lims (lims n) := by
  induction n using Nat.strongRecOn with
  | _ n ih =>
    by_cases h : n = 0
    · subst h; rw [lims_zero]; intro x hx; cases hx
    · rw [lims_pos h]
      intro x hx
      rcases List.mem_cons.1 hx with rfl | hx
      · omega
      · exact ih _ (by omega) x hx
theorem Lims_nil : Lims [] := fun _ hx => by cases hx
theorem Lims_cons {x : Nat} {xs : List Nat} : Lims (x :: xs) ↔ x < 1000000000 ∧ Lims xs := by simp [Lims]
theorem Lims_append {xs ys : List Nat} : Lims (xs ++ ys) ↔ Lims xs ∧ Lims ys := by
  simp only [Lims, List.mem_append]
  exact ⟨fun h => ⟨fun x hx => h x (.inl hx), fun x hx => h x (.inr hx)⟩, fun h x hx => hx.elim (h.1 x) (h.2 x)⟩

theorem lv_append (xs ys : List Nat) : lv (xs ++ ys) = lv xs + 1000000000 ^ xs.length * lv ys := by
  induction xs with
  | nil => simp [lv]
  | cons x xs ih => rw [List.cons_append, lv, ih, lv, List.length_cons, Nat.pow_succ, Nat.mul_add, Nat.mul_comm (1000000000 ^ xs.length) 1000000000, Nat.mul_assoc]; omega
theorem lv_one (x : Nat) : lv [x] = x := by simp [lv]
theorem lv_snoc (xs : List Nat) (y : Nat) : lv (xs ++ [y]) = lv xs + 1000000000 ^ xs.length * y := by rw [lv_append, lv_one]
theorem lv_zeros (k : Nat) : lv (List.replicate k 0) = 0 := by
  induction k with
  | zero => rfl
  | succ k ih => rw [List.replicate_succ, lv, ih]
theorem lv_lt (xs : List Nat) (h : Lims xs) : lv xs < 1000000000 ^ xs.length := by
  induction xs with
  | nil => simp [lv]
  | cons x xs ih =>
    rw [Lims_cons] at h
    have := ih h.2
    rw [lv, List.length_cons, Nat.pow_succ]
    omega
theorem lv_mod (xs : List Nat) (h : Lims xs) (k : Nat) (hk : k ≤ xs.length) : lv (xs.take k) = lv xs % 1000000000 ^ k := by
  have e := lv_append (xs.take k) (xs.drop k)
  rw [List.take_append_drop] at e
  have hl : (xs.take k).length = k := by rw [List.length_take]; omega
  have h1 := lv_lt (xs.take k) (fun x hx => h x (List.mem_of_mem_take hx))
  rw [hl] at e h1
  rw [e, Nat.add_mul_mod_self_left, Nat.mod_eq_of_lt h1]
theorem lv_drop (xs : List Nat) (h : Lims xs) (k : Nat) (hk : k ≤ xs.length) : lv (xs.drop k) = lv xs / 1000000000 ^ k := by
  have e := lv_append (xs.take k) (xs.drop k)
  rw [List.take_append_drop] at e
  have hl : (xs.take k).length = k := by rw [List.length_take]; omega
  have h1 := lv_lt (xs.take k) (fun x hx => h x (List.mem_of_mem_take hx))
  rw [hl] at e h1
  rw [e, Nat.add_mul_div_left _ _ (Nat.pos_of_ne_zero (by simp [Nat.pow_eq_zero])), Nat.div_eq_of_lt h1]; omega

/-- What is left behind zeros at the end. -/
def trimL (xs : List Nat) : List Nat := (xs.reverse.dropWhile (· == 0)).reverse
theorem trimL_nil : trimL [] = [] := rfl
theorem trimL_snoc_zero (xs : List Nat) : trimL (xs ++ [0]) = trimL xs := by simp [trimL]
theorem trimL_snoc (xs : List Nat) (y : Nat) (h : y ≠ 0) : trimL (xs ++ [y]) = xs ++ [y] := by simp [trimL, h]
theorem lims_snoc : ∀ (xs : List Nat) (y : Nat), Lims xs → y < 1000000000 → y ≠ 0 → lims (lv (xs ++ [y])) = xs ++ [y]
  | [], y, _, hy, h0 => by
    rw [List.nil_append, lv_one, lims_pos h0, Nat.mod_eq_of_lt hy, Nat.div_eq_of_lt hy, lims_zero]
  | x :: xs, y, h, hy, h0 => by
    rw [Lims_cons] at h
    have ih := lims_snoc xs y h.2 hy h0
    have hp : lv (xs ++ [y]) ≠ 0 := by intro e; rw [e, lims_zero] at ih; simp at ih
    have e1 : x + 1000000000 * lv (xs ++ [y]) ≠ 0 := by omega
    have e2 : (x + 1000000000 * lv (xs ++ [y])) % 1000000000 = x := by omega
    have e3 : (x + 1000000000 * lv (xs ++ [y])) / 1000000000 = lv (xs ++ [y]) := by omega
    rw [List.cons_append, lv, lims_pos e1, e2, e3, ih]
theorem lims_of_snoc_zero (xs : List Nat) : lims (lv (xs ++ [0])) = lims (lv xs) := by rw [lv_snoc]; simp
theorem trimL_eq (xs : List Nat) (h : Lims xs) : trimL xs = lims (lv xs) := by
  have key : ∀ k (xs : List Nat), xs.length = k → Lims xs → trimL xs = lims (lv xs) := by
    intro k
    induction k with
    | zero => intro xs hl _; obtain rfl := List.eq_nil_of_length_eq_zero hl; rw [trimL_nil, lv, lims_zero]
    | succ k ih =>
      intro xs hl hx
      have hn : xs ≠ [] := by intro e; subst e; simp at hl
      obtain ⟨m, y, rfl⟩ : ∃ m y, xs = m ++ [y] := ⟨xs.dropLast, xs.getLast hn, (List.dropLast_concat_getLast hn).symm⟩
      have hm := (Lims_append.1 hx).1
      have hy := (Lims_append.1 hx).2 y (by simp)
      by_cases h0 : y = 0
      · subst h0
        rw [trimL_snoc_zero, lims_of_snoc_zero, ih m (by simpa using hl) hm]
      · rw [trimL_snoc _ _ h0, lims_snoc m y hm hy h0]
  exact key _ xs rfl h
theorem lims_lv (xs : List Nat) (h : Lims xs) (hn : ∀ m y, xs = m ++ [y] → y ≠ 0) : lims (lv xs) = xs := by
  rw [← trimL_eq xs h]
  by_cases e : xs = []
  · subst e; rfl
  · obtain ⟨m, y, e2⟩ : ∃ m y, xs = m ++ [y] := ⟨xs.dropLast, xs.getLast e, (List.dropLast_concat_getLast e).symm⟩
    rw [e2, trimL_snoc _ _ (hn m y e2)]
theorem lims_last (n : Nat) (hn : n ≠ 0) : ∃ m y, lims n = m ++ [y] ∧ y ≠ 0 ∧ y < 1000000000 ∧ Lims m := by
  have hne : lims n ≠ [] := by rw [lims_pos hn]; simp
  obtain ⟨m, y, e⟩ : ∃ m y, lims n = m ++ [y] := ⟨_, _, (List.dropLast_concat_getLast hne).symm⟩
  have hL := Lims_lims n
  rw [e] at hL
  have hy := (Lims_append.1 hL).2 y (by simp)
  refine ⟨m, y, e, ?_, hy, (Lims_append.1 hL).1⟩
  intro h0
  subst h0
  have h1 := trimL_eq (m ++ [0]) hL
  rw [trimL_snoc_zero, ← e, lv_lims, e] at h1
  have h2 : (trimL m).length ≤ m.length := by
    unfold trimL
    rw [List.length_reverse]
    have := (List.dropWhile_sublist (l := m.reverse) (· == 0)).length_le
    simpa using this
  rw [h1, List.length_append, List.length_singleton] at h2
  omega

/-- How many pieces. -/
theorem lims_len_le (n k : Nat) : (lims n).length ≤ k ↔ n < 1000000000 ^ k := by
  induction k generalizing n with
  | zero =>
    by_cases h : n = 0
    · subst h; simp [lims_zero]
    · rw [lims_pos h]; simp; omega
  | succ k ih =>
    by_cases h : n = 0
    · subst h; rw [lims_zero]; simp [Nat.pow_pos]
    · rw [lims_pos h, List.length_cons, Nat.add_le_add_iff_right, ih, Nat.pow_succ]; omega
theorem lims_len_mono {a b : Nat} (h : a ≤ b) : (lims a).length ≤ (lims b).length := by
  rw [lims_len_le]
  have := (lims_len_le b (lims b).length).1 (Nat.le_refl _)
  omega
theorem lims_ne_nil {n : Nat} : lims n = [] ↔ n = 0 := by
  constructor
  · intro h; have := lv_lims n; rw [h] at this; exact this.symm
  · intro h; subst h; exact lims_zero
theorem pow_le_lims (n : Nat) (h : n ≠ 0) : 1000000000 ^ ((lims n).length - 1) ≤ n := by
  rcases Nat.lt_or_ge n (1000000000 ^ ((lims n).length - 1)) with h1 | h1
  · have := (lims_len_le n _).2 h1
    have : (lims n).length ≠ 0 := by intro e; exact h (lims_ne_nil.1 (List.eq_nil_of_length_eq_zero e))
    omega
  · exact h1

/-! A piece that is set. -/
theorem lv_set : ∀ (xs : List Nat) (j v : Nat), j < xs.length → lv (xs.set j v) + xs.getD j 0 * 1000000000 ^ j = lv xs + v * 1000000000 ^ j
  | [], j, v, h => by simp at h
  | x :: xs, 0, v, _ => by simp [lv]; omega
  | x :: xs, j + 1, v, h => by
    have ih := lv_set xs j v (by simpa using h)
    rw [List.set_cons_succ, lv, lv, Nat.pow_succ]
    have e : (x :: xs).getD (j + 1) 0 = xs.getD j 0 := by simp
    rw [e]
    have e1 : xs.getD j 0 * (1000000000 ^ j * 1000000000) = 1000000000 * (xs.getD j 0 * 1000000000 ^ j) := by rw [← Nat.mul_assoc, Nat.mul_comm]
    have e2 : v * (1000000000 ^ j * 1000000000) = 1000000000 * (v * 1000000000 ^ j) := by rw [← Nat.mul_assoc, Nat.mul_comm]
    rw [e1, e2]
    omega
theorem Lims_set {xs : List Nat} (h : Lims xs) (j v : Nat) (hv : v < 1000000000) : Lims (xs.set j v) := by
  intro x hx
  rcases List.mem_or_eq_of_mem_set hx with hx | rfl
  · exact h x hx
  · exact hv
theorem Lims_getD {xs : List Nat} (h : Lims xs) (j : Nat) : xs.getD j 0 < 1000000000 := by
  rw [List.getD_eq_getElem?_getD]
  cases e : xs[j]? with
  | none => simp
  | some y => exact h y (List.mem_of_getElem? e)
theorem getD_set_same (xs : List Nat) (j v : Nat) (h : j < xs.length) : (xs.set j v).getD j 0 = v := by
  rw [List.getD_eq_getElem?_getD, List.getElem?_set_self h]; rfl
theorem getD_set_other (xs : List Nat) (j k v : Nat) (h : j ≠ k) : (xs.set j v).getD k 0 = xs.getD k 0 := by
  rw [List.getD_eq_getElem?_getD, List.getElem?_set_ne h, ← List.getD_eq_getElem?_getD]
theorem lv_take_succ (xs : List Nat) (k : Nat) (h : k < xs.length) : lv (xs.take (k + 1)) = lv (xs.take k) + xs.getD k 0 * 1000000000 ^ k := by
  rw [List.take_succ_eq_append_getElem h, lv_snoc, List.length_take, Nat.min_eq_left (Nat.le_of_lt h), List.getD_eq_getElem?_getD, List.getElem?_eq_getElem h, Nat.mul_comm]; rfl
theorem lv_drop_pred (xs : List Nat) (k : Nat) (h : k < xs.length) : lv (xs.drop k) = xs.getD k 0 + 1000000000 * lv (xs.drop (k + 1)) := by
  rw [List.drop_eq_getElem_cons h, lv, List.getD_eq_getElem?_getD, List.getElem?_eq_getElem h]; rfl
end Go.Proofs.YtebcmefbpfcgmaaGreatDoor
