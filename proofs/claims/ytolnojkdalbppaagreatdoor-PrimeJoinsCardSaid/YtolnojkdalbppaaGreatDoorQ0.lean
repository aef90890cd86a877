/- Greater text, out of: Q0. -/
namespace Go.Proofs.YtolnojkdalbppaaGreatDoor
/-- All primes that can be in a list. -/
def P25 : List Int := [2, 3, 5, 7, 11, 13, 17, 19, 23, 29, 31, 37, 41, 43, 47, 53, 59, 61, 67, 71, 73, 79, 83, 89, 97]
/-- n is one of them. -/
def pr (n : Int) : Bool := P25.contains n
theorem pr_mem {n : Int} : pr n = true ↔ n ∈ P25 := by simp [pr]
theorem P25_bd : ∀ n ∈ P25, 2 ≤ n ∧ n ≤ 97 := by decide
theorem pr_bd {n : Int} (h : pr n = true) : 2 ≤ n ∧ n ≤ 97 := P25_bd n (pr_mem.1 h)
theorem pr_low {n : Int} (h : n < 2) : pr n = false := by
  cases e : pr n with
  | false => rfl
  | true => have := pr_bd e; omega
theorem pr_high {n : Int} (h : 97 < n) : pr n = false := by
  cases e : pr n with
  | false => rfl
  | true => have := pr_bd e; omega
set_option maxRecDepth 100000 in
theorem pr_or : ∀ n : Fin 98, 2 ≤ n.1 → pr (n.1 : Int) = true ∨ ∃ d : Fin 10, 2 ≤ d.1 ∧ d.1 * d.1 ≤ n.1 ∧ n.1 % d.1 = 0 := by decide +kernel
set_option maxRecDepth 100000 in
theorem pr_nodiv : ∀ n : Fin 98, pr (n.1 : Int) = true → ∀ d : Fin 98, 2 ≤ d.1 → d.1 < n.1 → n.1 % d.1 ≠ 0 := by decide +kernel
theorem pr_yes {n k : Nat} (h2 : 2 ≤ n) (hn : n ≤ 97) (hk : n < k * k) (h : ∀ d, 2 ≤ d → d < k → n % d ≠ 0) : pr (n : Int) = true := by
  rcases pr_or ⟨n, by omega⟩ h2 with h | ⟨d, h1, h3, h4⟩
  · exact h
  · exfalso
    refine h d.1 h1 ?_ h4
    rcases Nat.lt_or_ge d.1 k with h5 | h5
    · exact h5
    · exfalso
      have := Nat.mul_le_mul h5 h5
      have h6 : d.1 * d.1 ≤ n := h3
      omega
theorem pr_no {n d : Nat} (hn : n ≤ 97) (h2 : 2 ≤ d) (hd : d < n) (h : n % d = 0) : pr (n : Int) = false := by
  cases e : pr (n : Int) with
  | false => rfl
  | true => exact absurd h (pr_nodiv ⟨n, by omega⟩ e ⟨d, by omega⟩ h2 hd)
theorem pr_no_sq {n d : Nat} (hn : n ≤ 97) (h2 : 2 ≤ d) (hd : d * d ≤ n) (h : n % d = 0) : pr (n : Int) = false := by
  refine pr_no hn h2 ?_ h
  have : 2 * d ≤ d * d := Nat.mul_le_mul_right d h2
  omega

/-- The error of a list's elements from k on. -/
def chkFrom (xs : List Int) (k : Nat) : Int :=
  if h : k < xs.length then if pr (xs.getD k 0) = false then 25 else if 0 < k ∧ xs.getD k 0 ≤ xs.getD (k - 1) 0 then 6 else chkFrom xs (k + 1) else 0
  termination_by xs.length - k
/-- The error of a list. -/
def chk (xs : List Int) : Int := if xs.length = 0 then 13 else if 6 < xs.length then 4 else chkFrom xs 0
theorem chkFrom_end {xs : List Int} {k : Nat} (h : xs.length ≤ k) : chkFrom xs k = 0 := by rw [chkFrom, dif_neg (by omega)]
theorem chkFrom_pr {xs : List Int} {k : Nat} (h : k < xs.length) (hp : pr (xs.getD k 0) = false) : chkFrom xs k = 25 := by rw [chkFrom, dif_pos h, if_pos hp]
theorem chkFrom_ord {xs : List Int} {k : Nat} (h : k < xs.length) (hp : pr (xs.getD k 0) = true) (h0 : 0 < k) (hl : xs.getD k 0 ≤ xs.getD (k - 1) 0) : chkFrom xs k = 6 := by
  rw [chkFrom, dif_pos h, if_neg (by rw [hp]; decide), if_pos ⟨h0, hl⟩]
theorem chkFrom_step {xs : List Int} {k : Nat} (h : k < xs.length) (hp : pr (xs.getD k 0) = true) (hl : k = 0 ∨ xs.getD (k - 1) 0 < xs.getD k 0) : chkFrom xs k = chkFrom xs (k + 1) := by
  rw [chkFrom, dif_pos h, if_neg (by rw [hp]; decide), if_neg (by omega)]
theorem chk_nil {xs : List Int} (h : xs.length = 0) : chk xs = 13 := by rw [chk, if_pos h]
theorem chk_long {xs : List Int} (h : 6 < xs.length) : chk xs = 4 := by rw [chk, if_neg (by omega), if_pos h]
theorem chk_mid {xs : List Int} (h : xs.length ≠ 0) (h2 : xs.length ≤ 6) : chk xs = chkFrom xs 0 := by rw [chk, if_neg h, if_neg (by omega)]
theorem chkFrom_ok (xs : List Int) : ∀ (m k : Nat), xs.length - k = m → chkFrom xs k = 0 → ∀ i, k ≤ i → i < xs.length → pr (xs.getD i 0) = true ∧ (0 < i → xs.getD (i - 1) 0 < xs.getD i 0) := by
  intro m
  induction m with
  | zero => intro k hm h i hi hl; omega
  | succ m ih =>
    intro k hm h i hi hl
    cases hp : pr (xs.getD k 0) with
    | false => rw [chkFrom_pr (by omega) hp] at h; cases h
    | true =>
      by_cases ho : 0 < k ∧ xs.getD k 0 ≤ xs.getD (k - 1) 0
      · rw [chkFrom_ord (by omega) hp ho.1 ho.2] at h; cases h
      · have ho' : k = 0 ∨ xs.getD (k - 1) 0 < xs.getD k 0 := by omega
        rw [chkFrom_step (by omega) hp ho'] at h
        by_cases e : i = k
        · subst e; exact ⟨hp, fun h0 => by omega⟩
        · exact ih (k + 1) (by omega) h i (by omega) hl
/-- A list that is right. -/
structure Okl (xs : List Int) : Prop where
  pos : 0 < xs.length
  le : xs.length ≤ 6
  pr : ∀ i, i < xs.length → pr (xs.getD i 0) = true
  up : ∀ i, 0 < i → i < xs.length → xs.getD (i - 1) 0 < xs.getD i 0
theorem chk_ok {xs : List Int} (h : chk xs = 0) : Okl xs := by
  by_cases h0 : xs.length = 0
  · rw [chk_nil h0] at h; cases h
  by_cases h6 : 6 < xs.length
  · rw [chk_long h6] at h; cases h
  rw [chk_mid h0 (by omega)] at h
  have hh := chkFrom_ok xs _ 0 rfl h
  exact ⟨by omega, by omega, fun i hi => (hh i (Nat.zero_le _) hi).1, fun i h0 hi => (hh i (Nat.zero_le _) hi).2 h0⟩
theorem chkFrom_of (xs : List Int) (hp : ∀ i, i < xs.length → pr (xs.getD i 0) = true) (hu : ∀ i, 0 < i → i < xs.length → xs.getD (i - 1) 0 < xs.getD i 0) : ∀ (m k : Nat), xs.length - k = m → chkFrom xs k = 0 := by
  intro m
  induction m with
  | zero => intro k hm; exact chkFrom_end (by omega)
  | succ m ih =>
    intro k hm
    rw [chkFrom_step (by omega) (hp k (by omega)) (by
      rcases Nat.eq_zero_or_pos k with e | e
      · exact .inl e
      · exact .inr (hu k e (by omega)))]
    exact ih (k + 1) (by omega)
theorem Okl.chk {xs : List Int} (h : Okl xs) : chk xs = 0 := by
  rw [chk_mid (by have := h.pos; omega) h.le]
  exact chkFrom_of xs h.pr h.up _ 0 rfl
theorem Okl.two {xs : List Int} (h : Okl xs) (i : Nat) (hi : i < xs.length) : 2 ≤ xs.getD i 0 ∧ xs.getD i 0 ≤ 97 := pr_bd (h.pr i hi)
/-- chk is one of these. -/
theorem chkFrom_range (xs : List Int) : ∀ (m k : Nat), xs.length - k = m → chkFrom xs k = 0 ∨ chkFrom xs k = 25 ∨ chkFrom xs k = 6 := by
  intro m
  induction m with
  | zero => intro k hm; exact .inl (chkFrom_end (by omega))
  | succ m ih =>
    intro k hm
    cases hp : pr (xs.getD k 0) with
    | false => exact .inr (.inl (chkFrom_pr (by omega) hp))
    | true =>
      by_cases ho : 0 < k ∧ xs.getD k 0 ≤ xs.getD (k - 1) 0
      · exact .inr (.inr (chkFrom_ord (by omega) hp ho.1 ho.2))
      · rw [chkFrom_step (by omega) hp (by omega)]
        exact ih (k + 1) (by omega)

/-- What is left of n when p has been taken out of it as often as it divides it, and how often. -/
def tk (p n : Nat) : Nat × Nat := if h : 2 ≤ p ∧ 0 < n ∧ n % p = 0 then ((tk p (n / p)).1, (tk p (n / p)).2 + 1) else (n, 0)
  termination_by n
  decreasing_by all_goals exact Nat.div_lt_self h.2.1 h.1
theorem tk_stop {p n : Nat} (h : n % p ≠ 0) : tk p n = (n, 0) := by rw [tk, dif_neg (by omega)]
theorem tk_step {p n : Nat} (hp : 2 ≤ p) (hn : 0 < n) (h : n % p = 0) : tk p n = ((tk p (n / p)).1, (tk p (n / p)).2 + 1) := by rw [tk, dif_pos ⟨hp, hn, h⟩]
theorem tk_spec {p : Nat} (hp : 2 ≤ p) : ∀ (m n : Nat), n ≤ m → 0 < n → n = p ^ (tk p n).2 * (tk p n).1 ∧ (tk p n).1 % p ≠ 0 ∧ 0 < (tk p n).1 := by
  intro m
  induction m with
  | zero => intro n h1 h2; omega
  | succ m ih =>
    intro n h1 h2
    by_cases h : n % p = 0
    · have hlt : n / p < n := Nat.div_lt_self h2 hp
      have hpos : 0 < n / p := Nat.div_pos (Nat.le_of_dvd h2 (Nat.dvd_of_mod_eq_zero h)) (by omega)
      obtain ⟨e1, e2, e3⟩ := ih (n / p) (by omega) hpos
      rw [tk_step hp h2 h]
      refine ⟨?_, e2, e3⟩
      have e4 : n = p * (n / p) := by have := Nat.div_add_mod n p; omega
      show n = p ^ ((tk p (n / p)).2 + 1) * (tk p (n / p)).1
      rw [Nat.pow_succ, Nat.mul_comm _ p, Nat.mul_assoc, ← e1]
      exact e4
    · rw [tk_stop h]; exact ⟨by simp, h, h2⟩
theorem tk_pow {p : Nat} (hp : 2 ≤ p) (r : Nat) (hr : r % p ≠ 0) : ∀ e, tk p (p ^ e * r) = (r, e) := by
  intro e
  induction e with
  | zero => rw [Nat.pow_zero, Nat.one_mul, tk_stop hr]
  | succ e ih =>
    have hr0 : 0 < r := by
      rcases Nat.eq_zero_or_pos r with h | h
      · subst h; simp at hr
      · exact h
    have h1 : p ^ (e + 1) * r = p * (p ^ e * r) := by rw [Nat.pow_succ, Nat.mul_comm _ p, Nat.mul_assoc]
    have h0 : 0 < p ^ (e + 1) * r := Nat.mul_pos (Nat.pow_pos (by omega)) hr0
    rw [tk_step hp h0 (by rw [h1]; exact Nat.mul_mod_right _ _), h1, Nat.mul_div_cancel_left _ (by omega), ih]
theorem tk_le (p n : Nat) (hp : 2 ≤ p) (hn : 0 < n) : (tk p n).1 ≤ n ∧ (tk p n).2 < n := by
  obtain ⟨e1, e2, e3⟩ := tk_spec hp n n (Nat.le_refl _) hn
  have h1 : (tk p n).2 < p ^ (tk p n).2 := Nat.lt_pow_self (by omega)
  constructor
  · have : 1 * (tk p n).1 ≤ p ^ (tk p n).2 * (tk p n).1 := Nat.mul_le_mul_right _ (Nat.pow_pos (by omega))
    omega
  · have : p ^ (tk p n).2 * 1 ≤ p ^ (tk p n).2 * (tk p n).1 := Nat.mul_le_mul_left _ e3
    omega
/-- All primes of a list taken out. -/
def stp : List Int → Nat → List Nat × Nat
  | [], n => ([], n)
  | p :: ps, n => ((tk p.toNat n).2 :: (stp ps (tk p.toNat n).1).1, (stp ps (tk p.toNat n).1).2)
/-- What is left behind the first k. -/
def lft (ps : List Int) (n : Nat) (k : Nat) : Nat := (stp (ps.take k) n).2
theorem stp_len (ps : List Int) : ∀ n, (stp ps n).1.length = ps.length := by
  induction ps with
  | nil => intro n; rfl
  | cons p ps ih => intro n; simp [stp, ih]
theorem stp_append (ps qs : List Int) : ∀ n, stp (ps ++ qs) n = ((stp ps n).1 ++ (stp qs (stp ps n).2).1, (stp qs (stp ps n).2).2) := by
  induction ps with
  | nil => intro n; rfl
  | cons p ps ih => intro n; simp [stp, ih]
theorem lft_zero (ps : List Int) (n : Nat) : lft ps n 0 = n := rfl
theorem lft_succ (ps : List Int) (n k : Nat) (h : k < ps.length) : lft ps n (k + 1) = (tk (ps.getD k 0).toNat (lft ps n k)).1 := by
  unfold lft
  rw [List.take_succ_eq_append_getElem h, stp_append, List.getD_eq_getElem?_getD, List.getElem?_eq_getElem h]; rfl
theorem lft_all (ps : List Int) (n k : Nat) (h : ps.length ≤ k) : lft ps n k = (stp ps n).2 := by
  unfold lft; rw [List.take_of_length_le h]
theorem stp_get (ps : List Int) : ∀ (n k : Nat), k < ps.length → (stp ps n).1.getD k 0 = (tk (ps.getD k 0).toNat (lft ps n k)).2 := by
  induction ps with
  | nil => intro n k h; exact absurd h (Nat.not_lt_zero _)
  | cons p ps ih =>
    intro n k h
    cases k with
    | zero => rfl
    | succ k =>
      have := ih (tk p.toNat n).1 k (by simpa using h)
      simpa [stp, lft] using this
end Go.Proofs.YtolnojkdalbppaaGreatDoor
