/- Greater text, out of: Q0b. -/
import Derived.Test.YtolnojkdalbppaaGreatDoorQ0
namespace Go.Proofs.YtolnojkdalbppaaGreatDoor
/-- The primes below k. -/
def plow (k : Int) : List Int := P25.filter fun x => decide (x < k)
theorem plow_two : plow 2 = [] := by decide
set_option maxRecDepth 100000 in
theorem plow_all : ∀ k : Fin 98, 2 ≤ k.1 → plow ((k.1 : Int) + 1) = plow (k.1 : Int) ++ (if pr (k.1 : Int) = true then [(k.1 : Int)] else []) := by decide +kernel
theorem plow_yes {k : Int} (h2 : 2 ≤ k) (hk : k ≤ 97) (hp : pr k = true) : plow (k + 1) = plow k ++ [k] := by
  have h := plow_all ⟨k.toNat, by omega⟩ (by show 2 ≤ k.toNat; omega)
  have e : ((k.toNat : Nat) : Int) = k := by omega
  simp only [e] at h
  rw [h, if_pos hp]
theorem plow_no {k : Int} (h2 : 2 ≤ k) (hk : k ≤ 97) (hp : pr k = false) : plow (k + 1) = plow k := by
  have h := plow_all ⟨k.toNat, by omega⟩ (by show 2 ≤ k.toNat; omega)
  have e : ((k.toNat : Nat) : Int) = k := by omega
  simp only [e] at h
  rw [h, if_neg (by rw [hp]; decide), List.append_nil]
theorem plow_len (k : Int) : (plow k).length ≤ 25 := by
  have := List.length_filter_le (fun x => decide (x < k)) P25
  exact this
/-- The primes up to n. -/
def pall (n : Int) : List Int := plow (min n 97 + 1)
theorem pall_low {n : Int} (h : n < 2) : pall n = [] := by
  unfold pall plow
  rw [List.filter_eq_nil_iff]
  intro x hx
  have := P25_bd x hx
  simp only [decide_eq_true_eq]
  omega
theorem pall_filter (n : Int) : (P25.filter fun x => !decide (n < x)) = pall n := by
  unfold pall plow
  refine List.filter_congr fun x hx => ?_
  have := P25_bd x hx
  by_cases h : n < x
  · rw [decide_eq_true h, decide_eq_false (by omega)]; rfl
  · rw [decide_eq_false h, decide_eq_true (by omega)]; rfl
theorem pall_many {n : Int} (h : 17 ≤ n) : 6 < (pall n).length := by
  have h7 : (P25.countP fun x => decide (x < 18)) = 7 := by decide
  have hm : (P25.countP fun x => decide (x < 18)) ≤ P25.countP fun x => decide (x < min n 97 + 1) :=
    List.countP_mono_left fun x _ hx => by
      simp only [decide_eq_true_eq] at hx ⊢
      omega
  unfold pall plow
  rw [← List.countP_eq_length_filter]
  omega
theorem pall_few_all : ∀ n : Fin 17, (pall (n.1 : Int)).length ≤ 6 := by decide +kernel
theorem pall_few {n : Int} (h : n < 17) : (pall n).length ≤ 6 := by
  rcases Int.lt_or_le n 2 with h2 | h2
  · rw [pall_low h2]; decide
  · have := pall_few_all ⟨n.toNat, by omega⟩
    have e : ((n.toNat : Nat) : Int) = n := by omega
    simp only [e] at this
    exact this
theorem pall_20 : pall 20 = [2, 3, 5, 7, 11, 13, 17, 19] := by decide
theorem pall_53 : pall 53 = [2, 3, 5, 7, 11, 13, 17, 19, 23, 29, 31, 37, 41, 43, 47, 53] := by decide
theorem pall_50 : pall 50 = [2, 3, 5, 7, 11, 13, 17, 19, 23, 29, 31, 37, 41, 43, 47] := by decide
theorem first_all : ∀ c : Fin 7, P25.take c.1 = (pall 20).take c.1 := by decide +kernel
theorem first_len (c : Nat) (h : c ≤ 6) : (P25.take c).length = c := by
  rw [List.length_take]
  have : P25.length = 25 := rfl
  omega

/-- A right list, for recursion. -/
def Rgt (ps : List Int) : Prop := (∀ p ∈ ps, pr p = true) ∧ ps.Pairwise (· < ·)
theorem getD_of {ps : List Int} {i : Nat} (h : i < ps.length) : ps.getD i 0 = ps[i] := by rw [List.getD_eq_getElem?_getD, List.getElem?_eq_getElem h]; rfl
theorem Okl.lt {ps : List Int} (h : Okl ps) : ∀ j i, i < j → j < ps.length → ps.getD i 0 < ps.getD j 0 := by
  intro j
  induction j with
  | zero => intro i h1; omega
  | succ j ih =>
    intro i h1 h2
    have hs := h.up (j + 1) (by omega) h2
    rw [Nat.add_sub_cancel] at hs
    by_cases e : i = j
    · subst e; exact hs
    · have := ih i (by omega) (by omega); omega
theorem Okl.rgt {ps : List Int} (h : Okl ps) : Rgt ps := by
  refine ⟨fun p hp => ?_, ?_⟩
  · obtain ⟨i, hi, rfl⟩ := List.mem_iff_getElem.1 hp
    rw [← getD_of hi]; exact h.pr i hi
  · rw [List.pairwise_iff_getElem]
    intro i j hi hj hij
    rw [← getD_of hi, ← getD_of hj]
    exact h.lt j i hij hj
set_option maxRecDepth 100000 in
theorem pr_cop_all : ∀ p ∈ P25, ∀ q ∈ P25, p ≠ q → Nat.gcd p.toNat q.toNat = 1 := by decide +kernel
theorem pr_cop {p q : Int} (hp : pr p = true) (hq : pr q = true) (h : p ≠ q) : Nat.Coprime p.toNat q.toNat := pr_cop_all p (pr_mem.1 hp) q (pr_mem.1 hq) h

/-- The product of the powers. -/
def prod : List Int → List Nat → Nat
  | p :: ps, e :: es => p.toNat ^ e * prod ps es
  | _, _ => 1
theorem prod_pos (ps : List Int) : ∀ es, (∀ p ∈ ps, pr p = true) → 0 < prod ps es := by
  induction ps with
  | nil => intro es _; exact Nat.one_pos
  | cons p ps ih =>
    intro es h
    cases es with
    | nil => exact Nat.one_pos
    | cons e es =>
      have h1 := (pr_bd (h p (List.mem_cons_self ..))).1
      exact Nat.mul_pos (Nat.pow_pos (by omega)) (ih es fun q hq => h q (List.mem_cons_of_mem _ hq))
theorem prod_cop (p : Int) (ps : List Int) (hp : pr p = true) : ∀ es, (∀ q ∈ ps, pr q = true ∧ p < q) → Nat.Coprime p.toNat (prod ps es) := by
  induction ps with
  | nil => intro es _; exact Nat.coprime_one_right _
  | cons q ps ih =>
    intro es h
    cases es with
    | nil => exact Nat.coprime_one_right _
    | cons e es =>
      have hq := h q (List.mem_cons_self ..)
      exact Nat.Coprime.mul_right (Nat.Coprime.pow_right _ (pr_cop hp hq.1 (by omega))) (ih es fun r hr => h r (List.mem_cons_of_mem _ hr))
theorem cop_mod {p r : Nat} (hp : 2 ≤ p) (h : Nat.Coprime p r) : r % p ≠ 0 := by
  intro e
  have hd : p ∣ r := Nat.dvd_of_mod_eq_zero e
  have : Nat.gcd p r = p := Nat.gcd_eq_left hd
  unfold Nat.Coprime at h
  omega
theorem stp_prod (ps : List Int) : ∀ es : List Nat, Rgt ps → es.length = ps.length → stp ps (prod ps es) = (es, 1) := by
  induction ps with
  | nil => intro es _ hl; rw [List.length_eq_zero_iff.1 hl]; rfl
  | cons p ps ih =>
    intro es h hl
    cases es with
    | nil => simp at hl
    | cons e es =>
      obtain ⟨h1, h2⟩ := h
      rw [List.pairwise_cons] at h2
      have hp := h1 p (List.mem_cons_self ..)
      have hb := pr_bd hp
      have hr : Rgt ps := ⟨fun q hq => h1 q (List.mem_cons_of_mem _ hq), h2.2⟩
      have hm := cop_mod (p := p.toNat) (by omega) (prod_cop p ps hp es fun q hq => ⟨hr.1 q hq, h2.1 q hq⟩)
      have ht := tk_pow (p := p.toNat) (by omega) (prod ps es) hm e
      show ((tk p.toNat (p.toNat ^ e * prod ps es)).2 :: (stp ps (tk p.toNat (p.toNat ^ e * prod ps es)).1).1, (stp ps (tk p.toNat (p.toNat ^ e * prod ps es)).1).2) = (e :: es, 1)
      rw [ht, ih es hr (by simpa using hl)]
/-- The powers of the exponents that are greater than 0. -/
def ups (xs : List Int) : List Nat := xs.map fun x => x.toNat
/-- The powers of the exponents that are less than 0. -/
def dns (xs : List Int) : List Nat := xs.map fun x => (-x).toNat
theorem ups_len (xs : List Int) : (ups xs).length = xs.length := by simp [ups]
theorem dns_len (xs : List Int) : (dns xs).length = xs.length := by simp [dns]
theorem cop_pows (p q : Nat) (a b : Nat) (h : a = 0 ∨ b = 0) (hq : p = q) : Nat.Coprime (p ^ a) (q ^ b) := by
  subst hq
  rcases h with rfl | rfl
  · rw [Nat.pow_zero]; exact Nat.coprime_one_left _
  · rw [Nat.pow_zero]; exact Nat.coprime_one_right _
theorem prod_two (ps : List Int) : ∀ xs : List Int, Rgt ps → Nat.Coprime (prod ps (ups xs)) (prod ps (dns xs)) := by
  induction ps with
  | nil => intro xs _; exact Nat.coprime_one_left _
  | cons p ps ih =>
    intro xs h
    cases xs with
    | nil => exact Nat.coprime_one_left _
    | cons x xs =>
      obtain ⟨h1, h2⟩ := h
      rw [List.pairwise_cons] at h2
      have hp := h1 p (List.mem_cons_self ..)
      have hr : Rgt ps := ⟨fun q hq => h1 q (List.mem_cons_of_mem _ hq), h2.2⟩
      have hc := fun es => prod_cop p ps hp es fun q hq => ⟨hr.1 q hq, h2.1 q hq⟩
      show Nat.Coprime (p.toNat ^ x.toNat * prod ps (ups xs)) (p.toNat ^ (-x).toNat * prod ps (dns xs))
      refine Nat.Coprime.mul_left (Nat.Coprime.mul_right ?_ ?_) (Nat.Coprime.mul_right ?_ ?_)
      · exact cop_pows _ _ _ _ (by omega) rfl
      · exact Nat.Coprime.pow_left _ (hc _)
      · exact Nat.Coprime.symm (Nat.Coprime.pow_left _ (hc _))
      · exact ih xs hr
/-- The difference of the counts is the row. -/
def dif (a b : List Nat) : List Int := List.zipWith (fun (x y : Nat) => (x : Int) - (y : Int)) a b
theorem dif_row (xs : List Int) : dif (ups xs) (dns xs) = xs := by
  induction xs with
  | nil => rfl
  | cons x xs ih =>
    show ((x.toNat : Int) - ((-x).toNat : Int)) :: dif (ups xs) (dns xs) = x :: xs
    rw [ih]; congr 1; omega
theorem dif_len (a b : List Nat) (h : a.length = b.length) : (dif a b).length = a.length := by unfold dif; rw [List.length_zipWith]; omega
theorem dif_get (a b : List Nat) (k : Nat) (h1 : k < a.length) (h2 : k < b.length) : (dif a b).getD k 0 = (a.getD k 0 : Int) - (b.getD k 0 : Int) := by
  unfold dif
  simp [List.getD_eq_getElem?_getD, List.getElem?_zipWith, List.getElem?_eq_getElem h1, List.getElem?_eq_getElem h2]
/-- The product of the powers of the first k. -/
def prodTo (ps : List Int) (es : List Nat) (k : Nat) : Nat := prod (ps.take k) (es.take k)
theorem prodTo_zero (ps : List Int) (es : List Nat) : prodTo ps es 0 = 1 := rfl
theorem prod_append (ps qs : List Int) : ∀ es fs : List Nat, es.length = ps.length → prod (ps ++ qs) (es ++ fs) = prod ps es * prod qs fs := by
  induction ps with
  | nil => intro es fs h; rw [List.length_eq_zero_iff.1 h]; simp [prod]
  | cons p ps ih =>
    intro es fs h
    cases es with
    | nil => simp at h
    | cons e es => simp only [List.cons_append, prod]; rw [ih es fs (by simpa using h), Nat.mul_assoc]
theorem prodTo_succ (ps : List Int) (es : List Nat) (k : Nat) (h : k < ps.length) (h2 : k < es.length) : prodTo ps es (k + 1) = prodTo ps es k * (ps.getD k 0).toNat ^ (es.getD k 0) := by
  unfold prodTo
  rw [List.take_succ_eq_append_getElem h, List.take_succ_eq_append_getElem h2, prod_append _ _ _ _ (by simp; omega), getD_of h]
  simp [prod, List.getD_eq_getElem?_getD, List.getElem?_eq_getElem h2]
theorem prodTo_all (ps : List Int) (es : List Nat) (k : Nat) (h : ps.length ≤ k) (h2 : es.length ≤ k) : prodTo ps es k = prod ps es := by
  unfold prodTo; rw [List.take_of_length_le h, List.take_of_length_le h2]
/-- The first i elements, then zeros. -/
def part (xs : List Int) (i : Nat) : List Int := xs.take i ++ List.replicate (xs.length - i) 0
theorem part_zero (xs : List Int) : part xs 0 = List.replicate xs.length 0 := by simp [part]
theorem part_all {xs : List Int} {n : Nat} (h : xs.length = n) : part xs n = xs := by
  unfold part
  rw [List.take_of_length_le (by omega), show xs.length - n = 0 by omega, List.replicate_zero, List.append_nil]
theorem part_set {xs : List Int} {i : Nat} (h : i < xs.length) : (part xs i).set i (xs.getD i 0) = part xs (i + 1) := by
  unfold part
  obtain ⟨k, hk⟩ : ∃ k, xs.length - i = k + 1 := ⟨xs.length - i - 1, by omega⟩
  have hk2 : xs.length - (i + 1) = k := by omega
  rw [hk, hk2, List.replicate_succ, List.set_append_right _ _ (by rw [List.length_take]; omega), List.length_take, Nat.min_eq_left (by omega), Nat.sub_self, List.set_cons_zero, List.take_succ_eq_append_getElem h, List.append_assoc, getD_of h]
  rfl
/-- An exponent is too great. -/
def farB (xs : List Int) : Bool := xs.any fun e => decide (1000 < e) || decide (e < -1000)
theorem farB_no {xs : List Int} (h : farB xs = false) {i : Nat} (hi : i < xs.length) : -1000 ≤ xs.getD i 0 ∧ xs.getD i 0 ≤ 1000 := by
  unfold farB at h
  rw [List.any_eq_false] at h
  have := h _ (List.getElem_mem hi)
  rw [← getD_of hi] at this
  simp only [Bool.or_eq_true, decide_eq_true_eq] at this
  omega
end Go.Proofs.YtolnojkdalbppaaGreatDoor
