/- Greater text, out of: K0, K1, K2, K3, K4, K5, K6, K7, K8. -/
namespace Go.Proofs.YtpafocfpofnkpaaGreatDoor
section
/-- The terms of n / d. -/
def tms (n d : Int) : List Int := if _h : d ≤ 0 then [] else (n / d) :: tms d (n % d)
  termination_by d.toNat
  decreasing_by
    have := Int.emod_lt_of_pos n (show 0 < d by omega)
    omega
theorem tms_stop {n d : Int} (h : d ≤ 0) : tms n d = [] := by rw [tms, dif_pos h]
theorem tms_step {n d : Int} (h : 0 < d) : tms n d = (n / d) :: tms d (n % d) := by rw [tms, dif_neg (by omega)]
theorem emod_bd {n d : Int} (h : 0 < d) : 0 ≤ n % d ∧ n % d < d := ⟨Int.emod_nonneg n (by omega), Int.emod_lt_of_pos n h⟩
theorem ediv_eq (n d : Int) : n = d * (n / d) + n % d := (Int.mul_ediv_add_emod n d).symm
/-- Induction along the terms. -/
theorem tms_ind {P : Int → Int → Prop} (h0 : ∀ n d, d ≤ 0 → P n d) (h1 : ∀ n d, 0 < d → P d (n % d) → P n d) : ∀ n d, P n d := by
  intro n d
  generalize hm : d.toNat = m
  induction m using Nat.strongRecOn generalizing n d with
  | _ m ih =>
    by_cases h : d ≤ 0
    · exact h0 n d h
    · have hb := emod_bd (n := n) (d := d) (by omega)
      exact h1 n d (by omega) (ih (n % d).toNat (by omega) d (n % d) rfl)
theorem tms_len : ∀ (k : Nat) (n d : Int), d < 2 ^ k → (tms n d).length ≤ 2 * k := by
  intro k
  induction k with
  | zero =>
    intro n d h
    have h' : d < 1 := by simpa using h
    rw [tms_stop (by omega)]
    exact Nat.zero_le _
  | succ k ih =>
    intro n d h
    rw [Int.pow_succ] at h
    by_cases h0 : d ≤ 0
    · rw [tms_stop h0]; exact Nat.zero_le _
    · have hb := emod_bd (n := n) (d := d) (by omega)
      rw [tms_step (by omega), List.length_cons]
      by_cases h1 : n % d ≤ 0
      · rw [tms_stop h1]; simp only [List.length_nil]; omega
      · have hb2 := emod_bd (n := d) (d := n % d) (by omega)
        have he := ediv_eq d (n % d)
        have hq : 1 ≤ d / (n % d) := Int.le_ediv_of_mul_le (by omega) (by omega)
        rw [tms_step (by omega), List.length_cons]
        have hm : (n % d) * 1 ≤ (n % d) * (d / (n % d)) := Int.mul_le_mul_of_nonneg_left hq (by omega)
        have := ih (n % d) (d % (n % d)) (by omega)
        omega
theorem tms_ne {n d : Int} (h : 0 < d) : tms n d ≠ [] := by rw [tms_step h]; exact List.cons_ne_nil _ _
theorem tms_pos : ∀ n d : Int, d ≤ n → ∀ a ∈ tms n d, 1 ≤ a := by
  refine tms_ind ?_ ?_
  · intro n d h _ a ha; rw [tms_stop h] at ha; cases ha
  · intro n d h ih hn a ha
    have hb := emod_bd (n := n) h
    rw [tms_step h] at ha
    rcases List.mem_cons.1 ha with rfl | ha
    · exact Int.le_ediv_of_mul_le (by omega) (by omega)
    · exact ih (by omega) a ha
theorem tms_tail {n d : Int} (h : 0 < d) : ∀ a ∈ (tms n d).tail, 1 ≤ a := by
  rw [tms_step h, List.tail_cons]
  exact tms_pos _ _ (by have := emod_bd (n := n) h; omega)
/-- The last term of more than one is at least 2. -/
theorem tms_last : ∀ n d : Int, 0 < d → d < n → 2 ≤ (tms n d).getLastD 0 := by
  refine tms_ind ?_ ?_
  · intro n d h h1; omega
  · intro n d h ih _ hn
    have hb := emod_bd (n := n) h
    rw [tms_step h]
    by_cases h0 : n % d = 0
    · rw [h0, tms_stop (by omega)]
      show 2 ≤ n / d
      have he := ediv_eq n d
      have : ¬ n / d ≤ 1 := by
        intro hc
        have : d * (n / d) ≤ d * 1 := Int.mul_le_mul_of_nonneg_left hc (by omega)
        omega
      omega
    · have := ih (by omega) (by omega)
      rw [tms_step (by omega)] at this ⊢
      simpa using this

/-- The value of terms, as two numbers. -/
def cv : List Int → Int × Int
  | [] => (1, 0)
  | a :: l => (a * (cv l).1 + (cv l).2, (cv l).1)
/-- A convergent with the one before. -/
structure P4 where
  p : Int
  q : Int
  b : Int
  u : Int
def beg : P4 := ⟨1, 0, 0, 1⟩
def P4.num (c : P4) (j : Int) : Int := c.b + j * c.p
def P4.den (c : P4) (j : Int) : Int := c.u + j * c.q
def P4.nx (c : P4) (a : Int) : P4 := ⟨c.num a, c.den a, c.p, c.q⟩
def runC (c : P4) : List Int → P4
  | [] => c
  | a :: l => runC (c.nx a) l
theorem runC_append (l m : List Int) : ∀ c, runC c (l ++ m) = runC (runC c l) m := by
  induction l with
  | nil => intro c; rfl
  | cons a l ih => intro c; exact ih (c.nx a)
theorem runC_cv (l : List Int) : ∀ c : P4, (runC c l).p = c.p * (cv l).1 + c.b * (cv l).2 ∧ (runC c l).q = c.q * (cv l).1 + c.u * (cv l).2 := by
  induction l with
  | nil => intro c; simp [runC, cv]
  | cons a l ih =>
    intro c
    obtain ⟨h1, h2⟩ := ih (c.nx a)
    have h1' : (runC (c.nx a) l).p = (c.b + a * c.p) * (cv l).1 + c.p * (cv l).2 := h1
    have h2' : (runC (c.nx a) l).q = (c.u + a * c.q) * (cv l).1 + c.q * (cv l).2 := h2
    show (runC (c.nx a) l).p = c.p * (a * (cv l).1 + (cv l).2) + c.b * (cv l).1 ∧ (runC (c.nx a) l).q = c.q * (a * (cv l).1 + (cv l).2) + c.u * (cv l).1
    rw [h1', h2']
    constructor <;> grind
theorem runC_beg (l : List Int) : (runC beg l).p = (cv l).1 ∧ (runC beg l).q = (cv l).2 := by
  have h := runC_cv l beg
  simpa [beg] using h
theorem gcd_emod (n d : Int) : Int.gcd d (n % d) = Int.gcd n d := by
  rw [Int.gcd_comm n d]
  conv => rhs; rw [ediv_eq n d]
  rw [Int.gcd_mul_left_add_right]
theorem cv_tms : ∀ n d : Int, 0 ≤ d → (0 < d ∨ 0 ≤ n) → (cv (tms n d)).1 * (Int.gcd n d : Nat) = n ∧ (cv (tms n d)).2 * (Int.gcd n d : Nat) = d := by
  refine tms_ind ?_ ?_
  · intro n d h h0 h1
    obtain rfl : d = 0 := by omega
    rw [tms_stop h]
    simp [cv]
    omega
  · intro n d h ih _ _
    have hb := emod_bd (n := n) h
    have he := ediv_eq n d
    obtain ⟨h1, h2⟩ := ih hb.1 (.inr (by omega))
    rw [gcd_emod] at h1 h2
    rw [tms_step h]
    show ((n / d) * (cv (tms d (n % d))).1 + (cv (tms d (n % d))).2) * (Int.gcd n d : Nat) = n ∧ (cv (tms d (n % d))).1 * (Int.gcd n d : Nat) = d
    refine ⟨?_, h1⟩
    rw [Int.add_mul, Int.mul_assoc, h1, h2, Int.mul_comm]
    omega
theorem cv_right {n d : Int} (h : 0 < d) (hg : Int.gcd n d = 1) : (cv (tms n d)).1 = n ∧ (cv (tms n d)).2 = d := by
  have := cv_tms n d (by omega) (.inl h)
  rw [hg] at this
  simpa using this
/-- Values of positive terms grow with more of them. -/
theorem cv_nonneg (l : List Int) (h : ∀ a ∈ l, 1 ≤ a) : 1 ≤ (cv l).1 ∧ 0 ≤ (cv l).2 ∧ (cv l).2 ≤ (cv l).1 := by
  induction l with
  | nil => simp [cv]
  | cons a l ih =>
    obtain ⟨h1, h2, h3⟩ := ih fun x hx => h x (List.mem_cons_of_mem _ hx)
    have ha := h a List.mem_cons_self
    have hm : 1 * (cv l).1 ≤ a * (cv l).1 := Int.mul_le_mul_of_nonneg_right ha (by omega)
    simp only [cv]
    omega
theorem cv_mono (l m : List Int) (h : ∀ a ∈ l, 1 ≤ a) (hm : ∀ a ∈ m, 1 ≤ a) : (cv l).1 ≤ (cv (l ++ m)).1 ∧ (cv l).2 ≤ (cv (l ++ m)).2 := by
  induction l with
  | nil => have := cv_nonneg m hm; simp [cv]; omega
  | cons a l ih =>
    obtain ⟨h1, h2⟩ := ih fun x hx => h x (List.mem_cons_of_mem _ hx)
    have ha := h a List.mem_cons_self
    have hx : a * (cv l).1 ≤ a * (cv (l ++ m)).1 := Int.mul_le_mul_of_nonneg_left h1 (by omega)
    simp only [List.cons_append, cv]
    omega
end
section
/-- c is the state with which n' / d' is left of n / d; s: the sign of its determinant. -/
structure Cv (c : P4) (n d n' d' s : Int) : Prop where
  hn : n = c.p * n' + c.b * d'
  hd : d = c.q * n' + c.u * d'
  det : c.p * c.u - c.b * c.q = s
  sq : s * s = 1
theorem Cv.beg (n d : Int) : Cv beg n d n d 1 := ⟨by simp [Go.Proofs.YtpafocfpofnkpaaGreatDoor.beg], by simp [Go.Proofs.YtpafocfpofnkpaaGreatDoor.beg], by simp [Go.Proofs.YtpafocfpofnkpaaGreatDoor.beg], by decide⟩
theorem Cv.nx {c : P4} {n d n' d' s : Int} (h : Cv c n d n' d' s) : Cv (c.nx (n' / d')) n d d' (n' % d') (-s) := by
  obtain ⟨h1, h2, h3, h4⟩ := h
  have he := ediv_eq n' d'
  generalize n' / d' = a at *
  generalize n' % d' = r at *
  refine ⟨?_, ?_, ?_, by grind⟩
  · show n = (c.b + a * c.p) * d' + c.p * r; grind
  · show d = (c.u + a * c.q) * d' + c.q * r; grind
  · show (c.b + a * c.p) * c.q - c.p * (c.u + a * c.q) = -s; grind
/-- How far n / d is from the semiconvergents, and from the convergent. -/
theorem Cv.far {c : P4} {n d n' d' s : Int} (h : Cv c n d n' d' s) (j : Int) : n * c.den j - c.num j * d = s * (n' - j * d') := by
  obtain ⟨h1, h2, h3, h4⟩ := h
  unfold P4.den P4.num; grind
theorem Cv.near {c : P4} {n d n' d' s : Int} (h : Cv c n d n' d' s) : n * c.q - c.p * d = -(s * d') := by
  obtain ⟨h1, h2, h3, h4⟩ := h
  grind
theorem sq_cases {s : Int} (h : s * s = 1) : s = 1 ∨ s = -1 := by
  have h2 : (s - 1) * (s + 1) = 0 := by grind
  rcases Int.mul_eq_zero.1 h2 with h3 | h3
  · exact .inl (by omega)
  · exact .inr (by omega)
theorem Cv.den_det {c : P4} {n d n' d' s : Int} (h : Cv c n d n' d' s) (j : Int) : c.p * c.den j - c.num j * c.q = s := by
  obtain ⟨h1, h2, h3, h4⟩ := h
  unfold P4.den P4.num; grind
/-- The two coordinates of a fraction P / Q, over the semiconvergent with j and the convergent. -/
def P4.al (c : P4) (s P Q : Int) : Int := -s * (P * c.q - c.p * Q)
def P4.be (c : P4) (s j P Q : Int) : Int := -s * (c.num j * Q - P * c.den j)
theorem Cv.coord {c : P4} {n d n' d' s : Int} (h : Cv c n d n' d' s) (j P Q : Int) : Q = c.al s P Q * c.den j + c.be s j P Q * c.q ∧ P = c.al s P Q * c.num j + c.be s j P Q * c.p := by
  have h5 := h.den_det j
  obtain ⟨h1, h2, h3, h4⟩ := h
  unfold P4.al P4.be
  generalize c.den j = D at *
  generalize c.num j = N at *
  constructor <;> grind
theorem Cv.cross {c : P4} {n d n' d' s : Int} (h : Cv c n d n' d' s) (j P Q : Int) : n * Q - P * d = -s * (d' * c.be s j P Q - (n' - j * d') * c.al s P Q) := by
  have h5 := h.den_det j
  have h6 := h.far j
  have h7 := h.near
  obtain ⟨h1, h2, h3, h4⟩ := h
  unfold P4.al P4.be
  generalize c.den j = D at *
  generalize c.num j = N at *
  grind
/-- A fraction that lies between the semiconvergent and the convergent has both coordinates positive; a lesser denominator than both together has not. -/
theorem Cv.outside {c : P4} {n d n' d' s : Int} (h : Cv c n d n' d' s) (j P Q : Int) (hq : 0 ≤ c.q) (hD : 0 ≤ c.den j) (hQ : Q < c.den j + c.q) : c.al s P Q ≤ 0 ∨ c.be s j P Q ≤ 0 := by
  have h1 := (h.coord j P Q).1
  generalize c.al s P Q = α at *
  generalize c.be s j P Q = β at *
  by_cases ha : α ≤ 0
  · exact .inl ha
  · refine .inr (Decidable.by_contra fun hb => ?_)
    have h2 : 1 * c.den j ≤ α * c.den j := Int.mul_le_mul_of_nonneg_right (by omega) hD
    have h3 : 1 * c.q ≤ β * c.q := Int.mul_le_mul_of_nonneg_right (by omega) hq
    omega
/-- How far P / Q is from n / d: over d Q. -/
def dl (n d P Q : Int) : Int := ((n * Q - P * d).natAbs : Nat)
theorem dl_sq {s x : Int} (h : s * s = 1) : ((-s * x).natAbs : Int) = x.natAbs := by
  rcases sq_cases h with rfl | rfl
  · rw [Int.neg_mul, Int.one_mul, Int.natAbs_neg]
  · rw [Int.neg_neg, Int.one_mul]
theorem dl_nonneg (n d P Q : Int) : 0 ≤ dl n d P Q := Int.natCast_nonneg _
theorem Cv.dl_eq {c : P4} {n d n' d' s : Int} (h : Cv c n d n' d' s) (j P Q : Int) : dl n d P Q = ((d' * c.be s j P Q - (n' - j * d') * c.al s P Q).natAbs : Nat) := by
  unfold dl
  rw [h.cross j P Q, dl_sq h.sq]
theorem Cv.dl_semi {c : P4} {n d n' d' s : Int} (h : Cv c n d n' d' s) (j : Int) (hj : j * d' ≤ n') : dl n d (c.num j) (c.den j) = n' - j * d' := by
  unfold dl
  rw [h.far j, show s * (n' - j * d') = -s * -(n' - j * d') by grind, dl_sq h.sq]
  omega
theorem Cv.dl_conv {c : P4} {n d n' d' s : Int} (h : Cv c n d n' d' s) (hd : 0 ≤ d') : dl n d c.p c.q = d' := by
  unfold dl
  rw [h.near, show -(s * d') = -s * d' by grind, dl_sq h.sq]
  omega
theorem abs_ge {x y z : Int} (h : y ≤ x ∨ y ≤ -x) (hz : z = (x.natAbs : Nat)) : y ≤ z := by omega
/-- Such a fraction is as far as the convergent, or as the semiconvergent. -/
theorem Cv.best {c : P4} {n d n' d' s : Int} (h : Cv c n d n' d' s) (j P Q : Int) (hq : 0 ≤ c.q) (hD : 0 ≤ c.den j) (hQ2 : Q < c.den j + c.q) (hd : 0 ≤ d') (hj : j * d' ≤ n') :
    d' * Q ≤ dl n d P Q * c.q ∨ (n' - j * d') * Q ≤ dl n d P Q * c.den j := by
  have h1 := (h.coord j P Q).1
  have h2 := h.dl_eq j P Q
  rcases h.outside j P Q hq hD hQ2 with ha | hb
  · left
    generalize c.al s P Q = α at *
    generalize c.be s j P Q = β at *
    -- Q <= β q, so β > 0
    have e1 : α * c.den j ≤ 0 := Int.mul_nonpos_of_nonpos_of_nonneg ha hD
    have hx : d' * β - (n' - j * d') * α ≤ dl n d P Q := by rw [h2]; omega
    have e2 : 0 ≤ (n' - j * d') * (-α) := Int.mul_nonneg (by omega) (by omega)
    have e3 : d' * β ≤ dl n d P Q := by grind
    have e4 : d' * β * c.q ≤ dl n d P Q * c.q := Int.mul_le_mul_of_nonneg_right e3 hq
    have e5 : d' * Q ≤ d' * (β * c.q) := Int.mul_le_mul_of_nonneg_left (by omega) hd
    grind
  · right
    generalize c.al s P Q = α at *
    generalize c.be s j P Q = β at *
    have e1 : β * c.q ≤ 0 := Int.mul_nonpos_of_nonpos_of_nonneg hb hq
    have hx : -(d' * β - (n' - j * d') * α) ≤ dl n d P Q := by rw [h2]; omega
    have e2 : 0 ≤ d' * (-β) := Int.mul_nonneg hd (by omega)
    have e3 : (n' - j * d') * α ≤ dl n d P Q := by grind
    have e4 : (n' - j * d') * α * c.den j ≤ dl n d P Q * c.den j := Int.mul_le_mul_of_nonneg_right e3 hD
    have e5 : (n' - j * d') * Q ≤ (n' - j * d') * (α * c.den j) := Int.mul_le_mul_of_nonneg_left (by omega) (by omega)
    grind
end
section
/-- P / Q is nearer to n / d than R / S. -/
def nearer (n d P Q R S : Int) : Bool := decide (dl n d P Q * S < dl n d R S * Q)
def pick (n d Q : Int) : Int := if nearer n d (n * Q / d + 1) Q (n * Q / d) Q = true then n * Q / d + 1 else n * Q / d
def rbStep (n d : Int) (out : List (Int × Int)) (Q : Int) : List (Int × Int) :=
  match out.getLast? with
  | none => [(pick n d Q, Q)]
  | some z => if nearer n d (pick n d Q) Q z.1 z.2 = true then out ++ [(pick n d Q, Q)] else out
def rb (n d : Int) : Nat → List (Int × Int)
  | 0 => []
  | k + 1 => rbStep n d (rb n d k) ((k : Int) + 1)
def pbStep (n d : Int) (out : List (Int × Int)) (y : Int × Int) : List (Int × Int) :=
  match out.getLast? with
  | none => [y]
  | some z => if nearer n d y.1 y.2 z.1 z.2 = true then (if y.2 = z.2 then out.dropLast ++ [y] else out ++ [y]) else out
def pb (n d : Int) (l : List (Int × Int)) : List (Int × Int) := l.foldl (pbStep n d) []

/-- The numbers from lo to hi. -/
def rng (lo hi : Int) : List Int := (List.range (hi + 1 - lo).toNat).map fun (i : Nat) => lo + (i : Int)
theorem rng_none {lo hi : Int} (h : hi < lo) : rng lo hi = [] := by
  unfold rng; rw [show (hi + 1 - lo).toNat = 0 by omega]; rfl
theorem rng_snoc {lo hi : Int} (h : lo ≤ hi + 1) : rng lo (hi + 1) = rng lo hi ++ [hi + 1] := by
  unfold rng
  rw [show (hi + 1 + 1 - lo).toNat = (hi + 1 - lo).toNat + 1 by omega, List.range_succ, List.map_append]
  congr 1
  simp only [List.map_cons, List.map_nil]
  rw [show lo + (((hi + 1 - lo).toNat : Nat) : Int) = hi + 1 by omega]
theorem rng_cons {lo hi : Int} (h : lo ≤ hi) : rng lo hi = lo :: rng (lo + 1) hi := by
  unfold rng
  rw [show (hi + 1 - lo).toNat = (hi + 1 - (lo + 1)).toNat + 1 by omega, List.range_succ_eq_map, List.map_cons, List.map_map]
  congr 1
  · simp
  · apply List.map_congr_left
    intro i _
    simp only [Function.comp]
    omega
theorem rng_mem {lo hi x : Int} : x ∈ rng lo hi ↔ lo ≤ x ∧ x ≤ hi := by
  unfold rng
  rw [List.mem_map]
  constructor
  · rintro ⟨i, hi, rfl⟩
    have := List.mem_range.1 hi
    omega
  · intro h
    exact ⟨(x - lo).toNat, List.mem_range.2 (by omega), by omega⟩
/-- The semiconvergents of a term from one on. -/
def P4.semis (c : P4) (lo hi : Int) : List (Int × Int) := (rng lo hi).map fun j => (c.num j, c.den j)
/-- The greatest j, up to the term, with a denominator up to the bound. -/
def P4.most (c : P4) (a bound : Int) : Int := if c.q = 0 then a else if (bound - c.u) / c.q < a then (bound - c.u) / c.q else a
/-- What semi yields behind the first term. -/
def semiT (f : Int → Int → Int) (bound : Int) (c : P4) : List Int → List (Int × Int)
  | [] => []
  | a :: l => c.semis (max (f a (c.most a bound)) 1) (c.most a bound) ++ if c.most a bound < a then [] else semiT f bound (c.nx a) l
def semiL (f : Int → Int → Int) (bound : Int) : List Int → List (Int × Int)
  | [] => []
  | a :: l => (a, 1) :: semiT f bound (beg.nx a) l

/-- The semiconvergent with i is nearer than the convergent. -/
def P4.nr (c : P4) (n' d' i : Int) : Bool := decide ((n' - i * d') * c.q < d' * c.den i)
theorem den_step (c : P4) (i : Int) : c.den (i + 1) = c.den i + c.q := by unfold P4.den; grind
theorem nr_mono {c : P4} {n' d' : Int} (hq : 0 ≤ c.q) (hd : 0 ≤ d') {i : Int} (h : c.nr n' d' i = true) : c.nr n' d' (i + 1) = true := by
  unfold P4.nr at *
  rw [decide_eq_true_eq] at *
  rw [den_step]
  have h1 : 0 ≤ d' * c.q := Int.mul_nonneg hd hq
  grind
theorem nr_up {c : P4} {n' d' : Int} (hq : 0 ≤ c.q) (hd : 0 ≤ d') {i : Int} (h : c.nr n' d' i = true) : ∀ k : Nat, c.nr n' d' (i + k) = true := by
  intro k
  induction k with
  | zero => simpa using h
  | succ k ih => have := nr_mono hq hd ih; rwa [show i + ((k + 1 : Nat) : Int) = i + (k : Int) + 1 by omega]
theorem nr_le {c : P4} {n' d' : Int} (hq : 0 ≤ c.q) (hd : 0 ≤ d') {i j : Int} (hij : i ≤ j) (h : c.nr n' d' j = false) : c.nr n' d' i = false := by
  cases e : c.nr n' d' i with
  | false => rfl
  | true => have := nr_up hq hd e (j - i).toNat; rw [show i + ((j - i).toNat : Int) = j by omega, h] at this; cases this
/-- The semiconvergents up to J that are nearer than the convergent. -/
def P4.G (c : P4) (n' d' J : Int) : List (Int × Int) := ((rng 1 J).filter fun i => c.nr n' d' i).map fun j => (c.num j, c.den j)
theorem G_nil {c : P4} {n' d' J : Int} (hq : 0 ≤ c.q) (hd : 0 ≤ d') (h : c.nr n' d' J = false) : c.G n' d' J = [] := by
  unfold P4.G
  rw [List.filter_eq_nil_iff.2 ?_]
  · rfl
  · intro i hi
    have := rng_mem.1 hi
    rw [nr_le hq hd this.2 h]; decide
theorem G_zero (c : P4) (n' d' : Int) : c.G n' d' 0 = [] := by unfold P4.G; rw [rng_none (by omega)]; rfl
theorem G_succ_yes {c : P4} {n' d' J : Int} (hJ : 0 ≤ J) (h : c.nr n' d' (J + 1) = true) : c.G n' d' (J + 1) = c.G n' d' J ++ [(c.num (J + 1), c.den (J + 1))] := by
  unfold P4.G
  rw [rng_snoc (by omega), List.filter_append, List.map_append, List.filter_cons_of_pos (by exact h)]; rfl
theorem G_succ_no {c : P4} {n' d' J : Int} (hJ : 0 ≤ J) (h : c.nr n' d' (J + 1) = false) : c.G n' d' (J + 1) = c.G n' d' J := by
  unfold P4.G
  rw [rng_snoc (by omega), List.filter_append, List.map_append, List.filter_cons_of_neg (by rw [h]; decide)]; simp
theorem G_last {c : P4} {n' d' J : Int} (hJ : 1 ≤ J) (h : c.nr n' d' J = true) (pre : List (Int × Int)) : (pre ++ c.G n' d' J).getLast? = some (c.num J, c.den J) := by
  have := G_succ_yes (c := c) (n' := n') (d' := d') (J := J - 1) (by omega) (by rw [Int.sub_add_cancel]; exact h)
  rw [Int.sub_add_cancel] at this
  rw [this, ← List.append_assoc, List.getLast?_append]; rfl

/-- A stage of the search. -/
structure Stg (c : P4) (n d n' d' s : Int) : Prop extends Cv c n d n' d' s where
  q1 : 1 ≤ c.q
  u0 : 0 ≤ c.u
  uq : c.u ≤ c.q
  d0 : 0 ≤ d'
  dn : d' ≤ n'
  one : 1 ≤ c.u ∨ 2 * d' ≤ n'
theorem pick_least {n d : Int} (hd : 0 < d) {Q : Int} (hQ : 0 < Q) (P : Int) : dl n d (pick n d Q) Q ≤ dl n d P Q := by
  have he := ediv_eq (n * Q) d
  have hb := emod_bd (n := n * Q) hd
  have h0 : dl n d (n * Q / d) Q = n * Q % d := by unfold dl; grind
  have h1 : dl n d (n * Q / d + 1) Q = d - n * Q % d := by unfold dl; grind
  have hP : n * Q - P * d = (n * Q / d - P) * d + n * Q % d := by grind
  have hcase : dl n d (n * Q / d) Q ≤ dl n d P Q ∨ dl n d (n * Q / d + 1) Q ≤ dl n d P Q := by
    rcases Int.lt_or_le (n * Q / d) P with h | h
    · right
      have : (P - n * Q / d - 1) * d ≥ 0 := Int.mul_nonneg (by omega) (by omega)
      rw [h1]; unfold dl; rw [hP]; grind
    · left
      have : (n * Q / d - P) * d ≥ 0 := Int.mul_nonneg (by omega) (by omega)
      rw [h0]; unfold dl; rw [hP]; omega
  unfold pick nearer
  by_cases hn : dl n d (n * Q / d + 1) Q * Q < dl n d (n * Q / d) Q * Q
  · rw [if_pos (by simpa using hn)]
    have := Int.lt_of_mul_lt_mul_right hn (by omega)
    omega
  · rw [if_neg (by simpa using hn)]
    have : dl n d (n * Q / d) Q ≤ dl n d (n * Q / d + 1) Q := Int.le_of_mul_le_mul_right (by omega) hQ
    omega
theorem not_nearer {n d P Q R S : Int} (h : dl n d R S * Q ≤ dl n d P Q * S) : nearer n d P Q R S = false := by
  unfold nearer; rw [decide_eq_false]; omega
theorem rbStep_keep {n d : Int} {out : List (Int × Int)} {z : Int × Int} {Q : Int} (h : out.getLast? = some z) (hn : nearer n d (pick n d Q) Q z.1 z.2 = false) : rbStep n d out Q = out := by
  unfold rbStep; rw [h]; simp [hn]
theorem rbStep_add {n d : Int} {out : List (Int × Int)} {z : Int × Int} {Q : Int} (h : out.getLast? = some z) (hn : nearer n d (pick n d Q) Q z.1 z.2 = true) : rbStep n d out Q = out ++ [(pick n d Q, Q)] := by
  unfold rbStep; rw [h]; simp [hn]
section
variable {c : P4} {n d n' d' s : Int}
/-- The last one so far. -/
theorem Stg.lastJ (h : Stg c n d n' d' s) {pre : List (Int × Int)} (hp : pre.getLast? = some (c.p, c.q)) {J : Int} (hJ : 0 ≤ J) :
    ((pre ++ c.G n' d' J).getLast? = some (c.num J, c.den J) ∧ c.nr n' d' J = true ∧ 1 ≤ J) ∨ ((pre ++ c.G n' d' J).getLast? = some (c.p, c.q) ∧ c.G n' d' J = [] ∧ (c.nr n' d' J = false ∨ J = 0)) := by
  have := h.q1
  have hq : 0 ≤ c.q := by omega
  by_cases h0 : J = 0
  · subst h0; right; rw [G_zero]; simp [hp]
  cases e : c.nr n' d' J with
  | true => exact .inl ⟨G_last (by omega) e pre, rfl, by omega⟩
  | false => right; rw [G_nil hq h.d0 e]; simp [hp]
theorem mul_cancel {a b k : Int} (hk : 0 < k) (h : a * k ≤ b * k) : a ≤ b := Int.le_of_mul_le_mul_right h hk
/-- Between two semiconvergents there is none. -/
theorem Stg.keep (h : Stg c n d n' d' s) {pre : List (Int × Int)} (hp : pre.getLast? = some (c.p, c.q)) {J Q : Int} (hJ : 0 ≤ J) (hJ2 : J * d' ≤ n') (h1 : c.den J ≤ Q) (h2 : Q < c.den (J + 1)) (hQ : c.q < Q) :
    rbStep n d (pre ++ c.G n' d' J) Q = pre ++ c.G n' d' J := by
  have hq := h.q1
  have hu := h.u0
  have hD : 0 ≤ c.den J := by unfold P4.den; have := Int.mul_nonneg hJ (show 0 ≤ c.q by omega); omega
  rw [den_step] at h2
  have hb := h.toCv.best J (pick n d Q) Q (by omega) hD h2 h.d0 hJ2
  have hc := h.toCv.dl_conv h.d0
  have hs := h.toCv.dl_semi J hJ2
  have hdl := dl_nonneg n d (pick n d Q) Q
  obtain ⟨L, hL⟩ : ∃ L, dl n d (pick n d Q) Q = L := ⟨_, rfl⟩
  rw [hL] at hb hdl
  rcases h.lastJ hp hJ with ⟨e1, e2, _⟩ | ⟨e1, e2, e3⟩
  · refine rbStep_keep e1 (not_nearer ?_)
    show dl n d (c.num J) (c.den J) * Q ≤ dl n d (pick n d Q) Q * c.den J
    rw [hs, hL]
    unfold P4.nr at e2
    rw [decide_eq_true_eq] at e2
    generalize c.den J = D at *
    generalize n' - J * d' = a at *
    rcases hb with hb | hb
    · have m1 : a * c.q * Q ≤ d' * D * Q := Int.mul_le_mul_of_nonneg_right (by omega) (by omega)
      have m2 : d' * Q * D ≤ L * c.q * D := Int.mul_le_mul_of_nonneg_right hb hD
      exact mul_cancel (k := c.q) (by omega) (by grind)
    · exact hb
  · refine rbStep_keep e1 (not_nearer ?_)
    show dl n d c.p c.q * Q ≤ dl n d (pick n d Q) Q * c.q
    rw [hc, hL]
    have e4 : d' * c.den J ≤ (n' - J * d') * c.q := by
      rcases e3 with e3 | rfl
      · unfold P4.nr at e3
        rw [decide_eq_false_iff_not] at e3
        omega
      · have k1 : d' * c.u ≤ d' * c.q := Int.mul_le_mul_of_nonneg_left h.uq h.d0
        have k2 : d' * c.q ≤ n' * c.q := Int.mul_le_mul_of_nonneg_right h.dn (by omega)
        unfold P4.den
        grind
    generalize c.den J = D at *
    generalize n' - J * d' = a at *
    rcases hb with hb | hb
    · exact hb
    · have m1 : d' * D * Q ≤ a * c.q * Q := Int.mul_le_mul_of_nonneg_right e4 (by omega)
      have m2 : a * Q * c.q ≤ L * D * c.q := Int.mul_le_mul_of_nonneg_right hb (by omega)
      exact mul_cancel (k := D) (by omega) (by grind)
/-- Where the denominator is that of a semiconvergent. -/
theorem Stg.add (h : Stg c n d n' d' s) {pre : List (Int × Int)} (hp : pre.getLast? = some (c.p, c.q)) (hd : 0 < d) (hd' : 0 < d') {J : Int} (hJ : 0 ≤ J) (hJ2 : (J + 1) * d' ≤ n') (hQ : c.q < c.den (J + 1)) :
    rbStep n d (pre ++ c.G n' d' J) (c.den (J + 1)) = pre ++ c.G n' d' (J + 1) := by
  have hq := h.q1
  have hu := h.u0
  have hJ3 : J * d' ≤ n' := by grind
  have hD : 0 ≤ c.den J := by unfold P4.den; have := Int.mul_nonneg hJ (show 0 ≤ c.q by omega); omega
  have hst := den_step c J
  have hb := h.toCv.best (J + 1) (pick n d (c.den (J + 1))) (c.den (J + 1)) (by omega) (by omega) (by omega) h.d0 hJ2
  have ho := h.toCv.outside (J + 1) (pick n d (c.den (J + 1))) (c.den (J + 1)) (by omega) (by omega) (by omega)
  have hco := h.toCv.coord (J + 1) (pick n d (c.den (J + 1))) (c.den (J + 1))
  have heq := h.toCv.dl_eq (J + 1) (pick n d (c.den (J + 1))) (c.den (J + 1))
  have hc := h.toCv.dl_conv h.d0
  have hs := h.toCv.dl_semi J hJ3
  have hs2 := h.toCv.dl_semi (J + 1) hJ2
  have hle := pick_least (n := n) hd (show 0 < c.den (J + 1) by omega) (c.num (J + 1))
  have hdl := dl_nonneg n d (pick n d (c.den (J + 1))) (c.den (J + 1))
  rw [hs2] at hle
  cases e : c.nr n' d' (J + 1) with
  | false =>
    rw [G_succ_no hJ e]
    have hG : c.G n' d' J = [] := G_nil (by omega) h.d0 (nr_le (by omega) h.d0 (show J ≤ J + 1 by omega) e)
    rw [hG, List.append_nil]
    refine rbStep_keep hp (not_nearer ?_)
    show dl n d c.p c.q * c.den (J + 1) ≤ dl n d (pick n d (c.den (J + 1))) (c.den (J + 1)) * c.q
    rw [hc]
    unfold P4.nr at e
    rw [decide_eq_false_iff_not] at e
    rcases hb with hb | hb
    · exact hb
    · have m1 : n' - (J + 1) * d' ≤ dl n d (pick n d (c.den (J + 1))) (c.den (J + 1)) := mul_cancel (k := c.den (J + 1)) (by omega) hb
      have m2 := Int.mul_le_mul_of_nonneg_right m1 (show 0 ≤ c.q by omega)
      omega
  | true =>
    rw [G_succ_yes hJ e]
    have e' := e
    unfold P4.nr at e'
    rw [decide_eq_true_eq] at e'
    have hpick : pick n d (c.den (J + 1)) = c.num (J + 1) := by
      rcases ho with ha | hbe
      · exfalso
        -- as far as the convergent
        obtain ⟨L, hL⟩ : ∃ L, dl n d (pick n d (c.den (J + 1))) (c.den (J + 1)) = L := ⟨_, rfl⟩
        rw [hL] at heq hle hdl
        have hc1 := hco.1
        generalize c.al s (pick n d (c.den (J + 1))) (c.den (J + 1)) = α at *
        generalize c.be s (J + 1) (pick n d (c.den (J + 1))) (c.den (J + 1)) = β at *
        generalize n' - (J + 1) * d' = a at *
        generalize c.den (J + 1) = D at *
        have k1 : α * D ≤ 0 := Int.mul_nonpos_of_nonpos_of_nonneg ha (by omega)
        have k2 : 0 ≤ a * (-α) := Int.mul_nonneg (by omega) (by omega)
        have k3 : d' * β - a * α ≤ L := by rw [heq]; omega
        have k4 : d' * β ≤ L := by grind
        have k5 : d' * β * c.q ≤ a * c.q := Int.mul_le_mul_of_nonneg_right (by omega) (by omega)
        have k6 : d' * D ≤ d' * (β * c.q) := Int.mul_le_mul_of_nonneg_left (by omega) h.d0
        grind
      · obtain ⟨L, hL⟩ : ∃ L, dl n d (pick n d (c.den (J + 1))) (c.den (J + 1)) = L := ⟨_, rfl⟩
        rw [hL] at heq hle hdl
        have hc1 := hco.1
        have hc2 := hco.2
        clear hco hb hs hs2 hL hc
        generalize pick n d (c.den (J + 1)) = P at *
        generalize c.al s P (c.den (J + 1)) = α at *
        generalize c.be s (J + 1) P (c.den (J + 1)) = β at *
        generalize n' - (J + 1) * d' = a at *
        generalize c.den (J + 1) = D at *
        by_cases hb0 : β = 0
        · subst hb0
          have k1 : (α - 1) * D = 0 := by grind
          rcases Int.mul_eq_zero.1 k1 with k2 | k2
          · have : α = 1 := by omega
            subst this; grind
          · omega
        · exfalso
          have k1 : 1 * c.q ≤ (-β) * c.q := Int.mul_le_mul_of_nonneg_right (by omega) (by omega)
          have k2 : 2 ≤ α := by
            refine Decidable.by_contra fun hc => ?_
            have : α * D ≤ 1 * D := Int.mul_le_mul_of_nonneg_right (by omega) (by omega)
            grind
          have k3 : a * 2 ≤ a * α := Int.mul_le_mul_of_nonneg_left k2 (by omega)
          have k4 : d' * 1 ≤ d' * (-β) := Int.mul_le_mul_of_nonneg_left (by omega) (by omega)
          have k5 : -(d' * β - a * α) ≤ L := by rw [heq]; omega
          grind
    rcases h.lastJ hp hJ with ⟨e1, _, _⟩ | ⟨e1, e2, _⟩
    · rw [rbStep_add e1 ?_, hpick, List.append_assoc]
      rw [hpick]
      show nearer n d (c.num (J + 1)) (c.den (J + 1)) (c.num J) (c.den J) = true
      unfold nearer
      rw [hs, hs2, decide_eq_true_eq]
      have k1 : (n' - (J + 1) * d') * c.den J ≤ (n' - (J + 1) * d') * c.den (J + 1) := Int.mul_le_mul_of_nonneg_left (by omega) (by omega)
      have k2 : (n' - (J + 1) * d') * c.den (J + 1) < (n' - J * d') * c.den (J + 1) := Int.mul_lt_mul_of_pos_right (by grind) (by omega)
      omega
    · rw [rbStep_add e1 ?_, hpick, List.append_assoc]
      rw [hpick]
      show nearer n d (c.num (J + 1)) (c.den (J + 1)) c.p c.q = true
      unfold nearer
      rw [hc, hs2, decide_eq_true_eq]
      exact e'
end
end
section
section
variable {c : P4} {n d n' d' s : Int}
theorem Stg.walk (h : Stg c n d n' d' s) (hd : 0 < d) (hd' : 0 < d') {pre : List (Int × Int)} (hp : pre.getLast? = some (c.p, c.q)) {q : Nat} (hq : c.q = (q : Int)) (hr : rb n d q = pre) :
    ∀ (k : Nat) (J : Int), 0 ≤ J → J * d' ≤ n' → c.den J ≤ q + k → (q : Int) + k < c.den (J + 1) → rb n d (q + k) = pre ++ c.G n' d' J := by
  have hq1 := h.q1
  have hu0 := h.u0
  have huq := h.uq
  intro k
  induction k with
  | zero =>
    intro J hJ hJ2 h1 h2
    rw [Nat.add_zero, hr]
    by_cases h0 : J = 0
    · subst h0; rw [G_zero, List.append_nil]
    · have hJ1 : J = 1 ∧ c.u = 0 := by
        unfold P4.den at h1
        have : ¬ 2 ≤ J := fun hc => by
          have := Int.mul_le_mul_of_nonneg_right hc (show 0 ≤ c.q by omega)
          omega
        obtain rfl : J = 1 := by omega
        omega
      obtain ⟨rfl, hu⟩ := hJ1
      have ho : 2 * d' ≤ n' := by have := h.one; omega
      rw [G_nil (by omega) h.d0, List.append_nil]
      unfold P4.nr P4.den
      rw [decide_eq_false_iff_not, hu]
      intro hc
      simp only [Int.zero_add, Int.one_mul] at hc
      have := Int.mul_le_mul_of_nonneg_right (show d' ≤ n' - d' by omega) (show 0 ≤ c.q by omega)
      omega
  | succ k ih =>
    intro J hJ hJ2 h1 h2
    have e : rb n d (q + (k + 1)) = rbStep n d (rb n d (q + k)) ((q + k : Nat) + 1) := rfl
    by_cases hc : c.den J ≤ q + k
    · rw [e, ih J hJ hJ2 hc (by omega)]
      exact h.keep hp hJ hJ2 (by omega) (by omega) (by omega)
    · have hJ0 : J ≠ 0 := by
        rintro rfl
        unfold P4.den at hc
        omega
      have hs := den_step c (J - 1)
      rw [Int.sub_add_cancel] at hs
      have hdj : (J - 1) * d' ≤ n' := by grind
      rw [e, ih (J - 1) (by omega) hdj (by omega) (by rw [Int.sub_add_cancel]; omega)]
      have := h.add hp hd hd' (J := J - 1) (by omega) (by rw [Int.sub_add_cancel]; exact hJ2) (by rw [Int.sub_add_cancel]; omega)
      rw [Int.sub_add_cancel] at this
      rw [← this]
      congr 1
      omega
theorem pbStep_keep {out : List (Int × Int)} {y z : Int × Int} (h : out.getLast? = some z) (hn : nearer n d y.1 y.2 z.1 z.2 = false) : pbStep n d out y = out := by
  unfold pbStep; rw [h]; simp [hn]
theorem pbStep_add {out : List (Int × Int)} {y z : Int × Int} (h : out.getLast? = some z) (hn : nearer n d y.1 y.2 z.1 z.2 = true) (hne : y.2 ≠ z.2) : pbStep n d out y = out ++ [y] := by
  unfold pbStep; rw [h]; simp [hn, hne]
theorem semis_none {c : P4} {lo hi : Int} (h : hi < lo) : c.semis lo hi = [] := by unfold P4.semis; rw [rng_none h]; rfl
theorem semis_snoc {c : P4} {lo hi : Int} (h : lo ≤ hi + 1) : c.semis lo (hi + 1) = c.semis lo hi ++ [(c.num (hi + 1), c.den (hi + 1))] := by
  unfold P4.semis; rw [rng_snoc h, List.map_append]; rfl
theorem Stg.nr_one (h : Stg c n d n' d' s) (hu : c.u = 0) : c.nr n' d' 1 = false := by
  have ho : 2 * d' ≤ n' := by have := h.one; omega
  have := h.q1
  unfold P4.nr P4.den
  rw [decide_eq_false_iff_not, hu]
  intro hc
  simp only [Int.zero_add, Int.one_mul] at hc
  have := Int.mul_le_mul_of_nonneg_right (show d' ≤ n' - d' by omega) (show 0 ≤ c.q by omega)
  omega
theorem Stg.fold (h : Stg c n d n' d' s) (hd' : 0 < d') {pre : List (Int × Int)} (hp : pre.getLast? = some (c.p, c.q)) {lo : Int} (hlo : 1 ≤ lo) (hnr : lo = 1 ∨ c.nr n' d' (lo - 1) = false) :
    ∀ m : Nat, (lo - 1 + m) * d' ≤ n' → (c.semis lo (lo - 1 + m)).foldl (pbStep n d) pre = pre ++ c.G n' d' (lo - 1 + m) := by
  have hq1 := h.q1
  have hu0 := h.u0
  have huq := h.uq
  intro m
  induction m with
  | zero =>
    intro _
    rw [semis_none (by omega)]
    show pre = _
    rw [show lo - 1 + ((0 : Nat) : Int) = lo - 1 by omega]
    rcases hnr with rfl | hnr
    · rw [show (1 : Int) - 1 = 0 by omega, G_zero, List.append_nil]
    · rw [G_nil (by omega) h.d0 hnr, List.append_nil]
  | succ m ih =>
    intro hb
    have ei : lo - 1 + ((m + 1 : Nat) : Int) = lo - 1 + (m : Int) + 1 := by omega
    rw [ei] at hb ⊢
    obtain ⟨J, hJ⟩ : ∃ J, lo - 1 + (m : Int) = J := ⟨_, rfl⟩
    rw [hJ] at hb ih ⊢
    have hJ0 : 0 ≤ J := by omega
    have hbJ : J * d' ≤ n' := by grind
    rw [semis_snoc (by omega), List.foldl_append, ih hbJ]
    show pbStep n d (pre ++ c.G n' d' J) (c.num (J + 1), c.den (J + 1)) = _
    have hs := h.toCv.dl_semi J hbJ
    have hs2 := h.toCv.dl_semi (J + 1) hb
    have hc := h.toCv.dl_conv h.d0
    have hst := den_step c J
    have hD : 0 ≤ c.den J := by unfold P4.den; have := Int.mul_nonneg hJ0 (show 0 ≤ c.q by omega); omega
    rcases h.lastJ hp hJ0 with ⟨e1, e2, _⟩ | ⟨e1, e2, e3⟩
    · rw [G_succ_yes hJ0 (nr_mono (by omega) h.d0 e2), ← List.append_assoc]
      refine pbStep_add e1 ?_ ?_
      · show nearer n d (c.num (J + 1)) (c.den (J + 1)) (c.num J) (c.den J) = true
        unfold nearer
        rw [hs, hs2, decide_eq_true_eq]
        have k1 : (n' - (J + 1) * d') * c.den J ≤ (n' - (J + 1) * d') * c.den (J + 1) := Int.mul_le_mul_of_nonneg_left (by omega) (by omega)
        have k2 : (n' - (J + 1) * d') * c.den (J + 1) < (n' - J * d') * c.den (J + 1) := Int.mul_lt_mul_of_pos_right (by grind) (by omega)
        omega
      · show c.den (J + 1) ≠ c.den J
        omega
    · cases e : c.nr n' d' (J + 1) with
      | true =>
        rw [G_succ_yes hJ0 e, ← List.append_assoc]
        have e' := e
        unfold P4.nr at e'
        rw [decide_eq_true_eq] at e'
        refine pbStep_add e1 ?_ ?_
        · show nearer n d (c.num (J + 1)) (c.den (J + 1)) c.p c.q = true
          unfold nearer
          rw [hc, hs2, decide_eq_true_eq]
          exact e'
        · show c.den (J + 1) ≠ c.q
          intro hq
          have hD0 : c.den J = 0 := by omega
          unfold P4.den at hD0
          have hJq := Int.mul_nonneg hJ0 (show 0 ≤ c.q by omega)
          have hu : c.u = 0 := by omega
          have hJz : J = 0 := by
            have : J * c.q = 0 := by omega
            rcases Int.mul_eq_zero.1 this with h | h
            · exact h
            · omega
          subst hJz
          have := h.nr_one hu
          rw [show (0 : Int) + 1 = 1 by omega, this] at e
          cases e
      | false =>
        rw [G_succ_no hJ0 e]
        refine pbStep_keep e1 ?_
        show nearer n d (c.num (J + 1)) (c.den (J + 1)) c.p c.q = false
        unfold nearer
        rw [hc, hs2]
        unfold P4.nr at e
        exact e
def half (a _l : Int) : Int := a / 2
theorem Stg.low (h : Stg c n d n' d' s) (hd' : 0 < d') {lo : Int} (hlo : lo = max (n' / d' / 2) 1) : lo = 1 ∨ c.nr n' d' (lo - 1) = false := by
  by_cases h1 : lo = 1
  · exact .inl h1
  · right
    have he := ediv_eq n' d'
    have hb := emod_bd (n := n') hd'
    have hlo2 : lo = n' / d' / 2 := by omega
    generalize n' / d' = a at *
    have h2 : 2 * lo ≤ a := by omega
    have hm : d' * (2 * lo) ≤ d' * a := Int.mul_le_mul_of_nonneg_left h2 h.d0
    have huq := h.uq
    have hq1 := h.q1
    unfold P4.nr P4.den
    rw [decide_eq_false_iff_not]
    intro hc
    have k1 : d' * (c.u + (lo - 1) * c.q) ≤ d' * (c.q + (lo - 1) * c.q) := Int.mul_le_mul_of_nonneg_left (by omega) h.d0
    have k2 : d' * (c.q + (lo - 1) * c.q) = (d' * lo) * c.q := by grind
    have k3 : (d' * lo) * c.q ≤ (n' - (lo - 1) * d') * c.q := Int.mul_le_mul_of_nonneg_right (by grind) (by omega)
    omega
theorem rb_done (hd0 : dl n d c.p c.q = 0) (hq : 0 ≤ c.q) {q : Nat} {pre : List (Int × Int)} (hp : pre.getLast? = some (c.p, c.q)) (hr : rb n d q = pre) : ∀ k : Nat, rb n d (q + k) = pre := by
  intro k
  induction k with
  | zero => exact hr
  | succ k ih =>
    show rbStep n d (rb n d (q + k)) ((q + k : Nat) + 1) = pre
    rw [ih]
    refine rbStep_keep hp (not_nearer ?_)
    show dl n d c.p c.q * _ ≤ _
    rw [hd0, Int.zero_mul]
    exact Int.mul_nonneg (dl_nonneg _ _ _ _) hq
/-- Behind a term that is used up. -/
theorem Stg.next (h : Stg c n d n' d' s) (hd' : 0 < d') : Stg (c.nx (n' / d')) n d d' (n' % d') (-s) := by
  have hb := emod_bd (n := n') hd'
  have hq1 := h.q1
  have hu0 := h.u0
  have ha : 1 ≤ n' / d' := Int.le_ediv_of_mul_le hd' (by have := h.dn; omega)
  have hm : 1 * c.q ≤ n' / d' * c.q := Int.mul_le_mul_of_nonneg_right ha (by omega)
  refine ⟨h.toCv.nx, ?_, ?_, ?_, hb.1, by omega, .inl ?_⟩
  · show 1 ≤ c.u + n' / d' * c.q; omega
  · show 0 ≤ c.q; omega
  · show c.q ≤ c.u + n' / d' * c.q; omega
  · show 1 ≤ c.q; omega
theorem Stg.nr_all (h : Stg c n d n' d' s) (hd' : 0 < d') : c.nr n' d' (n' / d') = true := by
  have hb := emod_bd (n := n') hd'
  have he := ediv_eq n' d'
  have hq1 := h.q1
  have hu0 := h.u0
  have ha : 1 ≤ n' / d' := Int.le_ediv_of_mul_le hd' (by have := h.dn; omega)
  unfold P4.nr P4.den
  rw [decide_eq_true_eq]
  have e : n' - n' / d' * d' = n' % d' := by rw [Int.mul_comm]; omega
  rw [e]
  have hm : 1 * c.q ≤ n' / d' * c.q := Int.mul_le_mul_of_nonneg_right ha (by omega)
  have k1 : n' % d' * c.q < d' * c.q := Int.mul_lt_mul_of_pos_right hb.2 (by omega)
  have k2 : d' * c.q ≤ d' * (c.u + n' / d' * c.q) := Int.mul_le_mul_of_nonneg_left (by omega) h.d0
  omega
theorem most_eq (hq : 1 ≤ c.q) (a bound : Int) : c.most a bound = if (bound - c.u) / c.q < a then (bound - c.u) / c.q else a := by
  unfold P4.most; rw [if_neg (by omega)]
theorem Stg.fold' (h : Stg c n d n' d' s) (hd' : 0 < d') {pre : List (Int × Int)} (hp : pre.getLast? = some (c.p, c.q)) {hi : Int} (h0 : 0 ≤ hi) (hb : hi * d' ≤ n') :
    (c.semis (max (n' / d' / 2) 1) hi).foldl (pbStep n d) pre = pre ++ c.G n' d' hi := by
  obtain ⟨lo, hlo⟩ : ∃ lo, lo = max (n' / d' / 2) 1 := ⟨_, rfl⟩
  have hl := h.low hd' hlo
  rw [← hlo]
  by_cases hc : lo ≤ hi + 1
  · have := h.fold hd' hp (lo := lo) (by omega) hl (hi + 1 - lo).toNat
    rw [show lo - 1 + ((hi + 1 - lo).toNat : Int) = hi by omega] at this
    exact this hb
  · have hq1 := h.q1
    rw [semis_none (by omega), G_nil (by omega) h.d0 (nr_le (by omega) h.d0 (show hi ≤ lo - 1 by omega) (by rcases hl with hl | hl; omega; exact hl)), List.append_nil]
    rfl
theorem best_main (hd : 0 < d) (bound : Nat) : ∀ n' d' : Int, ∀ (c : P4) (s : Int) (q : Nat) (pre : List (Int × Int)), Stg c n d n' d' s → c.q = (q : Int) → q ≤ bound → rb n d q = pre → pre.getLast? = some (c.p, c.q) →
    (semiT half bound c (tms n' d')).foldl (pbStep n d) pre = rb n d bound := by
  refine tms_ind ?_ ?_
  · intro n' d' h0 c s q pre h hq hqb hr hp
    have hd0 := h.d0
    obtain rfl : d' = 0 := by omega
    rw [tms_stop h0]
    show pre = _
    have := rb_done (n := n) (d := d) (h.toCv.dl_conv hd0) (by omega) hp hr (bound - q)
    rw [show q + (bound - q) = bound by omega] at this
    exact this.symm
  · intro n' d' h0 ih c s q pre h hq hqb hr hp
    have hb := emod_bd (n := n') h0
    have he := ediv_eq n' d'
    have hq1 := h.q1
    have hu0 := h.u0
    have huq := h.uq
    have ha : 1 ≤ n' / d' := Int.le_ediv_of_mul_le h0 (by have := h.dn; omega)
    rw [tms_step h0]
    show (c.semis (max (n' / d' / 2) 1) (c.most (n' / d') bound) ++ if c.most (n' / d') bound < n' / d' then [] else semiT half bound (c.nx (n' / d')) (tms d' (n' % d'))).foldl (pbStep n d) pre = _
    rw [List.foldl_append]
    have hnext := h.next h0
    have hnra := h.nr_all h0
    have hfold := fun hi => h.fold' h0 hp (hi := hi)
    have hwalk := h.walk hd h0 hp hq hr
    have hqb' : c.q ≤ (bound : Int) := by omega
    have hL0 : 0 ≤ ((bound : Int) - c.u) / c.q := Int.ediv_nonneg (by omega) (by omega)
    have hLe := ediv_eq ((bound : Int) - c.u) c.q
    have hLb := emod_bd (n := (bound : Int) - c.u) (show 0 < c.q by omega)
    generalize n' / d' = a at *
    have had : a * d' ≤ n' := by rw [Int.mul_comm]; omega
    rw [most_eq hq1]
    by_cases hlt : ((bound : Int) - c.u) / c.q < a
    · rw [if_pos hlt, if_pos hlt]
      generalize ((bound : Int) - c.u) / c.q = L at *
      have hLd : L * d' ≤ n' := by have := Int.mul_le_mul_of_nonneg_right (show L ≤ a by omega) (show 0 ≤ d' by omega); omega
      show (c.semis (max (a / 2) 1) L).foldl (pbStep n d) pre = _
      rw [hfold L hL0 hLd]
      have := hwalk (bound - q) L hL0 hLd (by unfold P4.den; rw [Int.mul_comm]; omega) (by unfold P4.den; grind)
      rw [show q + (bound - q) = bound by omega] at this
      exact this.symm
    · rw [if_neg hlt, if_neg (by omega)]
      rw [hfold a (by omega) had]
      have hDa : c.den a ≤ bound := by
        unfold P4.den
        have := Int.mul_le_mul_of_nonneg_right (show a ≤ ((bound : Int) - c.u) / c.q by omega) (show 0 ≤ c.q by omega)
        grind
      have hDq : c.q ≤ c.den a := hnext.uq
      have hw := hwalk (c.den a - q).toNat a (by omega) had (by omega) (by rw [den_step]; omega)
      rw [show q + (c.den a - q).toNat = (c.den a).toNat by omega] at hw
      refine ih (c.nx a) (-s) (c.den a).toNat _ hnext ?_ (by omega) hw (G_last ha hnra pre)
      show c.den a = _
      omega
theorem pick_one (n : Int) (hd : 0 < d) : pick n d 1 = if d < 2 * (n % d) then n / d + 1 else n / d := by
  have he := ediv_eq n d
  have hb := emod_bd (n := n) hd
  unfold pick nearer
  have h0 : dl n d (n * 1 / d) 1 = n % d := by unfold dl; rw [Int.mul_one]; grind
  have h1 : dl n d (n * 1 / d + 1) 1 = d - n % d := by unfold dl; rw [Int.mul_one]; grind
  rw [h0, h1, Int.mul_one]
  by_cases h : d < 2 * (n % d)
  · rw [if_pos (by rw [decide_eq_true_eq]; omega), if_pos h, Int.mul_one]
  · rw [if_neg (by rw [decide_eq_true_eq]; omega), if_neg h, Int.mul_one]
/-- The program's best approximations are the reference's. -/
theorem best_same (n : Int) (hd : 0 < d) (bound : Nat) (h1 : 1 ≤ bound) : pb n d (semiL half bound (tms n d)) = rb n d bound := by
  have he := ediv_eq n d
  have hb := emod_bd (n := n) hd
  have hcv := (Cv.beg n d).nx
  have hr1 : rb n d 1 = [(pick n d 1, 1)] := rfl
  have hp1 := pick_one n hd
  rw [tms_step hd]
  show (semiT half bound (beg.nx (n / d)) (tms d (n % d))).foldl (pbStep n d) (pbStep n d [] (n / d, 1)) = _
  rw [show pbStep n d [] (n / d, 1) = [(n / d, 1)] from rfl]
  have hpq : (beg.nx (n / d)).p = n / d ∧ (beg.nx (n / d)).q = 1 ∧ (beg.nx (n / d)).u = 0 ∧ (beg.nx (n / d)).b = 1 := by
    simp [P4.nx, P4.num, P4.den, beg]
  by_cases h2 : d < 2 * (n % d)
  · rw [if_pos h2] at hp1
    have hr0 : 0 < n % d := by omega
    have hq1 : d / (n % d) = 1 := by
      have := ediv_eq d (n % d)
      have hb2 := emod_bd (n := d) hr0
      have k1 : ¬ d / (n % d) ≤ 0 := fun hc => by
        have := Int.mul_le_mul_of_nonneg_left hc (show 0 ≤ n % d by omega)
        omega
      have k2 : ¬ 2 ≤ d / (n % d) := fun hc => by
        have := Int.mul_le_mul_of_nonneg_left hc (show 0 ≤ n % d by omega)
        omega
      omega
    have hm1 : d % (n % d) = d - n % d := by have := ediv_eq d (n % d); rw [hq1] at this; omega
    rw [tms_step hr0, hq1, hm1]
    rw [show semiT half bound (beg.nx (n / d)) (1 :: tms (n % d) (d - n % d)) = (beg.nx (n / d)).semis (max (half 1 ((beg.nx (n / d)).most 1 bound)) 1) ((beg.nx (n / d)).most 1 bound) ++ if (beg.nx (n / d)).most 1 bound < 1 then [] else semiT half bound ((beg.nx (n / d)).nx 1) (tms (n % d) (d - n % d)) from rfl]
    have hmost : (beg.nx (n / d)).most 1 bound = 1 := by
      rw [most_eq (by omega), hpq.2.1, hpq.2.2.1, Int.ediv_one, if_neg (by omega)]
    rw [hmost, if_neg (by omega), show max (half 1 1) 1 = 1 from rfl, List.foldl_append]
    have hcv2 := hcv.nx
    rw [hq1, hm1] at hcv2
    have e1 : ((beg.nx (n / d)).nx 1).p = n / d + 1 ∧ ((beg.nx (n / d)).nx 1).q = 1 ∧ ((beg.nx (n / d)).nx 1).u = 1 := by
      refine ⟨?_, ?_, hpq.2.1⟩
      · show (beg.nx (n / d)).b + 1 * (beg.nx (n / d)).p = _; rw [hpq.1, hpq.2.2.2]; omega
      · show (beg.nx (n / d)).u + 1 * (beg.nx (n / d)).q = _; rw [hpq.2.1, hpq.2.2.1]; omega
    have hfold : ((beg.nx (n / d)).semis 1 1).foldl (pbStep n d) [(n / d, 1)] = [(n / d + 1, 1)] := by
      rw [show (beg.nx (n / d)).semis 1 1 = [((beg.nx (n / d)).num 1, (beg.nx (n / d)).den 1)] by unfold P4.semis; rw [rng_cons (by omega), rng_none (by omega)]; rfl]
      rw [show (beg.nx (n / d)).num 1 = n / d + 1 from e1.1, show (beg.nx (n / d)).den 1 = 1 from e1.2.1]
      show pbStep n d [(n / d, 1)] (n / d + 1, 1) = _
      have h0 : dl n d (n / d) 1 = n % d := by unfold dl; rw [Int.mul_one]; grind
      have h1 : dl n d (n / d + 1) 1 = d - n % d := by unfold dl; rw [Int.mul_one]; grind
      unfold pbStep
      have hn : nearer n d (n / d + 1) 1 (n / d) 1 = true := by unfold nearer; rw [h0, h1, decide_eq_true_eq]; omega
      simp [hn]
    rw [hfold]
    refine best_main hd bound (n % d) (d - n % d) ((beg.nx (n / d)).nx 1) _ 1 _ ⟨hcv2, ?_, ?_, ?_, by omega, by omega, .inl (by omega)⟩ (by omega) h1 (by rw [hr1, hp1]) (by rw [e1.1, e1.2.1]; rfl)
    · omega
    · omega
    · omega
  · rw [if_neg h2] at hp1
    refine best_main hd bound d (n % d) (beg.nx (n / d)) _ 1 _ ⟨hcv, by omega, by omega, by omega, by omega, by omega, .inr (by omega)⟩ (by omega) h1 (by rw [hr1, hp1]) (by rw [hpq.1, hpq.2.1]; rfl)
end
end
section
/-- P / Q is the greatest fraction less than n / d with a denominator up to the bound. -/
structure IsLow (n d bound P Q : Int) : Prop where
  q1 : 1 ≤ Q
  qb : Q ≤ bound
  lt : P * d < n * Q
  max : ∀ P' Q', 1 ≤ Q' → Q' ≤ bound → P' * d < n * Q' → P' * Q ≤ P * Q'
structure IsHigh (n d bound P Q : Int) : Prop where
  q1 : 1 ≤ Q
  qb : Q ≤ bound
  lt : n * Q < P * d
  min : ∀ P' Q', 1 ≤ Q' → Q' ≤ bound → n * Q' < P' * d → P * Q' ≤ P' * Q
theorem IsLow.one {n d b P Q R S : Int} (h : IsLow n d b P Q) (k : IsLow n d b R S) : P * S = R * Q := by
  have h1 := h.max R S k.q1 k.qb k.lt
  have h2 := k.max P Q h.q1 h.qb h.lt
  omega
theorem IsHigh.one {n d b P Q R S : Int} (h : IsHigh n d b P Q) (k : IsHigh n d b R S) : P * S = R * Q := by
  have h1 := h.min R S k.q1 k.qb k.lt
  have h2 := k.min P Q h.q1 h.qb h.lt
  omega
theorem low_beside {n d bound P Q : Int} (hd : 1 ≤ d) (h : n * Q - P * d = 1) (h1 : 1 ≤ Q) (h2 : Q ≤ bound) (h3 : bound < Q + d) : IsLow n d bound P Q := by
  refine ⟨h1, h2, by omega, fun P' Q' hq hb hlt => Decidable.by_contra fun hc => ?_⟩
  have e : Q' = Q * (n * Q' - P' * d) + d * (P' * Q - P * Q') := by grind
  have k1 : Q * 1 ≤ Q * (n * Q' - P' * d) := Int.mul_le_mul_of_nonneg_left (by omega) (by omega)
  have k2 : d * 1 ≤ d * (P' * Q - P * Q') := Int.mul_le_mul_of_nonneg_left (by omega) (by omega)
  omega
theorem high_beside {n d bound P Q : Int} (hd : 1 ≤ d) (h : n * Q - P * d = -1) (h1 : 1 ≤ Q) (h2 : Q ≤ bound) (h3 : bound < Q + d) : IsHigh n d bound P Q := by
  refine ⟨h1, h2, by omega, fun P' Q' hq hb hlt => Decidable.by_contra fun hc => ?_⟩
  have e : Q' = Q * (P' * d - n * Q') + d * (P * Q' - P' * Q) := by grind
  have k1 : Q * 1 ≤ Q * (P' * d - n * Q') := Int.mul_le_mul_of_nonneg_left (by omega) (by omega)
  have k2 : d * 1 ≤ d * (P * Q' - P' * Q) := Int.mul_le_mul_of_nonneg_left (by omega) (by omega)
  omega
/-- Two fractions around n / d between which there is none of the bound. -/
structure Arnd (n d bound : Int) (A B : Int × Int) : Prop where
  a1 : 1 ≤ A.2
  ab : A.2 ≤ bound
  b1 : 1 ≤ B.2
  bb : B.2 ≤ bound
  lo : A.1 * d < n * A.2
  hi : n * B.2 < B.1 * d
  det : B.1 * A.2 - A.1 * B.2 = 1
  sum : bound < A.2 + B.2
/-- Less than n / d, so less than what is greater. -/
theorem between {n d P Q R S : Int} (hd : 0 < d) (hQ : 0 < Q) (hS : 0 < S) (h1 : P * d < n * Q) (h2 : n * S < R * d) : P * S < R * Q := by
  have k1 : P * d * S < n * Q * S := Int.mul_lt_mul_of_pos_right h1 hS
  have k2 : n * S * Q < R * d * Q := Int.mul_lt_mul_of_pos_right h2 hQ
  have : P * S * d < R * Q * d := by grind
  exact Int.lt_of_mul_lt_mul_right this (by omega)
theorem Arnd.low {n d bound : Int} {A B : Int × Int} (h : Arnd n d bound A B) (hd : 0 < d) : IsLow n d bound A.1 A.2 := by
  have ha := h.a1
  have hb := h.b1
  have hs := h.sum
  have hdet := h.det
  refine ⟨h.a1, h.ab, h.lo, fun P' Q' hq hb' hlt => Decidable.by_contra fun hc => ?_⟩
  have hm := between hd (by omega) (show 0 < B.2 by omega) hlt h.hi
  have e : Q' = A.2 * (B.1 * Q' - P' * B.2) + B.2 * (P' * A.2 - A.1 * Q') := by grind
  have k1 : A.2 * 1 ≤ A.2 * (B.1 * Q' - P' * B.2) := Int.mul_le_mul_of_nonneg_left (by omega) (by omega)
  have k2 : B.2 * 1 ≤ B.2 * (P' * A.2 - A.1 * Q') := Int.mul_le_mul_of_nonneg_left (by omega) (by omega)
  omega
theorem Arnd.high {n d bound : Int} {A B : Int × Int} (h : Arnd n d bound A B) (hd : 0 < d) : IsHigh n d bound B.1 B.2 := by
  have ha := h.a1
  have hb := h.b1
  have hs := h.sum
  have hdet := h.det
  refine ⟨h.b1, h.bb, h.hi, fun P' Q' hq hb' hlt => Decidable.by_contra fun hc => ?_⟩
  have hm := between hd (show 0 < A.2 by omega) (by omega) h.lo hlt
  have e : Q' = A.2 * (B.1 * Q' - P' * B.2) + B.2 * (P' * A.2 - A.1 * Q') := by grind
  have k1 : A.2 * 1 ≤ A.2 * (B.1 * Q' - P' * B.2) := Int.mul_le_mul_of_nonneg_left (by omega) (by omega)
  have k2 : B.2 * 1 ≤ B.2 * (P' * A.2 - A.1 * Q') := Int.mul_le_mul_of_nonneg_left (by omega) (by omega)
  omega

/-- The program's search for the two. -/
def abStep (n d : Int) (st : (Int × Int) × (Int × Int)) (y : Int × Int) : (Int × Int) × (Int × Int) := if y.1 * d < n * y.2 then (y, st.2) else (st.1, y)
def ab (n d : Int) (l : List (Int × Int)) : (Int × Int) × (Int × Int) := l.foldl (abStep n d) ((0, 0), (0, 0))
def lastF (_a l : Int) : Int := l
/-- What the search has found at a stage. -/
def AbAt (c : P4) (s : Int) (st : (Int × Int) × (Int × Int)) : Prop := (s = -1 ∧ st.1 = (c.p, c.q) ∧ (1 ≤ c.u → st.2 = (c.b, c.u))) ∨ (s = 1 ∧ st.2 = (c.p, c.q) ∧ (1 ≤ c.u → st.1 = (c.b, c.u)))
theorem semis_one {c : P4} {L : Int} (h : 1 ≤ L) : c.semis (max L 1) L = [(c.num L, c.den L)] := by
  unfold P4.semis
  rw [show max L 1 = L by omega, rng_cons (by omega), rng_none (by omega)]; rfl
theorem around_main {n d bound : Int} (hg : Int.gcd n d = 1) (hb : bound < d) : ∀ n' d' : Int, ∀ (c : P4) (s : Int) (st : (Int × Int) × (Int × Int)), Cv c n d n' d' s → 0 < d' → d' ≤ n' → 1 ≤ c.q → 0 ≤ c.u → c.u ≤ c.q → c.q ≤ bound → (c.u = 0 → c.q = 1) → AbAt c s st →
    Arnd n d bound ((semiT lastF bound c (tms n' d')).foldl (abStep n d) st).1 ((semiT lastF bound c (tms n' d')).foldl (abStep n d) st).2 := by
  refine tms_ind ?_ ?_
  · intro n' d' h0 c s st _ h1; omega
  · intro n' d' h0 ih c s st h _ hdn hq1 hu0 huq hqb hu1 hst
    have hb2 := emod_bd (n := n') h0
    have he := ediv_eq n' d'
    have ha : 1 ≤ n' / d' := Int.le_ediv_of_mul_le h0 (by omega)
    have hnx := h.nx
    have hfar := h.far
    have hnear := h.near
    have hdet := h.den_det
    have hsq := sq_cases h.sq
    have hL0 : 0 ≤ (bound - c.u) / c.q := Int.ediv_nonneg (by omega) (by omega)
    have hLe := ediv_eq (bound - c.u) c.q
    have hLb := emod_bd (n := bound - c.u) (show 0 < c.q by omega)
    rw [tms_step h0]
    show Arnd n d bound ((c.semis (max (c.most (n' / d') bound) 1) (c.most (n' / d') bound) ++ if c.most (n' / d') bound < n' / d' then [] else semiT lastF bound (c.nx (n' / d')) (tms d' (n' % d'))).foldl (abStep n d) st).1
      ((c.semis (max (c.most (n' / d') bound) 1) (c.most (n' / d') bound) ++ if c.most (n' / d') bound < n' / d' then [] else semiT lastF bound (c.nx (n' / d')) (tms d' (n' % d'))).foldl (abStep n d) st).2
    rw [List.foldl_append]
    generalize n' / d' = a at *
    rw [most_eq hq1]
    by_cases hlt : (bound - c.u) / c.q < a
    · rw [if_pos hlt, if_pos hlt]
      generalize (bound - c.u) / c.q = L at *
      have hDL : c.den L ≤ bound := by unfold P4.den; grind
      have hDL2 : bound < c.den L + c.q := by unfold P4.den; grind
      have hpos : 0 < n' - L * d' := by
        have := Int.mul_le_mul_of_nonneg_left (show L + 1 ≤ a by omega) (show 0 ≤ d' by omega)
        grind
      by_cases hL1 : 1 ≤ L
      · rw [semis_one hL1]
        have hD1 : 1 ≤ c.den L := by
          unfold P4.den
          have := Int.mul_le_mul_of_nonneg_right hL1 (show 0 ≤ c.q by omega)
          omega
        have hf := hfar L
        have hdt := hdet L
        show Arnd n d bound (abStep n d st (c.num L, c.den L)).1 (abStep n d st (c.num L, c.den L)).2
        unfold abStep
        rcases hsq with rfl | rfl
        · rcases hst with ⟨hs, _⟩ | ⟨_, hs, _⟩
          · omega
          · rw [if_pos (by show c.num L * d < n * c.den L; omega)]
            show Arnd n d bound (c.num L, c.den L) st.2
            rw [hs]
            exact ⟨hD1, hDL, hq1, hqb, by show c.num L * d < n * c.den L; omega, by show n * c.q < c.p * d; omega, by show c.p * c.den L - c.num L * c.q = 1; omega, by show bound < c.den L + c.q; omega⟩
        · rcases hst with ⟨_, hs, _⟩ | ⟨hs, _⟩
          · rw [if_neg (by show ¬ c.num L * d < n * c.den L; omega)]
            show Arnd n d bound st.1 (c.num L, c.den L)
            rw [hs]
            exact ⟨hq1, hqb, hD1, hDL, by show c.p * d < n * c.q; omega, by show n * c.den L < c.num L * d; omega, by show c.num L * c.q - c.p * c.den L = 1; omega, by show bound < c.q + c.den L; omega⟩
          · omega
      · obtain rfl : L = 0 := by omega
        have hd0 : c.den 0 = c.u := by unfold P4.den; omega
        have hn0 : c.num 0 = c.b := by unfold P4.num; omega
        have hu : 1 ≤ c.u := by
          refine Decidable.by_contra fun hc => ?_
          have := hu1 (by omega)
          omega
        rw [semis_none (by omega)]
        have hf := hfar 0
        have hdt := hdet 0
        rw [hd0, hn0] at hf hdt
        rw [hd0] at hDL hDL2
        show Arnd n d bound st.1 st.2
        rcases hsq with rfl | rfl
        · rcases hst with ⟨hs, _⟩ | ⟨_, hs, hs2⟩
          · omega
          · rw [hs, hs2 hu]
            exact ⟨hu, hDL, hq1, hqb, by show c.b * d < n * c.u; omega, by show n * c.q < c.p * d; omega, by show c.p * c.u - c.b * c.q = 1; omega, by show bound < c.u + c.q; omega⟩
        · rcases hst with ⟨_, hs, hs2⟩ | ⟨hs, _⟩
          · rw [hs, hs2 hu]
            exact ⟨hq1, hqb, hu, hDL, by show c.p * d < n * c.q; omega, by show n * c.u < c.b * d; omega, by show c.b * c.q - c.p * c.u = 1; omega, by show bound < c.q + c.u; omega⟩
          · omega
    · rw [if_neg hlt, if_neg (by omega)]
      have hDa : c.den a ≤ bound := by
        unfold P4.den
        have := Int.mul_le_mul_of_nonneg_right (show a ≤ (bound - c.u) / c.q by omega) (show 0 ≤ c.q by omega)
        grind
      have hDq : c.q ≤ c.den a := by
        unfold P4.den
        have := Int.mul_le_mul_of_nonneg_right ha (show 0 ≤ c.q by omega)
        omega
      have hr : n' - a * d' = n' % d' := by rw [Int.mul_comm]; omega
      have hrpos : 0 < n' % d' := by
        refine Decidable.by_contra fun hc => ?_
        have hz : n' % d' = 0 := by omega
        obtain ⟨k1, k2, _, _⟩ := hnx
        rw [hz, Int.mul_zero, Int.add_zero] at k1 k2
        have hdv : d' ∣ (Int.gcd n d : Int) := Int.dvd_coe_gcd ⟨_, by rw [Int.mul_comm]; exact k1⟩ ⟨_, by rw [Int.mul_comm]; exact k2⟩
        rw [hg] at hdv
        have hd1 : d' = 1 := by have := Int.le_of_dvd (by decide) hdv; omega
        rw [hd1, Int.mul_one] at k2
        have : (c.nx a).q = c.den a := rfl
        omega
      rw [semis_one ha]
      show Arnd n d bound ((semiT lastF bound (c.nx a) (tms d' (n' % d'))).foldl (abStep n d) (abStep n d st (c.num a, c.den a))).1 ((semiT lastF bound (c.nx a) (tms d' (n' % d'))).foldl (abStep n d) (abStep n d st (c.num a, c.den a))).2
      refine ih (c.nx a) (-s) _ hnx hrpos (by omega) (by show 1 ≤ c.den a; omega) (by show 0 ≤ c.q; omega) hDq hDa (by show c.q = 0 → _; omega) ?_
      have hf := hfar a
      rw [hr] at hf
      unfold abStep AbAt
      rcases hsq with rfl | rfl
      · rcases hst with ⟨hs, _⟩ | ⟨_, hs, _⟩
        · omega
        · rw [if_pos (by show c.num a * d < n * c.den a; omega)]
          exact .inl ⟨rfl, rfl, fun _ => hs⟩
      · rcases hst with ⟨_, hs, _⟩ | ⟨hs, _⟩
        · rw [if_neg (by show ¬ c.num a * d < n * c.den a; omega)]
          exact .inr ⟨by omega, rfl, fun _ => hs⟩
        · omega
theorem around_same {n d bound : Int} (hd : 0 < d) (hg : Int.gcd n d = 1) (hb : bound < d) (h1 : 1 ≤ bound) : Arnd n d bound (ab n d (semiL lastF bound (tms n d))).1 (ab n d (semiL lastF bound (tms n d))).2 := by
  have he := ediv_eq n d
  have hbd := emod_bd (n := n) hd
  have hcv := (Cv.beg n d).nx
  have hr : 0 < n % d := by
    refine Decidable.by_contra fun hc => ?_
    have : d ∣ (Int.gcd n d : Int) := Int.dvd_coe_gcd ⟨n / d, by omega⟩ (Int.dvd_refl d)
    rw [hg] at this
    have := Int.le_of_dvd (by decide) this
    omega
  have hpq : (beg.nx (n / d)).p = n / d ∧ (beg.nx (n / d)).q = 1 ∧ (beg.nx (n / d)).u = 0 := by
    simp [P4.nx, P4.num, P4.den, beg]
  unfold ab
  rw [tms_step hd]
  show Arnd n d bound ((semiT lastF bound (beg.nx (n / d)) (tms d (n % d))).foldl (abStep n d) (abStep n d ((0, 0), (0, 0)) (n / d, 1))).1 ((semiT lastF bound (beg.nx (n / d)) (tms d (n % d))).foldl (abStep n d) (abStep n d ((0, 0), (0, 0)) (n / d, 1))).2
  refine around_main hg hb d (n % d) _ _ _ hcv hr (by omega) (by omega) (by omega) (by omega) (by omega) (by omega) (.inl ⟨rfl, ?_, by omega⟩)
  unfold abStep
  rw [if_pos (by show n / d * d < n * 1; rw [Int.mul_comm (n / d)]; omega), hpq.1, hpq.2.1]
end
section
/-- The reference's search: the greatest fraction below. -/
def loP (n d q : Int) : Int := if n * q / d * d = n * q then n * q / d - 1 else n * q / d
def loStep (n d : Int) (z : Int × Int) (q : Int) : Int × Int := if z.2 = 0 ∨ z.1 * q < loP n d q * z.2 then (loP n d q, q) else z
def loN (n d : Int) : Nat → Int × Int
  | 0 => (0, 0)
  | k + 1 => loStep n d (loN n d k) ((k : Int) + 1)
def hiStep (n d : Int) (z : Int × Int) (q : Int) : Int × Int := if z.2 = 0 ∨ (n * q / d + 1) * z.2 < z.1 * q then (n * q / d + 1, q) else z
def hiN (n d : Int) : Nat → Int × Int
  | 0 => (0, 0)
  | k + 1 => hiStep n d (hiN n d k) ((k : Int) + 1)
theorem loP_lt {n d q : Int} (hd : 0 < d) : loP n d q * d < n * q ∧ n * q ≤ loP n d q * d + d := by
  have he := ediv_eq (n * q) d
  have hb := emod_bd (n := n * q) hd
  have hc := Int.mul_comm (n * q / d) d
  unfold loP
  by_cases h : n * q / d * d = n * q
  · rw [if_pos h, Int.sub_mul]; omega
  · rw [if_neg h]; omega
theorem hiP_lt {n d q : Int} (hd : 0 < d) : n * q < (n * q / d + 1) * d ∧ n * q / d * d ≤ n * q := by
  have he := ediv_eq (n * q) d
  have hb := emod_bd (n := n * q) hd
  have hc := Int.mul_comm (n * q / d) d
  rw [Int.add_mul]
  omega
theorem le_of_lt_mul {a b d : Int} (hd : 0 < d) (h : a * d < b * d + d) : a ≤ b := by
  have : a * d < (b + 1) * d := by rw [Int.add_mul]; omega
  have := Int.lt_of_mul_lt_mul_right this (by omega)
  omega
theorem loN_low {n d : Int} (hd : 0 < d) : ∀ k : Nat, IsLow n d ((k : Int) + 1) (loN n d (k + 1)).1 (loN n d (k + 1)).2 := by
  intro k
  induction k with
  | zero =>
    have h := loP_lt (n := n) (q := 1) hd
    show IsLow n d _ (loStep n d (0, 0) 1).1 (loStep n d (0, 0) 1).2
    unfold loStep
    rw [if_pos (.inl rfl)]
    refine ⟨by show (1 : Int) ≤ 1; omega, by show (1 : Int) ≤ _; omega, h.1, fun P' Q' h1 h2 h3 => ?_⟩
    obtain rfl : Q' = 1 := by omega
    have := le_of_lt_mul (a := P') (b := loP n d 1) hd (by omega)
    show P' * 1 ≤ loP n d 1 * 1
    omega
  | succ k ih =>
    have h := loP_lt (n := n) (q := ((k + 1 : Nat) : Int) + 1) hd
    obtain ⟨i1, i2, i3, i4⟩ := ih
    show IsLow n d _ (loStep n d (loN n d (k + 1)) (((k + 1 : Nat) : Int) + 1)).1 (loStep n d (loN n d (k + 1)) (((k + 1 : Nat) : Int) + 1)).2
    generalize loN n d (k + 1) = z at *
    obtain ⟨q, hq⟩ : ∃ q, ((k + 1 : Nat) : Int) + 1 = q := ⟨_, rfl⟩
    rw [hq] at h ⊢
    have hp : ∀ P', P' * d < n * q → P' ≤ loP n d q := fun P' hlt => le_of_lt_mul hd (by omega)
    unfold loStep
    by_cases hc : z.2 = 0 ∨ z.1 * q < loP n d q * z.2
    · rw [if_pos hc]
      have hc' : z.1 * q < loP n d q * z.2 := by rcases hc with hc | hc; omega; exact hc
      refine ⟨by show 1 ≤ q; omega, by show q ≤ q; omega, h.1, fun P' Q' h1 h2 h3 => ?_⟩
      show P' * q ≤ loP n d q * Q'
      by_cases e : Q' = q
      · subst e
        exact Int.mul_le_mul_of_nonneg_right (hp P' h3) (by omega)
      · have h4 := i4 P' Q' h1 (by omega) h3
        have k1 : P' * z.2 * q ≤ z.1 * Q' * q := Int.mul_le_mul_of_nonneg_right h4 (by omega)
        have k2 : z.1 * q * Q' ≤ loP n d q * z.2 * Q' := Int.mul_le_mul_of_nonneg_right (by omega) (by omega)
        exact mul_cancel (k := z.2) (by omega) (by grind)
    · rw [if_neg hc]
      have hc' : loP n d q * z.2 ≤ z.1 * q := by omega
      refine ⟨i1, by omega, i3, fun P' Q' h1 h2 h3 => ?_⟩
      by_cases e : Q' = q
      · subst e
        have := Int.mul_le_mul_of_nonneg_right (hp P' h3) (show 0 ≤ z.2 by omega)
        omega
      · exact i4 P' Q' h1 (by omega) h3
theorem hiN_high {n d : Int} (hd : 0 < d) : ∀ k : Nat, IsHigh n d ((k : Int) + 1) (hiN n d (k + 1)).1 (hiN n d (k + 1)).2 := by
  intro k
  induction k with
  | zero =>
    have h := hiP_lt (n := n) (q := 1) hd
    show IsHigh n d _ (hiStep n d (0, 0) 1).1 (hiStep n d (0, 0) 1).2
    unfold hiStep
    rw [if_pos (.inl rfl)]
    refine ⟨by show (1 : Int) ≤ 1; omega, by show (1 : Int) ≤ _; omega, h.1, fun P' Q' h1 h2 h3 => ?_⟩
    obtain rfl : Q' = 1 := by omega
    have := Int.lt_of_mul_lt_mul_right (show n * 1 / d * d < P' * d by omega) (by omega)
    show (n * 1 / d + 1) * 1 ≤ P' * 1
    omega
  | succ k ih =>
    have h := hiP_lt (n := n) (q := ((k + 1 : Nat) : Int) + 1) hd
    obtain ⟨i1, i2, i3, i4⟩ := ih
    show IsHigh n d _ (hiStep n d (hiN n d (k + 1)) (((k + 1 : Nat) : Int) + 1)).1 (hiStep n d (hiN n d (k + 1)) (((k + 1 : Nat) : Int) + 1)).2
    generalize hiN n d (k + 1) = z at *
    obtain ⟨q, hq⟩ : ∃ q, ((k + 1 : Nat) : Int) + 1 = q := ⟨_, rfl⟩
    rw [hq] at h ⊢
    have hp : ∀ P', n * q < P' * d → n * q / d + 1 ≤ P' := fun P' hlt => by
      have := Int.lt_of_mul_lt_mul_right (show n * q / d * d < P' * d by omega) (by omega)
      omega
    unfold hiStep
    generalize n * q / d + 1 = p at *
    by_cases hc : z.2 = 0 ∨ p * z.2 < z.1 * q
    · rw [if_pos hc]
      have hc' : p * z.2 < z.1 * q := by rcases hc with hc | hc; omega; exact hc
      refine ⟨by show 1 ≤ q; omega, by show q ≤ q; omega, h.1, fun P' Q' h1 h2 h3 => ?_⟩
      show p * Q' ≤ P' * q
      by_cases e : Q' = q
      · subst e
        exact Int.mul_le_mul_of_nonneg_right (hp P' h3) (by omega)
      · have h4 := i4 P' Q' h1 (by omega) h3
        have k1 : z.1 * Q' * q ≤ P' * z.2 * q := Int.mul_le_mul_of_nonneg_right h4 (by omega)
        have k2 : p * z.2 * Q' ≤ z.1 * q * Q' := Int.mul_le_mul_of_nonneg_right (by omega) (by omega)
        exact mul_cancel (k := z.2) (by omega) (by grind)
    · rw [if_neg hc]
      have hc' : z.1 * q ≤ p * z.2 := by omega
      refine ⟨i1, by omega, i3, fun P' Q' h1 h2 h3 => ?_⟩
      by_cases e : Q' = q
      · subst e
        have := Int.mul_le_mul_of_nonneg_right (hp P' h3) (show 0 ≤ z.2 by omega)
        omega
      · exact i4 P' Q' h1 (by omega) h3

/-- What beside seeks: there is a denominator near the bound. -/
theorem beside_some {n b : Int} (hb : 1 ≤ b) (hg : Int.gcd n b = 1) (s : Int) (bound : Int) : ∃ D, bound - b < D ∧ D ≤ bound ∧ b ∣ n * D - s := by
  -- the last convergent but one gives an inverse
  have hcv : ∀ n' d' : Int, ∀ (c : P4) (t : Int), Cv c n b n' d' t → 0 ≤ d' → 0 < n' ∨ 0 < d' → ∃ x y t' : Int, n * x - y * b = t' ∧ t' * t' = 1 := by
    refine tms_ind ?_ ?_
    · intro n' d' h0 c t h h1 h2
      obtain rfl : d' = 0 := by omega
      obtain ⟨k1, k2, k3, k4⟩ := h
      rw [Int.mul_zero, Int.add_zero] at k1 k2
      have hdv : n' ∣ (Int.gcd n b : Int) := Int.dvd_coe_gcd ⟨_, by rw [Int.mul_comm]; exact k1⟩ ⟨_, by rw [Int.mul_comm]; exact k2⟩
      rw [hg] at hdv
      have hd1 : n' = 1 := by have := Int.le_of_dvd (by decide) hdv; omega
      rw [hd1, Int.mul_one] at k1 k2
      exact ⟨c.u, c.b, t, by rw [k1, k2]; grind, k4⟩
    · intro n' d' h0 ih c t h _ _
      have hb2 := emod_bd (n := n') h0
      exact ih _ _ h.nx hb2.1 (.inl h0)
  obtain ⟨x, y, t, h1, h2⟩ := hcv n b _ _ (Cv.beg n b) (by omega) (.inr (by omega))
  -- D = bound - (bound - s t x) mod b
  have hbd := emod_bd (n := bound - s * t * x) (show 0 < b by omega)
  have he := ediv_eq (bound - s * t * x) b
  refine ⟨bound - (bound - s * t * x) % b, by omega, by omega, n * ((bound - s * t * x) / b) + s * t * y, ?_⟩
  generalize (bound - s * t * x) / b = k at *
  generalize (bound - s * t * x) % b = r at *
  have e1 : bound - r = s * t * x + b * k := by omega
  rw [e1]
  have e2 : s * t * t = s := by grind
  grind

theorem dvd_of_gcd {n d S : Int} (hg : Int.gcd n d = 1) (h : d ∣ n * S) : d ∣ S := by
  obtain ⟨k, hk⟩ := h
  have h1 : d ∣ (Int.gcd (n * S) (d * S) : Int) := Int.dvd_coe_gcd ⟨k, hk⟩ ⟨S, rfl⟩
  rw [Int.gcd_mul_right, hg, Nat.one_mul] at h1
  exact Int.dvd_natAbs.1 h1

/-- The last best approximation is the nearest fraction, and the simplest of these. -/
structure Lst (n d bound R S : Int) : Prop where
  s1 : 1 ≤ S
  sb : S ≤ bound
  min : ∀ P Q, 1 ≤ Q → Q ≤ bound → dl n d R S * Q ≤ dl n d P Q * S
  strict : ∀ P Q, 1 ≤ Q → Q < S → dl n d R S * Q < dl n d P Q * S
  one : S = 1 → R = pick n d 1
theorem rb_last {n d : Int} (hd : 0 < d) : ∀ k : Nat, ∃ R S, (rb n d (k + 1)).getLast? = some (R, S) ∧ Lst n d ((k : Int) + 1) R S := by
  intro k
  induction k with
  | zero =>
    refine ⟨pick n d 1, 1, rfl, by omega, by omega, fun P Q h1 h2 => ?_, fun P Q h1 h2 => by omega, fun _ => rfl⟩
    obtain rfl : Q = 1 := by omega
    have := pick_least (n := n) hd (show (0 : Int) < 1 by omega) P
    omega
  | succ k ih =>
    obtain ⟨R, S, hl, i1, i2, i3, i4, i5⟩ := ih
    obtain ⟨q, hq⟩ : ∃ q, ((k + 1 : Nat) : Int) + 1 = q := ⟨_, rfl⟩
    have hp := pick_least (n := n) hd (show 0 < q by omega)
    have e : rb n d (k + 1 + 1) = rbStep n d (rb n d (k + 1)) q := by rw [← hq]; rfl
    rw [hq, e]
    cases hn : nearer n d (pick n d q) q R S with
    | true =>
      rw [rbStep_add hl hn]
      unfold nearer at hn
      rw [decide_eq_true_eq] at hn
      have hall : ∀ P Q, 1 ≤ Q → Q < q → dl n d (pick n d q) q * Q < dl n d P Q * q := fun P Q h1 h2 => by
        have k1 := i3 P Q h1 (by omega)
        have k2 : dl n d (pick n d q) q * S * Q < dl n d R S * q * Q := Int.mul_lt_mul_of_pos_right hn (by omega)
        have k3 : dl n d R S * Q * q ≤ dl n d P Q * S * q := Int.mul_le_mul_of_nonneg_right k1 (by omega)
        exact Int.lt_of_mul_lt_mul_right (a := S) (by grind) (by omega)
      refine ⟨pick n d q, q, by simp, by omega, by omega, fun P Q h1 h2 => ?_, hall, fun h => by omega⟩
      by_cases e : Q = q
      · subst e; exact Int.mul_le_mul_of_nonneg_right (hp P) (by omega)
      · have := hall P Q h1 (by omega); omega
    | false =>
      rw [rbStep_keep hl hn]
      unfold nearer at hn
      rw [decide_eq_false_iff_not] at hn
      refine ⟨R, S, hl, i1, by omega, fun P Q h1 h2 => ?_, i4, i5⟩
      by_cases e : Q = q
      · subst e
        have := Int.mul_le_mul_of_nonneg_right (hp P) (show 0 ≤ S by omega)
        omega
      · exact i3 P Q h1 (by omega)
theorem dl_zero {n d P Q : Int} (h : dl n d P Q = 0) : P * d = n * Q := by unfold dl at h; omega
/-- A fraction of the bound is the nearest itself. -/
theorem Lst.self {n d bound R S : Int} (h : Lst n d bound R S) (hd : 0 < d) (hb : d ≤ bound) : R * d = n * S := by
  have k1 := h.min n d (by omega) hb
  have k2 : dl n d n d = 0 := by unfold dl; rw [Int.sub_self]; rfl
  rw [k2, Int.zero_mul] at k1
  have k3 := dl_nonneg n d R S
  have : dl n d R S = 0 := by
    refine Decidable.by_contra fun hc => ?_
    have := Int.mul_pos (show 0 < dl n d R S by omega) hd
    omega
  exact dl_zero this
theorem aux_le {L A B a b S : Int} (h : L * B * A ≤ b * S * A) (e : L * A = a * S) : a * B * S ≤ b * A * S := by
  have x : L * B * A = a * B * S := by grind
  have y : b * S * A = b * A * S := by grind
  omega
theorem aux_lt {L A B a b S : Int} (h : L * B * A < b * S * A) (e : L * A = a * S) (e9 : a * B * S = b * A * S) : False := by
  have x : L * B * A = a * B * S := by grind
  have y : b * S * A = b * A * S := by grind
  omega
/-- Of the neighbours the nearer one, or of equally near ones the simpler one, or the lesser one, is the last best approximation. -/
theorem Lst.near {n d bound R S : Int} {A B : Int × Int} (h : Lst n d bound R S) (ha : Arnd n d bound A B) (hd : 0 < d) (hg : Int.gcd n d = 1) (hb : bound < d) :
    ((n * A.2 - A.1 * d) * B.2 < (B.1 * d - n * B.2) * A.2 ∨ (n * A.2 - A.1 * d) * B.2 = (B.1 * d - n * B.2) * A.2 ∧ A.2 ≤ B.2 → R * A.2 = A.1 * S) ∧
    ((B.1 * d - n * B.2) * A.2 < (n * A.2 - A.1 * d) * B.2 ∨ (n * A.2 - A.1 * d) * B.2 = (B.1 * d - n * B.2) * A.2 ∧ B.2 < A.2 → R * B.2 = B.1 * S) := by
  obtain ⟨A1, A2⟩ := A
  obtain ⟨B1, B2⟩ := B
  have hlow := (ha.low hd).max
  have hhigh := (ha.high hd).min
  obtain ⟨a1, a2, b1, b2, lo, hi, det, _⟩ := ha
  obtain ⟨s1, s2, hmin, hstr, hone⟩ := h
  dsimp only at *
  have hdA : dl n d A1 A2 = n * A2 - A1 * d := by unfold dl; omega
  have hdB : dl n d B1 B2 = B1 * d - n * B2 := by unfold dl; omega
  have mA := hmin A1 A2 a1 a2
  have mB := hmin B1 B2 b1 b2
  rw [hdA] at mA
  rw [hdB] at mB
  obtain ⟨α, hα⟩ : ∃ α, n * A2 - A1 * d = α := ⟨_, rfl⟩
  obtain ⟨β, hβ⟩ : ∃ β, B1 * d - n * B2 = β := ⟨_, rfl⟩
  rw [hα] at hdA mA ⊢
  rw [hβ] at hdB mB ⊢
  have hne : R * d ≠ n * S := fun hc => by
    have : d ∣ S := dvd_of_gcd hg ⟨R, by rw [← hc, Int.mul_comm]⟩
    have := Int.le_of_dvd (by omega) this
    omega
  rcases Int.lt_or_gt_of_ne hne with hlt | hgt
  · -- below
    have hm := hlow R S s1 s2 hlt
    have hdl : dl n d R S = n * S - R * d := by unfold dl; omega
    have e0 : R * A2 * d ≤ A1 * S * d := Int.mul_le_mul_of_nonneg_right hm (by omega)
    have e1 : R * A2 * d = A1 * S * d := by
      rw [hdl, ← hα] at mA
      have x1 : (n * S - R * d) * A2 = n * A2 * S - R * A2 * d := by clear hstr hmin hone hlow hhigh hg; grind
      have x2 : (n * A2 - A1 * d) * S = n * A2 * S - A1 * S * d := by clear hstr hmin hone hlow hhigh hg; grind
      omega
    have e2 : R * A2 = A1 * S := Int.eq_of_mul_eq_mul_right (by omega) e1
    have e3 : dl n d R S * A2 = α * S := by rw [hdl]; clear hstr hmin hone hlow hhigh hg; grind
    have e4 : α * B2 ≤ β * A2 := mul_cancel (k := S) (by omega) (by
      exact aux_le (Int.mul_le_mul_of_nonneg_right mB (by omega)) e3)
    refine ⟨fun _ => e2, fun hc => ?_⟩
    exfalso
    rcases hc with hc | ⟨hc1, hc2⟩
    · omega
    · -- S is a multiple of A2
      have e5 : S = A2 * (S * B1 - R * B2) := by clear hstr hmin hone hlow hhigh hg; grind
      have e6 : A2 ≤ S := Int.le_of_dvd (by omega) ⟨_, e5⟩
      have e7 := hstr B1 B2 b1 (by omega)
      rw [hdB] at e7
      have e8 : dl n d R S * B2 * A2 < β * S * A2 := Int.mul_lt_mul_of_pos_right e7 (by omega)
      exact aux_lt e8 e3 (by rw [hc1])
  · have hm := hhigh R S s1 s2 hgt
    have hdl : dl n d R S = R * d - n * S := by unfold dl; omega
    have e0 : B1 * S * d ≤ R * B2 * d := Int.mul_le_mul_of_nonneg_right hm (by omega)
    have e1 : R * B2 * d = B1 * S * d := by
      rw [hdl, ← hβ] at mB
      have x1 : (R * d - n * S) * B2 = R * B2 * d - n * B2 * S := by clear hstr hmin hone hlow hhigh hg; grind
      have x2 : (B1 * d - n * B2) * S = B1 * S * d - n * B2 * S := by clear hstr hmin hone hlow hhigh hg; grind
      omega
    have e2 : R * B2 = B1 * S := Int.eq_of_mul_eq_mul_right (by omega) e1
    have e3 : dl n d R S * B2 = β * S := by rw [hdl]; clear hstr hmin hone hlow hhigh hg; grind
    have e4 : β * A2 ≤ α * B2 := mul_cancel (k := S) (by omega) (by
      exact aux_le (Int.mul_le_mul_of_nonneg_right mA (by omega)) e3)
    refine ⟨fun hc => ?_, fun _ => e2⟩
    exfalso
    rcases hc with hc | ⟨hc1, hc2⟩
    · omega
    · have e5 : S = B2 * (R * A2 - S * A1) := by clear hstr hmin hone hlow hhigh hg; grind
      have e6 : B2 ≤ S := Int.le_of_dvd (by omega) ⟨_, e5⟩
      by_cases hlt : A2 < B2
      · have e7 := hstr A1 A2 a1 (by omega)
        rw [hdA] at e7
        have e8 : dl n d R S * A2 * B2 < α * S * B2 := Int.mul_lt_mul_of_pos_right e7 (by omega)
        exact aux_lt e8 e3 (by rw [hc1])
      · obtain rfl : A2 = B2 := by omega
        have h1 : A2 ∣ 1 := ⟨B1 - A1, by clear hstr hmin hone hlow hhigh hg; grind⟩
        have h2 : A2 = 1 := by have := Int.le_of_dvd (by decide) h1; omega
        subst h2
        have hS1 : S = 1 := by
          refine Decidable.by_contra fun hc => ?_
          have := hstr B1 1 (by omega) (by omega)
          rw [hdB] at this
          omega
        have hR := hone hS1
        subst hS1
        have hp := pick_one n hd
        have he := ediv_eq n d
        have hbd := emod_bd (n := n) hd
        have hq : n / d = A1 := by
          have k1 : n / d ≤ A1 := by
            have : n / d * d < (A1 + 1) * d := by rw [Int.mul_comm (n / d)]; clear hstr hmin hone hlow hhigh hg; grind
            have := Int.lt_of_mul_lt_mul_right this (by omega)
            omega
          have k2 : A1 ≤ n / d := by
            have : A1 * d < (n / d + 1) * d := by rw [Int.add_mul, Int.mul_comm (n / d)]; omega
            have := Int.lt_of_mul_lt_mul_right this (by omega)
            omega
          omega
        rw [hp, hq] at hR
        rw [hq] at he
        have z1 : B1 * d = A1 * d + d := by rw [show B1 = A1 + 1 by omega, Int.add_mul, Int.one_mul]
        have z2 : d * A1 = A1 * d := Int.mul_comm _ _
        rw [if_neg (by omega)] at hR
        omega
end
section
/-- p / q lies from l1 / l2 to h1 / h2. -/
def InR (l1 l2 h1 h2 p q : Int) : Prop := 1 ≤ q ∧ l1 * q ≤ p * l2 ∧ p * h2 ≤ h1 * q
/-- It lies there, and both its numbers are the least. -/
structure IsS (l1 l2 h1 h2 P Q : Int) : Prop where
  mem : InR l1 l2 h1 h2 P Q
  least : ∀ p q, InR l1 l2 h1 h2 p q → P ≤ p ∧ Q ≤ q
/-- The ceiling of a / b. -/
def ceilD (a b : Int) : Int := -(-a / b)
theorem ceil_le {a b p : Int} (hb : 0 < b) : ceilD a b ≤ p ↔ a ≤ p * b := by
  unfold ceilD
  have he := ediv_eq (-a) b
  have hbd := emod_bd (n := -a) hb
  constructor
  · intro h
    have := Int.mul_le_mul_of_nonneg_right (show -p ≤ -a / b by omega) (show 0 ≤ b by omega)
    rw [Int.neg_mul, Int.mul_comm (-a / b)] at this
    omega
  · intro h
    have : -p ≤ -a / b := Int.le_ediv_of_mul_le hb (by rw [Int.neg_mul]; omega)
    omega
theorem le_floor {a b p : Int} (hb : 0 < b) : p ≤ a / b ↔ p * b ≤ a := Int.le_ediv_iff_mul_le hb
theorem InR.pos {l1 l2 h1 h2 p q : Int} (h : InR l1 l2 h1 h2 p q) (hl : 0 < l1) (hl2 : 0 < l2) : 0 < p := by
  obtain ⟨h1', h2', _⟩ := h
  have := Int.mul_pos hl (show 0 < q by omega)
  refine Decidable.by_contra fun hc => ?_
  have := Int.mul_le_mul_of_nonneg_right (show p ≤ 0 by omega) (show 0 ≤ l2 by omega)
  omega
/-- An integer of the range. -/
theorem IsS.int {l1 l2 h1 h2 : Int} (hl : 0 < l1) (hl2 : 0 < l2) (hh2 : 0 < h2) (h : ceilD l1 l2 ≤ h1 / h2) : IsS l1 l2 h1 h2 (ceilD l1 l2) 1 := by
  have h3 := (ceil_le hl2).1 (Int.le_refl (ceilD l1 l2))
  have h4 := (le_floor hh2).1 h
  refine ⟨⟨by omega, by omega, by omega⟩, fun p q hp => ⟨?_, hp.1⟩⟩
  rw [ceil_le hl2]
  have := Int.mul_le_mul_of_nonneg_left hp.1 (show 0 ≤ l1 by omega)
  have := hp.2.1
  omega
/-- The range of 1 over what is left of all. -/
theorem IsS.step {l1 l2 h1 h2 a U V : Int} (ha : a * l2 < l1) (h : IsS h2 (h1 - a * h2) l2 (l1 - a * l2) U V) (hl2 : 0 < l2) (hh2 : 0 < h2) (hpos : 0 < h1 - a * h2) (ha0 : 0 ≤ a) : IsS l1 l2 h1 h2 (a * U + V) U := by
  obtain ⟨⟨v1, m1, m2⟩, hl⟩ := h
  have hU : 1 ≤ U := by
    refine Decidable.by_contra fun hc => ?_
    have k1 := Int.mul_le_mul_of_nonneg_right (show U ≤ 0 by omega) (show 0 ≤ h1 - a * h2 by omega)
    have k2 := Int.mul_pos hh2 (show 0 < V by omega)
    omega
  refine ⟨⟨hU, by grind, by grind⟩, fun p q hp => ?_⟩
  obtain ⟨q1, p1, p2⟩ := hp
  have hv : 1 ≤ p - a * q := by
    have k1 : a * l2 * q < l1 * q := Int.mul_lt_mul_of_pos_right ha (by omega)
    have k2 : a * q * l2 < p * l2 := by grind
    have := Int.lt_of_mul_lt_mul_right k2 (by omega)
    omega
  obtain ⟨k1, k2⟩ := hl q (p - a * q) ⟨hv, by grind, by grind⟩
  have := Int.mul_le_mul_of_nonneg_left k1 ha0
  omega
/-- A convergent turns simplest ones into simplest ones. -/
def Turns (c : P4) (l1 l2 h1 h2 L1 L2 H1 H2 : Int) : Prop := ∀ U V, IsS l1 l2 h1 h2 U V → IsS L1 L2 H1 H2 (c.p * U + c.b * V) (c.q * U + c.u * V)
theorem Turns.beg (l1 l2 h1 h2 : Int) : Turns beg l1 l2 h1 h2 l1 l2 h1 h2 := fun U V h => by
  simp only [Go.Proofs.YtpafocfpofnkpaaGreatDoor.beg]
  rw [show (1 : Int) * U + 0 * V = U by omega, show (0 : Int) * U + 1 * V = V by omega]
  exact h
theorem Turns.done {c : P4} {l1 l2 h1 h2 L1 L2 H1 H2 : Int} (h : Turns c l1 l2 h1 h2 L1 L2 H1 H2) (hl : 0 < l1) (hl2 : 0 < l2) (hh2 : 0 < h2) (hc : ceilD l1 l2 ≤ h1 / h2) : IsS L1 L2 H1 H2 (c.num (ceilD l1 l2)) (c.den (ceilD l1 l2)) := by
  have := h _ _ (IsS.int hl hl2 hh2 hc)
  unfold P4.num P4.den
  rw [show c.b + ceilD l1 l2 * c.p = c.p * ceilD l1 l2 + c.b * 1 by grind, show c.u + ceilD l1 l2 * c.q = c.q * ceilD l1 l2 + c.u * 1 by grind]
  exact this
/-- What holds of a range without an integer. -/
theorem gap {l1 l2 h1 h2 : Int} (hl2 : 0 < l2) (hh2 : 0 < h2) (hlh : l1 * h2 ≤ h1 * l2) (hc : ¬ ceilD l1 l2 ≤ h1 / h2) : l1 / l2 * l2 < l1 ∧ 0 < h1 - l1 / l2 * h2 ∧ h1 - l1 / l2 * h2 < h2 ∧ l1 - l1 / l2 * l2 < l2 := by
  have he := ediv_eq l1 l2
  have hb := emod_bd (n := l1) hl2
  have hcm := Int.mul_comm l2 (l1 / l2)
  have hne : l1 / l2 * l2 < l1 := by
    refine Decidable.by_contra fun hn => hc ?_
    have e : l1 = l1 / l2 * l2 := by omega
    have h1' : ceilD l1 l2 ≤ l1 / l2 := (ceil_le hl2).2 (by omega)
    refine Int.le_trans h1' ((le_floor hh2).2 ?_)
    have : l1 / l2 * h2 * l2 ≤ h1 * l2 := by
      have : l1 * h2 = l1 / l2 * h2 * l2 := by
        rw [Int.mul_right_comm, ← e]
      omega
    exact mul_cancel hl2 this
  have hpos : 0 < h1 - l1 / l2 * h2 := by
    have k1 : l1 / l2 * l2 * h2 < l1 * h2 := Int.mul_lt_mul_of_pos_right hne hh2
    have k2 : l1 / l2 * h2 * l2 < h1 * l2 := by rw [Int.mul_right_comm]; omega
    have := Int.lt_of_mul_lt_mul_right k2 (by omega)
    omega
  refine ⟨hne, hpos, ?_, by omega⟩
  have h3 : ceilD l1 l2 ≤ l1 / l2 + 1 := (ceil_le hl2).2 (by rw [Int.add_mul]; omega)
  have h4 : ¬ l1 / l2 + 1 ≤ h1 / h2 := fun h => hc (Int.le_trans h3 h)
  rw [le_floor hh2, Int.add_mul] at h4
  omega
theorem Turns.step {c : P4} {l1 l2 h1 h2 L1 L2 H1 H2 : Int} (h : Turns c l1 l2 h1 h2 L1 L2 H1 H2) (hl : 0 < l1) (hl2 : 0 < l2) (hh2 : 0 < h2) (hlh : l1 * h2 ≤ h1 * l2) (hc : ¬ ceilD l1 l2 ≤ h1 / h2) :
    Turns (c.nx (l1 / l2)) h2 (h1 - l1 / l2 * h2) l2 (l1 - l1 / l2 * l2) L1 L2 H1 H2 := by
  obtain ⟨g1, g2, g3, g4⟩ := gap hl2 hh2 hlh hc
  have ha0 : 0 ≤ l1 / l2 := Int.ediv_nonneg (by omega) (by omega)
  intro U V hS
  have := h _ _ (hS.step g1 hl2 hh2 g2 ha0)
  show IsS L1 L2 H1 H2 ((c.b + l1 / l2 * c.p) * U + c.p * V) ((c.u + l1 / l2 * c.q) * U + c.q * V)
  rw [show (c.b + l1 / l2 * c.p) * U + c.p * V = c.p * (l1 / l2 * U + V) + c.b * U by grind, show (c.u + l1 / l2 * c.q) * U + c.q * V = c.q * (l1 / l2 * U + V) + c.u * U by grind]
  exact this

/-- The reference's answer at a denominator: none, or a numerator. -/
def smpAt (a b x y q : Int) : Option (Int × Int) :=
  if x * q / y < ceilD (a * q) b then none
  else if ceilD (a * q) b ≤ 0 ∧ 0 ≤ x * q / y then some (0, 1)
  else if x * q / y < 0 then some (x * q / y, q)
  else some (ceilD (a * q) b, q)
theorem smpAt_none {a b x y q : Int} (hb : 0 < b) (hy : 0 < y) (h : ∀ p, ¬ (a * q ≤ p * b ∧ p * y ≤ x * q)) : smpAt a b x y q = none := by
  unfold smpAt
  rw [if_pos]
  refine Decidable.by_contra fun hc => h (ceilD (a * q) b) ⟨(ceil_le hb).1 (Int.le_refl _), (le_floor hy).1 (by omega)⟩
theorem smp_pos {a b x y P Q : Int} (hb : 0 < b) (hy : 0 < y) (ha : 0 < a) (h : IsS a b x y P Q) : (∀ q, 1 ≤ q → q < Q → smpAt a b x y q = none) ∧ smpAt a b x y Q = some (P, Q) := by
  have hP := h.mem.pos ha hb
  obtain ⟨q1, m1, m2⟩ := h.mem
  refine ⟨fun q h1 h2 => smpAt_none hb hy fun p hp => ?_, ?_⟩
  · have := (h.least p q ⟨h1, hp.1, hp.2⟩).2; omega
  · have k1 : ceilD (a * Q) b ≤ P := (ceil_le hb).2 m1
    have k2 : P ≤ x * Q / y := (le_floor hy).2 m2
    have k3 : P ≤ ceilD (a * Q) b := (h.least (ceilD (a * Q) b) Q ⟨q1, (ceil_le hb).1 (Int.le_refl _), (le_floor hy).1 (by omega)⟩).1
    unfold smpAt
    rw [if_neg (by omega), if_neg (by omega), if_neg (by omega), show ceilD (a * Q) b = P by omega]
theorem smp_neg {a b x y P Q : Int} (hb : 0 < b) (hy : 0 < y) (hx : x < 0) (h : IsS (-x) y (-a) b P Q) : (∀ q, 1 ≤ q → q < Q → smpAt a b x y q = none) ∧ smpAt a b x y Q = some (-P, Q) := by
  have hP := h.mem.pos (by omega) hy
  obtain ⟨q1, m1, m2⟩ := h.mem
  rw [Int.neg_mul] at m1 m2
  refine ⟨fun q h1 h2 => smpAt_none hb hy fun p hp => ?_, ?_⟩
  · have := (h.least (-p) q ⟨h1, by rw [Int.neg_mul, Int.neg_mul]; omega, by rw [Int.neg_mul, Int.neg_mul]; omega⟩).2; omega
  · have k1 : ceilD (a * Q) b ≤ -P := (ceil_le hb).2 (by rw [Int.neg_mul]; omega)
    have k2 : -P ≤ x * Q / y := (le_floor hy).2 (by rw [Int.neg_mul]; omega)
    have k4 := (le_floor hy).1 (Int.le_refl (x * Q / y))
    have k3 : P ≤ -(x * Q / y) := (h.least (-(x * Q / y)) Q ⟨q1, by rw [Int.neg_mul, Int.neg_mul]; omega, by
      have := (ceil_le hb).1 (show ceilD (a * Q) b ≤ x * Q / y by omega)
      rw [Int.neg_mul, Int.neg_mul]; omega⟩).1
    unfold smpAt
    rw [if_neg (by omega), if_neg (by omega), if_pos (by omega), show x * Q / y = -P by omega]
theorem smp_zero {a b x y : Int} (hb : 0 < b) (hy : 0 < y) (ha : a ≤ 0) (hx : 0 ≤ x) : smpAt a b x y 1 = some (0, 1) := by
  have k1 : ceilD (a * 1) b ≤ 0 := (ceil_le hb).2 (by omega)
  have k2 : 0 ≤ x * 1 / y := (le_floor hy).2 (by omega)
  unfold smpAt
  rw [if_neg (by omega), if_pos ⟨k1, k2⟩]
end
section
/-- The way to n / d in the tree, b: to the right. -/
def sb (b : Bool) (n d : Int) : List Bool :=
  if _h : n ≤ 0 ∨ d ≤ 0 then [] else if d < n then b :: sb b (n - d) d else if n < d then (!b) :: sb b n (d - n) else []
  termination_by (n + d).toNat
  decreasing_by all_goals omega
theorem sb_right {b : Bool} {n d : Int} (hd : 0 < d) (h : d < n) : sb b n d = b :: sb b (n - d) d := by rw [sb, dif_neg (by omega), if_pos h]
theorem sb_left {b : Bool} {n d : Int} (hn : 0 < n) (h : n < d) : sb b n d = (!b) :: sb b n (d - n) := by rw [sb, dif_neg (by omega), if_neg (by omega), if_pos h]
theorem sb_stop (b : Bool) (n : Int) : sb b n n = [] := by
  rw [sb]
  by_cases h : n ≤ 0 ∨ n ≤ 0
  · rw [dif_pos h]
  · rw [dif_neg h, if_neg (by omega), if_neg (by omega)]
theorem sb_swap : ∀ (m : Nat) (b : Bool) (n d : Int), 0 < n → 0 < d → (n + d).toNat ≤ m → sb b n d = sb (!b) d n := by
  intro m
  induction m with
  | zero => intro b n d h1 h2 h3; omega
  | succ m ih =>
    intro b n d h1 h2 h3
    rcases Int.lt_trichotomy n d with h | h | h
    · rw [sb_left h1 h, sb_right h1 h, ih b n (d - n) h1 (by omega) (by omega)]
    · subst h; rw [sb_stop, sb_stop]
    · rw [sb_right h2 h, sb_left h2 h, ih b (n - d) d (by omega) h2 (by omega), Bool.not_not]
theorem sb_run {b : Bool} {n d : Int} (hn : 0 < n) (hd : 0 < d) : ∀ k : Nat, sb b (n + k * d) d = List.replicate k b ++ sb b n d := by
  intro k
  induction k with
  | zero => simp
  | succ k ih =>
    have hk : 0 ≤ (k : Int) * d := Int.mul_nonneg (by omega) (by omega)
    have e : n + ((k + 1 : Nat) : Int) * d - d = n + (k : Int) * d := by rw [Int.natCast_succ, Int.add_mul]; omega
    rw [sb_right hd (by omega), e, ih, List.replicate_succ]; rfl
/-- The way of terms. -/
def rp (b : Bool) : List Int → List Bool
  | [] => []
  | a :: l => List.replicate a.toNat b ++ rp (!b) l
/-- Terms, the last one less by one. -/
def less (l : List Int) : List Int := l.dropLast ++ [l.getLastD 0 - 1]
theorem less_cons (a c : Int) (l : List Int) : less (a :: c :: l) = a :: less (c :: l) := by simp [less]
theorem sb_tms : ∀ n d : Int, 0 < d → 0 < n → Int.gcd n d = 1 → ∀ b, sb b n d = rp b (less (tms n d)) := by
  refine tms_ind ?_ ?_
  · intro n d h h1; omega
  · intro n d h ih _ hn hg b
    have hb := emod_bd (n := n) h
    have he := ediv_eq n d
    have ha : 0 ≤ n / d := Int.ediv_nonneg (by omega) (by omega)
    have hcm := Int.mul_comm d (n / d)
    rw [tms_step h]
    by_cases h0 : n % d = 0
    · have hd1 : d = 1 := by
        have : d ∣ (Int.gcd n d : Int) := Int.dvd_coe_gcd ⟨n / d, by omega⟩ (Int.dvd_refl d)
        rw [hg] at this
        have := Int.le_of_dvd (by decide) this
        omega
      subst hd1
      rw [h0, tms_stop (by omega), Int.ediv_one]
      have := sb_run (b := b) (n := 1) (d := 1) (by omega) (by omega) (n - 1).toNat
      rw [show (1 : Int) + ((n - 1).toNat : Int) * 1 = n by omega, sb_stop] at this
      rw [this]
      simp [less, rp]
    · have hr : 0 < n % d := by omega
      have := sb_run (b := b) (n := n % d) (d := d) hr h (n / d).toNat
      rw [show n % d + ((n / d).toNat : Int) * d = n by rw [show ((n / d).toNat : Int) = n / d by omega]; omega] at this
      rw [this, sb_swap _ b (n % d) d hr h (Nat.le_refl _), ih hr h (by rw [gcd_emod]; exact hg)]
      rw [tms_step hr, less_cons]; rfl

/-- The two fractions around, behind a letter. -/
structure Q4 where
  a : Int
  b : Int
  c : Int
  d : Int
def q0 : Q4 := ⟨0, 1, 1, 0⟩
def Q4.go (z : Q4) (r : Bool) : Q4 := if r = true then ⟨z.a + z.c, z.b + z.d, z.c, z.d⟩ else ⟨z.a, z.b, z.a + z.c, z.b + z.d⟩
def Q4.at (z : Q4) (l : List Bool) : Q4 := l.foldl Q4.go z
theorem Q4.at_snoc (z : Q4) (l : List Bool) (r : Bool) : z.at (l ++ [r]) = (z.at l).go r := by simp [Q4.at]
/-- Where a way leads. -/
theorem at_sb : ∀ (m : Nat) (n d : Int), 0 < n → 0 < d → Int.gcd n d = 1 → (n + d).toNat ≤ m → ∀ z : Q4, (z.at (sb true n d)).a + (z.at (sb true n d)).c = z.a * d + z.c * n ∧ (z.at (sb true n d)).b + (z.at (sb true n d)).d = z.b * d + z.d * n := by
  intro m
  induction m with
  | zero => intro n d h1 h2 _ h3; omega
  | succ m ih =>
    intro n d h1 h2 hg h3 z
    rcases Int.lt_trichotomy n d with h | h | h
    · rw [sb_left h1 h]
      have hg2 : Int.gcd n (d - n) = 1 := by rw [← hg]; conv => rhs; rw [show d = d - n + n by omega, Int.gcd_add_self_right]
      have := ih n (d - n) h1 (by omega) hg2 (by omega) (z.go (!true))
      rw [show z.at ((!true) :: sb true n (d - n)) = (z.go (!true)).at (sb true n (d - n)) from rfl, this.1, this.2]
      simp only [Q4.go, Bool.not_true, Bool.false_eq_true, if_false]
      constructor <;> grind
    · subst h
      rw [sb_stop]
      have hn : n = 1 := by rw [Int.gcd_self] at hg; omega
      subst hn
      simp [Q4.at]
    · rw [sb_right h2 h]
      have hg2 : Int.gcd (n - d) d = 1 := by rw [← hg]; conv => rhs; rw [show n = n - d + d by omega, Int.gcd_add_self_left]
      have := ih (n - d) d (by omega) h2 hg2 (by omega) (z.go true)
      rw [show z.at (true :: sb true (n - d) d) = (z.go true).at (sb true (n - d) d) from rfl, this.1, this.2]
      simp only [Q4.go, if_true]
      constructor <;> grind
theorem at_back {n d : Int} (hn : 0 < n) (hd : 0 < d) (hg : Int.gcd n d = 1) : (q0.at (sb true n d)).a + (q0.at (sb true n d)).c = n ∧ (q0.at (sb true n d)).b + (q0.at (sb true n d)).d = d := by
  have := at_sb _ n d hn hd hg (Nat.le_refl _) q0
  simpa [q0] using this
/-- How great the numbers become. -/
structure Q4.Le (z : Q4) (m : Int) : Prop where
  a0 : 0 ≤ z.a
  a1 : z.a ≤ m
  b0 : 0 ≤ z.b
  b1 : z.b ≤ m
  c0 : 0 ≤ z.c
  c1 : z.c ≤ m
  d0 : 0 ≤ z.d
  d1 : z.d ≤ m
  bd : 1 ≤ z.b + z.d
theorem Q4.Le.go {z : Q4} {m : Int} (h : z.Le m) (r : Bool) : (z.go r).Le (2 * m) := by
  obtain ⟨h1, h2, h3, h4, h5, h6, h7, h8, h9⟩ := h
  unfold Q4.go
  cases r
  · exact ⟨h1, by show z.a ≤ _; omega, h3, by show z.b ≤ _; omega, by show 0 ≤ z.a + z.c; omega, by show z.a + z.c ≤ _; omega, by show 0 ≤ z.b + z.d; omega, by show z.b + z.d ≤ _; omega, by show 1 ≤ z.b + (z.b + z.d); omega⟩
  · exact ⟨by show 0 ≤ z.a + z.c; omega, by show z.a + z.c ≤ _; omega, by show 0 ≤ z.b + z.d; omega, by show z.b + z.d ≤ _; omega, h5, by show z.c ≤ _; omega, h7, by show z.d ≤ _; omega, by show 1 ≤ z.b + z.d + z.d; omega⟩
theorem Q4.Le.zero : q0.Le 1 := by constructor <;> simp [q0]
theorem at_le : ∀ (l : List Bool) (z : Q4) (m : Int), z.Le m → (z.at l).Le (2 ^ l.length * m) := by
  intro l
  induction l with
  | nil => intro z m h; simpa [Q4.at] using h
  | cons r l ih =>
    intro z m h
    have := ih (z.go r) (2 * m) (h.go r)
    rw [List.length_cons, Int.pow_succ, Int.mul_assoc]
    exact this
theorem rp_length (l : List Int) (h : ∀ a ∈ l, 0 ≤ a) : ∀ b, ((rp b l).length : Int) = l.sum := by
  induction l with
  | nil => intro b; rfl
  | cons a l ih =>
    intro b
    have h1 := ih (fun x hx => h x (List.mem_cons_of_mem _ hx)) (!b)
    have h2 := h a List.mem_cons_self
    simp only [rp, List.length_append, List.length_replicate, List.sum_cons]
    omega
theorem less_sum (l : List Int) (h : l ≠ []) : (less l).sum = l.sum - 1 := by
  induction l with
  | nil => exact absurd rfl h
  | cons a l ih =>
    cases l with
    | nil => simp [less]
    | cons c l => rw [less_cons, List.sum_cons, ih (List.cons_ne_nil _ _), List.sum_cons (a := a)]; omega
theorem rp_snoc (l : List Int) (a : Int) : ∀ b, rp b (l ++ [a]) = rp b l ++ List.replicate a.toNat (if l.length % 2 = 0 then b else !b) := by
  induction l with
  | nil => intro b; simp [rp]
  | cons c l ih =>
    intro b
    show List.replicate c.toNat b ++ rp (!b) (l ++ [a]) = (List.replicate c.toNat b ++ rp (!b) l) ++ _
    rw [ih, List.append_assoc, List.length_cons]
    congr 3
    by_cases h : l.length % 2 = 0
    · rw [if_pos h, if_neg (by omega)]
    · rw [if_neg h, if_pos (by omega), Bool.not_not]
theorem less_len (l : List Int) (h : l ≠ []) : (less l).length = l.length := by
  have := List.length_pos_iff.2 h
  simp [less]; omega
end
section
section
variable {c : P4} {n d n' d' s : Int}

/-- The convergents behind a state. -/
def cvs (c : P4) : List Int → List (Int × Int)
  | [] => []
  | a :: l => (c.num a, c.den a) :: cvs (c.nx a) l
theorem cvs_len (l : List Int) : ∀ c, (cvs c l).length = l.length := by
  induction l with
  | nil => intro c; rfl
  | cons a l ih => intro c; simp [cvs, ih]
theorem cvs_get (l : List Int) : ∀ (c : P4) (i : Nat), i < l.length → (cvs c l)[i]? = some ((runC c (l.take (i + 1))).p, (runC c (l.take (i + 1))).q) := by
  induction l with
  | nil => intro c i h; exact absurd h (Nat.not_lt_zero _)
  | cons a l ih =>
    intro c i h
    cases i with
    | zero => simp [cvs, runC, P4.nx]
    | succ i =>
      have := ih (c.nx a) i (by simpa using h)
      simpa [cvs, runC] using this
theorem cvs_snoc (l : List Int) (a : Int) : ∀ c : P4, cvs c (l ++ [a]) = cvs c l ++ [((runC c l).num a, (runC c l).den a)] := by
  induction l with
  | nil => intro c; rfl
  | cons x l ih => intro c; simp [cvs, runC, ih]
/-- As the reference has it. -/
theorem cvs_beg (l : List Int) (i : Nat) (h : i < l.length) : (cvs beg l)[i]? = some (cv (l.take (i + 1))) := by
  rw [cvs_get l beg i h, (runC_beg _).1, (runC_beg _).2]

/-- The reference's semiconvergents. -/
def rsemi (bound : Int) (c : P4) : List Int → List (Int × Int)
  | [] => []
  | a :: l => c.semis 1 (c.most a bound) ++ rsemi bound (c.nx a) l
def oneF (_a _l : Int) : Int := 1
theorem rsemi_none {bound : Int} : ∀ (l : List Int) (c : P4), (∀ a ∈ l, 1 ≤ a) → 1 ≤ c.q → 0 ≤ c.u → bound < c.u + c.q → rsemi bound c l = [] := by
  intro l
  induction l with
  | nil => intro c _ _ _ _; rfl
  | cons a l ih =>
    intro c h hq hu hb
    have ha := h a List.mem_cons_self
    have hm := Int.mul_le_mul_of_nonneg_right ha (show 0 ≤ c.q by omega)
    have h0 : (bound - c.u) / c.q < 1 := by
      have := Int.ediv_lt_of_lt_mul (show 0 < c.q by omega) (show bound - c.u < 1 * c.q by omega)
      exact this
    show c.semis 1 (c.most a bound) ++ rsemi bound (c.nx a) l = []
    rw [most_eq hq, if_pos (by omega), semis_none h0, ih (c.nx a) (fun x hx => h x (List.mem_cons_of_mem _ hx)) (by show 1 ≤ c.u + a * c.q; omega) (by show 0 ≤ c.q; omega) (by show bound < c.q + (c.u + a * c.q); omega)]; rfl
theorem rsemi_same {bound : Int} : ∀ (l : List Int) (c : P4), (∀ a ∈ l, 1 ≤ a) → 1 ≤ c.q → 0 ≤ c.u → rsemi bound c l = semiT oneF bound c l := by
  intro l
  induction l with
  | nil => intro c _ _ _; rfl
  | cons a l ih =>
    intro c h hq hu
    have ha := h a List.mem_cons_self
    have hm := Int.mul_le_mul_of_nonneg_right ha (show 0 ≤ c.q by omega)
    show c.semis 1 (c.most a bound) ++ rsemi bound (c.nx a) l = c.semis (max 1 1) (c.most a bound) ++ if c.most a bound < a then [] else semiT oneF bound (c.nx a) l
    rw [show max (1 : Int) 1 = 1 by omega]
    by_cases hlt : c.most a bound < a
    · rw [if_pos hlt]
      congr 1
      refine rsemi_none l _ (fun x hx => h x (List.mem_cons_of_mem _ hx)) (by show 1 ≤ c.u + a * c.q; omega) (by show 0 ≤ c.q; omega) ?_
      show bound < c.q + (c.u + a * c.q)
      rw [most_eq hq] at hlt
      have hlt2 : (bound - c.u) / c.q < a := by
        by_cases e : (bound - c.u) / c.q < a
        · exact e
        · rw [if_neg e] at hlt; omega
      have he := ediv_eq (bound - c.u) c.q
      have hb := emod_bd (n := bound - c.u) (show 0 < c.q by omega)
      have := Int.mul_le_mul_of_nonneg_left (show (bound - c.u) / c.q ≤ a by omega) (show 0 ≤ c.q by omega)
      rw [Int.mul_comm c.q a] at this
      omega
    · rw [if_neg hlt, ih (c.nx a) (fun x hx => h x (List.mem_cons_of_mem _ hx)) (by show 1 ≤ c.u + a * c.q; omega) (by show 0 ≤ c.q; omega)]
theorem semiL_one (bound : Int) (a : Int) (l : List Int) (h : ∀ x ∈ l, 1 ≤ x) : semiL oneF bound (a :: l) = (a, 1) :: rsemi bound (beg.nx a) l := by
  show (a, 1) :: semiT oneF bound (beg.nx a) l = _
  rw [rsemi_same l (beg.nx a) h (by simp [P4.nx, P4.den, beg]) (by simp [P4.nx, beg])]

/-- What is yielded behind the first term is a fraction in lowest terms of the bound. -/
def Good (bound : Int) (y : Int × Int) : Prop := 1 ≤ y.2 ∧ y.2 ≤ bound ∧ ∃ x z : Int, y.1 * x - y.2 * z = 1
theorem semi_good {bound : Int} (f : Int → Int → Int) : ∀ (l : List Int) (c : P4) (s : Int), c.p * c.u - c.b * c.q = s → s * s = 1 → (∀ a ∈ l, 1 ≤ a) → 1 ≤ c.q → 0 ≤ c.u → ∀ y ∈ semiT f bound c l, Good bound y := by
  intro l
  induction l with
  | nil => intro c s _ _ _ _ _ y hy; cases hy
  | cons a l ih =>
    intro c s hs hsq h hq hu y hy
    have ha := h a List.mem_cons_self
    have hm := Int.mul_le_mul_of_nonneg_right ha (show 0 ≤ c.q by omega)
    rcases List.mem_append.1 hy with hy | hy
    · unfold P4.semis at hy
      obtain ⟨j, hj, rfl⟩ := List.mem_map.1 hy
      have hjb := rng_mem.1 hj
      have hle := Int.mul_le_mul_of_nonneg_right (show 1 ≤ j by omega) (show 0 ≤ c.q by omega)
      refine ⟨by show 1 ≤ c.u + j * c.q; omega, ?_, ?_⟩
      · rw [most_eq hq] at hjb
        have hj2 : j ≤ (bound - c.u) / c.q := by
          by_cases e : (bound - c.u) / c.q < a
          · rw [if_pos e] at hjb; omega
          · rw [if_neg e] at hjb; omega
        have he := ediv_eq (bound - c.u) c.q
        have hb := emod_bd (n := bound - c.u) (show 0 < c.q by omega)
        have := Int.mul_le_mul_of_nonneg_left hj2 (show 0 ≤ c.q by omega)
        rw [Int.mul_comm c.q j] at this
        show c.u + j * c.q ≤ bound
        omega
      · exact ⟨-(s * c.q), -(s * c.p), by show (c.b + j * c.p) * _ - (c.u + j * c.q) * _ = 1; grind⟩
    · by_cases hlt : c.most a bound < a
      · rw [if_pos hlt] at hy; cases hy
      · rw [if_neg hlt] at hy
        refine ih (c.nx a) (-s) ?_ (by grind) (fun x hx => h x (List.mem_cons_of_mem _ hx)) (by show 1 ≤ c.u + a * c.q; omega) (by show 0 ≤ c.q; omega) y hy
        show (c.b + a * c.p) * c.q - c.p * (c.u + a * c.q) = -s
        grind
theorem Good.gcd {bound : Int} {y : Int × Int} (h : Good bound y) : Int.gcd y.1 y.2 = 1 := by
  obtain ⟨_, _, x, z, e⟩ := h
  have : ((Int.gcd y.1 y.2 : Nat) : Int) ∣ 1 := by
    rw [← e]
    exact Int.dvd_sub (Int.dvd_mul_of_dvd_left (Int.gcd_dvd_left ..)) (Int.dvd_mul_of_dvd_left (Int.gcd_dvd_right ..))
  have := Int.le_of_dvd (by decide) this
  have h2 : Int.gcd y.1 y.2 ≠ 0 := fun h0 => by
    rw [Int.gcd_eq_zero_iff] at h0
    rw [h0.1, h0.2] at e
    omega
  omega
theorem semiL_good {bound : Int} (hb : 1 ≤ bound) (f : Int → Int → Int) (a : Int) (l : List Int) (h : ∀ x ∈ l, 1 ≤ x) : ∀ y ∈ semiL f bound (a :: l), Good bound y := by
  intro y hy
  rcases List.mem_cons.1 hy with rfl | hy
  · exact ⟨Int.le_refl 1, hb, 0, -1, by omega⟩
  · exact semi_good f l (beg.nx a) (-1) (by simp [P4.nx, P4.num, P4.den, beg]) (by decide) h (by simp [P4.nx, P4.den, beg]) (by simp [P4.nx, beg]) y hy
/-- Denominators grow along what is yielded: there are at most as many as the bound, and one. -/
theorem semis_len (c : P4) (lo hi : Int) : (c.semis lo hi).length = (hi + 1 - lo).toNat := by simp [P4.semis, rng]
theorem both_one {a q : Int} (ha : 1 ≤ a) (hq : 1 ≤ q) : a + q ≤ a * q + 1 := by
  have := Int.mul_nonneg (show 0 ≤ a - 1 by omega) (show 0 ≤ q - 1 by omega)
  have e : (a - 1) * (q - 1) = a * q - a - q + 1 := by grind
  omega
theorem semi_len {bound : Int} (f : Int → Int → Int) : ∀ (l : List Int) (c : P4), (∀ a ∈ l, 1 ≤ a) → 1 ≤ c.q → 0 ≤ c.u → c.u ≤ c.q → c.q ≤ bound → ((semiT f bound c l).length : Int) ≤ bound - c.q + if c.u = 0 then 1 else 0 := by
  intro l
  induction l with
  | nil => intro c _ _ _ _ hb; show ((0 : Nat) : Int) ≤ _; split <;> omega
  | cons a l ih =>
    intro c h hq hu huq hb
    have ha := h a List.mem_cons_self
    have he := ediv_eq (bound - c.u) c.q
    have hbd := emod_bd (n := bound - c.u) (show 0 < c.q by omega)
    have hL0 : 0 ≤ (bound - c.u) / c.q := Int.ediv_nonneg (by omega) (by omega)
    have hu1 : 1 ≤ c.u + if c.u = 0 then 1 else 0 := by split <;> omega
    have hu2 : 0 ≤ (if c.u = 0 then 1 else 0 : Int) := by split <;> omega
    generalize (if c.u = 0 then 1 else 0 : Int) = t at *
    show ((c.semis (max (f a (c.most a bound)) 1) (c.most a bound) ++ if c.most a bound < a then [] else semiT f bound (c.nx a) l).length : Int) ≤ _
    rw [List.length_append, semis_len, most_eq hq]
    by_cases hlt : (bound - c.u) / c.q < a
    · rw [if_pos hlt, if_pos hlt]
      simp only [List.length_nil]
      generalize (bound - c.u) / c.q = L at *
      by_cases hL : 1 ≤ L
      · have := both_one hL hq
        have hc : c.q * L = L * c.q := Int.mul_comm _ _
        omega
      · omega
    · rw [if_neg hlt, if_neg (by omega)]
      have hma := Int.mul_le_mul_of_nonneg_left (show a ≤ (bound - c.u) / c.q by omega) (show 0 ≤ c.q by omega)
      have hac : c.q * a = a * c.q := Int.mul_comm _ _
      have hbo := both_one ha hq
      have hm := Int.mul_le_mul_of_nonneg_right ha (show 0 ≤ c.q by omega)
      have := ih (c.nx a) (fun x hx => h x (List.mem_cons_of_mem _ hx)) (by show 1 ≤ c.u + a * c.q; omega) (by show 0 ≤ c.q; omega) (by show c.q ≤ c.u + a * c.q; omega) (by show c.u + a * c.q ≤ bound; omega)
      rw [if_neg (by show ¬ c.q = 0; omega), show (c.nx a).q = c.u + a * c.q from rfl] at this
      omega
theorem semiL_len {bound : Int} (hb : 1 ≤ bound) (f : Int → Int → Int) (a : Int) (l : List Int) (h : ∀ x ∈ l, 1 ≤ x) : ((semiL f bound (a :: l)).length : Int) ≤ bound + 1 := by
  have := semi_len f l (beg.nx a) h (by simp [P4.nx, P4.den, beg]) (by simp [P4.nx, beg]) (by simp [P4.nx, P4.den, beg]) (by simp [P4.nx, P4.den, beg]; exact hb)
  rw [if_pos (by simp [P4.nx, beg]), show (beg.nx a).q = 1 by simp [P4.nx, P4.den, beg]] at this
  show (((a, 1) :: semiT f bound (beg.nx a) l).length : Int) ≤ _
  rw [List.length_cons]
  omega

/-- The states along the terms. -/
theorem Cv.run {n d : Int} : ∀ (n' d' : Int) (c : P4) (s : Int), Cv c n d n' d' s → ∀ i : Nat, i < (tms n' d').length → ∃ n'' d'', Cv (runC c ((tms n' d').take (i + 1))) n d n'' d'' (if i % 2 = 0 then -s else s) ∧ 0 ≤ d'' ∧ (i + 1 < (tms n' d').length → 0 < d'') ∧ (i + 1 = (tms n' d').length → d'' = 0) := by
  refine tms_ind ?_ ?_
  · intro n' d' h c s _ i hi; rw [tms_stop h] at hi; exact absurd hi (Nat.not_lt_zero _)
  · intro n' d' h ih c s hc i hi
    have hb := emod_bd (n := n') h
    rw [tms_step h] at hi ⊢
    cases i with
    | zero =>
      refine ⟨d', n' % d', hc.nx, hb.1, fun h1 => ?_, fun h1 => ?_⟩
      · refine Decidable.by_contra fun h2 => ?_
        rw [tms_stop (by omega)] at h1; simp at h1
      · refine Decidable.by_contra fun h2 => ?_
        rw [tms_step (by omega)] at h1; simp at h1
    | succ i =>
      obtain ⟨n'', d'', k1, k2, k3, k4⟩ := ih (c.nx (n' / d')) (-s) hc.nx i (by simpa using hi)
      refine ⟨n'', d'', ?_, k2, fun h1 => k3 (by simpa using h1), fun h1 => k4 (by simpa using h1)⟩
      have e : (if (i + 1) % 2 = 0 then -s else s) = (if i % 2 = 0 then -(-s) else -s) := by
        by_cases h2 : i % 2 = 0
        · rw [if_pos h2, if_neg (by omega)]; omega
        · rw [if_neg h2, if_pos (by omega)]
      rw [e]
      exact k1
/-- Convergents lie below and above in turn. -/
theorem cvs_sides {n d : Int} (i : Nat) (h : i + 1 < (tms n d).length) :
    (i % 2 = 0 → (cv ((tms n d).take (i + 1))).1 * d < n * (cv ((tms n d).take (i + 1))).2) ∧ (i % 2 ≠ 0 → n * (cv ((tms n d).take (i + 1))).2 < (cv ((tms n d).take (i + 1))).1 * d) := by
  obtain ⟨n'', d'', k1, k2, k3, _⟩ := Cv.run n d beg 1 (Cv.beg n d) i (by omega)
  have hn := k1.near
  have hp := k3 h
  rw [(runC_beg _).1, (runC_beg _).2] at hn
  refine ⟨fun h2 => ?_, fun h2 => ?_⟩
  · rw [if_pos h2] at hn; omega
  · rw [if_neg h2] at hn; omega
/-- How great the values of beginnings become. -/
theorem cv_take {n d : Int} (hd : 0 < d) (hg : Int.gcd n d = 1) (i : Nat) : 1 ≤ (cv ((tms n d).take (i + 1))).2 ∧ (cv ((tms n d).take (i + 1))).2 ≤ d ∧ -((n.natAbs : Int) + 2 * d) ≤ (cv ((tms n d).take (i + 1))).1 ∧ (cv ((tms n d).take (i + 1))).1 ≤ (n.natAbs : Int) + 2 * d := by
  have hcv := cv_right hd hg
  have hb := emod_bd (n := n) hd
  have he := ediv_eq n d
  have ht : ∀ a ∈ tms d (n % d), 1 ≤ a := tms_pos _ _ (by omega)
  rw [tms_step hd] at hcv ⊢
  rw [List.take_succ_cons]
  obtain ⟨T, hT⟩ : ∃ T, tms d (n % d) = T := ⟨_, rfl⟩
  rw [hT] at ht hcv ⊢
  have hm := cv_mono (T.take i) (T.drop i) (fun a ha => ht a (List.mem_of_mem_take ha)) (fun a ha => ht a (List.mem_of_mem_drop ha))
  rw [List.take_append_drop] at hm
  have hn := cv_nonneg (T.take i) (fun a ha => ht a (List.mem_of_mem_take ha))
  simp only [cv] at hcv ⊢
  obtain ⟨x, hx⟩ : ∃ x, (cv (T.take i)).1 = x := ⟨_, rfl⟩
  obtain ⟨y, hy⟩ : ∃ y, (cv (T.take i)).2 = y := ⟨_, rfl⟩
  rw [hx, hy] at hn
  rw [hx] at hm
  rw [hx, hy]
  have hxd : x ≤ d := by omega
  have hq : (n / d * x).natAbs ≤ n.natAbs + d.natAbs := by
    rw [Int.natAbs_mul]
    have h1 : (n / d).natAbs * x.natAbs ≤ (n / d).natAbs * d.natAbs := Nat.mul_le_mul_left _ (by omega)
    rw [← Int.natAbs_mul (n / d) d] at h1
    have h2 : n / d * d = n - n % d := by rw [Int.mul_comm]; omega
    rw [h2] at h1
    omega
  refine ⟨by omega, hxd, ?_, ?_⟩ <;> omega
/-- A term is not greater than the numbers. -/
theorem tms_bd (B : Nat) : ∀ n d : Int, n.natAbs ≤ B → d.natAbs ≤ B → ∀ a ∈ tms n d, a.natAbs ≤ B := by
  refine tms_ind ?_ ?_
  · intro n d h _ _ a ha; rw [tms_stop h] at ha; cases ha
  · intro n d h ih hn hdB a ha
    have hb := emod_bd (n := n) h
    rw [tms_step h] at ha
    rcases List.mem_cons.1 ha with rfl | ha
    · have h1 := Int.natAbs_ediv_le_natAbs n d
      omega
    · exact ih hdB (by omega) a ha
end
end
end Go.Proofs.YtpafocfpofnkpaaGreatDoor
