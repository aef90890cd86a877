/- Greater text, out of: K62. -/
import Derived.Test.YtpafocfpofnkpaaGreatDoorK60
import Derived.Test.YtpafocfpofnkpaaGreatDoorK9
namespace Go.Proofs.YtpafocfpofnkpaaGreatDoor
theorem tr_same {y z : Int × Int} (hy : 1 ≤ y.2) (hz : 1 ≤ z.2) (h : y.1 * z.2 = z.1 * y.2) : tr y = tr z := divInt_same hy hz h
theorem low_same {n d P Q : Int} {b : Nat} (hd : 0 < d) (hb : 1 ≤ b) (h : IsLow n d (b : Int) P Q) : tr (loN n d b) = tr (P, Q) := by
  obtain ⟨k, rfl⟩ : ∃ k, b = k + 1 := ⟨b - 1, by omega⟩
  have hl := loN_low (n := n) hd k
  rw [show ((k + 1 : Nat) : Int) = (k : Int) + 1 by omega] at h
  exact tr_same hl.q1 h.q1 (hl.one h)
theorem high_same {n d P Q : Int} {b : Nat} (hd : 0 < d) (hb : 1 ≤ b) (h : IsHigh n d (b : Int) P Q) : tr (hiN n d b) = tr (P, Q) := by
  obtain ⟨k, rfl⟩ : ∃ k, b = k + 1 := ⟨b - 1, by omega⟩
  have hl := hiN_high (n := n) hd k
  rw [show ((k + 1 : Nat) : Int) = (k : Int) + 1 by omega] at h
  exact tr_same hl.q1 h.q1 (hl.one h)
theorem Arnd.good {n d b : Int} {A B : Int × Int} (h : Arnd n d b A B) : Good b A ∧ Good b B := by
  have := h.det
  exact ⟨⟨h.a1, h.ab, -B.2, -B.1, by rw [Int.mul_neg, Int.mul_neg, Int.mul_comm A.2 B.1]; omega⟩, ⟨h.b1, h.bb, A.2, A.1, by rw [Int.mul_comm B.2 A.1]; omega⟩⟩
theorem Arnd.le {n d b : Int} {A B : Int × Int} (h : Arnd n d b A B) : A.2 + B.2 ≤ d := by
  have h1 : d = A.2 * (B.1 * d - n * B.2) + B.2 * (n * A.2 - A.1 * d) := by
    have : A.2 * (B.1 * d - n * B.2) + B.2 * (n * A.2 - A.1 * d) = d * (B.1 * A.2 - A.1 * B.2) := by grind
    rw [this, h.det]; omega
  have h2 := Int.mul_le_mul_of_nonneg_left (show 1 ≤ B.1 * d - n * B.2 by have := h.hi; omega) (show 0 ≤ A.2 by have := h.a1; omega)
  have h3 := Int.mul_le_mul_of_nonneg_left (show 1 ≤ n * A.2 - A.1 * d by have := h.lo; omega) (show 0 ≤ B.2 by have := h.b1; omega)
  omega
/-- How far the neighbours are. -/
theorem Arnd.dl_a {n d b : Int} {A B : Int × Int} (h : Arnd n d b A B) : dl n d A.1 A.2 = n * A.2 - A.1 * d := by
  have := h.lo
  unfold dl; omega
theorem Arnd.dl_b {n d b : Int} {A B : Int × Int} (h : Arnd n d b A B) : dl n d B.1 B.2 = B.1 * d - n * B.2 := by
  have := h.hi
  unfold dl; omega
/-- Which neighbour is the last best approximation. -/
theorem near_pick {n d : Int} {b : Nat} {A B : Int × Int} (hd : 0 < d) (hg : Int.gcd n d = 1) (hb : 1 ≤ b) (hbd : (b : Int) < d) (ha : Arnd n d (b : Int) A B) :
    ∃ z, (rb n d b).getLast? = some z ∧ ((nearer n d A.1 A.2 B.1 B.2 = true ∨ (nearer n d B.1 B.2 A.1 A.2 = false ∧ A.2 ≤ B.2) → tr z = tr A) ∧ (nearer n d B.1 B.2 A.1 A.2 = true ∨ (nearer n d A.1 A.2 B.1 B.2 = false ∧ B.2 < A.2) → tr z = tr B)) := by
  obtain ⟨k, rfl⟩ : ∃ k, b = k + 1 := ⟨b - 1, by omega⟩
  obtain ⟨R, S, hl, hL⟩ := rb_last (n := n) hd k
  rw [show ((k + 1 : Nat) : Int) = (k : Int) + 1 by omega] at ha hbd
  obtain ⟨h1, h2⟩ := hL.near ha hd hg hbd
  refine ⟨(R, S), hl, fun h => ?_, fun h => ?_⟩
  · refine tr_same hL.s1 ha.a1 ?_
    unfold nearer at h
    rw [ha.dl_a, ha.dl_b, decide_eq_true_eq, decide_eq_false_iff_not] at h
    by_cases hlt : (n * A.2 - A.1 * d) * B.2 < (B.1 * d - n * B.2) * A.2
    · exact h1 (.inl hlt)
    · exact h1 (.inr ⟨by omega, by omega⟩)
  · refine tr_same hL.s1 ha.b1 ?_
    unfold nearer at h
    rw [ha.dl_a, ha.dl_b, decide_eq_true_eq, decide_eq_false_iff_not] at h
    by_cases hlt : (B.1 * d - n * B.2) * A.2 < (n * A.2 - A.1 * d) * B.2
    · exact h2 (.inl hlt)
    · exact h2 (.inr ⟨by omega, by omega⟩)
/-- A fraction of the bound itself. -/
theorem near_self {n d : Int} {b : Nat} (hd : 0 < d) (hb : 1 ≤ b) (hbd : d ≤ (b : Int)) : ∃ z, (rb n d b).getLast? = some z ∧ tr z = tr (n, d) := by
  obtain ⟨k, rfl⟩ : ∃ k, b = k + 1 := ⟨b - 1, by omega⟩
  obtain ⟨R, S, hl, hL⟩ := rb_last (n := n) hd k
  exact ⟨(R, S), hl, tr_same hL.s1 (show 1 ≤ d by omega) (hL.self hd (by omega))⟩
/-- What is yielded from a part of the term on is yielded from one on too. -/
theorem semiT_sub (f : Int → Int → Int) (b : Int) : ∀ (l : List Int) (c : P4), ∀ y ∈ semiT f b c l, y ∈ semiT oneF b c l := by
  intro l
  induction l with
  | nil => intro c y hy; cases hy
  | cons a l ih =>
    intro c y hy
    unfold semiT at hy ⊢
    rcases List.mem_append.1 hy with h | h
    · refine List.mem_append.2 (.inl ?_)
      unfold P4.semis at h ⊢
      rw [List.mem_map] at h ⊢
      obtain ⟨j, hj, e⟩ := h
      rw [rng_mem] at hj
      exact ⟨j, rng_mem.2 ⟨by unfold oneF; omega, hj.2⟩, e⟩
    · refine List.mem_append.2 (.inr ?_)
      split
      · rename_i hlt; rw [if_pos hlt] at h; cases h
      · rename_i hlt; rw [if_neg hlt] at h; exact ih _ y h
theorem semiL_sub (f : Int → Int → Int) (b : Int) (l : List Int) : ∀ y ∈ semiL f b l, y ∈ semiL oneF b l := by
  intro y hy
  cases l with
  | nil => cases hy
  | cons a l =>
    unfold semiL at hy ⊢
    rcases List.mem_cons.1 hy with h | h
    · exact List.mem_cons.2 (.inl h)
    · exact List.mem_cons.2 (.inr (semiT_sub f b l _ y h))
theorem pb_sub (n d : Int) : ∀ (l out : List (Int × Int)), ∀ z ∈ l.foldl (pbStep n d) out, z ∈ out ∨ z ∈ l := by
  intro l
  induction l with
  | nil => intro out z hz; exact .inl hz
  | cons y l ih =>
    intro out z hz
    rcases ih _ z hz with h | h
    · unfold pbStep at h
      split at h
      · exact .inr (List.mem_cons.2 (.inl (by simpa using h)))
      · split at h
        · split at h
          · rcases List.mem_append.1 h with h | h
            · exact .inl ((List.dropLast_sublist _).subset h)
            · exact .inr (List.mem_cons.2 (.inl (by simpa using h)))
          · rcases List.mem_append.1 h with h | h
            · exact .inl h
            · exact .inr (List.mem_cons.2 (.inl (by simpa using h)))
        · exact .inl h
    · exact .inr (List.mem_cons.2 (.inr h))
/-- Every best approximation is a semiconvergent. -/
theorem best_semi (n d b : Int) : ∀ z ∈ pb n d (semiL half b (tms n d)), z ∈ semiL oneF b (tms n d) := by
  intro z hz
  rcases pb_sub n d _ [] z hz with h | h
  · cases h
  · exact semiL_sub half b _ z h
/-- beside's two are the neighbours. -/
theorem beside_low {n d P Q : Int} {b : Nat} (hd : 0 < d) (hb : 1 ≤ b) (h : n * Q - P * d = 1) (h1 : 1 ≤ Q) (h2 : Q ≤ (b : Int)) (h3 : (b : Int) - d < Q) : tr (loN n d b) = tr (P, Q) :=
  low_same hd hb (low_beside (by omega) h h1 h2 (by omega))
theorem beside_high {n d P Q : Int} {b : Nat} (hd : 0 < d) (hb : 1 ≤ b) (h : n * Q - P * d = -1) (h1 : 1 ≤ Q) (h2 : Q ≤ (b : Int)) (h3 : (b : Int) - d < Q) : tr (hiN n d b) = tr (P, Q) :=
  high_same hd hb (high_beside (by omega) h h1 h2 (by omega))
end Go.Proofs.YtpafocfpofnkpaaGreatDoor
