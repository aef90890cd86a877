/- Greater text, out of: K60. -/
import Derived.Test.YtpafocfpofnkpaaGreatDoorKa
namespace Go.Proofs.YtpafocfpofnkpaaGreatDoor
/-- The search for n / d: n', d' are left; z: the two fractions around. -/
structure PI (n d n' d' : Int) (z : Q4) : Prop where
  n0 : 0 < n'
  d0 : 0 < d'
  hn : n = z.a * d' + z.c * n'
  hd : d = z.b * d' + z.d * n'
  det : z.a * z.d - z.c * z.b = -1
  a0 : 0 ≤ z.a
  b0 : 1 ≤ z.b
  c0 : 1 ≤ z.c
  e0 : 0 ≤ z.d
theorem PI.beg {n d : Int} (hn : 0 < n) (hd : 0 < d) : PI n d n d q0 := by
  constructor <;> first | omega | simp [q0]
theorem PI.cmp {n d n' d' : Int} {z : Q4} (h : PI n d n' d' z) : n * (z.b + z.d) - (z.a + z.c) * d = n' - d' := by
  obtain ⟨_, _, e1, e2, e3, _, _, _, _⟩ := h
  have k : (z.a * d' + z.c * n') * (z.b + z.d) - (z.a + z.c) * (z.b * d' + z.d * n') = (z.a * z.d - z.c * z.b) * (d' - n') := by grind
  rw [e1, e2, k, e3]; omega
theorem PI.bd {n d n' d' : Int} {z : Q4} (h : PI n d n' d' z) : z.a + z.c ≤ n ∧ z.b + z.d ≤ d := by
  obtain ⟨h1, h2, e1, e2, _, a0, b0, c0, d0⟩ := h
  have k1 := Int.mul_le_mul_of_nonneg_left (show 1 ≤ d' by omega) a0
  have k2 := Int.mul_le_mul_of_nonneg_left (show 1 ≤ n' by omega) (show 0 ≤ z.c by omega)
  have k3 := Int.mul_le_mul_of_nonneg_left (show 1 ≤ d' by omega) (show 0 ≤ z.b by omega)
  have k4 := Int.mul_le_mul_of_nonneg_left (show 1 ≤ n' by omega) d0
  omega
theorem PI.left {n d n' d' : Int} {z : Q4} (h : PI n d n' d' z) (hlt : n' < d') : PI n d n' (d' - n') (z.go false) := by
  obtain ⟨h1, h2, e1, e2, e3, a0, b0, c0, d0⟩ := h
  rw [show z.go false = ⟨z.a, z.b, z.a + z.c, z.b + z.d⟩ from rfl]
  refine ⟨h1, by omega, ?_, ?_, ?_, a0, b0, ?_, ?_⟩
  · show n = z.a * (d' - n') + (z.a + z.c) * n'; grind
  · show d = z.b * (d' - n') + (z.b + z.d) * n'; grind
  · show z.a * (z.b + z.d) - (z.a + z.c) * z.b = -1; grind
  · show 1 ≤ z.a + z.c; omega
  · show 0 ≤ z.b + z.d; omega
theorem PI.right {n d n' d' : Int} {z : Q4} (h : PI n d n' d' z) (hlt : d' < n') : PI n d (n' - d') d' (z.go true) := by
  obtain ⟨h1, h2, e1, e2, e3, a0, b0, c0, d0⟩ := h
  rw [show z.go true = ⟨z.a + z.c, z.b + z.d, z.c, z.d⟩ from rfl]
  refine ⟨by omega, h2, ?_, ?_, ?_, ?_, ?_, c0, d0⟩
  · show n = (z.a + z.c) * d' + z.c * (n' - d'); grind
  · show d = (z.b + z.d) * d' + z.d * (n' - d'); grind
  · show (z.a + z.c) * z.d - z.c * (z.b + z.d) = -1; grind
  · show 0 ≤ z.a + z.c; omega
  · show 1 ≤ z.b + z.d; omega

/-- The greatest denominator that beside finds. -/
theorem beside_max {n b : Int} (hb : 1 ≤ b) (hg : Int.gcd n b = 1) (s bound : Int) : ∃ D, bound - b < D ∧ D ≤ bound ∧ b ∣ n * D - s ∧ ∀ D', D < D' → D' ≤ bound → ¬ b ∣ n * D' - s := by
  have main : ∀ k : Nat, ∀ D, bound - b < D → D ≤ bound → b ∣ n * D - s → (bound - D).toNat ≤ k → ∃ D, bound - b < D ∧ D ≤ bound ∧ b ∣ n * D - s ∧ ∀ D', D < D' → D' ≤ bound → ¬ b ∣ n * D' - s := by
    intro k
    induction k with
    | zero => intro D h1 h2 h3 h4; exact ⟨D, h1, h2, h3, fun D' k1 k2 => by omega⟩
    | succ k ih =>
      intro D h1 h2 h3 h4
      by_cases hx : ∃ D', D < D' ∧ D' ≤ bound ∧ b ∣ n * D' - s
      · obtain ⟨D', k1, k2, k3⟩ := hx
        exact ih D' (by omega) k2 k3 (by omega)
      · exact ⟨D, h1, h2, h3, fun D' k1 k2 k3 => hx ⟨D', k1, k2, k3⟩⟩
  obtain ⟨D, h1, h2, h3⟩ := beside_some hb hg s bound
  exact main _ D h1 h2 h3 (Nat.le_refl _)
/-- Its test. -/
theorem beside_test {n b d s : Int} : ((n % b) * (d % b) - s).tmod b = 0 ↔ b ∣ n * d - s := by
  rw [← Int.dvd_iff_tmod_eq_zero]
  have e1 := ediv_eq n b
  have e2 := ediv_eq d b
  have e : n * d - s = ((n % b) * (d % b) - s) + b * (n / b * d + n % b * (d / b)) := by grind
  rw [e]
  constructor
  · intro h; exact Int.dvd_add h (Int.dvd_mul_right _ _)
  · intro h
    have := Int.dvd_sub h (Int.dvd_mul_right b (n / b * d + n % b * (d / b)))
    rwa [Int.add_sub_cancel] at this
/-- Two fractions of the same number. -/
theorem divInt_same {a b c d : Int} (hb : 1 ≤ b) (hd : 1 ≤ d) (h : a * d = c * b) : Rat.divInt a b = Rat.divInt c d := (Rat.divInt_eq_divInt_iff (by omega) (by omega)).2 h
/-- 1 over what is left of a number. -/
theorem one_over (q : Rat) (a : Int) : (Rat.divInt 1 1 / (q - Rat.divInt a 1)) = Rat.divInt (q.den : Int) (q.num - a * (q.den : Int)) ∧ Int.gcd (q.den : Int) (q.num - a * (q.den : Int)) = 1 := by
  have hd : (q.den : Int) ≠ 0 := by have := q.den_nz; omega
  have e1 : q - Rat.divInt a 1 = Rat.divInt (q.num - a * (q.den : Int)) (q.den : Int) := by
    conv => lhs; rw [← Rat.num_divInt_den q]
    rw [Rat.divInt_sub_divInt _ _ hd (by decide)]
    congr 1
    · omega
    · omega
  refine ⟨?_, ?_⟩
  · rw [e1, Rat.div_def, Rat.inv_divInt, Rat.divInt_mul_divInt]
    congr 1
    · omega
    · omega
  · rw [show q.num - a * (q.den : Int) = q.num + (q.den : Int) * (-a) by rw [Int.mul_neg, Int.mul_comm]; omega, Int.gcd_add_mul_left_right, Int.gcd_comm]
    have := q.reduced
    exact this
end Go.Proofs.YtpafocfpofnkpaaGreatDoor
