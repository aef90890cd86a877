/- Greater text, out of: K9. -/
import Derived.Test.YtpafocfpofnkpaaGreatDoorKa
namespace Go.Proofs.YtpafocfpofnkpaaGreatDoor
theorem semi_num {n d bound : Int} (f : Int → Int → Int) : ∀ n' d' : Int, ∀ (c : P4) (s : Int), Cv c n d n' d' s → 0 ≤ d' → d' ≤ n' → n' ≤ d → 1 ≤ c.q → 0 ≤ c.u → ∀ y ∈ semiT f bound c (tms n' d'), dl n d y.1 y.2 ≤ d := by
  refine tms_ind ?_ ?_
  · intro n' d' h c s _ _ _ _ _ _ y hy; rw [tms_stop h] at hy; cases hy
  · intro n' d' h ih c s hc _ hdn hnd hq hu y hy
    have hb := emod_bd (n := n') h
    have he := ediv_eq n' d'
    have ha : 1 ≤ n' / d' := Int.le_ediv_of_mul_le h (by omega)
    rw [tms_step h] at hy
    rcases List.mem_append.1 hy with hy | hy
    · unfold P4.semis at hy
      obtain ⟨j, hj, rfl⟩ := List.mem_map.1 hy
      have hjb := rng_mem.1 hj
      have hja : j ≤ n' / d' := by
        have := hjb.2
        rw [most_eq hq] at this
        split at this <;> omega
      have hm := Int.mul_le_mul_of_nonneg_left hja (show 0 ≤ d' by omega)
      have hm0 := Int.mul_nonneg (show 0 ≤ j by omega) (show 0 ≤ d' by omega)
      rw [Int.mul_comm d' j] at hm
      show dl n d (c.num j) (c.den j) ≤ d
      rw [hc.dl_semi j (by omega)]
      omega
    · split at hy
      · cases hy
      · have hm := Int.mul_le_mul_of_nonneg_right ha (show 0 ≤ c.q by omega)
        exact ih (c.nx (n' / d')) (-s) hc.nx hb.1 (by omega) (by omega) (by show 1 ≤ c.u + n' / d' * c.q; omega) (by show 0 ≤ c.q; omega) y hy
theorem semiL_num {n d bound : Int} (hd : 0 < d) (f : Int → Int → Int) : ∀ y ∈ semiL f bound (tms n d), dl n d y.1 y.2 ≤ d := by
  intro y hy
  have hb := emod_bd (n := n) hd
  have he := ediv_eq n d
  rw [tms_step hd] at hy
  rcases List.mem_cons.1 hy with rfl | hy
  · show dl n d (n / d) 1 ≤ d
    unfold dl
    rw [Int.mul_one, Int.mul_comm]; omega
  · exact semi_num f d (n % d) (beg.nx (n / d)) (-1) (Cv.beg n d).nx hb.1 (by omega) (Int.le_refl d) (by simp [P4.nx, P4.den, beg]) (by simp [P4.nx, beg]) y hy
theorem num_le {n d P Q b : Int} (hd : 0 < d) (h : dl n d P Q ≤ d) (hQ : 0 ≤ Q) (hb : Q ≤ b) : P.natAbs ≤ n.natAbs * b.natAbs + d.natAbs := by
  have h1 : (P * d).natAbs ≤ (n * Q).natAbs + d.natAbs := by unfold dl at h; omega
  rw [Int.natAbs_mul, Int.natAbs_mul] at h1
  have h2 : n.natAbs * Q.natAbs ≤ n.natAbs * b.natAbs := Nat.mul_le_mul_left _ (by omega)
  have h3 : P.natAbs * 1 ≤ P.natAbs * d.natAbs := Nat.mul_le_mul_left _ (by omega)
  omega
/-- The pairs as fractions. -/
def tr (y : Int × Int) : Rat := Rat.divInt y.1 y.2
theorem divInt_abs (a b : Int) (hb : 0 < b) : (Rat.divInt a b).abs = Rat.divInt (a.natAbs : Int) b := by
  by_cases h : 0 ≤ a
  · rw [Rat.abs_of_nonneg (by rw [Rat.divInt_nonneg_iff_of_pos_right hb]; exact h)]
    congr 1; omega
  · have h2 : Rat.divInt a b ≤ 0 := by
      have : 0 ≤ -Rat.divInt a b := by rw [Rat.neg_divInt, Rat.divInt_nonneg_iff_of_pos_right hb]; omega
      grind
    rw [Rat.abs_of_nonpos h2, Rat.neg_divInt]
    congr 1; omega
theorem divInt_lt (a b c e : Int) (hb : 0 < b) (he : 0 < e) : Rat.divInt a b < Rat.divInt c e ↔ a * e < c * b := by
  have h1 : Rat.divInt a b < Rat.divInt c e ↔ ¬ (0 ≤ Rat.divInt a b - Rat.divInt c e) := by
    constructor
    · intro h h2; grind
    · intro h; grind
  rw [h1, Rat.divInt_sub_divInt _ _ (by omega) (by omega), Rat.divInt_nonneg_iff_of_pos_right (Int.mul_pos hb he)]
  omega
theorem dist_eq {n d P Q : Int} (hd : 0 < d) (hQ : 0 < Q) : (Rat.divInt n d - Rat.divInt P Q).abs = Rat.divInt (dl n d P Q) (d * Q) := by
  rw [Rat.divInt_sub_divInt _ _ (by omega) (by omega), divInt_abs _ _ (Int.mul_pos hd hQ)]
  rfl
theorem nearer_rat {n d P Q R S : Int} (hd : 0 < d) (hQ : 0 < Q) (hS : 0 < S) : nearer n d P Q R S = decide ((Rat.divInt n d - Rat.divInt P Q).abs < (Rat.divInt n d - Rat.divInt R S).abs) := by
  unfold nearer
  congr 1
  rw [dist_eq hd hQ, dist_eq hd hS, divInt_lt _ _ _ _ (Int.mul_pos hd hQ) (Int.mul_pos hd hS)]
  rw [eq_iff_iff]
  constructor
  · intro h
    have := Int.mul_lt_mul_of_pos_right h hd
    grind
  · intro h
    exact Int.lt_of_mul_lt_mul_right (a := d) (by grind) (by omega)
end Go.Proofs.YtpafocfpofnkpaaGreatDoor
