/- Greater text, out of: K49. -/
import Derived.Test.YtpafocfpofnkpaaGreatDoorK9
namespace Go.Proofs.YtpafocfpofnkpaaGreatDoor
theorem cv_drop (l : List Int) (h : ∀ a ∈ l, 1 ≤ a) : ∀ j, (cv (l.drop j)).1 ≤ (cv l).1 := by
  induction l with
  | nil => intro j; simp
  | cons a l ih =>
    intro j
    cases j with
    | zero => simp
    | succ j =>
      have hl : ∀ x ∈ l, 1 ≤ x := fun x hx => h x (List.mem_cons_of_mem _ hx)
      have h1 := ih hl j
      have h2 := cv_nonneg l hl
      have h3 := Int.mul_le_mul_of_nonneg_right (h a List.mem_cons_self) (show 0 ≤ (cv l).1 by omega)
      rw [List.drop_succ_cons]
      show (cv (l.drop j)).1 ≤ a * (cv l).1 + (cv l).2
      omega
theorem cv_parts {n d : Int} (hd : 0 < d) (hg : Int.gcd n d = 1) (i : Nat) (h1 : 1 ≤ i) (j : Nat) : (cv (((tms n d).take i).drop j)).1.natAbs ≤ n.natAbs + 2 * d.natAbs + 1 ∧ (cv (((tms n d).take i).drop j)).2.natAbs ≤ n.natAbs + 2 * d.natAbs + 1 := by
  obtain ⟨i, rfl⟩ : ∃ k, i = k + 1 := ⟨i - 1, by omega⟩
  have hc := cv_take hd hg i
  cases j with
  | zero => rw [List.drop_zero]; omega
  | succ j =>
    have ht : ∀ a ∈ tms d (n % d), 1 ≤ a := tms_pos _ _ (by have := emod_bd (n := n) hd; omega)
    rw [tms_step hd] at hc ⊢
    rw [List.take_succ_cons, List.drop_succ_cons]
    rw [List.take_succ_cons] at hc
    have hta : ∀ a ∈ (tms d (n % d)).take i, 1 ≤ a := fun a ha => ht a (List.mem_of_mem_take ha)
    have k1 := cv_drop _ hta j
    have k2 := cv_nonneg (((tms d (n % d)).take i).drop j) (fun a ha => hta a (List.mem_of_mem_drop ha))
    simp only [cv] at hc
    omega
end Go.Proofs.YtpafocfpofnkpaaGreatDoor
