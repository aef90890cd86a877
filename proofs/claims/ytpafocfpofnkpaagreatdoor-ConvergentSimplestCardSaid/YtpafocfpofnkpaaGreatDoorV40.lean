/- Greater text, out of: V40. -/
import Derived.Test.YtpafocfpofnkpaaGreatDoorK41
import Derived.Test.YtpafocfpofnkpaaGreatDoorK42
namespace Go.Proofs.YtpafocfpofnkpaaGreatDoor
open Go.RowKit Go.PlainAid
attribute [local go_sem] field_rat0 field_rat1
/-- Parts, of any two short texts. -/
theorem r4parts_len (s t : ByteArray) (hs : s.size ≤ 17) (ht : t.size ≤ 17) (r : Bool) (hr : RB s t = r) : ∃ n d : Int, ∀ w, Calls Tryz.prog 11 #[.agg #[.string s, .string t]] w (SmallRes (.tuple #[.int .i64 n, .int .i64 d, .bool r]) w) := by
  cases r with
  | false => exact ⟨0, 0, fun w => r4parts_no s t w hs ht hr⟩
  | true =>
    obtain ⟨q, rfl, rfl, _⟩ := rightB_rat hr
    refine ⟨q.num, (q.den : Int), fun w => r4parts_yes q w ⟨?_, ?_⟩⟩
    · exact Nat.le_trans (itx_size_ge _) hs
    · exact Nat.le_trans (itx_size_ge _) ht
/-- The mediant lies between. -/
theorem mediant_sides {p q : Rat} {x y : Int} (g : Int) (hg : 0 < g) (h1 : g * x = p.num + q.num) (h2 : g * y = (p.den : Int) + (q.den : Int)) :
    (p.num * (q.den : Int) = q.num * (p.den : Int) ∧ x * (p.den : Int) - p.num * y = 0 ∧ x * (q.den : Int) - q.num * y = 0) ∨ (x * (p.den : Int) - p.num * y > 0 ∧ x * (q.den : Int) - q.num * y < 0) ∨ (x * (p.den : Int) - p.num * y < 0 ∧ x * (q.den : Int) - q.num * y > 0) := by
  have e1 : g * (x * (p.den : Int) - p.num * y) = q.num * (p.den : Int) - p.num * (q.den : Int) := by
    have : g * (x * (p.den : Int) - p.num * y) = (g * x) * (p.den : Int) - p.num * (g * y) := by grind
    rw [this, h1, h2]; grind
  have e2 : g * (x * (q.den : Int) - q.num * y) = p.num * (q.den : Int) - q.num * (p.den : Int) := by
    have : g * (x * (q.den : Int) - q.num * y) = (g * x) * (q.den : Int) - q.num * (g * y) := by grind
    rw [this, h1, h2]; grind
  obtain ⟨A, hA⟩ : ∃ A, x * (p.den : Int) - p.num * y = A := ⟨_, rfl⟩
  obtain ⟨B, hB⟩ : ∃ B, x * (q.den : Int) - q.num * y = B := ⟨_, rfl⟩
  rw [hA] at e1 ⊢
  rw [hB] at e2 ⊢
  rcases Int.lt_trichotomy (q.num * (p.den : Int) - p.num * (q.den : Int)) 0 with h | h | h
  · right; right
    constructor
    · exact Int.lt_of_mul_lt_mul_left (a := g) (by rw [e1, Int.mul_zero]; exact h) (by omega)
    · exact Int.lt_of_mul_lt_mul_left (a := g) (by rw [e2, Int.mul_zero]; omega) (by omega)
  · left
    refine ⟨by omega, ?_, ?_⟩
    · rw [h] at e1; rcases Int.mul_eq_zero.1 e1 with h | h <;> omega
    · rw [show p.num * (q.den : Int) - q.num * (p.den : Int) = 0 by omega] at e2; rcases Int.mul_eq_zero.1 e2 with h | h <;> omega
  · right; left
    constructor
    · exact Int.lt_of_mul_lt_mul_left (a := g) (by rw [e1, Int.mul_zero]; exact h) (by omega)
    · exact Int.lt_of_mul_lt_mul_left (a := g) (by rw [e2, Int.mul_zero]; omega) (by omega)
theorem prod_bd {a b : Int} {A B : Nat} (ha : a.natAbs ≤ A) (hb : b.natAbs ≤ B) (h : A * B ≤ 4000000000000000000) : (a * b).natAbs ≤ 4000000000000000000 := by
  rw [Int.natAbs_mul]
  exact Nat.le_trans (Nat.mul_le_mul ha hb) h
end Go.Proofs.YtpafocfpofnkpaaGreatDoor
