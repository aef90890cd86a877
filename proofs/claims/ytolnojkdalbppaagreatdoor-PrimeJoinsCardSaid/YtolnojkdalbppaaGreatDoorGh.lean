/- Greater text, out of: T15, T16. -/
import Derived.Test.YtolnojkdalbppaaGreatDoorGg
import Derived.Deep.DrawnRows
namespace Go.Proofs.YtolnojkdalbppaaGreatDoor
section
open Go.RowKit Go.PlainAid

attribute [local go_sem] field_rat0 field_rat1
theorem gcd_stepN (x y : Nat) : Nat.gcd y (x % y) = Nat.gcd x y := by rw [Nat.gcd_comm x y, Nat.gcd_rec y x, Nat.gcd_comm]
end
section
open Go.RowKit Go.PlainAid
attribute [local go_sem ↓] Go.wp_at_zero Go.wp_at_succ
attribute [local go_sem] field_rat0 field_rat1
/-- Behind the change of signs: the boxes hold a numerator and a positive denominator of the same fraction. -/
def MakeMid (a b : Int) (w wx : World) : Prop := ∃ a' b' s1 A1 n1 c1 s2 A2 n2 c2, 0 < b' ∧ Rat.divInt a' b' = Rat.divInt a b ∧ nz a' = nz a ∧ nz b' = nz b ∧ Below w.heap.size w wx ∧
  B3 w.heap.size (.bool s1) (.slice A1 n1 c1) (.bool s2) (.slice A2 n2 c2) (.string ⟨#[]⟩) (.string ⟨#[]⟩) wx ∧ W3 wx (.agg #[.bool s1, .slice A1 n1 c1]) a' ∧ W3 wx (.agg #[.bool s2, .slice A2 n2 c2]) b' ∧ NoInt wx (w.heap.size + 1 + 1)
theorem W3.sl {w : World} {s : Bool} {A : Option Addr} {n cap : Nat} {z : Int} (h : W3 w (.agg #[.bool s, .slice A n cap]) z) : s = decide (z < 0) ∧ Ns w A n cap (lims z.natAbs) := by
  obtain ⟨A', n', cap', e, hns⟩ := h
  unfold wv at e
  simp only [Value.agg.injEq, Array.mk.injEq, List.cons.injEq, Value.bool.injEq, Value.slice.injEq, and_true] at e
  obtain ⟨rfl, rfl, rfl, rfl⟩ := e
  exact ⟨rfl, hns⟩
theorem sg_div (a : Int) (g : Nat) (h : g ∣ a.natAbs) : sgZ (decide (a < 0)) (a.natAbs / g) = a / (g : Int) := by
  obtain ⟨k, hk⟩ := h
  by_cases hg : g = 0
  · subst hg; simp [sgZ]
  rw [hk, Nat.mul_div_cancel_left _ (by omega)]
  unfold sgZ
  by_cases hn : a < 0
  · rw [if_pos (decide_eq_true hn)]
    have h3 : a = (g : Int) * -(k : Int) := by rw [Int.mul_neg, ← Int.natCast_mul, ← hk]; omega
    rw [h3, Int.mul_ediv_cancel_left _ (by omega)]
  · rw [decide_eq_false hn]
    have h3 : a = (g : Int) * (k : Int) := by rw [← Int.natCast_mul, ← hk]; omega
    rw [h3, Int.mul_ediv_cancel_left _ (by omega)]; rfl
theorem noInt_two {w W : World} {c1 c2 c3 : Array Value} {T1 T2 T3 : TypeId} (h : (((w.alloc (.cells c1 T1)).alloc (.cells c2 T2)).alloc (.cells c3 T3)) = W) (hT1 : T1 ≠ 3) (hT2 : T2 ≠ 3) : NoInt W w.heap.size ∧ NoInt W (w.heap.size + 1) := by
  subst h
  have h2 := NoInt.new (w.alloc (.cells c1 T1)) c2 T2 hT2
  rw [World.size_alloc] at h2
  exact ⟨((NoInt.new w c1 T1 hT1).alloc _).alloc _, h2.alloc _⟩
end
end Go.Proofs.YtolnojkdalbppaaGreatDoor
