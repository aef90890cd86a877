/- Greater text, out of: Q10. -/
import Derived.Test.YtolnojkdalbppaaGreatDoorQ3
import Derived.Test.YtolnojkdalbppaaGreatDoorQ5
namespace Go.Proofs.YtolnojkdalbppaaGreatDoor
open Go.RowKit Go.PlainAid Go.Shelf Go.Lib Go.Sort

theorem below_putRow (enc : Int → Value) (w : World) (q blk off : Nat) (d : Array Int) {B : Nat} (hB : B ≤ blk) : Below B w (putRow enc (Sort.ahead w q) blk off d) :=
  ⟨rfl, rfl, rfl, by rw [size_putRow]; exact Nat.le_refl _, fun k hk => by simp [putRow, mapBlock, Sort.ahead, Array.getElem?_modify, show blk ≠ k by omega]⟩
theorem P25_bang {j : Nat} (h : j < 25) : P25.toArray[j]! = P25.getD j 0 := by
  rw [getElem!_pos P25.toArray j (by rw [List.size_toArray]; exact h), getD_of h]; rfl
end Go.Proofs.YtolnojkdalbppaaGreatDoor
