/- Greater text, out of: T17. -/
import Derived.Test.YtolnojkdalbppaaGreatDoorGh
namespace Go.Proofs.YtolnojkdalbppaaGreatDoor
open Go.RowKit Go.PlainAid
attribute [local go_sem] field_rat0 field_rat1
theorem beq_den_yes {p q : Rat} (h : p.den = q.den) : ((itx (p.den : Int)).toList == (itx (q.den : Int)).toList) = true := by rw [itx_beq, h]; simp
theorem beq_den_no {p q : Rat} (h : ¬ p.den = q.den) : ((itx (p.den : Int)).toList == (itx (q.den : Int)).toList) = false := by
  rw [itx_beq]; simp; omega
end Go.Proofs.YtolnojkdalbppaaGreatDoor
