/- Greater text, out of: V9h. -/
import Derived.Test.YtejelchcpbchgaaGreatDoorV8
namespace Go.Proofs.YtejelchcpbchgaaGreatDoor
open Go.RowKit Go.PlainAid
attribute [local go_sem] field_rat0 field_rat1

/-- A state of a region that several orders lead to: what is shown of it once. -/
theorem node3 {I B : World → Nat → Nat → Nat → Prop} {G : Prop} (main : (∀ w x y z, I w x y z → B w x y z) → G) (proof : ∀ w x y z, I w x y z → B w x y z) : G := main proof
theorem cmp_sign_bd (p q r : Rat) : -1 ≤ cmpQ p q * r.num.sign ∧ cmpQ p q * r.num.sign ≤ 1 := by
  rw [← cmpQ_mul]; exact cmpQ_bd _ _
end Go.Proofs.YtejelchcpbchgaaGreatDoor
