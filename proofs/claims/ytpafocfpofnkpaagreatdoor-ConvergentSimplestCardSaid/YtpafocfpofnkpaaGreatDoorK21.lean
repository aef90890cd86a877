/- Greater text, out of: K21. -/
import Derived.RangeFuncNested
import Derived.OwnWalkIn
import Derived.OrdersHeld
namespace Go.Proofs.YtpafocfpofnkpaaGreatDoor
open Go.RowKit

section
variable {P : Program} {ops : Array Oper} {Q : Exit → Act → World → Prop} {md : Region.Mode} {S : World → Prop}
theorem wpOpIn_of_wpOp (l : Nat) (hnd : ∀ o ∈ ops, ∀ c, o.op ≠ .defer c) (hlo : ¬ LetsOut Q) {i : Nat} {K : Act → World → Prop} {a : Act} {w : World} (h : wpOp P ops Q i K a w) : wpOpIn (Fence.wide.inRound l) 0 P ops Q i K a w := by
  unfold wpOp at h
  unfold wpOpIn
  cases ho : ops[i]? with
  | none => rw [ho] at h; exact h
  | some o =>
    rw [ho] at h
    simp only [] at h ⊢
    split
    · rename_i hw
      rw [if_pos hw] at h
      have h := h.resolve_right (fun h2 => hlo h2.2)
      unfold Oper.wp at h
      unfold Oper.wpIn
      refine ⟨fun _ _ => trivial, ?_⟩
      rw [Oper.semAt_plain _ _ _ (hnd o (Array.mem_of_getElem? ho))]
      generalize (execOp a.eval o).run P w = r at *
      cases r with
      | ok x w' =>
        cases x with
        | value v => exact h
        | skip => exact h
        | defer d => exact h
        | enter f args => exact ⟨fun h => (by cases h), callsIn_wide.2 h⟩
        | row r args => exact ⟨fun h => (by cases h), fun c cs _ => let ⟨v, w', r, s⟩ := h c cs; ⟨v, w', r, (stepsIn_wide (P := P)).2 s⟩⟩
        | _ => exact h.elim
      | halt x w' => cases x <;> exact h
    · rename_i hw
      rw [if_neg hw] at h
      exact ⟨fun _ _ => trivial, h⟩
theorem wpAnyIn_of_wpAny (l : Nat) (hnd : ∀ o ∈ ops, ∀ c, o.op ≠ .defer c) (hlo : ¬ LetsOut Q) : ∀ (fuel : Nat) (listed : Array Bool) (a : Act) (w : World), wpAny P md ops Q fuel listed a w → wpAnyIn (Fence.wide.inRound l) 0 P md ops Q fuel listed a w
  | 0, _, _, _, h => h
  | fuel + 1, _, _, _, h => ⟨h.1, fun i hi => wpOpIn_mono (fun a' w' h' => wpAnyIn_of_wpAny l hnd hlo fuel _ a' w' h') (wpOpIn_of_wpOp l hnd hlo (h.2 i hi))⟩
theorem region_held_in (l : Nat) {id : Nat} {a : Act} {w : World} (hm : P.follows .mixedOrders = true) (hnd : ∀ o ∈ ops, ∀ c, o.op ≠ .defer c) (hlo : ¬ LetsOut Q) (hS : S w.drew)
    (h : S w.drew → wpAnyH P .any ops Q S ops.size (Array.replicate ops.size false) a w.drew) : (Code.region id ops true).wpIn (Fence.wide.inRound l) 0 P Q a w :=
  wpIn_region_any hm (wpAnyIn_of_wpAny l hnd hlo _ _ _ _ (wpAny_of_held _ _ _ _ (h hS)))
end
end Go.Proofs.YtpafocfpofnkpaaGreatDoor
