/- Descriptions that a law has boxed. -/
import Derived.Test.YtebcmefbpfcgmaaGreatDoorKnown2
import Derived.RegionCalls
namespace Go.Proofs.YtebcmefbpfcgmaaGreatDoor
open Go.RowKit Go.PlainAid

/-- A description of an integer, as an argument. -/
def numV (neg : Bool) (A : Option Addr) (k cap : Nat) : Value := .agg #[.bool neg, .slice A k cap]
/-- Block g holds a description. -/
def Boxed (w : World) (g : Nat) (neg : Bool) (A : Option Addr) (k cap : Nat) : Prop :=
  g < w.heap.size ∧ w.cell? ⟨g, 0, none⟩ = some (.bool neg) ∧ w.cell? ⟨g, 1, none⟩ = some (.slice A k cap)
section
variable {w w' : World} {g : Nat} {neg : Bool} {A : Option Addr} {k cap : Nat}
theorem Boxed.below (h : Boxed w g neg A k cap) (hb : Below w.heap.size w w') : Boxed w' g neg A k cap :=
  ⟨Nat.lt_of_lt_of_le h.1 hb.size, (hb.cell (p := ⟨g, 0, none⟩) h.1).trans h.2.1, (hb.cell (p := ⟨g, 1, none⟩) h.1).trans h.2.2⟩
theorem Boxed.new (w : World) (neg : Bool) (A : Option Addr) (k cap : Nat) (T : TypeId) : Boxed (w.alloc (.cells #[.bool neg, .slice A k cap] T)) w.heap.size neg A k cap :=
  ⟨by simp, by simp [World.cell?_alloc_new], by simp [World.cell?_alloc_new]⟩
theorem Boxed.alloc (h : Boxed w g neg A k cap) (o : Obj) : Boxed (w.alloc o) g neg A k cap := h.below ((Below.refl _ _).alloc (Nat.le_refl _) o)
theorem Boxed.drewN (h : Boxed w g neg A k cap) (n : Nat) : Boxed (w.drewN n) g neg A k cap := h
end
end Go.Proofs.YtebcmefbpfcgmaaGreatDoor
