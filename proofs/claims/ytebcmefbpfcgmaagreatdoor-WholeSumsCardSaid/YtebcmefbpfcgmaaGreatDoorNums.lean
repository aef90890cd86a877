/- A slice of descriptions that came in. -/
import Derived.Test.YtebcmefbpfcgmaaGreatDoorInB
namespace Go.Proofs.YtebcmefbpfcgmaaGreatDoor
open Go.RowKit

/-- A slice of descriptions that came in: element i is (g i, a slice of bytes l i). -/
def InN (w : World) (A : Option Addr) (n cap : Nat) (g : Nat → Bool) (Ad : Nat → Option Addr) (k c : Nat → Nat) (l : Nat → List UInt8) : Prop :=
  n ≤ cap ∧ cap ≤ 9223372036854775807 ∧ (0 < n → ∃ b off, A = some ⟨b, off, none⟩ ∧ b < w.heap.size ∧ ∀ i, i < n → w.cell? ⟨b, off + i * 2, none⟩ = some (.bool (g i)) ∧ w.cell? ⟨b, off + i * 2 + 1, none⟩ = some (.slice (Ad i) (k i) (c i)) ∧ InB w (Ad i) (k i) (c i) (l i))
theorem InN.below {w w' : World} {A : Option Addr} {n cap : Nat} {g : Nat → Bool} {Ad : Nat → Option Addr} {k c : Nat → Nat} {l : Nat → List UInt8} (h : InN w A n cap g Ad k c l) (hb : Below w.heap.size w w') : InN w' A n cap g Ad k c l := by
  refine ⟨h.1, h.2.1, fun hn => ?_⟩
  obtain ⟨b, off, e, hlt, hc⟩ := h.2.2 hn
  have := hb.size
  refine ⟨b, off, e, by omega, fun i hi => ?_⟩
  obtain ⟨h1, h2, h3⟩ := hc i hi
  exact ⟨(hb.cell (p := ⟨b, off + i * 2, none⟩) hlt).trans h1, (hb.cell (p := ⟨b, off + i * 2 + 1, none⟩) hlt).trans h2, h3.below hb⟩
end Go.Proofs.YtebcmefbpfcgmaaGreatDoor
