/- A slice of bytes that came in. -/
import Derived.Test.YtebcmefbpfcgmaaGreatDoorWords
namespace Go.Proofs.YtebcmefbpfcgmaaGreatDoor
open Go.RowKit

/-- A slice of bytes that came in: its elements are l. -/
def InB (w : World) (A : Option Addr) (n cap : Nat) (l : List UInt8) : Prop :=
  l.length = n ∧ n ≤ cap ∧ cap ≤ 9223372036854775807 ∧ (0 < n → ∃ b off, A = some ⟨b, off, none⟩ ∧ b < w.heap.size ∧ ∀ j, j < n → w.cell? ⟨b, off + j, none⟩ = some (.int .u8 ((l.getD j 0).toNat : Int)))
theorem InB.below {w w' : World} {A : Option Addr} {n cap : Nat} {l : List UInt8} (h : InB w A n cap l) (hb : Below w.heap.size w w') : InB w' A n cap l := by
  refine ⟨h.1, h.2.1, h.2.2.1, fun hn => ?_⟩
  obtain ⟨b, off, e, hlt, hc⟩ := h.2.2.2 hn
  have := hb.size
  exact ⟨b, off, e, by omega, fun j hj => (hb.cell (p := ⟨b, off + j, none⟩) hlt).trans (hc j hj)⟩
end Go.Proofs.YtebcmefbpfcgmaaGreatDoor
