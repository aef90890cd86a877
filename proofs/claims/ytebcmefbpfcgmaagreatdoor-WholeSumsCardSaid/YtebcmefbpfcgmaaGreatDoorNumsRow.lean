/- A slice of descriptions, as an argument's reading has it. -/
import Derived.Test.YtebcmefbpfcgmaaGreatDoorFrame2Z
import Derived.Test.YtebcmefbpfcgmaaGreatDoorNums
import Derived.Deep.SlicePairs
namespace Go.Proofs.YtebcmefbpfcgmaaGreatDoor
open Go.ChangeShapes Go.WideShapes Go.ChangeAt Go.RowKit

set_option maxRecDepth 100000 in
theorem inN_of_trod {H : Type} {enc : TypeId × Value → H} {W : World} {fuel : Nat} {A : Option Addr} {len cap : Nat} {x : DataW H × List MemPlace}
    (h : DataW.trod enc Tryz.prog W 0 (fun _ => true) true fuel 25 [.slice A len cap] = some x) : ∃ g Ad k c l, InN W A len cap g Ad k c l := by
  rcases Go.Deep.open_slice_pairs Tryz.underlying25 Tryz.underlying24 (by kernel_rfl) rfl rfl (by kernel_rfl) (by kernel_rfl) h with ⟨hcs, _⟩ | ⟨y, l, c, m, n, V0, V1, D0, D1, P0, P1, hcs, _, hl, hm, hmm, _, hx⟩
  · simp only [List.cons.injEq, Value.slice.injEq, and_true] at hcs
    obtain ⟨rfl, rfl, rfl⟩ := hcs
    exact ⟨fun _ => false, fun _ => none, fun _ => 0, fun _ => 0, fun _ => [], Nat.le_refl _, by omega, fun h => by omega⟩
  · simp only [List.cons.injEq, Value.slice.injEq, and_true] at hcs
    obtain ⟨rfl, rfl, rfl⟩ := hcs
    have hlm : len ≤ m := by rw [hmm]; split <;> omega
    have each : ∀ i, i < len → ∃ q : Bool × Option Addr × Nat × Nat × List UInt8, W.cell? (y.add (i * 2)) = some (.bool q.1) ∧ W.cell? (y.add (i * 2 + 1)) = some (.slice q.2.1 q.2.2.1 q.2.2.2.1) ∧ InB W q.2.1 q.2.2.1 q.2.2.2.1 q.2.2.2.2 := by
      intro i hi
      obtain ⟨h1, h2, h3, h4⟩ := hx i (by omega)
      obtain ⟨b, hb, _⟩ := DataW.trod_bool Tryz.underlying4 h3
      obtain hb : V0 i = .bool b := by simpa using hb
      obtain ⟨a, k, c, l, hs, hI⟩ : ∃ a k c l, V1 i = .slice a k c ∧ InB W a k c l := by
        rcases open_ints Tryz.underlying22 Tryz.underlying5 (by kernel_rfl) h4 with ⟨hcs, _⟩ | ⟨x, l, c, zs, hcs, _, hl, hm, hz, _, hcell, hwz⟩
        · exact ⟨_, _, _, [], by simpa using hcs, inB_nil W⟩
        · exact ⟨_, _, _, _, by simpa using hcs, inB_of_row hl hm (by simpa using hz) hcell hwz⟩
      exact ⟨(b, a, k, c, l), by rw [h1, hb], by rw [h2, hs], hI⟩
    obtain ⟨q, hq⟩ := Go.Deep.choose_lt each
    refine ⟨fun i => (q i).1, fun i => (q i).2.1, fun i => (q i).2.2.1, fun i => (q i).2.2.2.1, fun i => (q i).2.2.2.2, hl, by unfold maxLen at hm; omega, fun h0 => ?_⟩
    obtain ⟨b, off, spot⟩ := y
    have hc := (hq 0 h0).1
    have hspot : spot = none := by simpa [Addr.add] using World.cell?_spot hc
    subst hspot
    have hadd : ∀ k, (⟨b, off, none⟩ : Addr).add k = ⟨b, off + k, none⟩ := fun k => Lib.add_plain b off k
    rw [hadd] at hc
    refine ⟨b, off, rfl, World.block_lt_of_cell? W _ hc, fun i hi => ?_⟩
    obtain ⟨h1, h2, h3⟩ := hq i hi
    rw [hadd] at h1 h2
    exact ⟨h1, by rw [Nat.add_assoc]; exact h2, h3⟩
end Go.Proofs.YtebcmefbpfcgmaaGreatDoor
