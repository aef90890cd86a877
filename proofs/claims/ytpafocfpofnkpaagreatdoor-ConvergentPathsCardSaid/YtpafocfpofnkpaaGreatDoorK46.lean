/- Greater text, out of: K46. -/
import Derived.Test.YtpafocfpofnkpaaGreatDoorK45
import Derived.Test.YtpafocfpofnkpaaGreatDoorK44
namespace Go.Proofs.YtpafocfpofnkpaaGreatDoor
open Go.RowKit Go.PlainAid
attribute [local go_sem] field_rat0 field_rat1
theorem OwnR.far {B : Nat} {w : World} {v : Value} {xs : List Rat} (h : OwnR B w v xs) {p : Addr} (hp : p.block < B) (u : Value) : OwnR B (w.setCell p u) v xs := by
  rcases h with h | ⟨g, cap, e, hg, hc⟩
  · exact .inl h
  · exact .inr ⟨g, cap, e, hg, hc.far (by omega) u⟩
theorem OwnI.at_ {B : Nat} {w : World} {v : Value} {xs : List Int} (h : OwnI B w v xs) (hne : xs ≠ []) : ∃ g cap, v = .slice (some ⟨g, 0, none⟩) xs.length cap ∧ B ≤ g ∧ Jc w g xs.length cap xs := by
  rcases h with ⟨_, h⟩ | h
  · exact absurd h hne
  · exact h
theorem bd4_sz {c : P4} (h : Bd4 c) : c.Sz 20 := by
  obtain ⟨h1, h2, h3, h4, h5, h6⟩ := h
  exact ⟨Nat.le_trans ((nz_le_iff _ 15).2 (by omega)) (by omega), Nat.le_trans ((nz_le_iff _ 15).2 (by omega)) (by omega), Nat.le_trans ((nz_le_iff _ 15).2 (by omega)) (by omega), Nat.le_trans ((nz_le_iff _ 15).2 (by omega)) (by omega)⟩
end Go.Proofs.YtpafocfpofnkpaaGreatDoor
