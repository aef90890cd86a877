/- Greater text, out of: K47. -/
import Derived.Test.YtpafocfpofnkpaaGreatDoorK43
namespace Go.Proofs.YtpafocfpofnkpaaGreatDoor
open Go.RowKit Go.PlainAid

theorem cv_at {l : List Int} {j : Nat} {a : Int} (h : l[j]? = some a) : cv (l.drop j) = (a * (cv (l.drop (j + 1))).1 + (cv (l.drop (j + 1))).2, (cv (l.drop (j + 1))).1) := by
  obtain ⟨hl, e⟩ := List.getElem?_eq_some_iff.1 h
  rw [List.drop_eq_getElem_cons hl, e]; rfl
end Go.Proofs.YtpafocfpofnkpaaGreatDoor
