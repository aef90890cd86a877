/- Greater text, out of: Frame11. -/
import Derived.Test.YtolnojkdalbppaaGreatDoorFrame3
import Derived.Test.YtolnojkdalbppaaGreatDoorQ3
import Derived.Lib.SmallJoins
namespace Go.Proofs.YtolnojkdalbppaaGreatDoor
open Go.ChangeShapes Go.WideShapes Go.ChangeAt Go.RowKit
/-- The library's greatest length, at a start. -/
theorem ambM_of {W : World} (h : W.ShapedOpen Tryz.prog) : AmbM W := Tryz.laysM146.s1_3 W h
theorem inZ_of_row {W : World} {x : Addr} {len cap : Nat} {zs : List Int} (hl : len ≤ cap) (hm : cap ≤ maxLen) (hz : zs.length = cap) (hcell : ∀ i, i < zs.length → W.cell? (x.add i) = some (.int .i64 (zs.getD i 0))) :
    InZ W (some x) len cap (zs.take len) := by
  refine ⟨by simp; omega, hl, by unfold maxLen at hm; omega, fun h0 => ?_⟩
  obtain ⟨b, off, spot⟩ := x
  have hc := hcell 0 (by omega)
  have hspot : spot = none := by simpa [Addr.add] using World.cell?_spot hc
  subst hspot
  have hc0 : W.cell? ⟨b, off, none⟩ = some (.int .i64 (zs.getD 0 0)) := by simpa [Addr.add] using hc
  refine ⟨b, off, rfl, World.block_lt_of_cell? W _ hc0, fun j hj => ?_⟩
  have hadd : (⟨b, off, none⟩ : Addr).add j = ⟨b, off + j, none⟩ := Lib.add_plain b off j
  have h1 := hcell j (by omega)
  rw [hadd] at h1
  rw [h1, List.getD_eq_getElem?_getD, List.getD_eq_getElem?_getD, List.getElem?_take_of_lt hj]
end Go.Proofs.YtolnojkdalbppaaGreatDoor
