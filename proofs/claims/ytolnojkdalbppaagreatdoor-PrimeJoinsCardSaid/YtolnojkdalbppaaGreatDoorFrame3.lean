/- Greater text, out of: Frame3. -/
import Derived.Test.YtolnojkdalbppaaGreatDoorCards
import Derived.Test.YtolnojkdalbppaaGreatDoorTie
import Derived.Test.YtolnojkdalbppaaGreatDoorGb
import Derived.Test.YtolnojkdalbppaaGreatDoorGc
import Derived.ProofKit
import Derived.OpenShut
import Derived.ShutString
import Derived.Deep.DeepHandedRow
import Derived.Deep.DeepWitnessRowRef
import Derived.Lib.LaidIn
import Derived.Lib.LaidTab
import Derived.Stop.LaidErr
namespace Go.Proofs.YtolnojkdalbppaaGreatDoor
open Go.ChangeShapes Go.WideShapes Go.ChangeAt Go.RowKit
open Go.ChangeMaps (open_string shut_string)

theorem own : ownKnob Tryz.prog.godebug = none := by kernel_rfl
theorem laidOut : laidOutB Tryz.prog = true := by kernel_rfl
theorem star : "*" ++ "errors.errorString" = "*errors.errorString" := by decide
theorem errRow (u : TypeId) (h : Tryz.prog.typeName? 3 u = some "*errors.errorString") : u = 168 :=
  typeName_ptr_named (nm := "errors.errorString") (by rw [star]; kernel_rfl) (by kernel_rfl) (by decide) u (by rw [star]; exact h)
theorem gTab : Tryz.prog.globalNamed "internal/strconv.uint64pow10" = some 5 := by kernel_rfl
theorem gTabType : (Tryz.prog.globals[5]?).map (·.type) = some 183 := by kernel_rfl
theorem cellsTab : Tryz.prog.cellsOf 183 = 20 := by kernel_rfl
theorem cellsU64 : Tryz.prog.cellsOf 84 = 1 := by kernel_rfl

/-- WHAT THE ROWS' LIST GIVES. -/
theorem amb_of_laid {W : World} (h : laidMetH Tryz.prog Rows.primeJoinsRow.laid W) : Amb W := by
  have hL : laidMet Tryz.prog Rows.primeJoinsRow.laid W := h
  refine ⟨Lib.tabIs_of_head gTab gTabType Tryz.underlying183 Tryz.underlying84 cellsU64 cellsTab hL.tail.tail, ?_, ?_⟩
  · obtain ⟨a0, t0, hv0, _, _, _⟩ := laid_sentinel (g := 1) hL.tail.tail.tail.tail (by kernel_rfl) (by kernel_rfl) Tryz.underlying88 errRow Tryz.underlying168 Tryz.underlying170 rfl rfl Tryz.underlying9 (by kernel_rfl) (by kernel_rfl)
    exact ⟨_, _, hv0⟩
  · obtain ⟨a0, t0, hv0, _, _, _⟩ := laid_sentinel (g := 0) hL.tail.tail.tail.tail.tail (by kernel_rfl) (by kernel_rfl) Tryz.underlying88 errRow Tryz.underlying168 Tryz.underlying170 rfl rfl Tryz.underlying9 (by kernel_rfl) (by kernel_rfl)
    exact ⟨_, _, hv0⟩

def cellsOfAgg : DataW Unit → Array Value
  | .agg l => (l.flatMap fun d => match d with | .lit (.int k z) => [Value.int k z] | .agg m => m.map (fun e => match e with | .lit (.int k z) => Value.int k z | _ => undef) | _ => [undef]).toArray
  | _ => #[]
def putCells (h : Array Obj) (g : Nat) (cs : Array Value) : Array Obj := h.modify g fun
  | .cells _ t frozen => .cells cs t frozen
  | o => o
/-- A world for the witness: the settled one, the variables holding what their initialisers lay. -/
noncomputable def laidWorld (os : Os) : World :=
  let N := (World.settled Tryz.prog os).heap.size
  let w0 := World.holding Tryz.prog os ⟨#[.cells #[.string ⟨([118, 97, 108, 117, 101, 32, 111, 117, 116, 32, 111, 102, 32, 114, 97, 110, 103, 101] : List UInt8).toArray⟩] 170, .cells #[.string ⟨([105, 110, 118, 97, 108, 105, 100, 32, 115, 121, 110, 116, 97, 120] : List UInt8).toArray⟩] 170], #[], []⟩
  let h := w0.heap
  let h := putCells h 6 (cellsOfAgg Rows.laid_math_bits_deBruijn32tab)
  let h := putCells h 7 (cellsOfAgg Rows.laid_math_bits_deBruijn64tab)
  let h := putCells h 5 (cellsOfAgg Rows.laid_internal_strconv_uint64pow10)
  let h := putCells h 4 (cellsOfAgg Rows.laid_unicode_utf8_acceptRanges)
  let h := putCells h 3 (cellsOfAgg Rows.laid_unicode_utf8_first)
  let h := putCells h 1 #[.iface 168 (.pointer (some ⟨N + 0, 0, none⟩))]
  let h := putCells h 0 #[.iface 168 (.pointer (some ⟨N + 1, 0, none⟩))]
  { w0 with heap := h }
noncomputable abbrev N0 : Nat := (World.settled Tryz.prog default).heap.size
theorem laid_met (os : Os) (args : Array Value) : laidMet Tryz.prog Rows.primeJoinsRow.laid ((laidWorld os).forCall (fun _ _ => 0) ⟨#[], args, []⟩).memory :=
  (LaidIn.of_run [6, 7, 5, 4, 1, N0 + 0, 0, N0 + 1, 3] 8 (by kernel_rfl) (by kernel_rfl) (by kernel_rfl) (by kernel_rfl)).met

/-- A slice of bytes, as the reading has it. -/
theorem inB_of_row {W : World} {x : Addr} {len cap : Nat} {zs : List Int} (hl : len ≤ cap) (hm : cap ≤ maxLen) (hz : zs.length = cap) (hcell : ∀ i, i < zs.length → W.cell? (x.add i) = some (.int .u8 (zs.getD i 0))) (hw : ∀ n ∈ zs, (Lit.int .u8 n).wf = true) :
    InB W (some x) len cap ((zs.take len).map fun z => UInt8.ofNat z.toNat) := by
  refine ⟨by simp; omega, hl, by unfold maxLen at hm; omega, fun h0 => ?_⟩
  obtain ⟨b, off, spot⟩ := x
  have hc := hcell 0 (by omega)
  have hspot : spot = none := by simpa [Addr.add] using World.cell?_spot hc
  subst hspot
  have hc0 : W.cell? ⟨b, off, none⟩ = some (.int .u8 (zs.getD 0 0)) := by simpa [Addr.add] using hc
  refine ⟨b, off, rfl, World.block_lt_of_cell? W _ hc0, fun j hj => ?_⟩
  have hadd : (⟨b, off, none⟩ : Addr).add j = ⟨b, off + j, none⟩ := Lib.add_plain b off j
  have h1 := hcell j (by omega)
  rw [hadd] at h1
  rw [h1]
  have hj2 : j < zs.length := by omega
  have hzm : zs.getD j 0 ∈ zs := by rw [List.getD_eq_getElem?_getD, List.getElem?_eq_getElem hj2]; exact List.getElem_mem hj2
  have hb := bounds_u8 (hw _ hzm)
  have e : ((zs.take len).map fun z => UInt8.ofNat z.toNat).getD j 0 = UInt8.ofNat (zs.getD j 0).toNat := by
    rw [List.getD_eq_getElem?_getD, List.getElem?_map, List.getElem?_take, if_pos hj, List.getD_eq_getElem?_getD, List.getElem?_eq_getElem hj2]; rfl
  rw [e]
  congr 2
  rw [UInt8.toNat_ofNat']
  omega
theorem inB_nil (W : World) : InB W none 0 0 [] := ⟨rfl, Nat.le_refl _, by omega, fun h => by omega⟩
end Go.Proofs.YtolnojkdalbppaaGreatDoor
