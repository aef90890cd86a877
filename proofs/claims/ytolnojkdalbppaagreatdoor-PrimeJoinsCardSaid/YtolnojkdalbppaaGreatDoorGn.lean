/- Greater text, out of: U9, V0, U10. -/
import Derived.Test.YtolnojkdalbppaaGreatDoorGj
import Derived.Test.YtolnojkdalbppaaGreatDoorGm
import Derived.Test.YtolnojkdalbppaaGreatDoorGi
import Derived.Deep.LoopGhost
namespace Go.Proofs.YtolnojkdalbppaaGreatDoor
section
open Go.RowKit Go.PlainAid
attribute [local go_sem] field_rat0 field_rat1
/-- A fraction's texts are right, and have at most 60 bytes. -/
def fitB (x : ByteArray × ByteArray) : Bool := !decide (60 < x.1.size ∨ 60 < x.2.size) && rightB x.1.data.toList x.2.data.toList
/-- A slice of pairs of texts. -/
def InQ (w : World) (A : Option Addr) (xs : List (ByteArray × ByteArray)) : Prop :=
  xs.length ≤ 1000000 ∧ (0 < xs.length → ∃ b off, A = some ⟨b, off, none⟩ ∧ b < w.heap.size ∧ ∀ i, i < xs.length → w.cell? ⟨b, off + i * 2, none⟩ = some (.string (xs.getD i (⟨#[]⟩, ⟨#[]⟩)).1) ∧ w.cell? ⟨b, off + i * 2 + 1, none⟩ = some (.string (xs.getD i (⟨#[]⟩, ⟨#[]⟩)).2))
theorem InQ.below {w w' : World} {A : Option Addr} {xs : List (ByteArray × ByteArray)} (h : InQ w A xs) (hb : Below w.heap.size w w') : InQ w' A xs := by
  refine ⟨h.1, fun hn => ?_⟩
  obtain ⟨b, off, e, hlt, hc⟩ := h.2 hn
  have := hb.size
  refine ⟨b, off, e, by omega, fun i hi => ?_⟩
  obtain ⟨h1, h2⟩ := hc i hi
  exact ⟨(hb.cell (p := ⟨b, off + i * 2, none⟩) hlt).trans h1, (hb.cell (p := ⟨b, off + i * 2 + 1, none⟩) hlt).trans h2⟩
end
section
open Go.RowKit Go.PlainAid

theorem al1 (w : World) (o : Obj) : Below w.heap.size w (w.alloc o) := (Below.refl _ _).alloc (Nat.le_refl _) _
theorem InQ.made1 (w : World) (n0 d0 : ByteArray) (T : TypeId) : InQ (w.alloc (.cells #[.string n0, .string d0] T)) (some ⟨w.heap.size, 0, none⟩) [(n0, d0)] := by
  refine ⟨by simp, fun _ => ⟨w.heap.size, 0, rfl, by simp, fun i hi => ?_⟩⟩
  have hi2 : i < 1 := hi
  obtain rfl : i = 0 := by omega
  exact ⟨by simp [World.cell?_alloc_new], by simp [World.cell?_alloc_new]⟩
theorem InQ.made2 (w : World) (n0 d0 n1 d1 : ByteArray) (T : TypeId) : InQ (w.alloc (.cells #[.string n0, .string d0, .string n1, .string d1] T)) (some ⟨w.heap.size, 0, none⟩) [(n0, d0), (n1, d1)] := by
  refine ⟨by simp, fun _ => ⟨w.heap.size, 0, rfl, by simp, fun i hi => ?_⟩⟩
  have hi2 : i < 2 := hi
  rcases (show i = 0 ∨ i = 1 by omega) with rfl | rfl
  · exact ⟨by simp [World.cell?_alloc_new], by simp [World.cell?_alloc_new]⟩
  · exact ⟨by simp [World.cell?_alloc_new], by simp [World.cell?_alloc_new]⟩
theorem InQ.made3 (w : World) (n0 d0 n1 d1 n2 d2 : ByteArray) (T : TypeId) : InQ (w.alloc (.cells #[.string n0, .string d0, .string n1, .string d1, .string n2, .string d2] T)) (some ⟨w.heap.size, 0, none⟩) [(n0, d0), (n1, d1), (n2, d2)] := by
  refine ⟨by simp, fun _ => ⟨w.heap.size, 0, rfl, by simp, fun i hi => ?_⟩⟩
  have hi2 : i < 3 := hi
  rcases (show i = 0 ∨ i = 1 ∨ i = 2 by omega) with rfl | rfl | rfl
  · exact ⟨by simp [World.cell?_alloc_new], by simp [World.cell?_alloc_new]⟩
  · exact ⟨by simp [World.cell?_alloc_new], by simp [World.cell?_alloc_new]⟩
  · exact ⟨by simp [World.cell?_alloc_new], by simp [World.cell?_alloc_new]⟩
theorem fitB_rat {n d : ByteArray} (h : fitB (n, d) = true) : ∃ q : Rat, n = itx q.num ∧ d = itx (q.den : Int) ∧ NQ q 400 := by
  unfold fitB at h
  rw [Bool.and_eq_true] at h
  exact rightB_rat h.2
theorem fitB_size {n d : ByteArray} (h : fitB (n, d) = true) : n.size ≤ 60 ∧ d.size ≤ 60 := by
  unfold fitB at h
  rw [Bool.and_eq_true] at h
  have h1 := h.1
  simp only [Bool.not_eq_true', decide_eq_false_iff_not] at h1
  omega
end
section
open Go.RowKit Go.PlainAid
attribute [local go_sem] field_rat0 field_rat1
/-- The sum of the first i. -/
def sumQ (ps : List Rat) (i : Nat) : Rat := (ps.take i).foldl (· + ·) 0
theorem sumQ_zero (ps : List Rat) : sumQ ps 0 = 0 := rfl
theorem sumQ_succ (ps : List Rat) (i : Nat) (h : i < ps.length) : sumQ ps (i + 1) = sumQ ps i + ps.getD i 0 := by
  unfold sumQ
  rw [List.take_succ_eq_append_getElem h, List.foldl_append, List.getD_eq_getElem?_getD, List.getElem?_eq_getElem h]; rfl
/-- The texts of a fraction. -/
def tx (p : Rat) : ByteArray × ByteArray := (itx p.num, itx (p.den : Int))
theorem rv_zero : rv (0 : Rat) = .agg #[.string ⟨#[48]⟩, .string ⟨#[49]⟩] := by
  unfold rv
  rw [show (0 : Rat).num = 0 from rfl, show (0 : Rat).den = 1 from rfl, itx_lit_zero, show ((1 : Nat) : Int) = 1 from rfl, itx_lit_one]
end
end Go.Proofs.YtolnojkdalbppaaGreatDoor
