/- Greater text, out of: T22. -/
import Derived.Test.YtdpcmhdmdompnaaGreatDoorGw
import Derived.Test.YtdpcmhdmdompnaaGreatDoorGm
import Derived.Test.YtdpcmhdmdompnaaGreatDoorI3
namespace Go.Proofs.YtdpcmhdmdompnaaGreatDoor
open Go.RowKit Go.PlainAid
attribute [local go_sem] field_whole0 field_whole1 field_rat0 field_rat1
theorem rat_ne_int : 27 ≠ 3 := by decide
/-- A block of an integer's. -/
def HW (w : World) (g : Nat) (x : Int) : Prop := NoInt w g ∧ ∃ s A n c, Box2 w g (.bool s) (.slice A n c) ∧ W3 w (.agg #[.bool s, .slice A n c]) x
theorem HW.later {w w' : World} {g : Nat} {x : Int} (h : HW w g x) (hb : Below w.heap.size w w') : HW w' g x := by
  obtain ⟨hn, s, A, n, c, hx, hv⟩ := h
  exact ⟨hn.later hb, s, A, n, c, hx.later hb, hv.below hb⟩
theorem HW.far {w : World} {g g' : Nat} {x : Int} (h : HW w g x) (hne : g ≠ g') (hn : NoInt w g') (u v : Value) : HW ((w.setCell ⟨g', 0, none⟩ u).setCell ⟨g', 1, none⟩ v) g x := by
  obtain ⟨hg, s, A, n, c, hx, hv⟩ := h
  exact ⟨(hg.setCell _ _).setCell _ _, s, A, n, c, (hx.far hne _).far hne _, hv.store2 hn _ _⟩
theorem HW.put {w : World} {g : Nat} {x y : Int} (h : HW w g x) {s : Bool} {A : Option Addr} {n c : Nat} (hv : W3 w (.agg #[.bool s, .slice A n c]) y) : HW ((w.setCell ⟨g, 0, none⟩ (.bool s)).setCell ⟨g, 1, none⟩ (.slice A n c)) g y := by
  obtain ⟨hg, _, _, _, _, hx, _⟩ := h
  exact ⟨(hg.setCell _ _).setCell _ _, s, A, n, c, (hx.set0 _).set1 _, hv.store2 hg _ _⟩
theorem HW.new {w w' : World} {g : Nat} {x : Int} {s : Bool} {A : Option Addr} {n c : Nat} (hv : W3 w (.agg #[.bool s, .slice A n c]) x) (hw : w.alloc (.cells #[.bool s, .slice A n c] 43) = w') (hg : w.heap.size = g) : HW w' g x := by
  subst hw; subst hg
  exact ⟨NoInt.new w _ _ whole_ne_int, s, A, n, c, Box2.new _ _ _ _, hv.below ((Below.refl _ _).alloc (Nat.le_refl _) _)⟩
/-- The result's block. -/
def P0 (w wx : World) : Prop := Below w.heap.size w wx ∧ Box2 wx w.heap.size (.string ⟨#[]⟩) (.string ⟨#[]⟩) ∧ NoInt wx w.heap.size
theorem P0.start {w W : World} (h : w.alloc (.cells #[.string ⟨#[]⟩, .string ⟨#[]⟩] 27) = W) : P0 w W := by
  subst h
  exact ⟨(Below.refl _ _).alloc (Nat.le_refl _) _, Box2.new _ _ _ _, NoInt.new w _ _ rat_ne_int⟩
theorem P0.later {w a b : World} (h : P0 w a) (hb : Below a.heap.size a b) : P0 w b := ⟨bel_chain h.1 hb, h.2.1.later hb, h.2.2.later hb⟩
theorem P0.lt {w a : World} (h : P0 w a) : w.heap.size < a.heap.size := h.2.1.1
theorem P0.far {w a : World} {g : Nat} (h : P0 w a) (hg : w.heap.size < g) (u v : Value) : P0 w ((a.setCell ⟨g, 0, none⟩ u).setCell ⟨g, 1, none⟩ v) :=
  ⟨(h.1.setCell (by show w.heap.size ≤ g; omega) _).setCell (by show w.heap.size ≤ g; omega) _, (h.2.1.far (by show w.heap.size ≠ g; omega) _).far (by show w.heap.size ≠ g; omega) _, (h.2.2.setCell _ _).setCell _ _⟩
/-- The denominator's block beside it; the numerator's. -/
def P1 (w : World) (g8 : Nat) (x8 : Int) (wx : World) : Prop := P0 w wx ∧ w.heap.size < g8 ∧ HW wx g8 x8
def P2 (w : World) (g8 g9 : Nat) (x8 x9 : Int) (wx : World) : Prop := P1 w g8 x8 wx ∧ g8 < g9 ∧ HW wx g9 x9
theorem P1.later {w a b : World} {g8 : Nat} {x8 : Int} (h : P1 w g8 x8 a) (hb : Below a.heap.size a b) : P1 w g8 x8 b := ⟨h.1.later hb, h.2.1, h.2.2.later hb⟩
theorem P2.later {w a b : World} {g8 g9 : Nat} {x8 x9 : Int} (h : P2 w g8 g9 x8 x9 a) (hb : Below a.heap.size a b) : P2 w g8 g9 x8 x9 b := ⟨h.1.later hb, h.2.1, h.2.2.later hb⟩
theorem P0.next {w a b : World} {g8 : Nat} {x : Int} {s : Bool} {A : Option Addr} {n c : Nat} (h : P0 w a) (hv : W3 a (.agg #[.bool s, .slice A n c]) x) (hw : a.alloc (.cells #[.bool s, .slice A n c] 43) = b) (hg : a.heap.size = g8) : P1 w g8 x b :=
  ⟨h.later (by subst hw; exact (Below.refl _ _).alloc (Nat.le_refl _) _), by have := h.lt; omega, HW.new hv hw hg⟩
theorem P1.next {w a b : World} {g8 g9 : Nat} {x8 x : Int} {s : Bool} {A : Option Addr} {n c : Nat} (h : P1 w g8 x8 a) (hv : W3 a (.agg #[.bool s, .slice A n c]) x) (hw : a.alloc (.cells #[.bool s, .slice A n c] 43) = b) (hg : a.heap.size = g9) : P2 w g8 g9 x8 x b :=
  ⟨h.later (by subst hw; exact (Below.refl _ _).alloc (Nat.le_refl _) _), by
    obtain ⟨_, _, _, _, _, hx, _⟩ := h.2.2
    have := hx.1; omega, HW.new hv hw hg⟩
theorem P2.put8 {w a : World} {g8 g9 : Nat} {x8 x9 y : Int} {s : Bool} {A : Option Addr} {n c : Nat} (h : P2 w g8 g9 x8 x9 a) (hv : W3 a (.agg #[.bool s, .slice A n c]) y) : P2 w g8 g9 y x9 ((a.setCell ⟨g8, 0, none⟩ (.bool s)).setCell ⟨g8, 1, none⟩ (.slice A n c)) :=
  ⟨⟨h.1.1.far h.1.2.1 _ _, h.1.2.1, h.1.2.2.put hv⟩, h.2.1, h.2.2.far (by have := h.2.1; omega) h.1.2.2.1 _ _⟩
theorem P2.put9 {w a : World} {g8 g9 : Nat} {x8 x9 y : Int} {s : Bool} {A : Option Addr} {n c : Nat} (h : P2 w g8 g9 x8 x9 a) (hv : W3 a (.agg #[.bool s, .slice A n c]) y) : P2 w g8 g9 x8 y ((a.setCell ⟨g9, 0, none⟩ (.bool s)).setCell ⟨g9, 1, none⟩ (.slice A n c)) :=
  ⟨⟨h.1.1.far (by have := h.1.2.1; have := h.2.1; omega) _ _, h.1.2.1, h.1.2.2.far (by have := h.2.1; omega) h.2.2.1 _ _⟩, h.2.1, h.2.2.put hv⟩
theorem mag_sign (l : List UInt8) : (negT l = true → (magT l).length + 1 = l.length) ∧ (negT l = false → (magT l).length = l.length) := by
  unfold negT magT Lib.trimPrefix
  refine ⟨fun h => ?_, fun h => ?_⟩
  · rw [if_pos h, List.length_drop]
    cases l with
    | nil => exact absurd h (by decide)
    | cons a r => simp
  · rw [if_neg (by rw [h]; decide)]
end Go.Proofs.YtdpcmhdmdompnaaGreatDoor
