/- Greater text, out of: T6, T7, T8, T9. -/
import Derived.Test.YtolnojkdalbppaaGreatDoorGe
import Derived.Deep.RegionHeld3
namespace Go.Proofs.YtolnojkdalbppaaGreatDoor
section
open Go.RowKit Go.PlainAid
attribute [local go_sem ↓] Go.wp_at_zero Go.wp_at_succ
def T3DivPost (a b : Nat) (w : World) (e : Ending) (w' : World) : Prop :=
  ∃ Aq nq cq Ar nr cr, e = .returned (.tuple #[.slice Aq nq cq, .slice Ar nr cr]) ∧ Ns w' Aq nq cq (lims (a / b)) ∧ Ns w' Ar nr cr (lims (a % b)) ∧ Below w.heap.size w w'
/-- A slice that is nil, or lies in a block from B on. -/
def Frsh (B : Nat) (A : Option Addr) : Prop := ∀ p, A = some p → B ≤ p.block
theorem OwnN.nsF {B : Nat} {w : World} {v : Value} {xs : List Nat} (h : OwnN B w v xs) : ∃ A cap, v = .slice A xs.length cap ∧ Ns w A xs.length cap xs ∧ Frsh B A := by
  rcases h with ⟨rfl, rfl⟩ | ⟨g, cap, rfl, hg, h⟩
  · exact ⟨none, 0, rfl, Ns.nil w, fun p hp => by cases hp⟩
  · exact ⟨_, cap, rfl, Ns.of h, fun p hp => by injection hp with e; subst e; exact hg⟩
/-- What divide leaves, and where. -/
def T3DivPostF (a b : Nat) (w : World) (e : Ending) (w' : World) : Prop :=
  ∃ Aq nq cq Ar nr cr, e = .returned (.tuple #[.slice Aq nq cq, .slice Ar nr cr]) ∧ Ns w' Aq nq cq (lims (a / b)) ∧ Ns w' Ar nr cr (lims (a % b)) ∧ Below w.heap.size w w' ∧ Frsh w.heap.size Aq ∧ Frsh w.heap.size Ar
theorem T3DivPostF.drop {a b : Nat} {w : World} {e : Ending} {w' : World} (h : T3DivPostF a b w e w') : T3DivPost a b w e w' := by
  obtain ⟨Aq, nq, cq, Ar, nr, cr, h1, h2, h3, h4, _, _⟩ := h
  exact ⟨Aq, nq, cq, Ar, nr, cr, h1, h2, h3, h4⟩
def T3DivRel (xs : List Nat) (b i R : Nat) (v : Value) (n : Nat) (w wr : World) : Prop :=
  Below w.heap.size w wr ∧ w.heap.size + 1 ≤ wr.heap.size ∧ OwnN (w.heap.size + 1) wr v (lims R) ∧ ∃ o, Nc wr w.heap.size n n o ∧ QuoAt xs b i R o ∧ ∀ j, j < i → o.getD j 0 = 0
theorem set_zero {o : List Nat} {j : Nat} (h : o.getD j 0 = 0) : o.set j 0 = o := by
  apply List.ext_getElem?
  intro k
  rw [List.getElem?_set]
  split
  · rename_i e
    subst e
    split
    · rename_i hl
      rw [List.getElem?_eq_getElem hl]
      rw [List.getD_eq_getElem?_getD, List.getElem?_eq_getElem hl] at h
      exact congrArg some h.symm
    · rename_i hl
      rw [List.getElem?_eq_none (by omega)]
  · rfl
theorem set_below {o : List Nat} {j q : Nat} (h : ∀ k, k < j + 1 → o.getD k 0 = 0) : ∀ k, k < j → (o.set j q).getD k 0 = 0 := fun k hk => by
  rw [List.getD_eq_getElem?_getD, List.getElem?_set_ne (by omega), ← List.getD_eq_getElem?_getD]
  exact h k (by omega)
theorem lims_single {N : Nat} (h : (lims N).length = 1) : N < 1000000000 ∧ lims N = [N] ∧ N ≠ 0 := by
  have h1 := (lims_len_le N 1).1 (by omega)
  have h2 : N ≠ 0 := fun e => by rw [e, lims_zero] at h; simp at h
  have h3 : N < 1000000000 := by simpa using h1
  exact ⟨h3, lims_one_of h2 h3, h2⟩
theorem OwnN.head {B : Nat} {w : World} {v : Value} {x : Nat} {ys : List Nat} (h : OwnN B w v (x :: ys)) : ∃ g c, v = .slice (some ⟨g, 0, none⟩) (ys.length + 1) c ∧ B ≤ g ∧ Nc w g (ys.length + 1) c (x :: ys) := by
  rcases h with ⟨_, h⟩ | ⟨g, c, e, hg, h⟩
  · cases h
  · exact ⟨g, c, e, hg, h⟩
end
section
open Go.RowKit Go.PlainAid
theorem lims_empty (a : Nat) : (lims a).isEmpty = decide (a = 0) := by
  rw [Bool.eq_iff_iff, List.isEmpty_iff, decide_eq_true_eq]; exact lims_ne_nil
theorem MulPost.w3 {s : Bool} {a : Nat} {w w' : World} {e : Ending} {z : Int} (h : MulPost s a w e w') (h1 : z.natAbs = a) (h2 : a ≠ 0 → s = decide (z < 0)) : W3Post z w e w' := by
  obtain ⟨A, n, cap, rfl, hns, hb⟩ := h
  refine ⟨_, rfl, ⟨A, n, cap, ?_, by rw [h1]; exact hns⟩, hb⟩
  have e : (s && !(lims a).isEmpty) = decide (z < 0) := by
    rw [lims_empty]
    by_cases h0 : a = 0
    · subst h0
      have : ¬ z < 0 := by omega
      simp [this]
    · rw [h2 h0]; simp [h0]
  rw [e]
theorem lims_len_zero {z : Int} {n : Nat} (h : (lims z.natAbs).length = n) : n = 0 ↔ z = 0 := by
  rw [← h, List.length_eq_zero_iff, lims_ne_nil]; omega
end
section
open Go.RowKit Go.PlainAid
theorem Boxes3.of {w W : World} {b1 : Bool} {A1 : Option Addr} {n1 cap1 : Nat} {b2 : Bool} {A2 : Option Addr} {n2 cap2 : Nat} {T : TypeId}
    (h : (((w.alloc (.cells #[.bool b1, .slice A1 n1 cap1] T)).alloc (.cells #[.bool b2, .slice A2 n2 cap2] T)).alloc (.cells #[.bool false, .slice none 0 0] T)) = W) :
    Boxes3 w.heap.size (b1, A1, n1, cap1) (b2, A2, n2, cap2) W ∧ Below w.heap.size w W := by subst h; exact ⟨Boxes3.new _ _ _ _ _ _ _ _ _ _, bel3 _ _ _ _⟩
/-- Behind a store into the result's block. -/
theorem Boxes3.stored {g : Nat} {x y : Bool × Option Addr × Nat × Nat} {wr : World} (h : Boxes3 g x y wr) (u v : Value) :
    Box2 ((wr.setCell ⟨g + 1 + 1, 0, none⟩ u).setCell ⟨g + 1 + 1, 1, none⟩ v) g (.bool x.1) (.slice x.2.1 x.2.2.1 x.2.2.2) ∧
    Box2 ((wr.setCell ⟨g + 1 + 1, 0, none⟩ u).setCell ⟨g + 1 + 1, 1, none⟩ v) (g + 1) (.bool y.1) (.slice y.2.1 y.2.2.1 y.2.2.2) ∧
    Box2 ((wr.setCell ⟨g + 1 + 1, 0, none⟩ u).setCell ⟨g + 1 + 1, 1, none⟩ v) (g + 1 + 1) u v :=
  ⟨(h.1.far (by simp <;> omega) _).far (by simp <;> omega) _, (h.2.1.far (by simp) _).far (by simp) _, (h.2.2.set0 _).set1 _⟩
theorem nz_lims {z : Int} {k : Nat} (h : nz z ≤ k) : (lims z.natAbs).length ≤ k := by
  rw [lims_len_le]
  have h1 := Lib.lt_pow_nDigits z.natAbs
  unfold nz at h
  refine Nat.lt_of_lt_of_le h1 (Nat.le_trans (Nat.pow_le_pow_right (by decide) h) (Nat.pow_le_pow_left (by decide) _))
end
section
open Go.RowKit Go.PlainAid
/-- Block b holds cells of another type than int. -/
def NoInt (w : World) (b : Nat) : Prop := ∃ cs T fr, w.heap[b]? = some (.cells cs T fr) ∧ T ≠ 3
theorem NoInt.new (w : World) (cs : Array Value) (T : TypeId) (hT : T ≠ 3) : NoInt (w.alloc (.cells cs T)) w.heap.size := ⟨cs, T, _, heap_alloc_new w _, hT⟩
theorem NoInt.lt {w : World} {b : Nat} (h : NoInt w b) : b < w.heap.size := by
  obtain ⟨cs, T, fr, h, _⟩ := h
  exact (Array.getElem?_eq_some_iff.1 h).1
theorem NoInt.later {w w' : World} {b : Nat} (h : NoInt w b) (hb : Below w.heap.size w w') : NoInt w' b := by
  obtain ⟨cs, T, fr, e, hT⟩ := h
  exact ⟨cs, T, fr, (hb.block b (Array.getElem?_eq_some_iff.1 e).1).trans e, hT⟩
theorem NoInt.below {w w' : World} {b B : Nat} (h : NoInt w b) (hb : Below B w w') (hlt : b < B) : NoInt w' b := by
  obtain ⟨cs, T, fr, e, hT⟩ := h
  exact ⟨cs, T, fr, (hb.block b hlt).trans e, hT⟩
theorem NoInt.alloc {w : World} {b : Nat} (h : NoInt w b) (o : Obj) : NoInt (w.alloc o) b := h.later ((Below.refl _ _).alloc (Nat.le_refl _) o)
theorem NoInt.setCell {w : World} {b : Nat} (h : NoInt w b) (p : Addr) (u : Value) : NoInt (w.setCell p u) b := by
  obtain ⟨cs, T, fr, e, hT⟩ := h
  by_cases hp : p.block = b
  · subst hp
    refine ⟨if p.spot.isSome then cs else cs.setIfInBounds p.off u, T, fr, ?_, hT⟩
    simp only [World.setCell, Array.getElem?_modify, e, if_true, Option.map_some]
  · exact ⟨cs, T, fr, (Below.heap_setCell w p u b (fun h => hp h.symm)).trans e, hT⟩
theorem Nc.ne {w : World} {g n cap b : Nat} {xs : List Nat} (h : Nc w g n cap xs) (hb : NoInt w b) : g ≠ b := by
  intro e
  subst e
  obtain ⟨cur, hh, _⟩ := h.form
  obtain ⟨cs, T, fr, e, hT⟩ := hb
  rw [hh] at e
  injection e with e
  injection e with _ e2
  exact hT e2.symm
theorem Ns.store {w : World} {A : Option Addr} {n cap : Nat} {xs : List Nat} (h : Ns w A n cap xs) {p : Addr} (hb : NoInt w p.block) (u : Value) : Ns (w.setCell p u) A n cap xs := by
  rcases h with h | ⟨g, e, h⟩
  · exact .inl h
  · exact .inr ⟨g, e, h.far (h.ne hb) u⟩
theorem W3.store {w : World} {v : Value} {z : Int} (h : W3 w v z) {p : Addr} (hb : NoInt w p.block) (u : Value) : W3 (w.setCell p u) v z := by
  obtain ⟨A, n, cap, e, h⟩ := h
  exact ⟨A, n, cap, e, h.store hb u⟩
theorem W3.parts {w : World} {v : Value} {z : Int} (h : W3 w v z) : ∃ s A n cap, v = .agg #[.bool s, .slice A n cap] ∧ n = (lims z.natAbs).length ∧ n ≤ cap ∧ cap ≤ 9223372036854775807 ∧ ∀ wz, Below w.heap.size w wz → W3 wz (.agg #[.bool s, .slice A n cap]) z := by
  obtain ⟨A, n, cap, rfl, h⟩ := h
  exact ⟨_, A, n, cap, rfl, h.len.symm, h.le, h.cap_le, fun wz hb => ⟨A, n, cap, rfl, h.below hb (Nat.le_refl _)⟩⟩
/-- The types of three boxes. -/
theorem NoInt.three {w W : World} {c1 c2 c3 : Array Value} {T1 T2 T3 : TypeId} (h : (((w.alloc (.cells c1 T1)).alloc (.cells c2 T2)).alloc (.cells c3 T3)) = W) (hT : T3 ≠ 3) : NoInt W (w.heap.size + 1 + 1) := by
  subst h
  have := NoInt.new ((w.alloc (.cells c1 T1)).alloc (.cells c2 T2)) c3 T3 hT
  simp only [World.size_alloc] at this
  exact this
end
end Go.Proofs.YtolnojkdalbppaaGreatDoor
