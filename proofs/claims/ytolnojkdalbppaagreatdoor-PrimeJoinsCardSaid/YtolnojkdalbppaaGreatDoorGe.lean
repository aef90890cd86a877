/- Greater text, out of: T0, T1, T2, T3, T4, T5. -/
import Derived.Test.YtolnojkdalbppaaGreatDoorGc
import Derived.Test.YtolnojkdalbppaaGreatDoorGa
import Derived.Test.YtolnojkdalbppaaGreatDoorGb
import Derived.Deep.Upon
import Derived.Deep.DeepCutAuto
import Derived.Handy
import Derived.PlainAid
import Derived.Deep.DrawnRows
namespace Go.Proofs.YtolnojkdalbppaaGreatDoor
section
open Go.RowKit Go.PlainAid

/-- A slice of ints that is nil or lies in a block from B on. -/
def OwnN (B : Nat) (w : World) (v : Value) (xs : List Nat) : Prop := (v = .slice none 0 0 ∧ xs = []) ∨ ∃ g cap, v = .slice (some ⟨g, 0, none⟩) xs.length cap ∧ B ≤ g ∧ Nc w g xs.length cap xs
theorem OwnN.nil (B : Nat) (w : World) : OwnN B w (.slice none 0 0) [] := .inl ⟨rfl, rfl⟩
theorem OwnN.ns {B : Nat} {w : World} {v : Value} {xs : List Nat} (h : OwnN B w v xs) : ∃ A cap, v = .slice A xs.length cap ∧ Ns w A xs.length cap xs := by
  rcases h with ⟨rfl, rfl⟩ | ⟨g, cap, rfl, _, h⟩
  · exact ⟨none, 0, rfl, Ns.nil w⟩
  · exact ⟨_, cap, rfl, Ns.of h⟩
theorem OwnN.drewN {B : Nat} {w : World} {v : Value} {xs : List Nat} (h : OwnN B w v xs) (k : Nat) : OwnN B (w.drewN k) v xs := h
/-- append of one element, onto a slice of the call's own. -/
theorem append_own {ops : Array Oper} {rest : List Oper} {o : Oper} {a : Act} {w : World} {Q : Exit → Act → World → Prop} (hgd : o.guard = none) (s x : Operand) (t : TypeId)
    (ho : o.op = .call { callee := .builtin .append, args := #[s, x], argTypes := #[t, t] }) (ht : Tryz.prog.underlying t = some (.slice 3))
    (B : Nat) (v : Value) (xs : List Nat) (w0 : World) (hs : a.eval s = v) (hp : OwnN B w0 v xs) (hB : B ≤ w0.heap.size) (hn : xs.length ≤ 1000000000) (y : Nat)
    (hw : w = w0.alloc (.cells #[.int .i64 (y : Int)] 3)) (hx : a.eval x = .slice (some ⟨w0.heap.size, 0, none⟩) 1 1)
    (h : ∀ v' w', OwnN B w' v' (xs ++ [y]) → Below B w0 w' → wpList Tryz.prog ops Q rest (a.put o.dst v') w') :
    wpList Tryz.prog ops Q (o :: rest) a w := by
  subst hw
  have hone := Nc.one w0 y
  rcases hp with ⟨rfl, rfl⟩ | ⟨g, cap, rfl, hg, hp⟩
  · refine append_nil_Nc hgd s x t ho ht hs _ 1 1 [y] hx hone (by omega) (by omega) ?_
    intro cap' w' hq hb
    have hsz : (w0.alloc (.cells #[.int .i64 (y : Int)] 3)).heap.size = w0.heap.size + 1 := World.size_alloc _ _
    exact h _ _ (.inr ⟨_, cap', rfl, by rw [hsz]; omega, hq⟩) (((Below.refl B w0).alloc hB _).trans (hb.mono (by rw [hsz]; omega)))
  · refine append_Nc hgd s x t ho ht g xs.length cap xs hs (hp.alloc _) _ 1 1 [y] hx hone (by omega) ?_
    intro g' cap' w' hq hon hat
    rw [World.size_alloc] at hat
    have hgl := hp.lt
    refine h _ _ (.inr ⟨g', cap', by rw [List.length_append]; rfl, by rcases hat with h | h <;> omega, by rw [List.length_append]; exact hq⟩) ?_
    exact bel_only ((Below.refl B w0).alloc hB _) hon hg (by rw [World.size_alloc]; omega)
theorem Ns.trimmed {w : World} {A : Option Addr} {n cap : Nat} {xs : List Nat} (h : Ns w A n cap xs) : Ns w A (trimL xs).length cap (trimL xs) := by
  have h1 : (trimL xs).length ≤ xs.length := by rw [trimL_take, List.length_take]; omega
  have h2 := h.take (trimL xs).length (by rw [← h.len]; exact h1)
  rw [← trimL_take] at h2
  exact h2
theorem append_ownI {ops : Array Oper} {rest : List Oper} {o : Oper} {a : Act} {w : World} {Q : Exit → Act → World → Prop} (hgd : o.guard = none) (s x : Operand) (t : TypeId)
    (ho : o.op = .call { callee := .builtin .append, args := #[s, x], argTypes := #[t, t] }) (ht : Tryz.prog.underlying t = some (.slice 3))
    (B : Nat) (v : Value) (xs : List Nat) (w0 : World) (hs : a.eval s = v) (hp : OwnN B w0 v xs) (hB : B ≤ w0.heap.size) (hn : xs.length ≤ 1000000000) (y : Nat) (yi : Int)
    (hw : w = w0.alloc (.cells #[.int .i64 yi] 3)) (hx : a.eval x = .slice (some ⟨w0.heap.size, 0, none⟩) 1 1) (hy : yi = (y : Int))
    (h : ∀ v' w', OwnN B w' v' (xs ++ [y]) → Below B w0 w' → wpList Tryz.prog ops Q rest (a.put o.dst v') w') :
    wpList Tryz.prog ops Q (o :: rest) a w := by
  subst hy
  exact append_own hgd s x t ho ht B v xs w0 hs hp hB hn y hw hx h
theorem OwnN.trimmed {B : Nat} {w : World} {A : Option Addr} {n cap : Nat} {xs : List Nat} (h : OwnN B w (.slice A n cap) xs) : OwnN B w (.slice A (trimL xs).length cap) (trimL xs) := by
  rcases h with ⟨e, rfl⟩ | ⟨g, c, e, hg, h⟩
  · cases e; exact .inl ⟨rfl, rfl⟩
  · cases e
    rcases (Ns.of h).trimmed with ⟨e, _⟩ | ⟨g2, e, h2⟩
    · cases e
    · cases e; exact .inr ⟨g, cap, rfl, hg, h2⟩
theorem OwnN.below {B : Nat} {w w' : World} {v : Value} {xs : List Nat} (h : OwnN B w v xs) (hb : Below w.heap.size w w') : OwnN B w' v xs := by
  rcases h with h | ⟨g, c, e, hg, h⟩
  · exact .inl h
  · exact .inr ⟨g, c, e, hg, h.below hb h.lt⟩
theorem OwnN.far {B : Nat} {w : World} {v : Value} {xs : List Nat} (h : OwnN B w v xs) {p : Addr} (hp : p.block < B) (u : Value) : OwnN B (w.setCell p u) v xs := by
  rcases h with h | ⟨g, c, e, hg, h⟩
  · exact .inl h
  · exact .inr ⟨g, c, e, hg, h.far (by omega) u⟩
theorem OwnN.mono {B B' : Nat} {w : World} {v : Value} {xs : List Nat} (h : OwnN B w v xs) (hB : B' ≤ B) : OwnN B' w v xs := by
  rcases h with h | ⟨g, c, e, hg, h⟩
  · exact .inl h
  · exact .inr ⟨g, c, e, by omega, h⟩
/-- The pieces of a natural number, in a slice of the call's own. -/
def OwnPost (a : Nat) (w : World) (e : Ending) (w' : World) : Prop := ∃ v, e = .returned v ∧ OwnN w.heap.size w' v (lims a) ∧ Below w.heap.size w w'
/-- append(one piece, rest...). -/
theorem append_front {ops : Array Oper} {rest : List Oper} {o : Oper} {a : Act} {w : World} {Q : Exit → Act → World → Prop} (hgd : o.guard = none) (s x : Operand) (t : TypeId)
    (ho : o.op = .call { callee := .builtin .append, args := #[s, x], argTypes := #[t, t] }) (ht : Tryz.prog.underlying t = some (.slice 3))
    (B : Nat) (v : Value) (ys : List Nat) (w0 : World) (hx : a.eval x = v) (hp : OwnN B w0 v ys) (hB : B ≤ w0.heap.size) (hn : ys.length ≤ 1000000000) (y : Nat)
    (hw : w = w0.alloc (.cells #[.int .i64 (y : Int)] 3)) (hs : a.eval s = .slice (some ⟨w0.heap.size, 0, none⟩) 1 1)
    (h : ∀ v' w', OwnN B w' v' (y :: ys) → Below w0.heap.size w0 w' → wpList Tryz.prog ops Q rest (a.put o.dst v') w') :
    wpList Tryz.prog ops Q (o :: rest) a w := by
  subst hw
  have hone := Nc.one w0 y
  rcases hp with ⟨rfl, rfl⟩ | ⟨g, cap, rfl, hg, hp⟩
  · obtain ⟨i, hi, hz, hsz, hb⟩ := info_parts Tryz.infoNc
    have hr := run_append_nothing (P := Tryz.prog) (w0.alloc (.cells #[.int .i64 (y : Int)] 3)) t t o.type 3 i ht hi (some ⟨w0.heap.size, 0, none⟩) 1 1 (Nat.le_refl _) (.slice none 0 0) (Src.ofNil _ ht 0)
    refine wpList_plain hgd fun _ hK => ?_
    unfold Oper.wp execOp
    simp only [ho, resolve, invoke, builtin, Sem.run_bind, Sem.run_pure, Result.andThen_ok, List.map_toArray, List.map_cons, List.map_nil, hs, hx, hr]
    exact hK _ _ (h _ _ (.inr ⟨_, 1, rfl, by omega, hone⟩) ((Below.refl _ w0).alloc (Nat.le_refl _) _))
  · refine append_Nc hgd s x t ho ht _ 1 1 [y] hs hone g ys.length cap ys hx (hp.alloc _) (by omega) ?_
    intro g' cap' w' hq hon hat
    rw [World.size_alloc] at hat
    refine h _ _ (.inr ⟨g', cap', by rw [List.length_cons, Nat.add_comm 1], by rcases hat with h | h <;> omega, by rw [List.length_cons, Nat.add_comm]; exact hq⟩) ?_
    exact bel_only ((Below.refl _ w0).alloc (Nat.le_refl _) _) hon (Nat.le_refl _) (by rw [World.size_alloc]; omega)
def szOf : Value → Nat | .string t => t.size | _ => 0

theorem OwnN.ns_at {B : Nat} {w : World} {A : Option Addr} {n cap : Nat} {xs : List Nat} (h : OwnN B w (.slice A n cap) xs) : Ns w A n cap xs := by
  rcases h with ⟨h1, rfl⟩ | ⟨g, c, e, _, h⟩
  · cases h1; exact Ns.nil w
  · cases e; exact Ns.of h
/-- A struct of a sign and a slice, as a value. -/
def wv (b : Bool) (A : Option Addr) (n cap : Nat) : Value := .agg #[.bool b, .slice A n cap]
/-- An integer as the reference keeps it: its sign, and the pieces of its magnitude in a slice. -/
def W3 (w : World) (v : Value) (z : Int) : Prop := ∃ A n cap, v = wv (decide (z < 0)) A n cap ∧ Ns w A n cap (lims z.natAbs)
theorem W3.below {w w' : World} {v : Value} {z : Int} (h : W3 w v z) (hb : Below w.heap.size w w') : W3 w' v z := by
  obtain ⟨A, n, cap, e, h⟩ := h
  exact ⟨A, n, cap, e, h.below hb (Nat.le_refl _)⟩
/-- What a function leaves that hands back an integer. -/
def W3Post (z : Int) (w : World) (e : Ending) (w' : World) : Prop := ∃ v, e = .returned v ∧ W3 w' v z ∧ Below w.heap.size w w'
/-- What a function leaves that hands back pieces of a number. -/
def NsPost (a : Nat) (w : World) (e : Ending) (w' : World) : Prop :=
  ∃ A n cap, e = .returned (.slice A n cap) ∧ Ns w' A n cap (lims a) ∧ Below w.heap.size w w'
end
section
open Go.RowKit Go.PlainAid

/-- Block g holds two cells that can be written. -/
def Box2 (w : World) (g : Nat) (v0 v1 : Value) : Prop :=
  g < w.heap.size ∧ w.cell? ⟨g, 0, none⟩ = some v0 ∧ w.cell? ⟨g, 1, none⟩ = some v1 ∧ w.frozen? ⟨g, 0, none⟩ = false ∧ w.frozen? ⟨g, 1, none⟩ = false
section
variable {w w' : World} {g : Nat} {v0 v1 : Value}
theorem Box2.new (w : World) (v0 v1 : Value) (T : TypeId) : Box2 (w.alloc (.cells #[v0, v1] T)) w.heap.size v0 v1 :=
  ⟨by simp, by simp [World.cell?_alloc_new], by simp [World.cell?_alloc_new], by simp [World.frozen?_alloc_new], by simp [World.frozen?_alloc_new]⟩
theorem Box2.below (h : Box2 w g v0 v1) {B : Nat} (hb : Below B w w') (hB : g < B) : Box2 w' g v0 v1 :=
  ⟨Nat.lt_of_lt_of_le h.1 hb.size, (hb.cell (p := ⟨g, 0, none⟩) hB).trans h.2.1, (hb.cell (p := ⟨g, 1, none⟩) hB).trans h.2.2.1, (hb.frozen (p := ⟨g, 0, none⟩) hB).trans h.2.2.2.1, (hb.frozen (p := ⟨g, 1, none⟩) hB).trans h.2.2.2.2⟩
theorem Box2.later (h : Box2 w g v0 v1) (hb : Below w.heap.size w w') : Box2 w' g v0 v1 := h.below hb h.1
theorem Box2.alloc (h : Box2 w g v0 v1) (o : Obj) : Box2 (w.alloc o) g v0 v1 := h.later ((Below.refl _ _).alloc (Nat.le_refl _) o)
theorem Box2.drewN (h : Box2 w g v0 v1) (n : Nat) : Box2 (w.drewN n) g v0 v1 := h
theorem Box2.far (h : Box2 w g v0 v1) {p : Addr} (hp : g ≠ p.block) (u : Value) : Box2 (w.setCell p u) g v0 v1 := by
  have e := Below.heap_setCell w p u g hp
  obtain ⟨h0, h1, h2, h3, h4⟩ := h
  refine ⟨by simpa using h0, ?_, ?_, ?_, ?_⟩
  · rw [World.cell?_setCell_other _ _ _ _ (by rintro rfl; exact hp rfl)]; exact h1
  · rw [World.cell?_setCell_other _ _ _ _ (by rintro rfl; exact hp rfl)]; exact h2
  · rw [World.frozen?_setCell]; exact h3
  · rw [World.frozen?_setCell]; exact h4
theorem Box2.set1 (h : Box2 w g v0 v1) (u : Value) : Box2 (w.setCell ⟨g, 1, none⟩ u) g v0 u := by
  obtain ⟨h0, h1, h2, h3, h4⟩ := h
  refine ⟨by simpa using h0, ?_, ?_, ?_, ?_⟩
  · rw [World.cell?_setCell_other _ _ _ _ (by simp)]; exact h1
  · exact World.cell?_setCell_same' _ _ _ (by rw [h2]; rfl)
  · rw [World.frozen?_setCell]; exact h3
  · rw [World.frozen?_setCell]; exact h4
theorem Box2.set0 (h : Box2 w g v0 v1) (u : Value) : Box2 (w.setCell ⟨g, 0, none⟩ u) g u v1 := by
  obtain ⟨h0, h1, h2, h3, h4⟩ := h
  refine ⟨by simpa using h0, ?_, ?_, ?_, ?_⟩
  · exact World.cell?_setCell_same' _ _ _ (by rw [h1]; rfl)
  · rw [World.cell?_setCell_other _ _ _ _ (by simp)]; exact h2
  · rw [World.frozen?_setCell]; exact h3
  · rw [World.frozen?_setCell]; exact h4
end
/-- A result that lies in a block. -/
theorem ret_cell {fn : Func} {p : Tmp} {T : TypeId} (h : fn.results = #[.cell p T]) {a : Act} {w : World} {R : Ending → World → Prop} {ad : Addr} {v : Value} (hp : a.tmps.getD p undef = .pointer (some ad))
    (hl : (loadVar T ad).run Tryz.prog w = .ok v w) (hd : a.defers = []) (hR : R (.returned v) w) : bodyPost Tryz.prog fn R .ret a w := by
  refine bodyPost_ret (v := v) ?_ hd hR
  rw [Array.getD_eq_getD_getElem?] at hp
  simp [results, h, hp, asAddr, hl]
theorem ret_cell_tmp {fn : Func} {p u : Tmp} {T : TypeId} (h : fn.results = #[.cell p T, .tmp u]) {a : Act} {w : World} {R : Ending → World → Prop} {ad : Addr} {v : Value} (hp : a.tmps.getD p undef = .pointer (some ad))
    (hl : (loadVar T ad).run Tryz.prog w = .ok v w) (hd : a.defers = []) (hR : R (.returned (.tuple #[v, a.tmps.getD u undef])) w) : bodyPost Tryz.prog fn R .ret a w := by
  refine bodyPost_ret (v := .tuple #[v, a.tmps.getD u undef]) ?_ hd hR
  rw [Array.getD_eq_getD_getElem?] at hp
  simp [results, h, hp, asAddr, hl]
theorem ret_cell2 {fn : Func} {p u : Tmp} {T U : TypeId} (h : fn.results = #[.cell p T, .cell u U]) {a : Act} {w : World} {R : Ending → World → Prop} {ad ae : Addr} {v x : Value} (hp : a.tmps.getD p undef = .pointer (some ad)) (hu : a.tmps.getD u undef = .pointer (some ae))
    (hl : (loadVar T ad).run Tryz.prog w = .ok v w) (hl2 : (loadVar U ae).run Tryz.prog w = .ok x w) (hd : a.defers = []) (hR : R (.returned (.tuple #[v, x])) w) : bodyPost Tryz.prog fn R .ret a w := by
  refine bodyPost_ret (v := .tuple #[v, x]) ?_ hd hR
  rw [Array.getD_eq_getD_getElem?] at hp hu
  simp [results, h, hp, hu, asAddr, hl, hl2]
/-- What trim's loop keeps: the parameter's box g, the result's box g + 1. -/
def TrimRel (b : Bool) (A : Option Addr) (cap : Nat) (xs : List Nat) (w : World) (k : Nat) (wr : World) : Prop :=
  Below w.heap.size w wr ∧ Box2 wr w.heap.size (.bool b) (.slice A k cap) ∧ Box2 wr (w.heap.size + 1) (.bool false) (.slice none 0 0) ∧ trimL (xs.take k) = trimL xs
theorem trim_at0 {xs : List Nat} (h : trimL xs = trimL (xs.take 0)) : (trimL xs).length = 0 := by
  rw [h, List.take_zero]; rfl
end
section
open Go.RowKit Go.PlainAid

/-- Pieces of a number, in a slice of the call's own, perhaps with zeros at the end. -/
def RawOwn (a k : Nat) (w : World) (e : Ending) (w' : World) : Prop :=
  ∃ v xs, e = .returned v ∧ OwnN w.heap.size w' v xs ∧ Lims xs ∧ lv xs = a ∧ xs.length ≤ k ∧ Below w.heap.size w w'
def PlusRel (xs ys : List Nat) (i c : Nat) (vo : Value) (w wr : World) : Prop := Below w.heap.size w wr ∧ ∃ o, OwnN w.heap.size wr vo o ∧ PlusAt xs ys i c o
end
section
open Go.RowKit Go.PlainAid

def MinusRel (xs ys : List Nat) (i c : Nat) (vo : Value) (w wr : World) : Prop := Below w.heap.size w wr ∧ ∃ o, OwnN w.heap.size wr vo o ∧ MinusAt xs ys i c o
end
section
open Go.RowKit Go.PlainAid

def MulWRow (X : World → Prop) (g m : Nat) (xs ys : List Nat) (i : Nat) (w wr : World) : Prop :=
  Below w.heap.size w wr ∧ X wr ∧ ∃ o, Nc wr g m m o ∧ Lims o ∧ lv o = lv (xs.take i) * lv ys ∧ ∀ j, i + ys.length ≤ j → o.getD j 0 = 0
def MulWIn (X : World → Prop) (g m : Nat) (ys : List Nat) (v0 i a k c : Nat) (w wr : World) : Prop := Below w.heap.size w wr ∧ X wr ∧ ∃ o, Nc wr g m m o ∧
  (k ≤ ys.length ∧ TimesAt v0 i a ys k c o ∨ k = ys.length + 1 ∧ c = 0 ∧ Lims o ∧ lv o = v0 + a * lv ys * 1000000000 ^ i ∧ ∀ j, i + 1 + ys.length ≤ j → o.getD j 0 = 0)
/-- The boxes of two parameters and of the result. -/
def Boxes3 (g : Nat) (x y : Bool × Option Addr × Nat × Nat) (wr : World) : Prop :=
  Box2 wr g (.bool x.1) (.slice x.2.1 x.2.2.1 x.2.2.2) ∧ Box2 wr (g + 1) (.bool y.1) (.slice y.2.1 y.2.2.1 y.2.2.2) ∧ Box2 wr (g + 2) (.bool false) (.slice none 0 0)
theorem Boxes3.set {g : Nat} {x y : Bool × Option Addr × Nat × Nat} {wr : World} (h : Boxes3 g x y wr) {p : Addr} (hp : g + 3 ≤ p.block) (u : Value) : Boxes3 g x y (wr.setCell p u) :=
  ⟨h.1.far (by omega) u, h.2.1.far (by omega) u, h.2.2.far (by omega) u⟩
theorem Boxes3.drewN {g : Nat} {x y : Bool × Option Addr × Nat × Nat} {wr : World} (h : Boxes3 g x y wr) (n : Nat) : Boxes3 g x y (wr.drewN n) := h
theorem Boxes3.later {g : Nat} {x y : Bool × Option Addr × Nat × Nat} {w wr : World} (h : Boxes3 g x y w) (hb : Below w.heap.size w wr) : Boxes3 g x y wr := ⟨h.1.later hb, h.2.1.later hb, h.2.2.later hb⟩
theorem Boxes3.alloc {g : Nat} {x y : Bool × Option Addr × Nat × Nat} {w : World} (h : Boxes3 g x y w) (o : Obj) : Boxes3 g x y (w.alloc o) := h.later ((Below.refl _ _).alloc (Nat.le_refl _) o)
theorem Boxes3.new (w : World) (b1 : Bool) (A1 : Option Addr) (n1 cap1 : Nat) (b2 : Bool) (A2 : Option Addr) (n2 cap2 : Nat) (T : TypeId) :
    Boxes3 w.heap.size (b1, A1, n1, cap1) (b2, A2, n2, cap2) (((w.alloc (.cells #[.bool b1, .slice A1 n1 cap1] T)).alloc (.cells #[.bool b2, .slice A2 n2 cap2] T)).alloc (.cells #[.bool false, .slice none 0 0] T)) := by
  have h1 := Box2.new w (.bool b1) (.slice A1 n1 cap1) T
  have h2 := Box2.new (w.alloc (.cells #[.bool b1, .slice A1 n1 cap1] T)) (.bool b2) (.slice A2 n2 cap2) T
  have h3 := Box2.new ((w.alloc (.cells #[.bool b1, .slice A1 n1 cap1] T)).alloc (.cells #[.bool b2, .slice A2 n2 cap2] T)) (.bool false) (.slice none 0 0) T
  simp only [World.size_alloc] at h2 h3
  exact ⟨(h1.alloc _).alloc _, h2.alloc _, h3⟩
theorem bel3 (w : World) (o1 o2 o3 : Obj) : Below w.heap.size w (((w.alloc o1).alloc o2).alloc o3) :=
  (((Below.refl _ _).alloc (Nat.le_refl _) _).alloc (by simp only [World.size_alloc]; omega) _).alloc (by simp only [World.size_alloc]; omega) _
/-- What MulW leaves: the sign as the two signs give it. -/
def MulPost (b : Bool) (a : Nat) (w : World) (e : Ending) (w' : World) : Prop := ∃ A n cap, e = .returned (wv (b && !(lims a).isEmpty) A n cap) ∧ Ns w' A n cap (lims a) ∧ Below w.heap.size w w'
end
section
open Go.RowKit Go.PlainAid

theorem trimL_lims_one {d : Nat} (h : d < 1000000000) : trimL [d] = lims d := by
  rw [trimL_eq _ (by intro z hz; rw [List.mem_singleton.1 hz]; exact h)]; exact congrArg lims (lv_one d)
theorem Nc.trimmed {w : World} {g n cap : Nat} {xs : List Nat} (h : Nc w g n cap xs) : Nc w g (trimL xs).length cap (trimL xs) := by
  have hN := h.take (trimL xs).length (by have := h.len; rw [trimL_take, List.length_take]; omega)
  rw [← trimL_take] at hN
  exact hN
theorem Nc.one_trimmed (d : Nat) (hd : d < 1000000000) (w : World) : Nc (w.alloc (.cells #[.int .i64 (d : Int)] 3)) w.heap.size (lims d).length 1 (lims d) := by
  have hN := (Nc.one w d).trimmed
  rw [trimL_lims_one hd] at hN
  exact hN
end
end Go.Proofs.YtolnojkdalbppaaGreatDoor
