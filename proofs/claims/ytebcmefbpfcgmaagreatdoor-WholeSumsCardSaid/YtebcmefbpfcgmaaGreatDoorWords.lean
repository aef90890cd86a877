/- Words for memory: slices whose cells are known (rows of uint64, of bytes, of ints), and what appends to them and makes them. Printed by wip/gen_rows.py. -/
import Derived.Test.YtebcmefbpfcgmaaGreatDoorProg
import Derived.WalkKit
import Derived.Below
import Derived.OwnWalk
import Derived.Laws.MakeOwn
import Derived.Maps.AppendAt
import Derived.Deep.Draws
import Derived.Laws.IdiomStrings
namespace Go.Proofs.YtebcmefbpfcgmaaGreatDoor
open Go.RowKit

/-- Only block g, and what is new, has turned. -/
def Only (g : Nat) (w w' : World) : Prop := w.grownBy w' (some g)
section
variable {w a b : World} {g : Nat}
theorem Only.refl (g : Nat) (w : World) : Only g w w := ⟨rfl, rfl, rfl, Nat.le_refl _, fun _ _ _ => rfl⟩
theorem Only.trans (h : Only g w a) (k : Only g a b) : Only g w b :=
  ⟨k.os.trans h.os, k.tape.trans h.tape, k.output.trans h.output, Nat.le_trans h.size k.size, fun i hi hne => (k.block i (Nat.lt_of_lt_of_le hi h.size) hne).trans (h.block i hi hne)⟩
theorem Only.drew (h : Only g w a) : Only g w a.drew := ⟨h.os, h.tape, h.output, h.size, h.block⟩
theorem Only.drewN (h : Only g w a) (n : Nat) : Only g w (a.drewN n) := ⟨h.os, h.tape, h.output, h.size, h.block⟩
theorem Only.setCell (h : Only g w a) (j : Nat) (u : Value) : Only g w (a.setCell ⟨g, j, none⟩ u) :=
  ⟨h.os, h.tape, h.output, by have := h.size; simpa [World.setCell] using this, fun i hi hne => (Below.heap_setCell a ⟨g, j, none⟩ u i (by intro e; exact hne (by rw [e]))).trans (h.block i hi hne)⟩
theorem Only.alloc (h : Only g w a) (o : Obj) : Only g w (a.alloc o) :=
  ⟨h.os, h.tape, h.output, Nat.le_trans h.size (by simp), fun i hi hne => (Below.heap_alloc a o i (Nat.lt_of_lt_of_le hi h.size)).trans (h.block i hi hne)⟩
theorem Only.of_below (h : Below w.heap.size w a) : Only g w a := ⟨h.os, h.tape, h.output, h.size, fun i hi _ => h.block i hi⟩
theorem bel_only {B : Nat} {w0 : World} (h : Below B w0 w) (k : Only g w a) (hg : B ≤ g) (hB : B ≤ w.heap.size) : Below B w0 a :=
  h.grown k hB (fun i hi => by injection hi with hi; omega)
theorem bel_drewN {B : Nat} (h : Below B w a) (n : Nat) : Below B w (a.drewN n) := ⟨h.os, h.tape, h.output, h.size, h.block⟩
end

/-! ## uint64's -/
/-- uint64's, as cells. -/
def U (xs : List Nat) : List Value := xs.map fun (x : Nat) => Value.int .u64 (x : Int)
theorem U_len (xs : List Nat) : (U xs).length = xs.length := by simp [U]
theorem U_get (xs : List Nat) (j : Nat) (h : j < xs.length) : (U xs)[j]? = some (.int .u64 ((xs.getD j 0 : Nat) : Int)) := by
  simp [U, List.getD_eq_getElem?_getD, List.getElem?_eq_getElem h]
theorem U_take (xs : List Nat) (k : Nat) : (U xs).take k = U (xs.take k) := by simp [U]
theorem U_set (xs : List Nat) (j : Nat) (x : Nat) : (U xs).set j (.int .u64 (x : Int)) = U (xs.set j x) := by simp [U, List.map_set]
theorem U_append (xs ys : List Nat) : U xs ++ U ys = U (xs ++ ys) := by simp [U]
theorem U_one' (xs : List Nat) : ∀ u ∈ U xs, u.oneCell' = true := by
  intro u hu
  obtain ⟨x, _, rfl⟩ := List.mem_map.1 hu
  rfl

/-- Block g holds a slice of these, of length n, at its head; its elements are xs. -/
def Pc (w : World) (g n cap : Nat) (xs : List Nat) : Prop := w.ownsRow 0 70 1 (.slice (some ⟨g, 0, none⟩) n cap) n (U xs)

section
variable {w w' : World} {g n cap : Nat} {xs : List Nat}
theorem Pc.len (h : Pc w g n cap xs) : xs.length = n := by have := h.1; rw [U_len] at this; omega
theorem Pc.form (h : Pc w g n cap xs) : ∃ cur, w.heap[g]? = some (.cells cur 70 (0, 0)) ∧ n ≤ cap ∧ cap ≤ maxLen ∧ cur.size = cap ∧ cur.toList.take n = U xs := by
  rcases h.2 with ⟨e, _⟩ | ⟨g', cap', cur, e, _, hh, h1, h2, h3, h4⟩
  · cases e
  · cases e; exact ⟨cur, hh, h1, h2, by omega, by rw [Nat.mul_one] at h4; exact h4⟩
theorem Pc.mk' {cur : Array Value} (hh : w.heap[g]? = some (.cells cur 70 (0, 0))) (h1 : n ≤ cap) (h2 : cap ≤ maxLen) (h3 : cur.size = cap) (h4 : cur.toList.take n = U xs) : Pc w g n cap xs := by
  have hl : (U xs).length = n := by rw [← h4, List.length_take, Array.length_toList]; omega
  exact ⟨by omega, .inr ⟨g, cap, cur, rfl, Nat.zero_le _, hh, h1, h2, by omega, by rw [Nat.mul_one]; exact h4⟩⟩
theorem Pc.of_own {B g' cap' : Nat} {v : Value} (h : w.ownsRow B 70 1 v n (U xs)) (hv : v = .slice (some ⟨g', 0, none⟩) n cap') : Pc w g' n cap' xs := by
  subst hv
  refine ⟨h.1, ?_⟩
  rcases h.2 with ⟨e, _⟩ | ⟨g2, cap2, cur, e, _, r⟩
  · cases e
  · exact .inr ⟨g2, cap2, cur, e, Nat.zero_le _, r⟩
theorem Pc.to_own (h : Pc w g n cap xs) {B : Nat} (hB : B ≤ g) : w.ownsRow B 70 1 (.slice (some ⟨g, 0, none⟩) n cap) n (U xs) := by
  refine ⟨h.1, ?_⟩
  rcases h.2 with ⟨e, _⟩ | ⟨g2, cap2, cur, e, _, r⟩
  · cases e
  · cases e; exact .inr ⟨g, cap, cur, rfl, hB, r⟩
theorem Pc.lt (h : Pc w g n cap xs) : g < w.heap.size := by
  obtain ⟨cur, hh, _⟩ := h.form
  exact (Array.getElem?_eq_some_iff.1 hh).1
theorem Pc.le (h : Pc w g n cap xs) : n ≤ cap := by obtain ⟨_, _, h1, _⟩ := h.form; exact h1
theorem Pc.cap_le (h : Pc w g n cap xs) : cap ≤ 9223372036854775807 := by obtain ⟨_, _, _, h1, _⟩ := h.form; exact h1
theorem Pc.cell (h : Pc w g n cap xs) (j : Nat) (hj : j < n) : w.cell? ⟨g, j, none⟩ = some (.int .u64 ((xs.getD j 0 : Nat) : Int)) := by
  have := World.ownsRow.cellAt h j (by omega)
  rw [this, U_get xs j (by rw [h.len]; exact hj)]
theorem Pc.free (h : Pc w g n cap xs) (j : Nat) : w.frozen? ⟨g, j, none⟩ = false := World.ownsRow.frozenAt h j
theorem Pc.take (h : Pc w g n cap xs) (k : Nat) (hk : k ≤ n) : Pc w g k cap (xs.take k) := by
  obtain ⟨cur, hh, h1, h2, h3, h4⟩ := h.form
  refine Pc.mk' hh (by omega) h2 h3 ?_
  rw [← U_take, ← h4, List.take_take, Nat.min_eq_left hk]
theorem Pc.of_heap (h : Pc w g n cap xs) (e : w'.heap[g]? = w.heap[g]?) : Pc w' g n cap xs := by
  obtain ⟨cur, hh, h1, h2, h3, h4⟩ := h.form
  exact Pc.mk' (e.trans hh) h1 h2 h3 h4
theorem Pc.below (h : Pc w g n cap xs) {B : Nat} (hb : Below B w w') (hg : g < B) : Pc w' g n cap xs := h.of_heap (hb.block g hg)
theorem Pc.drew (h : Pc w g n cap xs) : Pc w.drew g n cap xs := h
theorem Pc.drewN (h : Pc w g n cap xs) (k : Nat) : Pc (w.drewN k) g n cap xs := h
theorem Pc.alloc (h : Pc w g n cap xs) (o : Obj) : Pc (w.alloc o) g n cap xs := h.of_heap (Below.heap_alloc w o g h.lt)
theorem Pc.far (h : Pc w g n cap xs) {p : Addr} (hp : g ≠ p.block) (u : Value) : Pc (w.setCell p u) g n cap xs := h.of_heap (Below.heap_setCell w p u g hp)
theorem Pc.set (h : Pc w g n cap xs) (j : Nat) (x : Nat) : Pc (w.setCell ⟨g, j, none⟩ (.int .u64 (x : Int))) g n cap (xs.set j x) := by
  obtain ⟨cur, hh, h1, h2, h3, h4⟩ := h.form
  refine Pc.mk' (cur := cur.setIfInBounds j (.int .u64 (x : Int))) (by simp [World.setCell, Array.getElem?_modify, hh]) h1 h2 (by simpa using h3) ?_
  rw [Array.toList_setIfInBounds, List.take_set, h4, U_set]
theorem Pc.grown (h : Pc w g n cap xs) {row : Option Nat} (hg : w.grownBy w' row) (hne : some g ≠ row) : Pc w' g n cap xs := h.of_heap (hg.block g h.lt hne)
theorem Only.Pc {a : World} {g0 : Nat} (h : Only g0 w a) {g' n cap : Nat} {xs : List Nat} (hp : Pc w g' n cap xs) (hne : g' ≠ g0) : Pc a g' n cap xs := hp.of_heap (h.block g' hp.lt (by intro e; injection e with e; exact hne e))
/-- A new block of one element, as an append lays it. -/
theorem Pc.one (w : World) (x : Nat) : Pc (w.alloc (.cells #[.int .u64 (x : Int)] 70)) w.heap.size 1 1 [x] :=
  Pc.mk' (heap_alloc_new w _) (Nat.le_refl _) (by unfold maxLen; omega) rfl rfl
end

theorem Tryz.infoPc : (Tryz.prog.info? 70).map (fun i => (i.zero, i.size, i.bytes)) = some (some (.int .u64 0), 1, 8) := by kernel_rfl
/-- n zeros, in a new block. -/
def UZ (n : Nat) : Array Value := madeCells #[.int .u64 0] n
theorem UZ_size (n : Nat) : (UZ n).size = n := size_madeCells _ n
theorem UZ_list (n : Nat) : (UZ n).toList = U (List.replicate n 0) := by
  unfold UZ U
  (rw [toList_madeCells_one, List.map_replicate]) <;> rfl
theorem make_Pc (T : TypeId) (hT : Tryz.prog.underlying T = some (.slice 70)) (l c : Nat) (hl : l ≤ c) (hc : c ≤ 1000000000000) (w : World) :
    (Instr.makeSlice T (.int .i64 (l : Int)) (.int .i64 (c : Int))).run Tryz.prog w = .ok (.slice (some ⟨w.heap.size, 0, none⟩) l c) (w.alloc (.cells (UZ c) 70)) := by
  obtain ⟨i, hi, hz, hs, hb⟩ := info_parts Tryz.infoPc
  have h := run_make (P := Tryz.prog) w T 70 i _ hT hi hz .i64 .i64 (l : Int) (c : Int) (by omega) (by omega) (by rw [hb]; omega) (by omega)
  simp only [Int.toNat_natCast, hs, Nat.mul_one] at h
  exact h
theorem Pc.made (w : World) (l c : Nat) (hl : l ≤ c) (hc : c ≤ 1000000000000) : Pc (w.alloc (.cells (UZ c) 70)) w.heap.size l c (List.replicate l 0) := by
  refine Pc.mk' (heap_alloc_new w _) hl (by unfold maxLen; omega) (UZ_size c) ?_
  rw [UZ_list, U_take, List.take_replicate, Nat.min_eq_left hl]

/-- append: onto a row of the call's own, of another row (one new element, or '...'). -/
theorem append_Pc {ops : Array Oper} {rest : List Oper} {o : Oper} {a : Act} {w : World} {Q : Exit → Act → World → Prop} (hgd : o.guard = none) (s x : Operand) (t : TypeId)
    (ho : o.op = .call { callee := .builtin .append, args := #[s, x], argTypes := #[t, t] }) (ht : Tryz.prog.underlying t = some (.slice 70))
    (g n cap : Nat) (xs : List Nat) (hs : a.eval s = .slice (some ⟨g, 0, none⟩) n cap) (hp : Pc w g n cap xs)
    (g2 m c : Nat) (ys : List Nat) (hx : a.eval x = .slice (some ⟨g2, 0, none⟩) m c) (hq : Pc w g2 m c ys) (hbd : n + m ≤ 1000000000000)
    (h : ∀ g' cap' w', Pc w' g' (n + m) cap' (xs ++ ys) → Only g w w' → (g' = g ∨ g' = w.heap.size) → wpList Tryz.prog ops Q rest (a.put o.dst (.slice (some ⟨g', 0, none⟩) (n + m) cap')) w') :
    wpList Tryz.prog ops Q (o :: rest) a w := by
  obtain ⟨i, hi, hz, hsz, hb⟩ := info_parts Tryz.infoPc
  have hl := hq.len
  obtain ⟨v', w', hr, h2, h3, h4, h5⟩ := run_append_own_at (P := Tryz.prog) w 0 t o.type 70 i _ 1 8 ht hi hz hsz hb rfl (by decide) _ n (U xs) hp ⟨g2, 0, none⟩ m c (U ys) (by rw [U_len]; omega)
    (fun j u hu => by
      have hj : j < m := by have := (List.getElem?_eq_some_iff.1 hu).1; rw [U_len] at this; omega
      have hadd : (⟨g2, 0, none⟩ : Addr).add j = ⟨g2, j, none⟩ := by unfold Addr.add; split <;> simp_all
      rw [hadd, World.ownsRow.cellAt hq j (by omega), hu])
    (U_one' ys) (by unfold maxLen; omega) (by omega) (Nat.zero_le _)
  obtain ⟨g', cap', rfl, hlt⟩ : ∃ g' cap', v' = .slice (some ⟨g', 0, none⟩) (n + m) cap' ∧ True := by
    rcases h2.2 with ⟨e, _⟩ | ⟨g', cap', cur, e, _⟩
    · have := (h4.1 e).1; cases this
    · exact ⟨g', cap', e, trivial⟩
  refine wpList_plain hgd fun _ hK => ?_
  unfold Oper.wp execOp
  simp only [ho, resolve, invoke, builtin, Sem.run_bind, Sem.run_pure, Result.andThen_ok, List.map_toArray, List.map_cons, List.map_nil, hs, hx, hr]
  refine hK _ _ (h g' cap' w' ?_ h3 ?_)
  · rw [U_append] at h2; exact h2
  · rcases h5 with h5 | h5
    · left; simpa [Value.ownBlock] using h5
    · right; simpa [Value.ownBlock] using h5

/-! ## Bytes -/
/-- Bytes, as cells. -/
def V (xs : List UInt8) : List Value := xs.map fun (x : UInt8) => Value.int .u8 (x.toNat : Int)
theorem V_len (xs : List UInt8) : (V xs).length = xs.length := by simp [V]
theorem V_get (xs : List UInt8) (j : Nat) (h : j < xs.length) : (V xs)[j]? = some (.int .u8 ((xs.getD j 0).toNat : Int)) := by
  simp [V, List.getD_eq_getElem?_getD, List.getElem?_eq_getElem h]
theorem V_take (xs : List UInt8) (k : Nat) : (V xs).take k = V (xs.take k) := by simp [V]
theorem V_set (xs : List UInt8) (j : Nat) (x : UInt8) : (V xs).set j (.int .u8 (x.toNat : Int)) = V (xs.set j x) := by simp [V, List.map_set]
theorem V_append (xs ys : List UInt8) : V xs ++ V ys = V (xs ++ ys) := by simp [V]
theorem V_one' (xs : List UInt8) : ∀ u ∈ V xs, u.oneCell' = true := by
  intro u hu
  obtain ⟨x, _, rfl⟩ := List.mem_map.1 hu
  rfl

/-- Block g holds a slice of these, of length n, at its head; its elements are xs. -/
def Bc (w : World) (g n cap : Nat) (xs : List UInt8) : Prop := w.ownsRow 0 5 1 (.slice (some ⟨g, 0, none⟩) n cap) n (V xs)

section
variable {w w' : World} {g n cap : Nat} {xs : List UInt8}
theorem Bc.len (h : Bc w g n cap xs) : xs.length = n := by have := h.1; rw [V_len] at this; omega
theorem Bc.form (h : Bc w g n cap xs) : ∃ cur, w.heap[g]? = some (.cells cur 5 (0, 0)) ∧ n ≤ cap ∧ cap ≤ maxLen ∧ cur.size = cap ∧ cur.toList.take n = V xs := by
  rcases h.2 with ⟨e, _⟩ | ⟨g', cap', cur, e, _, hh, h1, h2, h3, h4⟩
  · cases e
  · cases e; exact ⟨cur, hh, h1, h2, by omega, by rw [Nat.mul_one] at h4; exact h4⟩
theorem Bc.mk' {cur : Array Value} (hh : w.heap[g]? = some (.cells cur 5 (0, 0))) (h1 : n ≤ cap) (h2 : cap ≤ maxLen) (h3 : cur.size = cap) (h4 : cur.toList.take n = V xs) : Bc w g n cap xs := by
  have hl : (V xs).length = n := by rw [← h4, List.length_take, Array.length_toList]; omega
  exact ⟨by omega, .inr ⟨g, cap, cur, rfl, Nat.zero_le _, hh, h1, h2, by omega, by rw [Nat.mul_one]; exact h4⟩⟩
theorem Bc.of_own {B g' cap' : Nat} {v : Value} (h : w.ownsRow B 5 1 v n (V xs)) (hv : v = .slice (some ⟨g', 0, none⟩) n cap') : Bc w g' n cap' xs := by
  subst hv
  refine ⟨h.1, ?_⟩
  rcases h.2 with ⟨e, _⟩ | ⟨g2, cap2, cur, e, _, r⟩
  · cases e
  · exact .inr ⟨g2, cap2, cur, e, Nat.zero_le _, r⟩
theorem Bc.to_own (h : Bc w g n cap xs) {B : Nat} (hB : B ≤ g) : w.ownsRow B 5 1 (.slice (some ⟨g, 0, none⟩) n cap) n (V xs) := by
  refine ⟨h.1, ?_⟩
  rcases h.2 with ⟨e, _⟩ | ⟨g2, cap2, cur, e, _, r⟩
  · cases e
  · cases e; exact .inr ⟨g, cap, cur, rfl, hB, r⟩
theorem Bc.lt (h : Bc w g n cap xs) : g < w.heap.size := by
  obtain ⟨cur, hh, _⟩ := h.form
  exact (Array.getElem?_eq_some_iff.1 hh).1
theorem Bc.le (h : Bc w g n cap xs) : n ≤ cap := by obtain ⟨_, _, h1, _⟩ := h.form; exact h1
theorem Bc.cap_le (h : Bc w g n cap xs) : cap ≤ 9223372036854775807 := by obtain ⟨_, _, _, h1, _⟩ := h.form; exact h1
theorem Bc.cell (h : Bc w g n cap xs) (j : Nat) (hj : j < n) : w.cell? ⟨g, j, none⟩ = some (.int .u8 ((xs.getD j 0).toNat : Int)) := by
  have := World.ownsRow.cellAt h j (by omega)
  rw [this, V_get xs j (by rw [h.len]; exact hj)]
theorem Bc.free (h : Bc w g n cap xs) (j : Nat) : w.frozen? ⟨g, j, none⟩ = false := World.ownsRow.frozenAt h j
theorem Bc.take (h : Bc w g n cap xs) (k : Nat) (hk : k ≤ n) : Bc w g k cap (xs.take k) := by
  obtain ⟨cur, hh, h1, h2, h3, h4⟩ := h.form
  refine Bc.mk' hh (by omega) h2 h3 ?_
  rw [← V_take, ← h4, List.take_take, Nat.min_eq_left hk]
theorem Bc.of_heap (h : Bc w g n cap xs) (e : w'.heap[g]? = w.heap[g]?) : Bc w' g n cap xs := by
  obtain ⟨cur, hh, h1, h2, h3, h4⟩ := h.form
  exact Bc.mk' (e.trans hh) h1 h2 h3 h4
theorem Bc.below (h : Bc w g n cap xs) {B : Nat} (hb : Below B w w') (hg : g < B) : Bc w' g n cap xs := h.of_heap (hb.block g hg)
theorem Bc.drew (h : Bc w g n cap xs) : Bc w.drew g n cap xs := h
theorem Bc.drewN (h : Bc w g n cap xs) (k : Nat) : Bc (w.drewN k) g n cap xs := h
theorem Bc.alloc (h : Bc w g n cap xs) (o : Obj) : Bc (w.alloc o) g n cap xs := h.of_heap (Below.heap_alloc w o g h.lt)
theorem Bc.far (h : Bc w g n cap xs) {p : Addr} (hp : g ≠ p.block) (u : Value) : Bc (w.setCell p u) g n cap xs := h.of_heap (Below.heap_setCell w p u g hp)
theorem Bc.set (h : Bc w g n cap xs) (j : Nat) (x : UInt8) : Bc (w.setCell ⟨g, j, none⟩ (.int .u8 (x.toNat : Int))) g n cap (xs.set j x) := by
  obtain ⟨cur, hh, h1, h2, h3, h4⟩ := h.form
  refine Bc.mk' (cur := cur.setIfInBounds j (.int .u8 (x.toNat : Int))) (by simp [World.setCell, Array.getElem?_modify, hh]) h1 h2 (by simpa using h3) ?_
  rw [Array.toList_setIfInBounds, List.take_set, h4, V_set]
theorem Bc.grown (h : Bc w g n cap xs) {row : Option Nat} (hg : w.grownBy w' row) (hne : some g ≠ row) : Bc w' g n cap xs := h.of_heap (hg.block g h.lt hne)
theorem Only.Bc {a : World} {g0 : Nat} (h : Only g0 w a) {g' n cap : Nat} {xs : List UInt8} (hp : Bc w g' n cap xs) (hne : g' ≠ g0) : Bc a g' n cap xs := hp.of_heap (h.block g' hp.lt (by intro e; injection e with e; exact hne e))
/-- A new block of one element, as an append lays it. -/
theorem Bc.one (w : World) (x : UInt8) : Bc (w.alloc (.cells #[.int .u8 (x.toNat : Int)] 5)) w.heap.size 1 1 [x] :=
  Bc.mk' (heap_alloc_new w _) (Nat.le_refl _) (by unfold maxLen; omega) rfl rfl
end

theorem Tryz.infoBc : (Tryz.prog.info? 5).map (fun i => (i.zero, i.size, i.bytes)) = some (some (.int .u8 0), 1, 1) := by kernel_rfl
/-- n zeros, in a new block. -/
def VZ (n : Nat) : Array Value := madeCells #[.int .u8 0] n
theorem VZ_size (n : Nat) : (VZ n).size = n := size_madeCells _ n
theorem VZ_list (n : Nat) : (VZ n).toList = V (List.replicate n 0) := by
  unfold VZ V
  (rw [toList_madeCells_one, List.map_replicate]) <;> rfl
theorem make_Bc (T : TypeId) (hT : Tryz.prog.underlying T = some (.slice 5)) (l c : Nat) (hl : l ≤ c) (hc : c ≤ 1000000000000) (w : World) :
    (Instr.makeSlice T (.int .i64 (l : Int)) (.int .i64 (c : Int))).run Tryz.prog w = .ok (.slice (some ⟨w.heap.size, 0, none⟩) l c) (w.alloc (.cells (VZ c) 5)) := by
  obtain ⟨i, hi, hz, hs, hb⟩ := info_parts Tryz.infoBc
  have h := run_make (P := Tryz.prog) w T 5 i _ hT hi hz .i64 .i64 (l : Int) (c : Int) (by omega) (by omega) (by rw [hb]; omega) (by omega)
  simp only [Int.toNat_natCast, hs, Nat.mul_one] at h
  exact h
theorem Bc.made (w : World) (l c : Nat) (hl : l ≤ c) (hc : c ≤ 1000000000000) : Bc (w.alloc (.cells (VZ c) 5)) w.heap.size l c (List.replicate l 0) := by
  refine Bc.mk' (heap_alloc_new w _) hl (by unfold maxLen; omega) (VZ_size c) ?_
  rw [VZ_list, V_take, List.take_replicate, Nat.min_eq_left hl]

/-- append: onto a row of the call's own, of another row (one new element, or '...'). -/
theorem append_Bc {ops : Array Oper} {rest : List Oper} {o : Oper} {a : Act} {w : World} {Q : Exit → Act → World → Prop} (hgd : o.guard = none) (s x : Operand) (t : TypeId)
    (ho : o.op = .call { callee := .builtin .append, args := #[s, x], argTypes := #[t, t] }) (ht : Tryz.prog.underlying t = some (.slice 5))
    (g n cap : Nat) (xs : List UInt8) (hs : a.eval s = .slice (some ⟨g, 0, none⟩) n cap) (hp : Bc w g n cap xs)
    (g2 m c : Nat) (ys : List UInt8) (hx : a.eval x = .slice (some ⟨g2, 0, none⟩) m c) (hq : Bc w g2 m c ys) (hbd : n + m ≤ 1000000000000)
    (h : ∀ g' cap' w', Bc w' g' (n + m) cap' (xs ++ ys) → Only g w w' → (g' = g ∨ g' = w.heap.size) → wpList Tryz.prog ops Q rest (a.put o.dst (.slice (some ⟨g', 0, none⟩) (n + m) cap')) w') :
    wpList Tryz.prog ops Q (o :: rest) a w := by
  obtain ⟨i, hi, hz, hsz, hb⟩ := info_parts Tryz.infoBc
  have hl := hq.len
  obtain ⟨v', w', hr, h2, h3, h4, h5⟩ := run_append_own_at (P := Tryz.prog) w 0 t o.type 5 i _ 1 1 ht hi hz hsz hb rfl (by decide) _ n (V xs) hp ⟨g2, 0, none⟩ m c (V ys) (by rw [V_len]; omega)
    (fun j u hu => by
      have hj : j < m := by have := (List.getElem?_eq_some_iff.1 hu).1; rw [V_len] at this; omega
      have hadd : (⟨g2, 0, none⟩ : Addr).add j = ⟨g2, j, none⟩ := by unfold Addr.add; split <;> simp_all
      rw [hadd, World.ownsRow.cellAt hq j (by omega), hu])
    (V_one' ys) (by unfold maxLen; omega) (by omega) (Nat.zero_le _)
  obtain ⟨g', cap', rfl, hlt⟩ : ∃ g' cap', v' = .slice (some ⟨g', 0, none⟩) (n + m) cap' ∧ True := by
    rcases h2.2 with ⟨e, _⟩ | ⟨g', cap', cur, e, _⟩
    · have := (h4.1 e).1; cases this
    · exact ⟨g', cap', e, trivial⟩
  refine wpList_plain hgd fun _ hK => ?_
  unfold Oper.wp execOp
  simp only [ho, resolve, invoke, builtin, Sem.run_bind, Sem.run_pure, Result.andThen_ok, List.map_toArray, List.map_cons, List.map_nil, hs, hx, hr]
  refine hK _ _ (h g' cap' w' ?_ h3 ?_)
  · rw [V_append] at h2; exact h2
  · rcases h5 with h5 | h5
    · left; simpa [Value.ownBlock] using h5
    · right; simpa [Value.ownBlock] using h5

/-! ## ints -/
/-- ints, as cells. -/
def I (xs : List Int) : List Value := xs.map fun (x : Int) => Value.int .i64 x
theorem I_len (xs : List Int) : (I xs).length = xs.length := by simp [I]
theorem I_get (xs : List Int) (j : Nat) (h : j < xs.length) : (I xs)[j]? = some (.int .i64 (xs.getD j 0)) := by
  simp [I, List.getD_eq_getElem?_getD, List.getElem?_eq_getElem h]
theorem I_take (xs : List Int) (k : Nat) : (I xs).take k = I (xs.take k) := by simp [I]
theorem I_set (xs : List Int) (j : Nat) (x : Int) : (I xs).set j (.int .i64 x) = I (xs.set j x) := by simp [I, List.map_set]
theorem I_append (xs ys : List Int) : I xs ++ I ys = I (xs ++ ys) := by simp [I]
theorem I_one' (xs : List Int) : ∀ u ∈ I xs, u.oneCell' = true := by
  intro u hu
  obtain ⟨x, _, rfl⟩ := List.mem_map.1 hu
  rfl

/-- Block g holds a slice of these, of length n, at its head; its elements are xs. -/
def Ic (w : World) (g n cap : Nat) (xs : List Int) : Prop := w.ownsRow 0 3 1 (.slice (some ⟨g, 0, none⟩) n cap) n (I xs)

section
variable {w w' : World} {g n cap : Nat} {xs : List Int}
theorem Ic.len (h : Ic w g n cap xs) : xs.length = n := by have := h.1; rw [I_len] at this; omega
theorem Ic.form (h : Ic w g n cap xs) : ∃ cur, w.heap[g]? = some (.cells cur 3 (0, 0)) ∧ n ≤ cap ∧ cap ≤ maxLen ∧ cur.size = cap ∧ cur.toList.take n = I xs := by
  rcases h.2 with ⟨e, _⟩ | ⟨g', cap', cur, e, _, hh, h1, h2, h3, h4⟩
  · cases e
  · cases e; exact ⟨cur, hh, h1, h2, by omega, by rw [Nat.mul_one] at h4; exact h4⟩
theorem Ic.mk' {cur : Array Value} (hh : w.heap[g]? = some (.cells cur 3 (0, 0))) (h1 : n ≤ cap) (h2 : cap ≤ maxLen) (h3 : cur.size = cap) (h4 : cur.toList.take n = I xs) : Ic w g n cap xs := by
  have hl : (I xs).length = n := by rw [← h4, List.length_take, Array.length_toList]; omega
  exact ⟨by omega, .inr ⟨g, cap, cur, rfl, Nat.zero_le _, hh, h1, h2, by omega, by rw [Nat.mul_one]; exact h4⟩⟩
theorem Ic.of_own {B g' cap' : Nat} {v : Value} (h : w.ownsRow B 3 1 v n (I xs)) (hv : v = .slice (some ⟨g', 0, none⟩) n cap') : Ic w g' n cap' xs := by
  subst hv
  refine ⟨h.1, ?_⟩
  rcases h.2 with ⟨e, _⟩ | ⟨g2, cap2, cur, e, _, r⟩
  · cases e
  · exact .inr ⟨g2, cap2, cur, e, Nat.zero_le _, r⟩
theorem Ic.to_own (h : Ic w g n cap xs) {B : Nat} (hB : B ≤ g) : w.ownsRow B 3 1 (.slice (some ⟨g, 0, none⟩) n cap) n (I xs) := by
  refine ⟨h.1, ?_⟩
  rcases h.2 with ⟨e, _⟩ | ⟨g2, cap2, cur, e, _, r⟩
  · cases e
  · cases e; exact .inr ⟨g, cap, cur, rfl, hB, r⟩
theorem Ic.lt (h : Ic w g n cap xs) : g < w.heap.size := by
  obtain ⟨cur, hh, _⟩ := h.form
  exact (Array.getElem?_eq_some_iff.1 hh).1
theorem Ic.le (h : Ic w g n cap xs) : n ≤ cap := by obtain ⟨_, _, h1, _⟩ := h.form; exact h1
theorem Ic.cap_le (h : Ic w g n cap xs) : cap ≤ 9223372036854775807 := by obtain ⟨_, _, _, h1, _⟩ := h.form; exact h1
theorem Ic.cell (h : Ic w g n cap xs) (j : Nat) (hj : j < n) : w.cell? ⟨g, j, none⟩ = some (.int .i64 (xs.getD j 0)) := by
  have := World.ownsRow.cellAt h j (by omega)
  rw [this, I_get xs j (by rw [h.len]; exact hj)]
theorem Ic.free (h : Ic w g n cap xs) (j : Nat) : w.frozen? ⟨g, j, none⟩ = false := World.ownsRow.frozenAt h j
theorem Ic.take (h : Ic w g n cap xs) (k : Nat) (hk : k ≤ n) : Ic w g k cap (xs.take k) := by
  obtain ⟨cur, hh, h1, h2, h3, h4⟩ := h.form
  refine Ic.mk' hh (by omega) h2 h3 ?_
  rw [← I_take, ← h4, List.take_take, Nat.min_eq_left hk]
theorem Ic.of_heap (h : Ic w g n cap xs) (e : w'.heap[g]? = w.heap[g]?) : Ic w' g n cap xs := by
  obtain ⟨cur, hh, h1, h2, h3, h4⟩ := h.form
  exact Ic.mk' (e.trans hh) h1 h2 h3 h4
theorem Ic.below (h : Ic w g n cap xs) {B : Nat} (hb : Below B w w') (hg : g < B) : Ic w' g n cap xs := h.of_heap (hb.block g hg)
theorem Ic.drew (h : Ic w g n cap xs) : Ic w.drew g n cap xs := h
theorem Ic.drewN (h : Ic w g n cap xs) (k : Nat) : Ic (w.drewN k) g n cap xs := h
theorem Ic.alloc (h : Ic w g n cap xs) (o : Obj) : Ic (w.alloc o) g n cap xs := h.of_heap (Below.heap_alloc w o g h.lt)
theorem Ic.far (h : Ic w g n cap xs) {p : Addr} (hp : g ≠ p.block) (u : Value) : Ic (w.setCell p u) g n cap xs := h.of_heap (Below.heap_setCell w p u g hp)
theorem Ic.set (h : Ic w g n cap xs) (j : Nat) (x : Int) : Ic (w.setCell ⟨g, j, none⟩ (.int .i64 x)) g n cap (xs.set j x) := by
  obtain ⟨cur, hh, h1, h2, h3, h4⟩ := h.form
  refine Ic.mk' (cur := cur.setIfInBounds j (.int .i64 x)) (by simp [World.setCell, Array.getElem?_modify, hh]) h1 h2 (by simpa using h3) ?_
  rw [Array.toList_setIfInBounds, List.take_set, h4, I_set]
theorem Ic.grown (h : Ic w g n cap xs) {row : Option Nat} (hg : w.grownBy w' row) (hne : some g ≠ row) : Ic w' g n cap xs := h.of_heap (hg.block g h.lt hne)
theorem Only.Ic {a : World} {g0 : Nat} (h : Only g0 w a) {g' n cap : Nat} {xs : List Int} (hp : Ic w g' n cap xs) (hne : g' ≠ g0) : Ic a g' n cap xs := hp.of_heap (h.block g' hp.lt (by intro e; injection e with e; exact hne e))
/-- A new block of one element, as an append lays it. -/
theorem Ic.one (w : World) (x : Int) : Ic (w.alloc (.cells #[.int .i64 x] 3)) w.heap.size 1 1 [x] :=
  Ic.mk' (heap_alloc_new w _) (Nat.le_refl _) (by unfold maxLen; omega) rfl rfl
end

theorem Tryz.infoIc : (Tryz.prog.info? 3).map (fun i => (i.zero, i.size, i.bytes)) = some (some (.int .i64 0), 1, 8) := by kernel_rfl
/-- n zeros, in a new block. -/
def IZ (n : Nat) : Array Value := madeCells #[.int .i64 0] n
theorem IZ_size (n : Nat) : (IZ n).size = n := size_madeCells _ n
theorem IZ_list (n : Nat) : (IZ n).toList = I (List.replicate n 0) := by
  unfold IZ I
  (rw [toList_madeCells_one, List.map_replicate]) <;> rfl
theorem make_Ic (T : TypeId) (hT : Tryz.prog.underlying T = some (.slice 3)) (l c : Nat) (hl : l ≤ c) (hc : c ≤ 1000000000000) (w : World) :
    (Instr.makeSlice T (.int .i64 (l : Int)) (.int .i64 (c : Int))).run Tryz.prog w = .ok (.slice (some ⟨w.heap.size, 0, none⟩) l c) (w.alloc (.cells (IZ c) 3)) := by
  obtain ⟨i, hi, hz, hs, hb⟩ := info_parts Tryz.infoIc
  have h := run_make (P := Tryz.prog) w T 3 i _ hT hi hz .i64 .i64 (l : Int) (c : Int) (by omega) (by omega) (by rw [hb]; omega) (by omega)
  simp only [Int.toNat_natCast, hs, Nat.mul_one] at h
  exact h
theorem Ic.made (w : World) (l c : Nat) (hl : l ≤ c) (hc : c ≤ 1000000000000) : Ic (w.alloc (.cells (IZ c) 3)) w.heap.size l c (List.replicate l 0) := by
  refine Ic.mk' (heap_alloc_new w _) hl (by unfold maxLen; omega) (IZ_size c) ?_
  rw [IZ_list, I_take, List.take_replicate, Nat.min_eq_left hl]

/-- append: onto a row of the call's own, of another row (one new element, or '...'). -/
theorem append_Ic {ops : Array Oper} {rest : List Oper} {o : Oper} {a : Act} {w : World} {Q : Exit → Act → World → Prop} (hgd : o.guard = none) (s x : Operand) (t : TypeId)
    (ho : o.op = .call { callee := .builtin .append, args := #[s, x], argTypes := #[t, t] }) (ht : Tryz.prog.underlying t = some (.slice 3))
    (g n cap : Nat) (xs : List Int) (hs : a.eval s = .slice (some ⟨g, 0, none⟩) n cap) (hp : Ic w g n cap xs)
    (g2 m c : Nat) (ys : List Int) (hx : a.eval x = .slice (some ⟨g2, 0, none⟩) m c) (hq : Ic w g2 m c ys) (hbd : n + m ≤ 1000000000000)
    (h : ∀ g' cap' w', Ic w' g' (n + m) cap' (xs ++ ys) → Only g w w' → (g' = g ∨ g' = w.heap.size) → wpList Tryz.prog ops Q rest (a.put o.dst (.slice (some ⟨g', 0, none⟩) (n + m) cap')) w') :
    wpList Tryz.prog ops Q (o :: rest) a w := by
  obtain ⟨i, hi, hz, hsz, hb⟩ := info_parts Tryz.infoIc
  have hl := hq.len
  obtain ⟨v', w', hr, h2, h3, h4, h5⟩ := run_append_own_at (P := Tryz.prog) w 0 t o.type 3 i _ 1 8 ht hi hz hsz hb rfl (by decide) _ n (I xs) hp ⟨g2, 0, none⟩ m c (I ys) (by rw [I_len]; omega)
    (fun j u hu => by
      have hj : j < m := by have := (List.getElem?_eq_some_iff.1 hu).1; rw [I_len] at this; omega
      have hadd : (⟨g2, 0, none⟩ : Addr).add j = ⟨g2, j, none⟩ := by unfold Addr.add; split <;> simp_all
      rw [hadd, World.ownsRow.cellAt hq j (by omega), hu])
    (I_one' ys) (by unfold maxLen; omega) (by omega) (Nat.zero_le _)
  obtain ⟨g', cap', rfl, hlt⟩ : ∃ g' cap', v' = .slice (some ⟨g', 0, none⟩) (n + m) cap' ∧ True := by
    rcases h2.2 with ⟨e, _⟩ | ⟨g', cap', cur, e, _⟩
    · have := (h4.1 e).1; cases this
    · exact ⟨g', cap', e, trivial⟩
  refine wpList_plain hgd fun _ hK => ?_
  unfold Oper.wp execOp
  simp only [ho, resolve, invoke, builtin, Sem.run_bind, Sem.run_pure, Result.andThen_ok, List.map_toArray, List.map_cons, List.map_nil, hs, hx, hr]
  refine hK _ _ (h g' cap' w' ?_ h3 ?_)
  · rw [I_append] at h2; exact h2
  · rcases h5 with h5 | h5
    · left; simpa [Value.ownBlock] using h5
    · right; simpa [Value.ownBlock] using h5

/-- string(b) of bytes that are known. -/
theorem str_of_Bc {w : World} {g n cap : Nat} {l : List UInt8} (src dst : TypeId) (hs : Tryz.prog.underlying src = some (.slice 5)) (hd : Tryz.prog.underlying dst = some .string) (h : Bc w g n cap l) :
    (convert src dst (.slice (some ⟨g, 0, none⟩) n cap)).run Tryz.prog w = .ok (.string ⟨l.toArray⟩) w := by
  have hl := h.len
  subst hl
  refine run_convert_bytes_back w src dst 5 ⟨g, 0, none⟩ cap l hs Tryz.underlying5 hd (fun j hj => ?_)
  have hadd : (⟨g, 0, none⟩ : Addr).add j = ⟨g, j, none⟩ := by unfold Addr.add; split <;> simp_all
  rw [hadd, h.cell j hj, List.getD_eq_getElem?_getD, List.getElem?_eq_getElem hj]; rfl
end Go.Proofs.YtebcmefbpfcgmaaGreatDoor
