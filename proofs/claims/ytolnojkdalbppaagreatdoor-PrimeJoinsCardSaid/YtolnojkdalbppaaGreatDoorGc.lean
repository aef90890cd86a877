/- Greater text, out of: Words2, Int, Floor, Pieces, InB. -/
import Derived.Test.YtolnojkdalbppaaGreatDoorGa
import Derived.Lib.ParseIntB
import Derived.Lib.Atoi
namespace Go.Proofs.YtolnojkdalbppaaGreatDoor
section
open Go.RowKit

/-! ## ints that hold natural numbers -/
/-- ints that hold natural numbers, as cells. -/
def Ni (xs : List Nat) : List Value := xs.map fun (x : Nat) => Value.int .i64 (x : Int)
theorem Ni_len (xs : List Nat) : (Ni xs).length = xs.length := by simp [Ni]
theorem Ni_get (xs : List Nat) (j : Nat) (h : j < xs.length) : (Ni xs)[j]? = some (.int .i64 ((xs.getD j 0 : Nat) : Int)) := by
  simp [Ni, List.getD_eq_getElem?_getD, List.getElem?_eq_getElem h]
theorem Ni_take (xs : List Nat) (k : Nat) : (Ni xs).take k = Ni (xs.take k) := by simp [Ni]
theorem Ni_set (xs : List Nat) (j : Nat) (x : Nat) : (Ni xs).set j (.int .i64 (x : Int)) = Ni (xs.set j x) := by simp [Ni, List.map_set]
theorem Ni_append (xs ys : List Nat) : Ni xs ++ Ni ys = Ni (xs ++ ys) := by simp [Ni]
theorem Ni_one' (xs : List Nat) : ∀ u ∈ Ni xs, u.oneCell' = true := by
  intro u hu
  obtain ⟨x, _, rfl⟩ := List.mem_map.1 hu
  rfl

/-- Block g holds a slice of these, of length n, at its head; its elements are xs. -/
def Nc (w : World) (g n cap : Nat) (xs : List Nat) : Prop := w.ownsRow 0 3 1 (.slice (some ⟨g, 0, none⟩) n cap) n (Ni xs)

section
variable {w w' : World} {g n cap : Nat} {xs : List Nat}
theorem Nc.len (h : Nc w g n cap xs) : xs.length = n := by have := h.1; rw [Ni_len] at this; omega
theorem Nc.form (h : Nc w g n cap xs) : ∃ cur, w.heap[g]? = some (.cells cur 3 (0, 0)) ∧ n ≤ cap ∧ cap ≤ maxLen ∧ cur.size = cap ∧ cur.toList.take n = Ni xs := by
  rcases h.2 with ⟨e, _⟩ | ⟨g', cap', cur, e, _, hh, h1, h2, h3, h4⟩
  · cases e
  · cases e; exact ⟨cur, hh, h1, h2, by omega, by rw [Nat.mul_one] at h4; exact h4⟩
theorem Nc.mk' {cur : Array Value} (hh : w.heap[g]? = some (.cells cur 3 (0, 0))) (h1 : n ≤ cap) (h2 : cap ≤ maxLen) (h3 : cur.size = cap) (h4 : cur.toList.take n = Ni xs) : Nc w g n cap xs := by
  have hl : (Ni xs).length = n := by rw [← h4, List.length_take, Array.length_toList]; omega
  exact ⟨by omega, .inr ⟨g, cap, cur, rfl, Nat.zero_le _, hh, h1, h2, by omega, by rw [Nat.mul_one]; exact h4⟩⟩
theorem Nc.of_own {B g' cap' : Nat} {v : Value} (h : w.ownsRow B 3 1 v n (Ni xs)) (hv : v = .slice (some ⟨g', 0, none⟩) n cap') : Nc w g' n cap' xs := by
  subst hv
  refine ⟨h.1, ?_⟩
  rcases h.2 with ⟨e, _⟩ | ⟨g2, cap2, cur, e, _, r⟩
  · cases e
  · exact .inr ⟨g2, cap2, cur, e, Nat.zero_le _, r⟩
theorem Nc.to_own (h : Nc w g n cap xs) {B : Nat} (hB : B ≤ g) : w.ownsRow B 3 1 (.slice (some ⟨g, 0, none⟩) n cap) n (Ni xs) := by
  refine ⟨h.1, ?_⟩
  rcases h.2 with ⟨e, _⟩ | ⟨g2, cap2, cur, e, _, r⟩
  · cases e
  · cases e; exact .inr ⟨g, cap, cur, rfl, hB, r⟩
theorem Nc.lt (h : Nc w g n cap xs) : g < w.heap.size := by
  obtain ⟨cur, hh, _⟩ := h.form
  exact (Array.getElem?_eq_some_iff.1 hh).1
theorem Nc.le (h : Nc w g n cap xs) : n ≤ cap := by obtain ⟨_, _, h1, _⟩ := h.form; exact h1
theorem Nc.cap_le (h : Nc w g n cap xs) : cap ≤ 9223372036854775807 := by obtain ⟨_, _, _, h1, _⟩ := h.form; exact h1
theorem Nc.cell (h : Nc w g n cap xs) (j : Nat) (hj : j < n) : w.cell? ⟨g, j, none⟩ = some (.int .i64 ((xs.getD j 0 : Nat) : Int)) := by
  have := World.ownsRow.cellAt h j (by omega)
  rw [this, Ni_get xs j (by rw [h.len]; exact hj)]
theorem Nc.free (h : Nc w g n cap xs) (j : Nat) : w.frozen? ⟨g, j, none⟩ = false := World.ownsRow.frozenAt h j
theorem Nc.take (h : Nc w g n cap xs) (k : Nat) (hk : k ≤ n) : Nc w g k cap (xs.take k) := by
  obtain ⟨cur, hh, h1, h2, h3, h4⟩ := h.form
  refine Nc.mk' hh (by omega) h2 h3 ?_
  rw [← Ni_take, ← h4, List.take_take, Nat.min_eq_left hk]
theorem Nc.of_heap (h : Nc w g n cap xs) (e : w'.heap[g]? = w.heap[g]?) : Nc w' g n cap xs := by
  obtain ⟨cur, hh, h1, h2, h3, h4⟩ := h.form
  exact Nc.mk' (e.trans hh) h1 h2 h3 h4
theorem Nc.below (h : Nc w g n cap xs) {B : Nat} (hb : Below B w w') (hg : g < B) : Nc w' g n cap xs := h.of_heap (hb.block g hg)
theorem Nc.drew (h : Nc w g n cap xs) : Nc w.drew g n cap xs := h
theorem Nc.drewN (h : Nc w g n cap xs) (k : Nat) : Nc (w.drewN k) g n cap xs := h
theorem Nc.alloc (h : Nc w g n cap xs) (o : Obj) : Nc (w.alloc o) g n cap xs := h.of_heap (Below.heap_alloc w o g h.lt)
theorem Nc.far (h : Nc w g n cap xs) {p : Addr} (hp : g ≠ p.block) (u : Value) : Nc (w.setCell p u) g n cap xs := h.of_heap (Below.heap_setCell w p u g hp)
theorem Nc.set (h : Nc w g n cap xs) (j : Nat) (x : Nat) : Nc (w.setCell ⟨g, j, none⟩ (.int .i64 (x : Int))) g n cap (xs.set j x) := by
  obtain ⟨cur, hh, h1, h2, h3, h4⟩ := h.form
  refine Nc.mk' (cur := cur.setIfInBounds j (.int .i64 (x : Int))) (by simp [World.setCell, Array.getElem?_modify, hh]) h1 h2 (by simpa using h3) ?_
  rw [Array.toList_setIfInBounds, List.take_set, h4, Ni_set]
theorem Nc.grown (h : Nc w g n cap xs) {row : Option Nat} (hg : w.grownBy w' row) (hne : some g ≠ row) : Nc w' g n cap xs := h.of_heap (hg.block g h.lt hne)
theorem Only.Nc {a : World} {g0 : Nat} (h : Only g0 w a) {g' n cap : Nat} {xs : List Nat} (hp : Nc w g' n cap xs) (hne : g' ≠ g0) : Nc a g' n cap xs := hp.of_heap (h.block g' hp.lt (by intro e; injection e with e; exact hne e))
/-- A new block of one element, as an append lays it. -/
theorem Nc.one (w : World) (x : Nat) : Nc (w.alloc (.cells #[.int .i64 (x : Int)] 3)) w.heap.size 1 1 [x] :=
  Nc.mk' (heap_alloc_new w _) (Nat.le_refl _) (by unfold maxLen; omega) rfl rfl
end

theorem Tryz.infoNc : (Tryz.prog.info? 3).map (fun i => (i.zero, i.size, i.bytes)) = some (some (.int .i64 0), 1, 8) := by kernel_rfl
/-- n zeros, in a new block. -/
def NZ (n : Nat) : Array Value := madeCells #[.int .i64 0] n
theorem NZ_size (n : Nat) : (NZ n).size = n := size_madeCells _ n
theorem NZ_list (n : Nat) : (NZ n).toList = Ni (List.replicate n 0) := by
  unfold NZ Ni
  (rw [toList_madeCells_one, List.map_replicate]) <;> rfl
theorem make_Nc (T : TypeId) (hT : Tryz.prog.underlying T = some (.slice 3)) (l c : Nat) (hl : l ≤ c) (hc : c ≤ 1000000000000) (w : World) :
    (Instr.makeSlice T (.int .i64 (l : Int)) (.int .i64 (c : Int))).run Tryz.prog w = .ok (.slice (some ⟨w.heap.size, 0, none⟩) l c) (w.alloc (.cells (NZ c) 3)) := by
  obtain ⟨i, hi, hz, hs, hb⟩ := info_parts Tryz.infoNc
  have h := run_make (P := Tryz.prog) w T 3 i _ hT hi hz .i64 .i64 (l : Int) (c : Int) (by omega) (by omega) (by rw [hb]; omega) (by omega)
  simp only [Int.toNat_natCast, hs, Nat.mul_one] at h
  exact h
theorem Nc.made (w : World) (l c : Nat) (hl : l ≤ c) (hc : c ≤ 1000000000000) : Nc (w.alloc (.cells (NZ c) 3)) w.heap.size l c (List.replicate l 0) := by
  refine Nc.mk' (heap_alloc_new w _) hl (by unfold maxLen; omega) (NZ_size c) ?_
  rw [NZ_list, Ni_take, List.take_replicate, Nat.min_eq_left hl]

/-- append: onto a row of the call's own, of another row (one new element, or '...'). -/
theorem append_Nc {ops : Array Oper} {rest : List Oper} {o : Oper} {a : Act} {w : World} {Q : Exit → Act → World → Prop} (hgd : o.guard = none) (s x : Operand) (t : TypeId)
    (ho : o.op = .call { callee := .builtin .append, args := #[s, x], argTypes := #[t, t] }) (ht : Tryz.prog.underlying t = some (.slice 3))
    (g n cap : Nat) (xs : List Nat) (hs : a.eval s = .slice (some ⟨g, 0, none⟩) n cap) (hp : Nc w g n cap xs)
    (g2 m c : Nat) (ys : List Nat) (hx : a.eval x = .slice (some ⟨g2, 0, none⟩) m c) (hq : Nc w g2 m c ys) (hbd : n + m ≤ 1000000000000)
    (h : ∀ g' cap' w', Nc w' g' (n + m) cap' (xs ++ ys) → Only g w w' → (g' = g ∨ g' = w.heap.size) → wpList Tryz.prog ops Q rest (a.put o.dst (.slice (some ⟨g', 0, none⟩) (n + m) cap')) w') :
    wpList Tryz.prog ops Q (o :: rest) a w := by
  obtain ⟨i, hi, hz, hsz, hb⟩ := info_parts Tryz.infoNc
  have hl := hq.len
  obtain ⟨v', w', hr, h2, h3, h4, h5⟩ := run_append_own_at (P := Tryz.prog) w 0 t o.type 3 i _ 1 8 ht hi hz hsz hb rfl (by decide) _ n (Ni xs) hp ⟨g2, 0, none⟩ m c (Ni ys) (by rw [Ni_len]; omega)
    (fun j u hu => by
      have hj : j < m := by have := (List.getElem?_eq_some_iff.1 hu).1; rw [Ni_len] at this; omega
      have hadd : (⟨g2, 0, none⟩ : Addr).add j = ⟨g2, j, none⟩ := by unfold Addr.add; split <;> simp_all
      rw [hadd, World.ownsRow.cellAt hq j (by omega), hu])
    (Ni_one' ys) (by unfold maxLen; omega) (by omega) (Nat.zero_le _)
  obtain ⟨g', cap', rfl, hlt⟩ : ∃ g' cap', v' = .slice (some ⟨g', 0, none⟩) (n + m) cap' ∧ True := by
    rcases h2.2 with ⟨e, _⟩ | ⟨g', cap', cur, e, _⟩
    · have := (h4.1 e).1; cases this
    · exact ⟨g', cap', e, trivial⟩
  refine wpList_plain hgd fun _ hK => ?_
  unfold Oper.wp execOp
  simp only [ho, resolve, invoke, builtin, Sem.run_bind, Sem.run_pure, Result.andThen_ok, List.map_toArray, List.map_cons, List.map_nil, hs, hx, hr]
  refine hK _ _ (h g' cap' w' ?_ h3 ?_)
  · rw [Ni_append] at h2; exact h2
  · rcases h5 with h5 | h5
    · left; simpa [Value.ownBlock] using h5
    · right; simpa [Value.ownBlock] using h5

/-! ## strings -/
/-- strings, as cells. -/
def Sg (xs : List ByteArray) : List Value := xs.map fun (x : ByteArray) => Value.string x
theorem Sg_len (xs : List ByteArray) : (Sg xs).length = xs.length := by simp [Sg]
theorem Sg_get (xs : List ByteArray) (j : Nat) (h : j < xs.length) : (Sg xs)[j]? = some (.string (xs.getD j ⟨#[]⟩)) := by
  simp [Sg, List.getD_eq_getElem?_getD, List.getElem?_eq_getElem h]
theorem Sg_take (xs : List ByteArray) (k : Nat) : (Sg xs).take k = Sg (xs.take k) := by simp [Sg]
theorem Sg_set (xs : List ByteArray) (j : Nat) (x : ByteArray) : (Sg xs).set j (.string x) = Sg (xs.set j x) := by simp [Sg, List.map_set]
theorem Sg_append (xs ys : List ByteArray) : Sg xs ++ Sg ys = Sg (xs ++ ys) := by simp [Sg]
theorem Sg_one' (xs : List ByteArray) : ∀ u ∈ Sg xs, u.oneCell' = true := by
  intro u hu
  obtain ⟨x, _, rfl⟩ := List.mem_map.1 hu
  rfl

/-- Block g holds a slice of these, of length n, at its head; its elements are xs. -/
def Sc (w : World) (g n cap : Nat) (xs : List ByteArray) : Prop := w.ownsRow 0 46 1 (.slice (some ⟨g, 0, none⟩) n cap) n (Sg xs)

section
variable {w w' : World} {g n cap : Nat} {xs : List ByteArray}
theorem Sc.len (h : Sc w g n cap xs) : xs.length = n := by have := h.1; rw [Sg_len] at this; omega
theorem Sc.form (h : Sc w g n cap xs) : ∃ cur, w.heap[g]? = some (.cells cur 46 (0, 0)) ∧ n ≤ cap ∧ cap ≤ maxLen ∧ cur.size = cap ∧ cur.toList.take n = Sg xs := by
  rcases h.2 with ⟨e, _⟩ | ⟨g', cap', cur, e, _, hh, h1, h2, h3, h4⟩
  · cases e
  · cases e; exact ⟨cur, hh, h1, h2, by omega, by rw [Nat.mul_one] at h4; exact h4⟩
theorem Sc.mk' {cur : Array Value} (hh : w.heap[g]? = some (.cells cur 46 (0, 0))) (h1 : n ≤ cap) (h2 : cap ≤ maxLen) (h3 : cur.size = cap) (h4 : cur.toList.take n = Sg xs) : Sc w g n cap xs := by
  have hl : (Sg xs).length = n := by rw [← h4, List.length_take, Array.length_toList]; omega
  exact ⟨by omega, .inr ⟨g, cap, cur, rfl, Nat.zero_le _, hh, h1, h2, by omega, by rw [Nat.mul_one]; exact h4⟩⟩
theorem Sc.of_own {B g' cap' : Nat} {v : Value} (h : w.ownsRow B 46 1 v n (Sg xs)) (hv : v = .slice (some ⟨g', 0, none⟩) n cap') : Sc w g' n cap' xs := by
  subst hv
  refine ⟨h.1, ?_⟩
  rcases h.2 with ⟨e, _⟩ | ⟨g2, cap2, cur, e, _, r⟩
  · cases e
  · exact .inr ⟨g2, cap2, cur, e, Nat.zero_le _, r⟩
theorem Sc.to_own (h : Sc w g n cap xs) {B : Nat} (hB : B ≤ g) : w.ownsRow B 46 1 (.slice (some ⟨g, 0, none⟩) n cap) n (Sg xs) := by
  refine ⟨h.1, ?_⟩
  rcases h.2 with ⟨e, _⟩ | ⟨g2, cap2, cur, e, _, r⟩
  · cases e
  · cases e; exact .inr ⟨g, cap, cur, rfl, hB, r⟩
theorem Sc.lt (h : Sc w g n cap xs) : g < w.heap.size := by
  obtain ⟨cur, hh, _⟩ := h.form
  exact (Array.getElem?_eq_some_iff.1 hh).1
theorem Sc.le (h : Sc w g n cap xs) : n ≤ cap := by obtain ⟨_, _, h1, _⟩ := h.form; exact h1
theorem Sc.cap_le (h : Sc w g n cap xs) : cap ≤ 9223372036854775807 := by obtain ⟨_, _, _, h1, _⟩ := h.form; exact h1
theorem Sc.cell (h : Sc w g n cap xs) (j : Nat) (hj : j < n) : w.cell? ⟨g, j, none⟩ = some (.string (xs.getD j ⟨#[]⟩)) := by
  have := World.ownsRow.cellAt h j (by omega)
  rw [this, Sg_get xs j (by rw [h.len]; exact hj)]
theorem Sc.free (h : Sc w g n cap xs) (j : Nat) : w.frozen? ⟨g, j, none⟩ = false := World.ownsRow.frozenAt h j
theorem Sc.take (h : Sc w g n cap xs) (k : Nat) (hk : k ≤ n) : Sc w g k cap (xs.take k) := by
  obtain ⟨cur, hh, h1, h2, h3, h4⟩ := h.form
  refine Sc.mk' hh (by omega) h2 h3 ?_
  rw [← Sg_take, ← h4, List.take_take, Nat.min_eq_left hk]
theorem Sc.of_heap (h : Sc w g n cap xs) (e : w'.heap[g]? = w.heap[g]?) : Sc w' g n cap xs := by
  obtain ⟨cur, hh, h1, h2, h3, h4⟩ := h.form
  exact Sc.mk' (e.trans hh) h1 h2 h3 h4
theorem Sc.below (h : Sc w g n cap xs) {B : Nat} (hb : Below B w w') (hg : g < B) : Sc w' g n cap xs := h.of_heap (hb.block g hg)
theorem Sc.drew (h : Sc w g n cap xs) : Sc w.drew g n cap xs := h
theorem Sc.drewN (h : Sc w g n cap xs) (k : Nat) : Sc (w.drewN k) g n cap xs := h
theorem Sc.alloc (h : Sc w g n cap xs) (o : Obj) : Sc (w.alloc o) g n cap xs := h.of_heap (Below.heap_alloc w o g h.lt)
theorem Sc.far (h : Sc w g n cap xs) {p : Addr} (hp : g ≠ p.block) (u : Value) : Sc (w.setCell p u) g n cap xs := h.of_heap (Below.heap_setCell w p u g hp)
theorem Sc.set (h : Sc w g n cap xs) (j : Nat) (x : ByteArray) : Sc (w.setCell ⟨g, j, none⟩ (.string x)) g n cap (xs.set j x) := by
  obtain ⟨cur, hh, h1, h2, h3, h4⟩ := h.form
  refine Sc.mk' (cur := cur.setIfInBounds j (.string x)) (by simp [World.setCell, Array.getElem?_modify, hh]) h1 h2 (by simpa using h3) ?_
  rw [Array.toList_setIfInBounds, List.take_set, h4, Sg_set]
theorem Sc.grown (h : Sc w g n cap xs) {row : Option Nat} (hg : w.grownBy w' row) (hne : some g ≠ row) : Sc w' g n cap xs := h.of_heap (hg.block g h.lt hne)
theorem Only.Sc {a : World} {g0 : Nat} (h : Only g0 w a) {g' n cap : Nat} {xs : List ByteArray} (hp : Sc w g' n cap xs) (hne : g' ≠ g0) : Sc a g' n cap xs := hp.of_heap (h.block g' hp.lt (by intro e; injection e with e; exact hne e))
/-- A new block of one element, as an append lays it. -/
theorem Sc.one (w : World) (x : ByteArray) : Sc (w.alloc (.cells #[.string x] 46)) w.heap.size 1 1 [x] :=
  Sc.mk' (heap_alloc_new w _) (Nat.le_refl _) (by unfold maxLen; omega) rfl rfl
end

theorem Tryz.infoSc : (Tryz.prog.info? 46).map (fun i => (i.zero, i.size, i.bytes)) = some (some (.string ⟨#[]⟩), 1, 16) := by kernel_rfl
/-- n zeros, in a new block. -/
def SZ (n : Nat) : Array Value := madeCells #[.string ⟨#[]⟩] n
theorem SZ_size (n : Nat) : (SZ n).size = n := size_madeCells _ n
theorem SZ_list (n : Nat) : (SZ n).toList = Sg (List.replicate n (⟨#[]⟩ : ByteArray)) := by
  unfold SZ Sg
  (rw [toList_madeCells_one, List.map_replicate]) <;> rfl
theorem make_Sc (T : TypeId) (hT : Tryz.prog.underlying T = some (.slice 46)) (l c : Nat) (hl : l ≤ c) (hc : c ≤ 1000000000000) (w : World) :
    (Instr.makeSlice T (.int .i64 (l : Int)) (.int .i64 (c : Int))).run Tryz.prog w = .ok (.slice (some ⟨w.heap.size, 0, none⟩) l c) (w.alloc (.cells (SZ c) 46)) := by
  obtain ⟨i, hi, hz, hs, hb⟩ := info_parts Tryz.infoSc
  have h := run_make (P := Tryz.prog) w T 46 i _ hT hi hz .i64 .i64 (l : Int) (c : Int) (by omega) (by omega) (by rw [hb]; omega) (by omega)
  simp only [Int.toNat_natCast, hs, Nat.mul_one] at h
  exact h
theorem Sc.made (w : World) (l c : Nat) (hl : l ≤ c) (hc : c ≤ 1000000000000) : Sc (w.alloc (.cells (SZ c) 46)) w.heap.size l c (List.replicate l (⟨#[]⟩ : ByteArray)) := by
  refine Sc.mk' (heap_alloc_new w _) hl (by unfold maxLen; omega) (SZ_size c) ?_
  rw [SZ_list, Sg_take, List.take_replicate, Nat.min_eq_left hl]

/-- append: onto a row of the call's own, of another row (one new element, or '...'). -/
theorem append_Sc {ops : Array Oper} {rest : List Oper} {o : Oper} {a : Act} {w : World} {Q : Exit → Act → World → Prop} (hgd : o.guard = none) (s x : Operand) (t : TypeId)
    (ho : o.op = .call { callee := .builtin .append, args := #[s, x], argTypes := #[t, t] }) (ht : Tryz.prog.underlying t = some (.slice 46))
    (g n cap : Nat) (xs : List ByteArray) (hs : a.eval s = .slice (some ⟨g, 0, none⟩) n cap) (hp : Sc w g n cap xs)
    (g2 m c : Nat) (ys : List ByteArray) (hx : a.eval x = .slice (some ⟨g2, 0, none⟩) m c) (hq : Sc w g2 m c ys) (hbd : n + m ≤ 1000000000000)
    (h : ∀ g' cap' w', Sc w' g' (n + m) cap' (xs ++ ys) → Only g w w' → (g' = g ∨ g' = w.heap.size) → wpList Tryz.prog ops Q rest (a.put o.dst (.slice (some ⟨g', 0, none⟩) (n + m) cap')) w') :
    wpList Tryz.prog ops Q (o :: rest) a w := by
  obtain ⟨i, hi, hz, hsz, hb⟩ := info_parts Tryz.infoSc
  have hl := hq.len
  obtain ⟨v', w', hr, h2, h3, h4, h5⟩ := run_append_own_at (P := Tryz.prog) w 0 t o.type 46 i _ 1 16 ht hi hz hsz hb rfl (by decide) _ n (Sg xs) hp ⟨g2, 0, none⟩ m c (Sg ys) (by rw [Sg_len]; omega)
    (fun j u hu => by
      have hj : j < m := by have := (List.getElem?_eq_some_iff.1 hu).1; rw [Sg_len] at this; omega
      have hadd : (⟨g2, 0, none⟩ : Addr).add j = ⟨g2, j, none⟩ := by unfold Addr.add; split <;> simp_all
      rw [hadd, World.ownsRow.cellAt hq j (by omega), hu])
    (Sg_one' ys) (by unfold maxLen; omega) (by omega) (Nat.zero_le _)
  obtain ⟨g', cap', rfl, hlt⟩ : ∃ g' cap', v' = .slice (some ⟨g', 0, none⟩) (n + m) cap' ∧ True := by
    rcases h2.2 with ⟨e, _⟩ | ⟨g', cap', cur, e, _⟩
    · have := (h4.1 e).1; cases this
    · exact ⟨g', cap', e, trivial⟩
  refine wpList_plain hgd fun _ hK => ?_
  unfold Oper.wp execOp
  simp only [ho, resolve, invoke, builtin, Sem.run_bind, Sem.run_pure, Result.andThen_ok, List.map_toArray, List.map_cons, List.map_nil, hs, hx, hr]
  refine hK _ _ (h g' cap' w' ?_ h3 ?_)
  · rw [Sg_append] at h2; exact h2
  · rcases h5 with h5 | h5
    · left; simpa [Value.ownBlock] using h5
    · right; simpa [Value.ownBlock] using h5

/-- append onto nil. -/
theorem append_nil_Nc {ops : Array Oper} {rest : List Oper} {o : Oper} {a : Act} {w : World} {Q : Exit → Act → World → Prop} (hgd : o.guard = none) (s x : Operand) (t : TypeId)
    (ho : o.op = .call { callee := .builtin .append, args := #[s, x], argTypes := #[t, t] }) (ht : Tryz.prog.underlying t = some (.slice 3))
    (hs : a.eval s = .slice none 0 0) (g2 m c : Nat) (ys : List Nat) (hx : a.eval x = .slice (some ⟨g2, 0, none⟩) m c) (hq : Nc w g2 m c ys) (hm : 0 < m) (hbd : m ≤ 1000000000000)
    (h : ∀ cap' w', Nc w' w.heap.size m cap' ys → Below w.heap.size w w' → wpList Tryz.prog ops Q rest (a.put o.dst (.slice (some ⟨w.heap.size, 0, none⟩) m cap')) w') :
    wpList Tryz.prog ops Q (o :: rest) a w := by
  obtain ⟨i, hi, hz, hsz, hb⟩ := info_parts Tryz.infoNc
  have hl := hq.len
  obtain ⟨v', w', hr, h2, h3, h4, h5⟩ := run_append_own_at (P := Tryz.prog) w w.heap.size t o.type 3 i _ 1 8 ht hi hz hsz hb rfl (by decide) _ 0 [] (World.ownsRow_nil w w.heap.size 3 1) ⟨g2, 0, none⟩ m c (Ni ys) (by rw [Ni_len]; omega)
    (fun j u hu => by
      have hj : j < m := by have := (List.getElem?_eq_some_iff.1 hu).1; rw [Ni_len] at this; omega
      have hadd : (⟨g2, 0, none⟩ : Addr).add j = ⟨g2, j, none⟩ := by unfold Addr.add; split <;> simp_all
      rw [hadd, World.ownsRow.cellAt hq j (by omega), hu])
    (Ni_one' ys) (by unfold maxLen; omega) (by omega) (Nat.le_refl _)
  rw [Nat.zero_add, List.nil_append] at h2
  obtain ⟨g', cap', rfl⟩ : ∃ g' cap', v' = .slice (some ⟨g', 0, none⟩) m cap' := by
    rcases h2.2 with ⟨e, _⟩ | ⟨g', cap', cur, e, _⟩
    · have := (h4.1 e).2; omega
    · exact ⟨g', cap', e⟩
  have hg' : g' = w.heap.size := by
    rcases h5 with h5 | h5
    · simp [Value.ownBlock] at h5
    · simpa [Value.ownBlock] using h5
  subst hg'
  refine wpList_plain hgd fun _ hK => ?_
  unfold Oper.wp execOp
  simp only [ho, resolve, invoke, builtin, Sem.run_bind, Sem.run_pure, Result.andThen_ok, List.map_toArray, List.map_cons, List.map_nil, hs, hx, hr]
  exact hK _ _ (h cap' w' (Nc.of_own h2 rfl) ⟨h3.os, h3.tape, h3.output, h3.size, fun k hk => h3.block k hk (by simp [Value.ownBlock])⟩)

/-- append onto nil. -/
theorem append_nil_Sc {ops : Array Oper} {rest : List Oper} {o : Oper} {a : Act} {w : World} {Q : Exit → Act → World → Prop} (hgd : o.guard = none) (s x : Operand) (t : TypeId)
    (ho : o.op = .call { callee := .builtin .append, args := #[s, x], argTypes := #[t, t] }) (ht : Tryz.prog.underlying t = some (.slice 46))
    (hs : a.eval s = .slice none 0 0) (g2 m c : Nat) (ys : List ByteArray) (hx : a.eval x = .slice (some ⟨g2, 0, none⟩) m c) (hq : Sc w g2 m c ys) (hm : 0 < m) (hbd : m ≤ 1000000000000)
    (h : ∀ cap' w', Sc w' w.heap.size m cap' ys → Below w.heap.size w w' → wpList Tryz.prog ops Q rest (a.put o.dst (.slice (some ⟨w.heap.size, 0, none⟩) m cap')) w') :
    wpList Tryz.prog ops Q (o :: rest) a w := by
  obtain ⟨i, hi, hz, hsz, hb⟩ := info_parts Tryz.infoSc
  have hl := hq.len
  obtain ⟨v', w', hr, h2, h3, h4, h5⟩ := run_append_own_at (P := Tryz.prog) w w.heap.size t o.type 46 i _ 1 16 ht hi hz hsz hb rfl (by decide) _ 0 [] (World.ownsRow_nil w w.heap.size 46 1) ⟨g2, 0, none⟩ m c (Sg ys) (by rw [Sg_len]; omega)
    (fun j u hu => by
      have hj : j < m := by have := (List.getElem?_eq_some_iff.1 hu).1; rw [Sg_len] at this; omega
      have hadd : (⟨g2, 0, none⟩ : Addr).add j = ⟨g2, j, none⟩ := by unfold Addr.add; split <;> simp_all
      rw [hadd, World.ownsRow.cellAt hq j (by omega), hu])
    (Sg_one' ys) (by unfold maxLen; omega) (by omega) (Nat.le_refl _)
  rw [Nat.zero_add, List.nil_append] at h2
  obtain ⟨g', cap', rfl⟩ : ∃ g' cap', v' = .slice (some ⟨g', 0, none⟩) m cap' := by
    rcases h2.2 with ⟨e, _⟩ | ⟨g', cap', cur, e, _⟩
    · have := (h4.1 e).2; omega
    · exact ⟨g', cap', e⟩
  have hg' : g' = w.heap.size := by
    rcases h5 with h5 | h5
    · simp [Value.ownBlock] at h5
    · simpa [Value.ownBlock] using h5
  subst hg'
  refine wpList_plain hgd fun _ hK => ?_
  unfold Oper.wp execOp
  simp only [ho, resolve, invoke, builtin, Sem.run_bind, Sem.run_pure, Result.andThen_ok, List.map_toArray, List.map_cons, List.map_nil, hs, hx, hr]
  exact hK _ _ (h cap' w' (Sc.of_own h2 rfl) ⟨h3.os, h3.tape, h3.output, h3.size, fun k hk => h3.block k hk (by simp [Value.ownBlock])⟩)

/-- A slice of ints that hold natural numbers, nil let in: '.slice A n cap'. -/
def Ns (w : World) (A : Option Addr) (n cap : Nat) (xs : List Nat) : Prop := (A = none ∧ n = 0 ∧ cap = 0 ∧ xs = []) ∨ ∃ g, A = some ⟨g, 0, none⟩ ∧ Nc w g n cap xs
section
variable {w w' : World} {A : Option Addr} {n cap : Nat} {xs : List Nat}
theorem Ns.nil (w : World) : Ns w none 0 0 [] := .inl ⟨rfl, rfl, rfl, rfl⟩
theorem Ns.of {g : Nat} (h : Nc w g n cap xs) : Ns w (some ⟨g, 0, none⟩) n cap xs := .inr ⟨g, rfl, h⟩
theorem Ns.len (h : Ns w A n cap xs) : xs.length = n := by
  rcases h with ⟨_, rfl, _, rfl⟩ | ⟨g, _, h⟩
  · rfl
  · exact h.len
theorem Ns.le (h : Ns w A n cap xs) : n ≤ cap := by
  rcases h with ⟨_, rfl, rfl, _⟩ | ⟨g, _, h⟩
  · exact Nat.le_refl _
  · exact h.le
theorem Ns.cap_le (h : Ns w A n cap xs) : cap ≤ 9223372036854775807 := by
  rcases h with ⟨_, _, rfl, _⟩ | ⟨g, _, h⟩
  · omega
  · exact h.cap_le
theorem Ns.at_ (h : Ns w A n cap xs) {k : Nat} (hk : k < n) : ∃ g, A = some ⟨g, 0, none⟩ ∧ Nc w g n cap xs := by
  rcases h with ⟨_, rfl, _, _⟩ | h
  · omega
  · exact h
theorem Ns.below (h : Ns w A n cap xs) {B : Nat} (hb : Below B w w') (hB : w.heap.size ≤ B) : Ns w' A n cap xs := by
  rcases h with h | ⟨g, e, h⟩
  · exact .inl h
  · exact .inr ⟨g, e, h.below hb (Nat.lt_of_lt_of_le h.lt hB)⟩
theorem Ns.take (h : Ns w A n cap xs) (k : Nat) (hk : k ≤ n) : Ns w A k cap (xs.take k) := by
  rcases h with ⟨e, rfl, e2, rfl⟩ | ⟨g, e, h⟩
  · exact .inl ⟨e, by omega, e2, by simp⟩
  · exact .inr ⟨g, e, h.take k hk⟩
end

/-- A slice of strings, nil let in: '.slice A n cap'. -/
def Ss (w : World) (A : Option Addr) (n cap : Nat) (xs : List ByteArray) : Prop := (A = none ∧ n = 0 ∧ cap = 0 ∧ xs = []) ∨ ∃ g, A = some ⟨g, 0, none⟩ ∧ Sc w g n cap xs
section
variable {w w' : World} {A : Option Addr} {n cap : Nat} {xs : List ByteArray}
theorem Ss.nil (w : World) : Ss w none 0 0 [] := .inl ⟨rfl, rfl, rfl, rfl⟩
theorem Ss.of {g : Nat} (h : Sc w g n cap xs) : Ss w (some ⟨g, 0, none⟩) n cap xs := .inr ⟨g, rfl, h⟩
theorem Ss.len (h : Ss w A n cap xs) : xs.length = n := by
  rcases h with ⟨_, rfl, _, rfl⟩ | ⟨g, _, h⟩
  · rfl
  · exact h.len
theorem Ss.le (h : Ss w A n cap xs) : n ≤ cap := by
  rcases h with ⟨_, rfl, rfl, _⟩ | ⟨g, _, h⟩
  · exact Nat.le_refl _
  · exact h.le
theorem Ss.cap_le (h : Ss w A n cap xs) : cap ≤ 9223372036854775807 := by
  rcases h with ⟨_, _, rfl, _⟩ | ⟨g, _, h⟩
  · omega
  · exact h.cap_le
theorem Ss.at_ (h : Ss w A n cap xs) {k : Nat} (hk : k < n) : ∃ g, A = some ⟨g, 0, none⟩ ∧ Sc w g n cap xs := by
  rcases h with ⟨_, rfl, _, _⟩ | h
  · omega
  · exact h
theorem Ss.below (h : Ss w A n cap xs) {B : Nat} (hb : Below B w w') (hB : w.heap.size ≤ B) : Ss w' A n cap xs := by
  rcases h with h | ⟨g, e, h⟩
  · exact .inl h
  · exact .inr ⟨g, e, h.below hb (Nat.lt_of_lt_of_le h.lt hB)⟩
theorem Ss.take (h : Ss w A n cap xs) (k : Nat) (hk : k ≤ n) : Ss w A k cap (xs.take k) := by
  rcases h with ⟨e, rfl, e2, rfl⟩ | ⟨g, e, h⟩
  · exact .inl ⟨e, by omega, e2, by simp⟩
  · exact .inr ⟨g, e, h.take k hk⟩
end
end
section
/-- The canonical text of an integer. -/
def itx (z : Int) : ByteArray := ⟨(Lib.itoa z).toArray⟩
/-- How many digits the magnitude has. -/
def nz (z : Int) : Nat := Lib.nDigits z.natAbs
theorem itx_data (z : Int) : (itx z).data.toList = Lib.itoa z := by simp [itx]
theorem itoa_neg {z : Int} (h : z < 0) : Lib.itoa z = 45 :: Lib.decDigits z.natAbs := by rw [Lib.itoa, if_pos h]
theorem itoa_pos {z : Int} (h : 0 ≤ z) : Lib.itoa z = Lib.decDigits z.natAbs := by
  rw [Lib.itoa, if_neg (by omega), show z.toNat = z.natAbs by omega]
theorem itx_of_pos {z : Int} (h : 0 ≤ z) : itx z = dec z.natAbs := by unfold itx dec; rw [itoa_pos h]
theorem itx_nat (n : Nat) : itx (n : Int) = dec n := by rw [itx_of_pos (by omega), Int.natAbs_natCast]
theorem itx_of_neg {z : Int} (h : z < 0) : itx z = ⟨(45 :: Lib.decDigits z.natAbs).toArray⟩ := by unfold itx; rw [itoa_neg h]
theorem itx_toList (z : Int) : (itx z).toList = Lib.itoa z := by rw [ByteArray.toList_eq, itx_data]
theorem itx_size (z : Int) : (itx z).size = nz z + (if z < 0 then 1 else 0) := by
  show (itx z).data.toList.length = _
  rw [itx_data]
  by_cases h : z < 0
  · rw [itoa_neg h, List.length_cons, Lib.decDigits_length, if_pos h, nz]
  · rw [itoa_pos (by omega), Lib.decDigits_length, if_neg h, nz, Nat.add_zero]
theorem itx_size_le (z : Int) : (itx z).size ≤ nz z + 1 := by rw [itx_size]; split <;> omega
theorem itx_size_ge (z : Int) : nz z ≤ (itx z).size := by rw [itx_size]; omega
theorem itx_size_pos (z : Int) : 0 < (itx z).size := by have := itx_size_ge z; have := Lib.nDigits_pos z.natAbs; unfold nz at *; omega
theorem nz_pos (z : Int) : 1 ≤ nz z := Lib.nDigits_pos _
theorem nz_neg (z : Int) : nz (-z) = nz z := by unfold nz; rw [Int.natAbs_neg]
theorem nz_nat (n : Nat) : nz (n : Int) = Lib.nDigits n := by unfold nz; rw [Int.natAbs_natCast]
theorem nz_mono {a b : Int} (h : a.natAbs ≤ b.natAbs) : nz a ≤ nz b := nd_mono h
theorem nz_add (a b : Int) : nz (a + b) ≤ max (nz a) (nz b) + 1 := by
  unfold nz
  refine Nat.le_trans (nd_mono (Int.natAbs_add_le a b)) ?_
  have h1 := Lib.lt_pow_nDigits a.natAbs
  have h2 := Lib.lt_pow_nDigits b.natAbs
  rw [nd_le_iff]
  have h3 : 10 ^ Lib.nDigits a.natAbs ≤ 10 ^ max (Lib.nDigits a.natAbs) (Lib.nDigits b.natAbs) := Nat.pow_le_pow_right (by decide) (by omega)
  have h4 : 10 ^ Lib.nDigits b.natAbs ≤ 10 ^ max (Lib.nDigits a.natAbs) (Lib.nDigits b.natAbs) := Nat.pow_le_pow_right (by decide) (by omega)
  rw [Nat.pow_succ]; omega
theorem nz_sub (a b : Int) : nz (a - b) ≤ max (nz a) (nz b) + 1 := by
  rw [Int.sub_eq_add_neg, ← nz_neg b]; exact nz_add a (-b)
theorem nz_mul (a b : Int) : nz (a * b) ≤ nz a + nz b := by
  unfold nz
  rw [Int.natAbs_mul]
  have h1 := Lib.lt_pow_nDigits a.natAbs
  have h2 := Lib.lt_pow_nDigits b.natAbs
  have h3 := Lib.nDigits_pos a.natAbs
  have h5 := (nd_le_iff (a.natAbs * b.natAbs) (Lib.nDigits a.natAbs + Lib.nDigits b.natAbs - 1)).2
  rw [show Lib.nDigits a.natAbs + Lib.nDigits b.natAbs - 1 + 1 = Lib.nDigits a.natAbs + Lib.nDigits b.natAbs by omega] at h5
  refine h5 ?_
  rw [Nat.pow_add]
  exact Nat.mul_lt_mul'' h1 h2
theorem nz_le_iff (z : Int) (k : Nat) : nz z ≤ k + 1 ↔ z.natAbs < 10 ^ (k + 1) := nd_le_iff _ _

theorem dd_head_ge (n : Nat) : ∃ c r, Lib.decDigits n = c :: r ∧ 48 ≤ c.toNat ∧ c.toNat ≤ 57 := by
  cases h : Lib.decDigits n with
  | nil => exact absurd h (dd_ne_nil n)
  | cons c r =>
    have ha := all_dd n
    rw [h, List.all_cons, Bool.and_eq_true, isDig_iff] at ha
    exact ⟨c, r, rfl, ha.1⟩
theorem itoa_inj {a b : Int} (h : Lib.itoa a = Lib.itoa b) : a = b := by
  obtain ⟨c, r, hc, h1, h2⟩ := dd_head_ge a.natAbs
  obtain ⟨d, s, hd, h3, h4⟩ := dd_head_ge b.natAbs
  have h45 : (45 : UInt8).toNat = 45 := rfl
  by_cases ha : a < 0
  · by_cases hb : b < 0
    · rw [itoa_neg ha, itoa_neg hb] at h
      injection h with _ h
      have := dd_inj h
      omega
    · rw [itoa_neg ha, itoa_pos (by omega), hd] at h
      injection h with h _
      rw [← h] at h3; omega
  · by_cases hb : b < 0
    · rw [itoa_pos (by omega), itoa_neg hb, hc] at h
      injection h with h _
      rw [h] at h1; omega
    · rw [itoa_pos (by omega), itoa_pos (by omega)] at h
      have := dd_inj h
      omega
theorem itx_inj {a b : Int} (h : itx a = itx b) : a = b := itoa_inj (by rw [← itx_data, h, itx_data])
theorem itx_beq (a b : Int) : ((itx a).toList == (itx b).toList) = decide (a = b) := by
  rw [itx_toList, itx_toList, Bool.eq_iff_iff, beq_iff_eq, decide_eq_true_eq]
  exact ⟨itoa_inj, fun h => by rw [h]⟩
theorem itx_zero : itx 0 = dec 0 := itx_nat 0
theorem itoa_zero : Lib.itoa 0 = [48] := by rw [itoa_pos (by omega)]; exact dd_small (by omega)
theorem itoa_one : Lib.itoa 1 = [49] := by rw [itoa_pos (by omega)]; exact dd_small (by omega)
theorem itx_lit_zero : itx 0 = ⟨#[48]⟩ := by unfold itx; rw [itoa_zero]
theorem itx_lit_one : itx 1 = ⟨#[49]⟩ := by unfold itx; rw [itoa_one]
theorem itx_zero_test {z : Int} (h : z ≠ 0) : ((itx z).toList == [48]) = false := by
  rw [itx_toList, beq_eq_false_iff_ne, ← itoa_zero]
  exact fun e => h (itoa_inj e)
theorem itx_zero_same : ((itx 0).toList == [48]) = true := by rw [itx_toList, itoa_zero]; rfl
theorem itx_one_test {z : Int} (h : z ≠ 1) : ((itx z).toList == [49]) = false := by
  rw [itx_toList, beq_eq_false_iff_ne, ← itoa_one]
  exact fun e => h (itoa_inj e)
theorem itx_one_same : ((itx 1).toList == [49]) = true := by rw [itx_toList, itoa_one]; rfl

/-! The library's words at canonical texts. -/
theorem parseU' (l : List UInt8) (h : l.all isDig = true) : ∀ acc : Nat, acc < 18446744073709551616 →
    Lib.parseUintM 18446744073709551615 acc l = if acc * 10 ^ l.length + val l < 18446744073709551616 then .ok (acc * 10 ^ l.length + val l) else .range := by
  induction l with
  | nil => intro acc ha; simp only [Lib.parseUintM, List.length_nil, Nat.pow_zero, Nat.mul_one, val_nil, Nat.add_zero]; rw [if_pos ha]
  | cons c r ih =>
    intro acc ha
    rw [List.all_cons, Bool.and_eq_true, isDig_iff] at h
    have hp : 0 < 10 ^ r.length := Nat.pow_pos (by decide)
    have hv := val_cons c r
    have e : acc * 10 ^ (c :: r).length + val (c :: r) = (acc * 10 + (c.toNat - 48)) * 10 ^ r.length + val r := by
      rw [hv, List.length_cons, Nat.pow_succ, Nat.add_mul, Nat.mul_comm (10 ^ r.length) 10, Nat.mul_assoc]; omega
    rw [Lib.parseUintM, if_pos h.1, e]
    have hge : acc * 10 + (c.toNat - 48) ≤ (acc * 10 + (c.toNat - 48)) * 10 ^ r.length + val r := by
      have := Nat.le_mul_of_pos_right (acc * 10 + (c.toNat - 48)) hp
      omega
    by_cases h1 : 1844674407370955162 ≤ acc
    · rw [if_pos h1, if_neg (by omega)]
    · rw [if_neg h1]
      by_cases h2 : 18446744073709551615 < acc * 10 + (c.toNat - 48)
      · rw [if_pos h2, if_neg (by omega)]
      · rw [if_neg h2, ih h.2 _ (by omega)]
theorem parseU_dd (n : Nat) : Lib.parseUintB 64 (Lib.decDigits n) = if n < 18446744073709551616 then .ok n else .range := by
  have h := parseU' (Lib.decDigits n) (all_dd n) 0 (by decide)
  rw [Nat.zero_mul, Nat.zero_add, val_dd] at h
  unfold Lib.parseUintB
  rw [if_neg (dd_ne_nil n)]
  exact h
/-- ParseInt at 64 bits of a canonical text. -/
theorem parseI_itoa (z : Int) : Lib.parseIntB 64 (Lib.itoa z) = if -9223372036854775808 ≤ z ∧ z ≤ 9223372036854775807 then .ok z else .range := by
  have h45 : (45 : UInt8).toNat = 45 := rfl
  by_cases h : z < 0
  · rw [itoa_neg h]
    unfold Lib.parseIntB
    simp only [h45, or_true, if_true]
    rw [parseU_dd]
    by_cases h1 : z.natAbs < 18446744073709551616
    · simp only [if_pos h1, not_true_eq_false, false_and, if_false, true_and]
      by_cases h2 : (2 : Nat) ^ (64 - 1) < z.natAbs
      · rw [if_pos h2, if_neg (by omega)]
      · rw [if_neg h2, if_pos (by omega)]
        congr 1; omega
    · simp only [if_neg h1]
      rw [if_neg (by omega)]
  · rw [itoa_pos (by omega)]
    obtain ⟨c, r, hc, h1, h2⟩ := dd_head_ge z.natAbs
    have hp := parseU_dd z.natAbs
    rw [hc] at hp ⊢
    unfold Lib.parseIntB
    have e1 : ¬ c.toNat = 43 := by omega
    have e2 : ¬ c.toNat = 45 := by omega
    simp only [e1, e2, or_self, if_false, hp, not_false_eq_true, true_and, false_and]
    by_cases h3 : z.natAbs < 18446744073709551616
    · simp only [if_pos h3]
      by_cases h4 : (2 : Nat) ^ (64 - 1) ≤ z.natAbs
      · rw [if_pos h4, if_neg (by omega)]
      · rw [if_neg h4, if_pos (by omega)]
        congr 1; omega
    · simp only [if_neg h3]
      rw [if_neg (by omega)]
theorem digitVal_dig (c : UInt8) (h : isDig c = true) : Lib.digitVal c = some (c.toNat - 48) := by
  rw [isDig_iff] at h
  unfold Lib.digitVal
  rw [if_pos (by simpa using h)]
theorem decFrom_val (l : List UInt8) (h : l.all isDig = true) : ∀ acc, Lib.decFrom acc l = some (acc * 10 ^ l.length + val l) := by
  induction l with
  | nil => intro acc; simp [Lib.decFrom, val_nil]
  | cons c r ih =>
    intro acc
    rw [List.all_cons, Bool.and_eq_true] at h
    rw [Lib.decFrom, digitVal_dig c h.1]
    show Lib.decFrom (acc * 10 + (c.toNat - 48)) r = _
    rw [ih h.2, val_cons, List.length_cons, Nat.pow_succ, Nat.add_mul, Nat.mul_comm (10 ^ r.length) 10, Nat.mul_assoc]
    congr 1; omega
theorem atoi_itoa (z : Int) : Lib.atoi (Lib.itoa z) = some z := by
  have key : ∀ n, Lib.decNat (Lib.decDigits n) = some n := by
    intro n
    unfold Lib.decNat
    have : (Lib.decDigits n).isEmpty = false := by
      cases h : Lib.decDigits n with
      | nil => exact absurd h (dd_ne_nil n)
      | cons c r => rfl
    rw [this, decFrom_val _ (all_dd n), val_dd]; simp
  by_cases h : z < 0
  · rw [itoa_neg h]
    unfold Lib.atoi
    simp only [beq_self_eq_true, if_true, key, Option.map_some]
    congr 1; omega
  · rw [itoa_pos (by omega)]
    obtain ⟨c, r, hc, h1, h2⟩ := dd_head_ge z.natAbs
    have hk := key z.natAbs
    rw [hc] at hk ⊢
    unfold Lib.atoi
    have e1 : (c == 45) = false := by rw [beq_eq_false_iff_ne]; intro e; rw [e] at h1; exact absurd h1 (by decide)
    have e2 : (c == 43) = false := by rw [beq_eq_false_iff_ne]; intro e; rw [e] at h1; exact absurd h1 (by decide)
    simp only [e1, e2, Bool.false_eq_true, if_false, hk, Option.map_some]
    congr 1; omega
end
section
/-- Quotient and remainder, rounded down; the remainder has the divisor's sign. -/
def fq (x y : Int) : Int := if 0 ≤ y then x / y else (-x) / (-y)
def fr (x y : Int) : Int := if 0 ≤ y then x % y else -((-x) % (-y))
def FD (x y q r : Int) : Prop := x = q * y + r ∧ (0 ≤ r ∧ r < y ∨ y < r ∧ r ≤ 0)
theorem FD_self (x : Int) {y : Int} (h : y ≠ 0) : FD x y (fq x y) (fr x y) := by
  unfold FD fq fr
  by_cases h0 : 0 ≤ y
  · rw [if_pos h0, if_pos h0]
    have h1 := Int.emod_nonneg x h
    have h2 := Int.emod_lt_of_pos x (show 0 < y by omega)
    have h3 := Int.mul_ediv_add_emod x y
    exact ⟨by rw [Int.mul_comm]; omega, by omega⟩
  · rw [if_neg h0, if_neg h0]
    have h1 := Int.emod_nonneg (-x) (show -y ≠ 0 by omega)
    have h2 := Int.emod_lt_of_pos (-x) (show 0 < -y by omega)
    have h3 := Int.mul_ediv_add_emod (-x) (-y)
    have h4 : -x / -y * y = -(-y * (-x / -y)) := by rw [Int.neg_mul, Int.neg_neg, Int.mul_comm]
    exact ⟨by rw [h4]; omega, by omega⟩
theorem FD.eq {x y q r : Int} (h : FD x y q r) : fq x y = q ∧ fr x y = r := by
  obtain ⟨h1, h2⟩ := h
  unfold fq fr
  rcases h2 with h2 | h2
  · rw [if_pos (by omega), if_pos (by omega)]
    exact (Int.ediv_emod_unique (by omega)).2 ⟨by rw [Int.mul_comm]; omega, h2.1, h2.2⟩
  · rw [if_neg (by omega), if_neg (by omega)]
    have h3 : -x = -r + -y * q := by rw [h1, Int.mul_comm, Int.neg_mul]; omega
    have h4 := (Int.ediv_emod_unique (a := -x) (b := -y) (r := -r) (q := q) (by omega)).2 ⟨h3.symm, by omega, by omega⟩
    rw [h4.1, h4.2]
    exact ⟨rfl, by omega⟩
/-- Go's division, put right. -/
theorem FD_tdiv (x : Int) {y : Int} (h : y ≠ 0) :
    (¬ (x.tmod y ≠ 0 ∧ decide (x.tmod y < 0) ≠ decide (y < 0)) → FD x y (x.tdiv y) (x.tmod y)) ∧ ((x.tmod y ≠ 0 ∧ decide (x.tmod y < 0) ≠ decide (y < 0)) → FD x y (x.tdiv y - 1) (x.tmod y + y)) := by
  have h3 := Int.mul_tdiv_add_tmod x y
  have h4 : (x.tmod y).natAbs < y.natAbs := by rw [Int.natAbs_tmod]; exact Nat.mod_lt _ (by omega)
  rw [Int.mul_comm] at h3
  unfold FD
  generalize x.tmod y = r at *
  generalize x.tdiv y = q at *
  constructor
  · intro hn
    refine ⟨h3.symm, ?_⟩
    by_cases hr : r = 0
    · omega
    · by_cases h5 : r < 0 <;> by_cases h6 : y < 0
      · omega
      · exact absurd ⟨hr, by simp [h5, h6]⟩ hn
      · exact absurd ⟨hr, by simp [h5, h6]⟩ hn
      · omega
  · rintro ⟨hr, hs⟩
    refine ⟨by rw [Int.sub_mul, Int.one_mul]; omega, ?_⟩
    by_cases h5 : r < 0 <;> by_cases h6 : y < 0
    · simp [h5, h6] at hs
    · omega
    · omega
    · simp [h5, h6] at hs
theorem FD_nat_same {a b : Int} (hb : b ≠ 0) (h : (a < 0) ↔ (b < 0)) : FD a b ((a.natAbs / b.natAbs : Nat) : Int) (if b < 0 then -((a.natAbs % b.natAbs : Nat) : Int) else ((a.natAbs % b.natAbs : Nat) : Int)) := by
  have h1 := Nat.div_add_mod a.natAbs b.natAbs
  have h2 := Nat.mod_lt a.natAbs (show 0 < b.natAbs by omega)
  generalize a.natAbs / b.natAbs = q at *
  generalize hr : a.natAbs % b.natAbs = r at *
  have h3 : ((b.natAbs * q : Nat) : Int) = (b.natAbs : Int) * (q : Int) := Int.natCast_mul _ _
  unfold FD
  by_cases hb0 : b < 0
  · have ha0 := h.2 hb0
    rw [if_pos hb0]
    have e : (b.natAbs : Int) = -b := by omega
    rw [e, Int.neg_mul, Int.mul_comm] at h3
    exact ⟨by omega, by omega⟩
  · have ha0 : ¬ a < 0 := fun h' => hb0 (h.1 h')
    rw [if_neg hb0]
    have e : (b.natAbs : Int) = b := by omega
    rw [e, Int.mul_comm] at h3
    exact ⟨by omega, by omega⟩
theorem FD_nat_zero {a b : Int} (hb : b ≠ 0) (h : ¬ ((a < 0) ↔ (b < 0))) (hr : a.natAbs % b.natAbs = 0) : FD a b (-((a.natAbs / b.natAbs : Nat) : Int)) 0 := by
  have h1 := Nat.div_add_mod a.natAbs b.natAbs
  rw [hr] at h1
  generalize a.natAbs / b.natAbs = q at *
  have h3 : ((b.natAbs * q : Nat) : Int) = (b.natAbs : Int) * (q : Int) := Int.natCast_mul _ _
  unfold FD
  rw [Int.neg_mul]
  by_cases hb0 : b < 0
  · have e : (b.natAbs : Int) = -b := by omega
    rw [e, Int.neg_mul, Int.mul_comm] at h3
    exact ⟨by omega, by omega⟩
  · have e : (b.natAbs : Int) = b := by omega
    rw [e, Int.mul_comm] at h3
    exact ⟨by omega, by omega⟩
theorem FD_nat_more {a b : Int} (hb : b ≠ 0) (h : ¬ ((a < 0) ↔ (b < 0))) (hr : a.natAbs % b.natAbs ≠ 0) :
    FD a b (-((a.natAbs / b.natAbs + 1 : Nat) : Int)) (if b < 0 then -((b.natAbs - a.natAbs % b.natAbs : Nat) : Int) else ((b.natAbs - a.natAbs % b.natAbs : Nat) : Int)) := by
  have h1 := Nat.div_add_mod a.natAbs b.natAbs
  have h2 := Nat.mod_lt a.natAbs (show 0 < b.natAbs by omega)
  generalize a.natAbs / b.natAbs = q at *
  generalize a.natAbs % b.natAbs = r at *
  have h3 : ((b.natAbs * q : Nat) : Int) = (b.natAbs : Int) * (q : Int) := Int.natCast_mul _ _
  unfold FD
  rw [Int.neg_mul, Int.natCast_add, Int.add_mul]
  by_cases hb0 : b < 0
  · rw [if_pos hb0]
    have e : (b.natAbs : Int) = -b := by omega
    rw [e, Int.neg_mul, Int.mul_comm] at h3
    exact ⟨by omega, by omega⟩
  · rw [if_neg hb0]
    have e : (b.natAbs : Int) = b := by omega
    rw [e, Int.mul_comm] at h3
    exact ⟨by omega, by omega⟩
theorem fr_lt (x : Int) {y : Int} (h : y ≠ 0) : (fr x y).natAbs < y.natAbs := by have := (FD_self x h).2; omega
theorem fr_le (x : Int) {y : Int} (h : y ≠ 0) : (fr x y).natAbs ≤ y.natAbs := Nat.le_of_lt (fr_lt x h)
theorem fq_le (x y : Int) : (fq x y).natAbs ≤ x.natAbs + 1 := by
  by_cases h : y = 0
  · subst h; unfold fq; simp
  · obtain ⟨h1, h2⟩ := FD_self x h
    generalize fq x y = q at *
    generalize fr x y = r at *
    have h3 : (q * y).natAbs = q.natAbs * y.natAbs := Int.natAbs_mul q y
    have h4 : (q * y).natAbs ≤ x.natAbs + r.natAbs := by omega
    have h5 : r.natAbs < y.natAbs := by omega
    rw [h3] at h4
    rcases Nat.lt_or_ge (x.natAbs + 1) q.natAbs with h6 | h6
    · have h7 : (x.natAbs + 2) * y.natAbs ≤ q.natAbs * y.natAbs := Nat.mul_le_mul_right _ (by omega)
      rw [Nat.add_mul] at h7
      have h8 : x.natAbs * 1 ≤ x.natAbs * y.natAbs := Nat.mul_le_mul_left _ (by omega)
      omega
    · exact h6

/-- Euclid's way: the last remainder, and its number of the first one. -/
def bezL (r s u w : Int) : Int × Int := if _h : s = 0 then (r, u) else bezL s (fr r s) w (u - fq r s * w)
  termination_by s.natAbs
  decreasing_by exact fr_lt r (by assumption)
theorem bezL_zero (r u w : Int) : bezL r 0 u w = (r, u) := by rw [bezL, dif_pos rfl]
theorem bezL_step (r u w : Int) {s : Int} (h : s ≠ 0) : bezL r s u w = bezL s (fr r s) w (u - fq r s * w) := by rw [bezL, dif_neg h]
theorem gcd_step (r : Int) {s : Int} (h : s ≠ 0) : Int.gcd s (fr r s) = Int.gcd r s := by
  obtain ⟨h1, _⟩ := FD_self r h
  generalize fq r s = q at *
  generalize fr r s = t at *
  apply Nat.dvd_antisymm
  · have a1 := Int.gcd_dvd_left s t
    have a2 := Int.gcd_dvd_right s t
    have a3 : (Int.gcd s t : Int) ∣ r := by rw [h1]; exact Int.dvd_add (Int.dvd_mul_of_dvd_right a1) a2
    exact Int.natCast_dvd_natCast.1 (Int.dvd_coe_gcd a3 a1)
  · have a1 := Int.gcd_dvd_left r s
    have a2 := Int.gcd_dvd_right r s
    have a3 : (Int.gcd r s : Int) ∣ t := by
      have : t = r - q * s := by omega
      rw [this]; exact Int.dvd_sub a1 (Int.dvd_mul_of_dvd_right a2)
    exact Int.natCast_dvd_natCast.1 (Int.dvd_coe_gcd a2 a3)
/-- What holds on Euclid's way from a and b: r and s are numbers of a modulo b, and the numbers stay small. -/
structure BezAt (a b r s u w : Int) : Prop where
  fst : b ∣ r - a * u
  snd : b ∣ s - a * w
  gcd : Int.gcd r s = Int.gcd a b
  size : w.natAbs * r.natAbs + u.natAbs * s.natAbs ≤ b.natAbs
  ub : u.natAbs ≤ b.natAbs
  wb : w.natAbs ≤ b.natAbs
  rb : r.natAbs ≤ max a.natAbs b.natAbs
  sb : s.natAbs ≤ b.natAbs
  nz : ¬ (r = 0 ∧ s = 0)
  sign : w = 0 ∨ (0 ≤ r ∧ 0 ≤ s) ∨ (r ≤ 0 ∧ s ≤ 0)
theorem BezAt.start {a b : Int} (hb : b ≠ 0) : BezAt a b a b 1 0 :=
  ⟨by simp, by simp, rfl, by simp, by simp; omega, by simp, by omega, by omega, fun h => hb h.2, .inl rfl⟩
theorem BezAt.step {a b r s u w : Int} (h : BezAt a b r s u w) (hs : s ≠ 0) : BezAt a b s (fr r s) w (u - fq r s * w) := by
  have hfd := FD_self r hs
  have hg := gcd_step r hs
  generalize fq r s = q at *
  generalize fr r s = t at *
  obtain ⟨h1, h2⟩ := hfd
  have hts : t.natAbs < s.natAbs := by omega
  have hsz : (u - q * w).natAbs * s.natAbs + w.natAbs * t.natAbs ≤ b.natAbs := by
    have e1 : (u - q * w).natAbs ≤ u.natAbs + q.natAbs * w.natAbs := by
      have := Int.natAbs_sub_le u (q * w)
      rwa [Int.natAbs_mul] at this
    have e2 := Nat.mul_le_mul_right s.natAbs e1
    rw [Nat.add_mul] at e2
    have h0 := h.size
    rcases h.sign with hw | hsg
    · subst hw
      simp at e2 h0 ⊢
      omega
    · have e3 : q.natAbs * s.natAbs + t.natAbs = r.natAbs := by
        have e4 : (q * s).natAbs = q.natAbs * s.natAbs := Int.natAbs_mul q s
        rw [← e4]
        -- q s and t have the sign of r
        have hq0 : 0 ≤ q ∨ q * s + t < 0 ∧ 0 < s ∨ 0 < q * s + t ∧ s < 0 := by
          rcases Int.lt_or_le q 0 with hq | hq
          · rcases Int.lt_or_lt_of_ne hs with hs' | hs'
            · right; right
              have : 1 * (-s) ≤ (-q) * (-s) := Int.mul_le_mul_of_nonneg_right (by omega) (by omega)
              rw [Int.neg_mul_neg] at this
              omega
            · right; left
              have : 1 * s ≤ (-q) * s := Int.mul_le_mul_of_nonneg_right (by omega) (by omega)
              rw [Int.neg_mul] at this
              omega
          · exact .inl hq
        rcases hq0 with hq | hq | hq
        · rcases Int.lt_or_lt_of_ne hs with hs' | hs'
          · have : 0 ≤ q * (-s) := Int.mul_nonneg hq (by omega)
            rw [Int.mul_neg] at this
            omega
          · have : 0 ≤ q * s := Int.mul_nonneg hq (by omega)
            omega
        · omega
        · omega
      have e5 : w.natAbs * r.natAbs = q.natAbs * w.natAbs * s.natAbs + w.natAbs * t.natAbs := by
        rw [← e3, Nat.mul_add, Nat.mul_comm q.natAbs w.natAbs, Nat.mul_assoc]
      omega
  refine ⟨h.snd, ?_, by rw [hg]; exact h.gcd, hsz, h.wb, ?_, ?_, ?_, fun h => hs h.1, .inr (by omega)⟩
  · have e : t - a * (u - q * w) = (r - a * u) - q * (s - a * w) := by
      rw [h1, Int.mul_sub, Int.mul_sub, Int.mul_left_comm a q w]; omega
    rw [e]
    exact Int.dvd_sub h.fst (Int.dvd_mul_of_dvd_right h.snd)
  · have : (u - q * w).natAbs * 1 ≤ (u - q * w).natAbs * s.natAbs := Nat.mul_le_mul_left _ (by omega)
    omega
  · have := h.sb; omega
  · have := h.sb; omega
/-- The end of Euclid's way. -/
theorem BezAt.fin {a b : Int} : ∀ (n : Nat) (r s u w : Int), s.natAbs ≤ n → BezAt a b r s u w → ∃ w', BezAt a b (bezL r s u w).1 0 (bezL r s u w).2 w' := by
  intro n
  induction n with
  | zero =>
    intro r s u w hn h
    have : s = 0 := by omega
    subst this
    rw [bezL_zero]; exact ⟨w, h⟩
  | succ n ih =>
    intro r s u w hn h
    by_cases hs : s = 0
    · subst hs; rw [bezL_zero]; exact ⟨w, h⟩
    · rw [bezL_step r u w hs]
      have := fr_lt r hs
      exact ih _ _ _ _ (by omega) (h.step hs)
/-- The last remainder with the sign +, and its number of the first one. -/
def bezG (a b : Int) : Int := ((bezL a b 1 0).1.natAbs : Int)
def bezU (a b : Int) : Int := if (bezL a b 1 0).1 < 0 then -(bezL a b 1 0).2 else (bezL a b 1 0).2
/-- The Bezout numbers. -/
def bezX (a b : Int) : Int := if b = 0 then a.sign else fr (bezU a b) (fq (b.natAbs : Int) (bezG a b))
def bezY (a b : Int) : Int := if b = 0 then 0 else fq (bezG a b - a * bezX a b) b
theorem bezG_eq {a b : Int} (hb : b ≠ 0) : bezG a b = (Int.gcd a b : Int) := by
  obtain ⟨w, h⟩ := BezAt.fin _ a b 1 0 (Nat.le_refl _) (BezAt.start (a := a) hb)
  unfold bezG
  have := h.gcd
  rw [Int.gcd_zero_right] at this
  rw [this]
theorem bezU_dvd {a b : Int} (hb : b ≠ 0) : b ∣ bezG a b - a * bezU a b ∧ (bezU a b).natAbs ≤ b.natAbs := by
  obtain ⟨w, h⟩ := BezAt.fin _ a b 1 0 (Nat.le_refl _) (BezAt.start (a := a) hb)
  have h1 := h.fst
  have h2 := h.ub
  unfold bezG bezU
  generalize (bezL a b 1 0).1 = r at *
  generalize (bezL a b 1 0).2 = u at *
  by_cases h0 : r < 0
  · rw [if_pos h0]
    refine ⟨?_, by omega⟩
    have e : (r.natAbs : Int) - a * -u = -(r - a * u) := by rw [Int.mul_neg]; omega
    rw [e]; exact Int.dvd_neg.2 h1
  · rw [if_neg h0]
    refine ⟨?_, h2⟩
    have e : (r.natAbs : Int) = r := by omega
    rw [e]; exact h1
theorem bezG_pos {a b : Int} (hb : b ≠ 0) : 0 < bezG a b := by
  rw [bezG_eq hb]
  have := Int.gcd_pos_of_ne_zero_right a hb
  omega
theorem bez_by {a b : Int} (hb : b ≠ 0) : fq (b.natAbs : Int) (bezG a b) * bezG a b = (b.natAbs : Int) ∧ 0 < fq (b.natAbs : Int) (bezG a b) := by
  have hp := bezG_pos (a := a) hb
  have hd : bezG a b ∣ (b.natAbs : Int) := by
    rw [bezG_eq hb]; exact Int.natCast_dvd_natCast.2 (Int.gcd_dvd_natAbs_right a b)
  unfold fq
  rw [if_pos (by omega)]
  have h1 := Int.ediv_mul_cancel hd
  refine ⟨h1, ?_⟩
  rcases Int.lt_or_le 0 ((b.natAbs : Int) / bezG a b) with h | h
  · exact h
  · have : (b.natAbs : Int) / bezG a b * bezG a b ≤ 0 := Int.mul_nonpos_of_nonpos_of_nonneg h (by omega)
    omega
theorem bezX_dvd {a b : Int} (hb : b ≠ 0) : b ∣ bezG a b - a * bezX a b := by
  obtain ⟨h1, h2⟩ := bez_by (a := a) hb
  have h3 := (bezU_dvd (a := a) hb).1
  unfold bezX
  rw [if_neg hb]
  generalize hby : fq (b.natAbs : Int) (bezG a b) = by_ at *
  obtain ⟨h4, _⟩ := FD_self (bezU a b) (show by_ ≠ 0 by omega)
  generalize fq (bezU a b) by_ = k at *
  generalize fr (bezU a b) by_ = x at *
  have hga : bezG a b ∣ a := by rw [bezG_eq hb]; exact Int.gcd_dvd_left a b
  obtain ⟨c, hc⟩ := hga
  have e : bezG a b - a * x = (bezG a b - a * bezU a b) + a * (k * by_) := by
    rw [h4, Int.mul_add]; omega
  rw [e]
  refine Int.dvd_add h3 ?_
  have e2 : a * (k * by_) = (b.natAbs : Int) * (c * k) := by
    rw [← h1]
    conv => lhs; rw [hc]
    rw [Int.mul_comm k by_, Int.mul_comm by_ (bezG a b), Int.mul_assoc, Int.mul_assoc, Int.mul_left_comm c by_ k]
  rw [e2]
  exact Int.dvd_mul_of_dvd_left (Int.dvd_natAbs.2 (Int.dvd_refl b))
/-- The numbers combine to the greatest common divisor. -/
theorem bez_combine (a b : Int) : a * bezX a b + b * bezY a b = (Int.gcd a b : Int) := by
  by_cases hb : b = 0
  · subst hb
    unfold bezX bezY
    rw [if_pos rfl, if_pos rfl, Int.mul_zero, Int.add_zero, Int.gcd_zero_right]
    exact Int.mul_sign_self a
  · obtain ⟨k, hk⟩ := bezX_dvd (a := a) hb
    have : bezY a b = k := by
      unfold bezY
      rw [if_neg hb]
      refine (FD.eq (r := 0) ⟨by rw [hk, Int.mul_comm]; omega, ?_⟩).1
      omega
    rw [this, ← bezG_eq hb]; omega
theorem bezX_le {a b : Int} (hb : b ≠ 0) : (bezX a b).natAbs ≤ b.natAbs := by
  obtain ⟨h1, h2⟩ := bez_by (a := a) hb
  have hp := bezG_pos (a := a) hb
  unfold bezX
  rw [if_neg hb]
  have h3 := fr_le (bezU a b) (show fq (b.natAbs : Int) (bezG a b) ≠ 0 by omega)
  have h4 : fq (b.natAbs : Int) (bezG a b) * 1 ≤ fq (b.natAbs : Int) (bezG a b) * bezG a b := Int.mul_le_mul_of_nonneg_left (by omega) (by omega)
  omega
end
section
theorem take_getD_zero (xs : List Nat) (k : Nat) (h : xs.length ≤ k) : xs.getD k 0 = 0 := by
  rw [List.getD_eq_getElem?_getD, List.getElem?_eq_none h]; rfl
/-- The sum's first i pieces, and what is carried. -/
structure PlusAt (xs ys : List Nat) (i c : Nat) (o : List Nat) : Prop where
  sum : lv o + c * 1000000000 ^ i = lv (xs.take i) + lv (ys.take i)
  lims : Lims o
  len : o.length = i
  carry : c ≤ 1
theorem PlusAt.start (xs ys : List Nat) : PlusAt xs ys 0 0 [] := ⟨by simp [lv], Lims_nil, rfl, by omega⟩
theorem PlusAt.step {xs ys : List Nat} {i c : Nat} {o : List Nat} (h : PlusAt xs ys i c o) (hx : Lims xs) (hy : Lims ys) (t : Nat) (ht : t = c + xs.getD i 0 + ys.getD i 0) :
    PlusAt xs ys (i + 1) (t / 1000000000) (o ++ [t % 1000000000]) := by
  have h1 := Lims_getD hx i
  have h2 := Lims_getD hy i
  have h3 := h.carry
  refine ⟨?_, Lims_append.2 ⟨h.lims, fun x hx => ?_⟩, by rw [List.length_append, h.len]; rfl, by omega⟩
  · have e1 := lv_take_succ' xs i
    have e2 := lv_take_succ' ys i
    have e3 := h.sum
    rw [lv_snoc, h.len, e1, e2, pow_step]
    have e4 : t * 1000000000 ^ i = c * 1000000000 ^ i + xs.getD i 0 * 1000000000 ^ i + ys.getD i 0 * 1000000000 ^ i := by rw [ht, Nat.add_mul, Nat.add_mul]
    have e5 : 1000000000 ^ i * (t % 1000000000) + t / 1000000000 * (1000000000 * 1000000000 ^ i) = t * 1000000000 ^ i := by
      rw [Nat.mul_comm, ← Nat.mul_assoc, ← Nat.add_mul]; congr 1; omega
    omega
  · rw [List.mem_singleton.1 hx]; omega
theorem PlusAt.fin {xs ys : List Nat} {i : Nat} {o : List Nat} (h : PlusAt xs ys i 0 o) (h1 : xs.length ≤ i) (h2 : ys.length ≤ i) : lv o = lv xs + lv ys := by
  have := h.sum
  rw [List.take_of_length_le h1, List.take_of_length_le h2] at this
  omega
theorem PlusAt.more {xs ys : List Nat} {i : Nat} {o : List Nat} (h : PlusAt xs ys i 1 o) (hx : Lims xs) (hy : Lims ys) : i ≤ max xs.length ys.length := by
  rcases Nat.lt_or_ge (max xs.length ys.length) i with h1 | h1
  · exfalso
    obtain ⟨j, rfl⟩ : ∃ j, i = j + 1 := ⟨i - 1, by omega⟩
    have h2 := h.sum
    rw [List.take_of_length_le (by omega), List.take_of_length_le (by omega), pow_step] at h2
    have h3 := lv_lt xs hx
    have h4 := lv_lt ys hy
    have h5 : 1000000000 ^ xs.length ≤ 1000000000 ^ j := Nat.pow_le_pow_right (by decide) (by omega)
    have h6 : 1000000000 ^ ys.length ≤ 1000000000 ^ j := Nat.pow_le_pow_right (by decide) (by omega)
    omega
  · exact h1

/-- The difference's first i pieces, and what is borrowed. -/
structure MinusAt (xs ys : List Nat) (i c : Nat) (o : List Nat) : Prop where
  sum : lv o + lv (ys.take i) = lv (xs.take i) + c * 1000000000 ^ i
  lims : Lims o
  len : o.length = i
  borrow : c ≤ 1
theorem MinusAt.start (xs ys : List Nat) : MinusAt xs ys 0 0 [] := ⟨by simp [lv], Lims_nil, rfl, by omega⟩
theorem MinusAt.step {xs ys : List Nat} {i c : Nat} {o : List Nat} (h : MinusAt xs ys i c o) (d c' : Nat) (hd : d + c + ys.getD i 0 = xs.getD i 0 + c' * 1000000000) (hd' : d < 1000000000) (hc' : c' ≤ 1) :
    MinusAt xs ys (i + 1) c' (o ++ [d]) := by
  refine ⟨?_, Lims_append.2 ⟨h.lims, fun x hx => ?_⟩, by rw [List.length_append, h.len]; rfl, hc'⟩
  · have e1 := lv_take_succ' xs i
    have e2 := lv_take_succ' ys i
    have e3 := h.sum
    rw [lv_snoc, h.len, e1, e2, pow_step]
    have e4 : d * 1000000000 ^ i + c * 1000000000 ^ i + ys.getD i 0 * 1000000000 ^ i = xs.getD i 0 * 1000000000 ^ i + c' * 1000000000 * 1000000000 ^ i := by rw [← Nat.add_mul, ← Nat.add_mul, hd, Nat.add_mul]
    rw [Nat.mul_comm _ d, ← Nat.mul_assoc]
    omega
  · rw [List.mem_singleton.1 hx]; exact hd'
theorem MinusAt.fin {xs ys : List Nat} {i c : Nat} {o : List Nat} (h : MinusAt xs ys i c o) (h1 : xs.length = i) (h2 : ys.length ≤ i) (hle : lv ys ≤ lv xs) : lv o = lv xs - lv ys := by
  have e := h.sum
  rw [List.take_of_length_le (show xs.length ≤ i by omega), List.take_of_length_le h2] at e
  have h3 := lv_lt o h.lims
  rw [h.len] at h3
  have h4 := h.borrow
  have : c = 0 := by
    rcases Nat.eq_zero_or_pos c with h5 | h5
    · exact h5
    · have : c = 1 := by omega
      subst this; omega
  subst this
  omega

/-! ### times, with a last round where something is carried -/
theorem TimesAt.stop {v0 i a : Nat} {q : List Nat} {o : List Nat} (h : TimesAt v0 i a q q.length 0 o) :
    lv o = v0 + a * lv q * 1000000000 ^ i ∧ ∀ j, i + 1 + q.length ≤ j → o.getD j 0 = 0 := by
  have := h.sum
  rw [List.take_length] at this
  exact ⟨by omega, fun j hj => h.zero j (by omega)⟩

/-! ### divide -/
theorem lims_cons (x R : Nat) (hx : x < 1000000000) : trimL (x :: lims R) = lims (x + 1000000000 * R) := by
  rw [trimL_eq _ (Lims_cons.2 ⟨hx, Lims_lims R⟩), lv, lv_lims]
theorem lims_one_of {x : Nat} (h0 : x ≠ 0) (hx : x < 1000000000) : lims x = [x] := by
  rw [lims_pos h0, Nat.mod_eq_of_lt hx, Nat.div_eq_of_lt hx, lims_zero]
/-- The dividend's pieces from i on: quotient's pieces from i on and the rest R. -/
def QuoAt (xs : List Nat) (b i R : Nat) (o : List Nat) : Prop := o.length = xs.length ∧ Lims o ∧ lv (xs.drop i) = b * lv (o.drop i) + R ∧ R < b
theorem QuoAt.start {xs : List Nat} {b : Nat} (hb : 0 < b) : QuoAt xs b xs.length 0 (List.replicate xs.length 0) :=
  ⟨by simp, fun x hx => by rw [List.eq_of_mem_replicate hx]; omega, by rw [List.drop_length, List.drop_of_length_le (by simp)]; simp [lv], hb⟩
theorem QuoAt.step {xs : List Nat} {b i R : Nat} {o : List Nat} (h : QuoAt xs b (i + 1) R o) (hx : Lims xs) (hi : i < xs.length) :
    QuoAt xs b i ((xs.getD i 0 + 1000000000 * R) % b) (o.set i ((xs.getD i 0 + 1000000000 * R) / b)) ∧ (xs.getD i 0 + 1000000000 * R) / b < 1000000000 := by
  obtain ⟨h1, h2, h3, h4⟩ := h
  have hg := Lims_getD hx i
  have hq : (xs.getD i 0 + 1000000000 * R) / b < 1000000000 := by
    rw [Nat.div_lt_iff_lt_mul (by omega)]
    have := Nat.mul_le_mul_left 1000000000 (show R + 1 ≤ b by omega)
    omega
  refine ⟨⟨by rw [List.length_set, h1], Lims_set h2 _ _ hq, ?_, Nat.mod_lt _ (by omega)⟩, hq⟩
  have e := Nat.div_add_mod (xs.getD i 0 + 1000000000 * R) b
  rw [lv_drop_pred xs i hi, h3, lv_drop_pred (o.set i _) i (by rw [List.length_set, h1]; exact hi), drop_set_succ, getD_set_same _ _ _ (by rw [h1]; exact hi)]
  generalize (xs.getD i 0 + 1000000000 * R) / b = q at *
  rw [Nat.mul_add b q, Nat.mul_left_comm b 1000000000]
  omega
theorem QuoAt.fin {xs : List Nat} {b R : Nat} {o : List Nat} (h : QuoAt xs b 0 R o) : lv o = lv xs / b ∧ R = lv xs % b := by
  obtain ⟨h1, h2, h3, h4⟩ := h
  rw [List.drop_zero, List.drop_zero] at h3
  rw [h3]
  have hb : 0 < b := by omega
  exact ⟨by rw [Nat.mul_add_div hb, Nat.div_eq_of_lt h4, Nat.add_zero], by rw [Nat.mul_add_mod, Nat.mod_eq_of_lt h4]⟩
theorem mid_le {b N q m : Nat} (hb : 0 < b) (hq : N / b = q) : m * b ≤ N ↔ m ≤ q := by
  rw [← hq, Nat.le_div_iff_mul_le hb]
end
section
open Go.RowKit

/-- A slice of bytes that came in: its elements are l. -/
def InB (w : World) (A : Option Addr) (n cap : Nat) (l : List UInt8) : Prop :=
  l.length = n ∧ n ≤ cap ∧ cap ≤ 9223372036854775807 ∧ (0 < n → ∃ b off, A = some ⟨b, off, none⟩ ∧ b < w.heap.size ∧ ∀ j, j < n → w.cell? ⟨b, off + j, none⟩ = some (.int .u8 ((l.getD j 0).toNat : Int)))
theorem InB.below {w w' : World} {A : Option Addr} {n cap : Nat} {l : List UInt8} (h : InB w A n cap l) (hb : Below w.heap.size w w') : InB w' A n cap l := by
  refine ⟨h.1, h.2.1, h.2.2.1, fun hn => ?_⟩
  obtain ⟨b, off, e, hlt, hc⟩ := h.2.2.2 hn
  have := hb.size
  exact ⟨b, off, e, by omega, fun j hj => (hb.cell (p := ⟨b, off + j, none⟩) hlt).trans (hc j hj)⟩
end
end Go.Proofs.YtolnojkdalbppaaGreatDoor
