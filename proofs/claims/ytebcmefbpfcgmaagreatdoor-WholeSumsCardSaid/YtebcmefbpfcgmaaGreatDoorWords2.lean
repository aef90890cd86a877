/- Words for memory: rows of ints that hold natural numbers, rows of strings, nil let in; what appends to them. Printed by wip/gen_rows02.py. -/
import Derived.Test.YtebcmefbpfcgmaaGreatDoorWords
namespace Go.Proofs.YtebcmefbpfcgmaaGreatDoor
open Go.RowKit

/-! ## ints that hold natural numbers -/
/-- ints that hold natural numbers, as cells. -/
def Ni (xs : List Nat) : List Value := xs.map fun (x : Nat) => Value.int .i64 (x : Int)
theorem Ni_len (xs : List Nat) : (Ni xs).length = xs.length := by simp [Ni]
theorem Ni_get (xs : List Nat) (j : Nat) (h : j < xs.length) : (Ni xs)[j]? = some (.int .i64 ((xs.getD j 0 : Nat) : Int)) := by
  simp [Ni, List.getD_eq_getElem?_getD, List.getElem?_eq_getElem h]
theorem Ni_take (xs : List Nat) (k : Nat) : (Ni xs).take k = Ni (xs.take k) := by simp [Ni]
theorem Ni_set (xs : List Nat) (j : Nat) (x : Nat) : (Ni xs).set j (.int .i64 (x : Int)) = Ni (xs.set j x) := by simp [Ni, List.map_set]
theorem Ni_append (xs ys : List Nat) : Ni xs ++ Ni ys = Ni (xs ++ ys) := by simp [Ni]
theorem Ni_one' (xs : List Nat) : ∀ u ∈ Ni xs, u.oneCell' = true := by
  intro u hu
  obtain ⟨x, _, rfl⟩ := List.mem_map.1 hu
  rfl

/-- Block g holds a slice of these, of length n, at its head; its elements are xs. -/
def Nc (w : World) (g n cap : Nat) (xs : List Nat) : Prop := w.ownsRow 0 3 1 (.slice (some ⟨g, 0, none⟩) n cap) n (Ni xs)

section
variable {w w' : World} {g n cap : Nat} {xs : List Nat}
theorem Nc.len (h : Nc w g n cap xs) : xs.length = n := by have := h.1; rw [Ni_len] at this; omega
theorem Nc.form (h : Nc w g n cap xs) : ∃ cur, w.heap[g]? = some (.cells cur 3 (0, 0)) ∧ n ≤ cap ∧ cap ≤ maxLen ∧ cur.size = cap ∧ cur.toList.take n = Ni xs := by
  rcases h.2 with ⟨e, _⟩ | ⟨g', cap', cur, e, _, hh, h1, h2, h3, h4⟩
  · cases e
  · cases e; exact ⟨cur, hh, h1, h2, by omega, by rw [Nat.mul_one] at h4; exact h4⟩
theorem Nc.mk' {cur : Array Value} (hh : w.heap[g]? = some (.cells cur 3 (0, 0))) (h1 : n ≤ cap) (h2 : cap ≤ maxLen) (h3 : cur.size = cap) (h4 : cur.toList.take n = Ni xs) : Nc w g n cap xs := by
  have hl : (Ni xs).length = n := by rw [← h4, List.length_take, Array.length_toList]; omega
  exact ⟨by omega, .inr ⟨g, cap, cur, rfl, Nat.zero_le _, hh, h1, h2, by omega, by rw [Nat.mul_one]; exact h4⟩⟩
theorem Nc.of_own {B g' cap' : Nat} {v : Value} (h : w.ownsRow B 3 1 v n (Ni xs)) (hv : v = .slice (some ⟨g', 0, none⟩) n cap') : Nc w g' n cap' xs := by
  subst hv
  refine ⟨h.1, ?_⟩
  rcases h.2 with ⟨e, _⟩ | ⟨g2, cap2, cur, e, _, r⟩
  · cases e
  · exact .inr ⟨g2, cap2, cur, e, Nat.zero_le _, r⟩
theorem Nc.to_own (h : Nc w g n cap xs) {B : Nat} (hB : B ≤ g) : w.ownsRow B 3 1 (.slice (some ⟨g, 0, none⟩) n cap) n (Ni xs) := by
  refine ⟨h.1, ?_⟩
  rcases h.2 with ⟨e, _⟩ | ⟨g2, cap2, cur, e, _, r⟩
  · cases e
  · cases e; exact .inr ⟨g, cap, cur, rfl, hB, r⟩
theorem Nc.lt (h : Nc w g n cap xs) : g < w.heap.size := by
  obtain ⟨cur, hh, _⟩ := h.form
  exact (Array.getElem?_eq_some_iff.1 hh).1
theorem Nc.le (h : Nc w g n cap xs) : n ≤ cap := by obtain ⟨_, _, h1, _⟩ := h.form; exact h1
theorem Nc.cap_le (h : Nc w g n cap xs) : cap ≤ 9223372036854775807 := by obtain ⟨_, _, _, h1, _⟩ := h.form; exact h1
theorem Nc.cell (h : Nc w g n cap xs) (j : Nat) (hj : j < n) : w.cell? ⟨g, j, none⟩ = some (.int .i64 ((xs.getD j 0 : Nat) : Int)) := by
  have := World.ownsRow.cellAt h j (by omega)
  rw [this, Ni_get xs j (by rw [h.len]; exact hj)]
theorem Nc.free (h : Nc w g n cap xs) (j : Nat) : w.frozen? ⟨g, j, none⟩ = false := World.ownsRow.frozenAt h j
theorem Nc.take (h : Nc w g n cap xs) (k : Nat) (hk : k ≤ n) : Nc w g k cap (xs.take k) := by
  obtain ⟨cur, hh, h1, h2, h3, h4⟩ := h.form
  refine Nc.mk' hh (by omega) h2 h3 ?_
  rw [← Ni_take, ← h4, List.take_take, Nat.min_eq_left hk]
theorem Nc.of_heap (h : Nc w g n cap xs) (e : w'.heap[g]? = w.heap[g]?) : Nc w' g n cap xs := by
  obtain ⟨cur, hh, h1, h2, h3, h4⟩ := h.form
  exact Nc.mk' (e.trans hh) h1 h2 h3 h4
theorem Nc.below (h : Nc w g n cap xs) {B : Nat} (hb : Below B w w') (hg : g < B) : Nc w' g n cap xs := h.of_heap (hb.block g hg)
theorem Nc.drew (h : Nc w g n cap xs) : Nc w.drew g n cap xs := h
theorem Nc.drewN (h : Nc w g n cap xs) (k : Nat) : Nc (w.drewN k) g n cap xs := h
theorem Nc.alloc (h : Nc w g n cap xs) (o : Obj) : Nc (w.alloc o) g n cap xs := h.of_heap (Below.heap_alloc w o g h.lt)
theorem Nc.far (h : Nc w g n cap xs) {p : Addr} (hp : g ≠ p.block) (u : Value) : Nc (w.setCell p u) g n cap xs := h.of_heap (Below.heap_setCell w p u g hp)
theorem Nc.set (h : Nc w g n cap xs) (j : Nat) (x : Nat) : Nc (w.setCell ⟨g, j, none⟩ (.int .i64 (x : Int))) g n cap (xs.set j x) := by
  obtain ⟨cur, hh, h1, h2, h3, h4⟩ := h.form
  refine Nc.mk' (cur := cur.setIfInBounds j (.int .i64 (x : Int))) (by simp [World.setCell, Array.getElem?_modify, hh]) h1 h2 (by simpa using h3) ?_
  rw [Array.toList_setIfInBounds, List.take_set, h4, Ni_set]
theorem Nc.grown (h : Nc w g n cap xs) {row : Option Nat} (hg : w.grownBy w' row) (hne : some g ≠ row) : Nc w' g n cap xs := h.of_heap (hg.block g h.lt hne)
theorem Only.Nc {a : World} {g0 : Nat} (h : Only g0 w a) {g' n cap : Nat} {xs : List Nat} (hp : Nc w g' n cap xs) (hne : g' ≠ g0) : Nc a g' n cap xs := hp.of_heap (h.block g' hp.lt (by intro e; injection e with e; exact hne e))
/-- A new block of one element, as an append lays it. -/
theorem Nc.one (w : World) (x : Nat) : Nc (w.alloc (.cells #[.int .i64 (x : Int)] 3)) w.heap.size 1 1 [x] :=
  Nc.mk' (heap_alloc_new w _) (Nat.le_refl _) (by unfold maxLen; omega) rfl rfl
end

theorem Tryz.infoNc : (Tryz.prog.info? 3).map (fun i => (i.zero, i.size, i.bytes)) = some (some (.int .i64 0), 1, 8) := by kernel_rfl
/-- n zeros, in a new block. -/
def NZ (n : Nat) : Array Value := madeCells #[.int .i64 0] n
theorem NZ_size (n : Nat) : (NZ n).size = n := size_madeCells _ n
theorem NZ_list (n : Nat) : (NZ n).toList = Ni (List.replicate n 0) := by
  unfold NZ Ni
  (rw [toList_madeCells_one, List.map_replicate]) <;> rfl
theorem make_Nc (T : TypeId) (hT : Tryz.prog.underlying T = some (.slice 3)) (l c : Nat) (hl : l ≤ c) (hc : c ≤ 1000000000000) (w : World) :
    (Instr.makeSlice T (.int .i64 (l : Int)) (.int .i64 (c : Int))).run Tryz.prog w = .ok (.slice (some ⟨w.heap.size, 0, none⟩) l c) (w.alloc (.cells (NZ c) 3)) := by
  obtain ⟨i, hi, hz, hs, hb⟩ := info_parts Tryz.infoNc
  have h := run_make (P := Tryz.prog) w T 3 i _ hT hi hz .i64 .i64 (l : Int) (c : Int) (by omega) (by omega) (by rw [hb]; omega) (by omega)
  simp only [Int.toNat_natCast, hs, Nat.mul_one] at h
  exact h
theorem Nc.made (w : World) (l c : Nat) (hl : l ≤ c) (hc : c ≤ 1000000000000) : Nc (w.alloc (.cells (NZ c) 3)) w.heap.size l c (List.replicate l 0) := by
  refine Nc.mk' (heap_alloc_new w _) hl (by unfold maxLen; omega) (NZ_size c) ?_
  rw [NZ_list, Ni_take, List.take_replicate, Nat.min_eq_left hl]

/-- append: onto a row of the call's own, of another row (one new element, or '...'). -/
theorem append_Nc {ops : Array Oper} {rest : List Oper} {o : Oper} {a : Act} {w : World} {Q : Exit → Act → World → Prop} (hgd : o.guard = none) (s x : Operand) (t : TypeId)
    (ho : o.op = .call { callee := .builtin .append, args := #[s, x], argTypes := #[t, t] }) (ht : Tryz.prog.underlying t = some (.slice 3))
    (g n cap : Nat) (xs : List Nat) (hs : a.eval s = .slice (some ⟨g, 0, none⟩) n cap) (hp : Nc w g n cap xs)
    (g2 m c : Nat) (ys : List Nat) (hx : a.eval x = .slice (some ⟨g2, 0, none⟩) m c) (hq : Nc w g2 m c ys) (hbd : n + m ≤ 1000000000000)
    (h : ∀ g' cap' w', Nc w' g' (n + m) cap' (xs ++ ys) → Only g w w' → (g' = g ∨ g' = w.heap.size) → wpList Tryz.prog ops Q rest (a.put o.dst (.slice (some ⟨g', 0, none⟩) (n + m) cap')) w') :
    wpList Tryz.prog ops Q (o :: rest) a w := by
  obtain ⟨i, hi, hz, hsz, hb⟩ := info_parts Tryz.infoNc
  have hl := hq.len
  obtain ⟨v', w', hr, h2, h3, h4, h5⟩ := run_append_own_at (P := Tryz.prog) w 0 t o.type 3 i _ 1 8 ht hi hz hsz hb rfl (by decide) _ n (Ni xs) hp ⟨g2, 0, none⟩ m c (Ni ys) (by rw [Ni_len]; omega)
    (fun j u hu => by
      have hj : j < m := by have := (List.getElem?_eq_some_iff.1 hu).1; rw [Ni_len] at this; omega
      have hadd : (⟨g2, 0, none⟩ : Addr).add j = ⟨g2, j, none⟩ := by unfold Addr.add; split <;> simp_all
      rw [hadd, World.ownsRow.cellAt hq j (by omega), hu])
    (Ni_one' ys) (by unfold maxLen; omega) (by omega) (Nat.zero_le _)
  obtain ⟨g', cap', rfl, hlt⟩ : ∃ g' cap', v' = .slice (some ⟨g', 0, none⟩) (n + m) cap' ∧ True := by
    rcases h2.2 with ⟨e, _⟩ | ⟨g', cap', cur, e, _⟩
    · have := (h4.1 e).1; cases this
    · exact ⟨g', cap', e, trivial⟩
  refine wpList_plain hgd fun _ hK => ?_
  unfold Oper.wp execOp
  simp only [ho, resolve, invoke, builtin, Sem.run_bind, Sem.run_pure, Result.andThen_ok, List.map_toArray, List.map_cons, List.map_nil, hs, hx, hr]
  refine hK _ _ (h g' cap' w' ?_ h3 ?_)
  · rw [Ni_append] at h2; exact h2
  · rcases h5 with h5 | h5
    · left; simpa [Value.ownBlock] using h5
    · right; simpa [Value.ownBlock] using h5

/-! ## strings -/
/-- strings, as cells. -/
def Sg (xs : List ByteArray) : List Value := xs.map fun (x : ByteArray) => Value.string x
theorem Sg_len (xs : List ByteArray) : (Sg xs).length = xs.length := by simp [Sg]
theorem Sg_get (xs : List ByteArray) (j : Nat) (h : j < xs.length) : (Sg xs)[j]? = some (.string (xs.getD j ⟨#[]⟩)) := by
  simp [Sg, List.getD_eq_getElem?_getD, List.getElem?_eq_getElem h]
theorem Sg_take (xs : List ByteArray) (k : Nat) : (Sg xs).take k = Sg (xs.take k) := by simp [Sg]
theorem Sg_set (xs : List ByteArray) (j : Nat) (x : ByteArray) : (Sg xs).set j (.string x) = Sg (xs.set j x) := by simp [Sg, List.map_set]
theorem Sg_append (xs ys : List ByteArray) : Sg xs ++ Sg ys = Sg (xs ++ ys) := by simp [Sg]
theorem Sg_one' (xs : List ByteArray) : ∀ u ∈ Sg xs, u.oneCell' = true := by
  intro u hu
  obtain ⟨x, _, rfl⟩ := List.mem_map.1 hu
  rfl

/-- Block g holds a slice of these, of length n, at its head; its elements are xs. -/
def Sc (w : World) (g n cap : Nat) (xs : List ByteArray) : Prop := w.ownsRow 0 27 1 (.slice (some ⟨g, 0, none⟩) n cap) n (Sg xs)

section
variable {w w' : World} {g n cap : Nat} {xs : List ByteArray}
theorem Sc.len (h : Sc w g n cap xs) : xs.length = n := by have := h.1; rw [Sg_len] at this; omega
theorem Sc.form (h : Sc w g n cap xs) : ∃ cur, w.heap[g]? = some (.cells cur 27 (0, 0)) ∧ n ≤ cap ∧ cap ≤ maxLen ∧ cur.size = cap ∧ cur.toList.take n = Sg xs := by
  rcases h.2 with ⟨e, _⟩ | ⟨g', cap', cur, e, _, hh, h1, h2, h3, h4⟩
  · cases e
  · cases e; exact ⟨cur, hh, h1, h2, by omega, by rw [Nat.mul_one] at h4; exact h4⟩
theorem Sc.mk' {cur : Array Value} (hh : w.heap[g]? = some (.cells cur 27 (0, 0))) (h1 : n ≤ cap) (h2 : cap ≤ maxLen) (h3 : cur.size = cap) (h4 : cur.toList.take n = Sg xs) : Sc w g n cap xs := by
  have hl : (Sg xs).length = n := by rw [← h4, List.length_take, Array.length_toList]; omega
  exact ⟨by omega, .inr ⟨g, cap, cur, rfl, Nat.zero_le _, hh, h1, h2, by omega, by rw [Nat.mul_one]; exact h4⟩⟩
theorem Sc.of_own {B g' cap' : Nat} {v : Value} (h : w.ownsRow B 27 1 v n (Sg xs)) (hv : v = .slice (some ⟨g', 0, none⟩) n cap') : Sc w g' n cap' xs := by
  subst hv
  refine ⟨h.1, ?_⟩
  rcases h.2 with ⟨e, _⟩ | ⟨g2, cap2, cur, e, _, r⟩
  · cases e
  · exact .inr ⟨g2, cap2, cur, e, Nat.zero_le _, r⟩
theorem Sc.to_own (h : Sc w g n cap xs) {B : Nat} (hB : B ≤ g) : w.ownsRow B 27 1 (.slice (some ⟨g, 0, none⟩) n cap) n (Sg xs) := by
  refine ⟨h.1, ?_⟩
  rcases h.2 with ⟨e, _⟩ | ⟨g2, cap2, cur, e, _, r⟩
  · cases e
  · cases e; exact .inr ⟨g, cap, cur, rfl, hB, r⟩
theorem Sc.lt (h : Sc w g n cap xs) : g < w.heap.size := by
  obtain ⟨cur, hh, _⟩ := h.form
  exact (Array.getElem?_eq_some_iff.1 hh).1
theorem Sc.le (h : Sc w g n cap xs) : n ≤ cap := by obtain ⟨_, _, h1, _⟩ := h.form; exact h1
theorem Sc.cap_le (h : Sc w g n cap xs) : cap ≤ 9223372036854775807 := by obtain ⟨_, _, _, h1, _⟩ := h.form; exact h1
theorem Sc.cell (h : Sc w g n cap xs) (j : Nat) (hj : j < n) : w.cell? ⟨g, j, none⟩ = some (.string (xs.getD j ⟨#[]⟩)) := by
  have := World.ownsRow.cellAt h j (by omega)
  rw [this, Sg_get xs j (by rw [h.len]; exact hj)]
theorem Sc.free (h : Sc w g n cap xs) (j : Nat) : w.frozen? ⟨g, j, none⟩ = false := World.ownsRow.frozenAt h j
theorem Sc.take (h : Sc w g n cap xs) (k : Nat) (hk : k ≤ n) : Sc w g k cap (xs.take k) := by
  obtain ⟨cur, hh, h1, h2, h3, h4⟩ := h.form
  refine Sc.mk' hh (by omega) h2 h3 ?_
  rw [← Sg_take, ← h4, List.take_take, Nat.min_eq_left hk]
theorem Sc.of_heap (h : Sc w g n cap xs) (e : w'.heap[g]? = w.heap[g]?) : Sc w' g n cap xs := by
  obtain ⟨cur, hh, h1, h2, h3, h4⟩ := h.form
  exact Sc.mk' (e.trans hh) h1 h2 h3 h4
theorem Sc.below (h : Sc w g n cap xs) {B : Nat} (hb : Below B w w') (hg : g < B) : Sc w' g n cap xs := h.of_heap (hb.block g hg)
theorem Sc.drew (h : Sc w g n cap xs) : Sc w.drew g n cap xs := h
theorem Sc.drewN (h : Sc w g n cap xs) (k : Nat) : Sc (w.drewN k) g n cap xs := h
theorem Sc.alloc (h : Sc w g n cap xs) (o : Obj) : Sc (w.alloc o) g n cap xs := h.of_heap (Below.heap_alloc w o g h.lt)
theorem Sc.far (h : Sc w g n cap xs) {p : Addr} (hp : g ≠ p.block) (u : Value) : Sc (w.setCell p u) g n cap xs := h.of_heap (Below.heap_setCell w p u g hp)
theorem Sc.set (h : Sc w g n cap xs) (j : Nat) (x : ByteArray) : Sc (w.setCell ⟨g, j, none⟩ (.string x)) g n cap (xs.set j x) := by
  obtain ⟨cur, hh, h1, h2, h3, h4⟩ := h.form
  refine Sc.mk' (cur := cur.setIfInBounds j (.string x)) (by simp [World.setCell, Array.getElem?_modify, hh]) h1 h2 (by simpa using h3) ?_
  rw [Array.toList_setIfInBounds, List.take_set, h4, Sg_set]
theorem Sc.grown (h : Sc w g n cap xs) {row : Option Nat} (hg : w.grownBy w' row) (hne : some g ≠ row) : Sc w' g n cap xs := h.of_heap (hg.block g h.lt hne)
theorem Only.Sc {a : World} {g0 : Nat} (h : Only g0 w a) {g' n cap : Nat} {xs : List ByteArray} (hp : Sc w g' n cap xs) (hne : g' ≠ g0) : Sc a g' n cap xs := hp.of_heap (h.block g' hp.lt (by intro e; injection e with e; exact hne e))
/-- A new block of one element, as an append lays it. -/
theorem Sc.one (w : World) (x : ByteArray) : Sc (w.alloc (.cells #[.string x] 27)) w.heap.size 1 1 [x] :=
  Sc.mk' (heap_alloc_new w _) (Nat.le_refl _) (by unfold maxLen; omega) rfl rfl
end

theorem Tryz.infoSc : (Tryz.prog.info? 27).map (fun i => (i.zero, i.size, i.bytes)) = some (some (.string ⟨#[]⟩), 1, 16) := by kernel_rfl
/-- n zeros, in a new block. -/
def SZ (n : Nat) : Array Value := madeCells #[.string ⟨#[]⟩] n
theorem SZ_size (n : Nat) : (SZ n).size = n := size_madeCells _ n
theorem SZ_list (n : Nat) : (SZ n).toList = Sg (List.replicate n (⟨#[]⟩ : ByteArray)) := by
  unfold SZ Sg
  (rw [toList_madeCells_one, List.map_replicate]) <;> rfl
theorem make_Sc (T : TypeId) (hT : Tryz.prog.underlying T = some (.slice 27)) (l c : Nat) (hl : l ≤ c) (hc : c ≤ 1000000000000) (w : World) :
    (Instr.makeSlice T (.int .i64 (l : Int)) (.int .i64 (c : Int))).run Tryz.prog w = .ok (.slice (some ⟨w.heap.size, 0, none⟩) l c) (w.alloc (.cells (SZ c) 27)) := by
  obtain ⟨i, hi, hz, hs, hb⟩ := info_parts Tryz.infoSc
  have h := run_make (P := Tryz.prog) w T 27 i _ hT hi hz .i64 .i64 (l : Int) (c : Int) (by omega) (by omega) (by rw [hb]; omega) (by omega)
  simp only [Int.toNat_natCast, hs, Nat.mul_one] at h
  exact h
theorem Sc.made (w : World) (l c : Nat) (hl : l ≤ c) (hc : c ≤ 1000000000000) : Sc (w.alloc (.cells (SZ c) 27)) w.heap.size l c (List.replicate l (⟨#[]⟩ : ByteArray)) := by
  refine Sc.mk' (heap_alloc_new w _) hl (by unfold maxLen; omega) (SZ_size c) ?_
  rw [SZ_list, Sg_take, List.take_replicate, Nat.min_eq_left hl]

/-- append: onto a row of the call's own, of another row (one new element, or '...'). -/
theorem append_Sc {ops : Array Oper} {rest : List Oper} {o : Oper} {a : Act} {w : World} {Q : Exit → Act → World → Prop} (hgd : o.guard = none) (s x : Operand) (t : TypeId)
    (ho : o.op = .call { callee := .builtin .append, args := #[s, x], argTypes := #[t, t] }) (ht : Tryz.prog.underlying t = some (.slice 27))
    (g n cap : Nat) (xs : List ByteArray) (hs : a.eval s = .slice (some ⟨g, 0, none⟩) n cap) (hp : Sc w g n cap xs)
    (g2 m c : Nat) (ys : List ByteArray) (hx : a.eval x = .slice (some ⟨g2, 0, none⟩) m c) (hq : Sc w g2 m c ys) (hbd : n + m ≤ 1000000000000)
    (h : ∀ g' cap' w', Sc w' g' (n + m) cap' (xs ++ ys) → Only g w w' → (g' = g ∨ g' = w.heap.size) → wpList Tryz.prog ops Q rest (a.put o.dst (.slice (some ⟨g', 0, none⟩) (n + m) cap')) w') :
    wpList Tryz.prog ops Q (o :: rest) a w := by
  obtain ⟨i, hi, hz, hsz, hb⟩ := info_parts Tryz.infoSc
  have hl := hq.len
  obtain ⟨v', w', hr, h2, h3, h4, h5⟩ := run_append_own_at (P := Tryz.prog) w 0 t o.type 27 i _ 1 16 ht hi hz hsz hb rfl (by decide) _ n (Sg xs) hp ⟨g2, 0, none⟩ m c (Sg ys) (by rw [Sg_len]; omega)
    (fun j u hu => by
      have hj : j < m := by have := (List.getElem?_eq_some_iff.1 hu).1; rw [Sg_len] at this; omega
      have hadd : (⟨g2, 0, none⟩ : Addr).add j = ⟨g2, j, none⟩ := by unfold Addr.add; split <;> simp_all
      rw [hadd, World.ownsRow.cellAt hq j (by omega), hu])
    (Sg_one' ys) (by unfold maxLen; omega) (by omega) (Nat.zero_le _)
  obtain ⟨g', cap', rfl, hlt⟩ : ∃ g' cap', v' = .slice (some ⟨g', 0, none⟩) (n + m) cap' ∧ True := by
    rcases h2.2 with ⟨e, _⟩ | ⟨g', cap', cur, e, _⟩
    · have := (h4.1 e).1; cases this
    · exact ⟨g', cap', e, trivial⟩
  refine wpList_plain hgd fun _ hK => ?_
  unfold Oper.wp execOp
  simp only [ho, resolve, invoke, builtin, Sem.run_bind, Sem.run_pure, Result.andThen_ok, List.map_toArray, List.map_cons, List.map_nil, hs, hx, hr]
  refine hK _ _ (h g' cap' w' ?_ h3 ?_)
  · rw [Sg_append] at h2; exact h2
  · rcases h5 with h5 | h5
    · left; simpa [Value.ownBlock] using h5
    · right; simpa [Value.ownBlock] using h5

/-- append onto nil. -/
theorem append_nil_Nc {ops : Array Oper} {rest : List Oper} {o : Oper} {a : Act} {w : World} {Q : Exit → Act → World → Prop} (hgd : o.guard = none) (s x : Operand) (t : TypeId)
    (ho : o.op = .call { callee := .builtin .append, args := #[s, x], argTypes := #[t, t] }) (ht : Tryz.prog.underlying t = some (.slice 3))
    (hs : a.eval s = .slice none 0 0) (g2 m c : Nat) (ys : List Nat) (hx : a.eval x = .slice (some ⟨g2, 0, none⟩) m c) (hq : Nc w g2 m c ys) (hm : 0 < m) (hbd : m ≤ 1000000000000)
    (h : ∀ cap' w', Nc w' w.heap.size m cap' ys → Below w.heap.size w w' → wpList Tryz.prog ops Q rest (a.put o.dst (.slice (some ⟨w.heap.size, 0, none⟩) m cap')) w') :
    wpList Tryz.prog ops Q (o :: rest) a w := by
  obtain ⟨i, hi, hz, hsz, hb⟩ := info_parts Tryz.infoNc
  have hl := hq.len
  obtain ⟨v', w', hr, h2, h3, h4, h5⟩ := run_append_own_at (P := Tryz.prog) w w.heap.size t o.type 3 i _ 1 8 ht hi hz hsz hb rfl (by decide) _ 0 [] (World.ownsRow_nil w w.heap.size 3 1) ⟨g2, 0, none⟩ m c (Ni ys) (by rw [Ni_len]; omega)
    (fun j u hu => by
      have hj : j < m := by have := (List.getElem?_eq_some_iff.1 hu).1; rw [Ni_len] at this; omega
      have hadd : (⟨g2, 0, none⟩ : Addr).add j = ⟨g2, j, none⟩ := by unfold Addr.add; split <;> simp_all
      rw [hadd, World.ownsRow.cellAt hq j (by omega), hu])
    (Ni_one' ys) (by unfold maxLen; omega) (by omega) (Nat.le_refl _)
  rw [Nat.zero_add, List.nil_append] at h2
  obtain ⟨g', cap', rfl⟩ : ∃ g' cap', v' = .slice (some ⟨g', 0, none⟩) m cap' := by
    rcases h2.2 with ⟨e, _⟩ | ⟨g', cap', cur, e, _⟩
    · have := (h4.1 e).2; omega
    · exact ⟨g', cap', e⟩
  have hg' : g' = w.heap.size := by
    rcases h5 with h5 | h5
    · simp [Value.ownBlock] at h5
    · simpa [Value.ownBlock] using h5
  subst hg'
  refine wpList_plain hgd fun _ hK => ?_
  unfold Oper.wp execOp
  simp only [ho, resolve, invoke, builtin, Sem.run_bind, Sem.run_pure, Result.andThen_ok, List.map_toArray, List.map_cons, List.map_nil, hs, hx, hr]
  exact hK _ _ (h cap' w' (Nc.of_own h2 rfl) ⟨h3.os, h3.tape, h3.output, h3.size, fun k hk => h3.block k hk (by simp [Value.ownBlock])⟩)

/-- append onto nil. -/
theorem append_nil_Sc {ops : Array Oper} {rest : List Oper} {o : Oper} {a : Act} {w : World} {Q : Exit → Act → World → Prop} (hgd : o.guard = none) (s x : Operand) (t : TypeId)
    (ho : o.op = .call { callee := .builtin .append, args := #[s, x], argTypes := #[t, t] }) (ht : Tryz.prog.underlying t = some (.slice 27))
    (hs : a.eval s = .slice none 0 0) (g2 m c : Nat) (ys : List ByteArray) (hx : a.eval x = .slice (some ⟨g2, 0, none⟩) m c) (hq : Sc w g2 m c ys) (hm : 0 < m) (hbd : m ≤ 1000000000000)
    (h : ∀ cap' w', Sc w' w.heap.size m cap' ys → Below w.heap.size w w' → wpList Tryz.prog ops Q rest (a.put o.dst (.slice (some ⟨w.heap.size, 0, none⟩) m cap')) w') :
    wpList Tryz.prog ops Q (o :: rest) a w := by
  obtain ⟨i, hi, hz, hsz, hb⟩ := info_parts Tryz.infoSc
  have hl := hq.len
  obtain ⟨v', w', hr, h2, h3, h4, h5⟩ := run_append_own_at (P := Tryz.prog) w w.heap.size t o.type 27 i _ 1 16 ht hi hz hsz hb rfl (by decide) _ 0 [] (World.ownsRow_nil w w.heap.size 27 1) ⟨g2, 0, none⟩ m c (Sg ys) (by rw [Sg_len]; omega)
    (fun j u hu => by
      have hj : j < m := by have := (List.getElem?_eq_some_iff.1 hu).1; rw [Sg_len] at this; omega
      have hadd : (⟨g2, 0, none⟩ : Addr).add j = ⟨g2, j, none⟩ := by unfold Addr.add; split <;> simp_all
      rw [hadd, World.ownsRow.cellAt hq j (by omega), hu])
    (Sg_one' ys) (by unfold maxLen; omega) (by omega) (Nat.le_refl _)
  rw [Nat.zero_add, List.nil_append] at h2
  obtain ⟨g', cap', rfl⟩ : ∃ g' cap', v' = .slice (some ⟨g', 0, none⟩) m cap' := by
    rcases h2.2 with ⟨e, _⟩ | ⟨g', cap', cur, e, _⟩
    · have := (h4.1 e).2; omega
    · exact ⟨g', cap', e⟩
  have hg' : g' = w.heap.size := by
    rcases h5 with h5 | h5
    · simp [Value.ownBlock] at h5
    · simpa [Value.ownBlock] using h5
  subst hg'
  refine wpList_plain hgd fun _ hK => ?_
  unfold Oper.wp execOp
  simp only [ho, resolve, invoke, builtin, Sem.run_bind, Sem.run_pure, Result.andThen_ok, List.map_toArray, List.map_cons, List.map_nil, hs, hx, hr]
  exact hK _ _ (h cap' w' (Sc.of_own h2 rfl) ⟨h3.os, h3.tape, h3.output, h3.size, fun k hk => h3.block k hk (by simp [Value.ownBlock])⟩)

/-- A slice of ints that hold natural numbers, nil let in: '.slice A n cap'. -/
def Ns (w : World) (A : Option Addr) (n cap : Nat) (xs : List Nat) : Prop := (A = none ∧ n = 0 ∧ cap = 0 ∧ xs = []) ∨ ∃ g, A = some ⟨g, 0, none⟩ ∧ Nc w g n cap xs
section
variable {w w' : World} {A : Option Addr} {n cap : Nat} {xs : List Nat}
theorem Ns.nil (w : World) : Ns w none 0 0 [] := .inl ⟨rfl, rfl, rfl, rfl⟩
theorem Ns.of {g : Nat} (h : Nc w g n cap xs) : Ns w (some ⟨g, 0, none⟩) n cap xs := .inr ⟨g, rfl, h⟩
theorem Ns.len (h : Ns w A n cap xs) : xs.length = n := by
  rcases h with ⟨_, rfl, _, rfl⟩ | ⟨g, _, h⟩
  · rfl
  · exact h.len
theorem Ns.le (h : Ns w A n cap xs) : n ≤ cap := by
  rcases h with ⟨_, rfl, rfl, _⟩ | ⟨g, _, h⟩
  · exact Nat.le_refl _
  · exact h.le
theorem Ns.cap_le (h : Ns w A n cap xs) : cap ≤ 9223372036854775807 := by
  rcases h with ⟨_, _, rfl, _⟩ | ⟨g, _, h⟩
  · omega
  · exact h.cap_le
theorem Ns.at_ (h : Ns w A n cap xs) {k : Nat} (hk : k < n) : ∃ g, A = some ⟨g, 0, none⟩ ∧ Nc w g n cap xs := by
  rcases h with ⟨_, rfl, _, _⟩ | h
  · omega
  · exact h
theorem Ns.below (h : Ns w A n cap xs) {B : Nat} (hb : Below B w w') (hB : w.heap.size ≤ B) : Ns w' A n cap xs := by
  rcases h with h | ⟨g, e, h⟩
  · exact .inl h
  · exact .inr ⟨g, e, h.below hb (Nat.lt_of_lt_of_le h.lt hB)⟩
theorem Ns.take (h : Ns w A n cap xs) (k : Nat) (hk : k ≤ n) : Ns w A k cap (xs.take k) := by
  rcases h with ⟨e, rfl, e2, rfl⟩ | ⟨g, e, h⟩
  · exact .inl ⟨e, by omega, e2, by simp⟩
  · exact .inr ⟨g, e, h.take k hk⟩
end

/-- A slice of strings, nil let in: '.slice A n cap'. -/
def Ss (w : World) (A : Option Addr) (n cap : Nat) (xs : List ByteArray) : Prop := (A = none ∧ n = 0 ∧ cap = 0 ∧ xs = []) ∨ ∃ g, A = some ⟨g, 0, none⟩ ∧ Sc w g n cap xs
section
variable {w w' : World} {A : Option Addr} {n cap : Nat} {xs : List ByteArray}
theorem Ss.nil (w : World) : Ss w none 0 0 [] := .inl ⟨rfl, rfl, rfl, rfl⟩
theorem Ss.of {g : Nat} (h : Sc w g n cap xs) : Ss w (some ⟨g, 0, none⟩) n cap xs := .inr ⟨g, rfl, h⟩
theorem Ss.len (h : Ss w A n cap xs) : xs.length = n := by
  rcases h with ⟨_, rfl, _, rfl⟩ | ⟨g, _, h⟩
  · rfl
  · exact h.len
theorem Ss.le (h : Ss w A n cap xs) : n ≤ cap := by
  rcases h with ⟨_, rfl, rfl, _⟩ | ⟨g, _, h⟩
  · exact Nat.le_refl _
  · exact h.le
theorem Ss.cap_le (h : Ss w A n cap xs) : cap ≤ 9223372036854775807 := by
  rcases h with ⟨_, _, rfl, _⟩ | ⟨g, _, h⟩
  · omega
  · exact h.cap_le
theorem Ss.at_ (h : Ss w A n cap xs) {k : Nat} (hk : k < n) : ∃ g, A = some ⟨g, 0, none⟩ ∧ Sc w g n cap xs := by
  rcases h with ⟨_, rfl, _, _⟩ | h
  · omega
  · exact h
theorem Ss.below (h : Ss w A n cap xs) {B : Nat} (hb : Below B w w') (hB : w.heap.size ≤ B) : Ss w' A n cap xs := by
  rcases h with h | ⟨g, e, h⟩
  · exact .inl h
  · exact .inr ⟨g, e, h.below hb (Nat.lt_of_lt_of_le h.lt hB)⟩
theorem Ss.take (h : Ss w A n cap xs) (k : Nat) (hk : k ≤ n) : Ss w A k cap (xs.take k) := by
  rcases h with ⟨e, rfl, e2, rfl⟩ | ⟨g, e, h⟩
  · exact .inl ⟨e, by omega, e2, by simp⟩
  · exact .inr ⟨g, e, h.take k hk⟩
end
end Go.Proofs.YtebcmefbpfcgmaaGreatDoor
