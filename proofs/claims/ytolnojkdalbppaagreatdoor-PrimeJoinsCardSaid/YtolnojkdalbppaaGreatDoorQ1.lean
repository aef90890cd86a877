/- Greater text, out of: Q1. -/
import Derived.Test.YtolnojkdalbppaaGreatDoorGc
namespace Go.Proofs.YtolnojkdalbppaaGreatDoor
open Go.RowKit

/-! ## ints -/
/-- ints, as cells. -/
def Zi (xs : List Int) : List Value := xs.map fun (x : Int) => Value.int .i64 (x : Int)
theorem Zi_len (xs : List Int) : (Zi xs).length = xs.length := by simp [Zi]
theorem Zi_get (xs : List Int) (j : Nat) (h : j < xs.length) : (Zi xs)[j]? = some (.int .i64 (xs.getD j 0)) := by
  simp [Zi, List.getD_eq_getElem?_getD, List.getElem?_eq_getElem h]
theorem Zi_take (xs : List Int) (k : Nat) : (Zi xs).take k = Zi (xs.take k) := by simp [Zi]
theorem Zi_set (xs : List Int) (j : Nat) (x : Int) : (Zi xs).set j (.int .i64 (x : Int)) = Zi (xs.set j x) := by simp [Zi, List.map_set]
theorem Zi_append (xs ys : List Int) : Zi xs ++ Zi ys = Zi (xs ++ ys) := by simp [Zi]
theorem Zi_one' (xs : List Int) : ∀ u ∈ Zi xs, u.oneCell' = true := by
  intro u hu
  obtain ⟨x, _, rfl⟩ := List.mem_map.1 hu
  rfl

/-- Block g holds a slice of these, of length n, at its head; its elements are xs. -/
def Zc (w : World) (g n cap : Nat) (xs : List Int) : Prop := w.ownsRow 0 3 1 (.slice (some ⟨g, 0, none⟩) n cap) n (Zi xs)

section
variable {w w' : World} {g n cap : Nat} {xs : List Int}
theorem Zc.len (h : Zc w g n cap xs) : xs.length = n := by have := h.1; rw [Zi_len] at this; omega
theorem Zc.form (h : Zc w g n cap xs) : ∃ cur, w.heap[g]? = some (.cells cur 3 (0, 0)) ∧ n ≤ cap ∧ cap ≤ maxLen ∧ cur.size = cap ∧ cur.toList.take n = Zi xs := by
  rcases h.2 with ⟨e, _⟩ | ⟨g', cap', cur, e, _, hh, h1, h2, h3, h4⟩
  · cases e
  · cases e; exact ⟨cur, hh, h1, h2, by omega, by rw [Nat.mul_one] at h4; exact h4⟩
theorem Zc.mk' {cur : Array Value} (hh : w.heap[g]? = some (.cells cur 3 (0, 0))) (h1 : n ≤ cap) (h2 : cap ≤ maxLen) (h3 : cur.size = cap) (h4 : cur.toList.take n = Zi xs) : Zc w g n cap xs := by
  have hl : (Zi xs).length = n := by rw [← h4, List.length_take, Array.length_toList]; omega
  exact ⟨by omega, .inr ⟨g, cap, cur, rfl, Nat.zero_le _, hh, h1, h2, by omega, by rw [Nat.mul_one]; exact h4⟩⟩
theorem Zc.of_own {B g' cap' : Nat} {v : Value} (h : w.ownsRow B 3 1 v n (Zi xs)) (hv : v = .slice (some ⟨g', 0, none⟩) n cap') : Zc w g' n cap' xs := by
  subst hv
  refine ⟨h.1, ?_⟩
  rcases h.2 with ⟨e, _⟩ | ⟨g2, cap2, cur, e, _, r⟩
  · cases e
  · exact .inr ⟨g2, cap2, cur, e, Nat.zero_le _, r⟩
theorem Zc.to_own (h : Zc w g n cap xs) {B : Nat} (hB : B ≤ g) : w.ownsRow B 3 1 (.slice (some ⟨g, 0, none⟩) n cap) n (Zi xs) := by
  refine ⟨h.1, ?_⟩
  rcases h.2 with ⟨e, _⟩ | ⟨g2, cap2, cur, e, _, r⟩
  · cases e
  · cases e; exact .inr ⟨g, cap, cur, rfl, hB, r⟩
theorem Zc.lt (h : Zc w g n cap xs) : g < w.heap.size := by
  obtain ⟨cur, hh, _⟩ := h.form
  exact (Array.getElem?_eq_some_iff.1 hh).1
theorem Zc.le (h : Zc w g n cap xs) : n ≤ cap := by obtain ⟨_, _, h1, _⟩ := h.form; exact h1
theorem Zc.cap_le (h : Zc w g n cap xs) : cap ≤ 9223372036854775807 := by obtain ⟨_, _, _, h1, _⟩ := h.form; exact h1
theorem Zc.cell (h : Zc w g n cap xs) (j : Nat) (hj : j < n) : w.cell? ⟨g, j, none⟩ = some (.int .i64 (xs.getD j 0)) := by
  have := World.ownsRow.cellAt h j (by omega)
  rw [this, Zi_get xs j (by rw [h.len]; exact hj)]
theorem Zc.free (h : Zc w g n cap xs) (j : Nat) : w.frozen? ⟨g, j, none⟩ = false := World.ownsRow.frozenAt h j
theorem Zc.take (h : Zc w g n cap xs) (k : Nat) (hk : k ≤ n) : Zc w g k cap (xs.take k) := by
  obtain ⟨cur, hh, h1, h2, h3, h4⟩ := h.form
  refine Zc.mk' hh (by omega) h2 h3 ?_
  rw [← Zi_take, ← h4, List.take_take, Nat.min_eq_left hk]
theorem Zc.of_heap (h : Zc w g n cap xs) (e : w'.heap[g]? = w.heap[g]?) : Zc w' g n cap xs := by
  obtain ⟨cur, hh, h1, h2, h3, h4⟩ := h.form
  exact Zc.mk' (e.trans hh) h1 h2 h3 h4
theorem Zc.below (h : Zc w g n cap xs) {B : Nat} (hb : Below B w w') (hg : g < B) : Zc w' g n cap xs := h.of_heap (hb.block g hg)
theorem Zc.drew (h : Zc w g n cap xs) : Zc w.drew g n cap xs := h
theorem Zc.drewN (h : Zc w g n cap xs) (k : Nat) : Zc (w.drewN k) g n cap xs := h
theorem Zc.alloc (h : Zc w g n cap xs) (o : Obj) : Zc (w.alloc o) g n cap xs := h.of_heap (Below.heap_alloc w o g h.lt)
theorem Zc.far (h : Zc w g n cap xs) {p : Addr} (hp : g ≠ p.block) (u : Value) : Zc (w.setCell p u) g n cap xs := h.of_heap (Below.heap_setCell w p u g hp)
theorem Zc.set (h : Zc w g n cap xs) (j : Nat) (x : Int) : Zc (w.setCell ⟨g, j, none⟩ (.int .i64 (x : Int))) g n cap (xs.set j x) := by
  obtain ⟨cur, hh, h1, h2, h3, h4⟩ := h.form
  refine Zc.mk' (cur := cur.setIfInBounds j (.int .i64 (x : Int))) (by simp [World.setCell, Array.getElem?_modify, hh]) h1 h2 (by simpa using h3) ?_
  rw [Array.toList_setIfInBounds, List.take_set, h4, Zi_set]
theorem Zc.grown (h : Zc w g n cap xs) {row : Option Nat} (hg : w.grownBy w' row) (hne : some g ≠ row) : Zc w' g n cap xs := h.of_heap (hg.block g h.lt hne)
theorem Only.Zc {a : World} {g0 : Nat} (h : Only g0 w a) {g' n cap : Nat} {xs : List Int} (hp : Zc w g' n cap xs) (hne : g' ≠ g0) : Zc a g' n cap xs := hp.of_heap (h.block g' hp.lt (by intro e; injection e with e; exact hne e))
/-- A new block of one element, as an append lays it. -/
theorem Zc.one (w : World) (x : Int) : Zc (w.alloc (.cells #[.int .i64 (x : Int)] 3)) w.heap.size 1 1 [x] :=
  Zc.mk' (heap_alloc_new w _) (Nat.le_refl _) (by unfold maxLen; omega) rfl rfl
end

theorem Tryz.infoZc : (Tryz.prog.info? 3).map (fun i => (i.zero, i.size, i.bytes)) = some (some (.int .i64 0), 1, 8) := by kernel_rfl
/-- n zeros, in a new block. -/
def ZZ (n : Nat) : Array Value := madeCells #[.int .i64 0] n
theorem ZZ_size (n : Nat) : (ZZ n).size = n := size_madeCells _ n
theorem ZZ_list (n : Nat) : (ZZ n).toList = Zi (List.replicate n 0) := by
  unfold ZZ Zi
  (rw [toList_madeCells_one, List.map_replicate]) <;> rfl
theorem make_Zc (T : TypeId) (hT : Tryz.prog.underlying T = some (.slice 3)) (l c : Nat) (hl : l ≤ c) (hc : c ≤ 1000000000000) (w : World) :
    (Instr.makeSlice T (.int .i64 (l : Int)) (.int .i64 (c : Int))).run Tryz.prog w = .ok (.slice (some ⟨w.heap.size, 0, none⟩) l c) (w.alloc (.cells (ZZ c) 3)) := by
  obtain ⟨i, hi, hz, hs, hb⟩ := info_parts Tryz.infoZc
  have h := run_make (P := Tryz.prog) w T 3 i _ hT hi hz .i64 .i64 (l : Int) (c : Int) (by omega) (by omega) (by rw [hb]; omega) (by omega)
  simp only [Int.toNat_natCast, hs, Nat.mul_one] at h
  exact h
theorem Zc.made (w : World) (l c : Nat) (hl : l ≤ c) (hc : c ≤ 1000000000000) : Zc (w.alloc (.cells (ZZ c) 3)) w.heap.size l c (List.replicate l 0) := by
  refine Zc.mk' (heap_alloc_new w _) hl (by unfold maxLen; omega) (ZZ_size c) ?_
  rw [ZZ_list, Zi_take, List.take_replicate, Nat.min_eq_left hl]

/-- append: onto a row of the call's own, of another row (one new element, or '...'). -/
theorem append_Zc {ops : Array Oper} {rest : List Oper} {o : Oper} {a : Act} {w : World} {Q : Exit → Act → World → Prop} (hgd : o.guard = none) (s x : Operand) (t : TypeId)
    (ho : o.op = .call { callee := .builtin .append, args := #[s, x], argTypes := #[t, t] }) (ht : Tryz.prog.underlying t = some (.slice 3))
    (g n cap : Nat) (xs : List Int) (hs : a.eval s = .slice (some ⟨g, 0, none⟩) n cap) (hp : Zc w g n cap xs)
    (g2 m c : Nat) (ys : List Int) (hx : a.eval x = .slice (some ⟨g2, 0, none⟩) m c) (hq : Zc w g2 m c ys) (hbd : n + m ≤ 1000000000000)
    (h : ∀ g' cap' w', Zc w' g' (n + m) cap' (xs ++ ys) → Only g w w' → (g' = g ∨ g' = w.heap.size) → wpList Tryz.prog ops Q rest (a.put o.dst (.slice (some ⟨g', 0, none⟩) (n + m) cap')) w') :
    wpList Tryz.prog ops Q (o :: rest) a w := by
  obtain ⟨i, hi, hz, hsz, hb⟩ := info_parts Tryz.infoZc
  have hl := hq.len
  obtain ⟨v', w', hr, h2, h3, h4, h5⟩ := run_append_own_at (P := Tryz.prog) w 0 t o.type 3 i _ 1 8 ht hi hz hsz hb rfl (by decide) _ n (Zi xs) hp ⟨g2, 0, none⟩ m c (Zi ys) (by rw [Zi_len]; omega)
    (fun j u hu => by
      have hj : j < m := by have := (List.getElem?_eq_some_iff.1 hu).1; rw [Zi_len] at this; omega
      have hadd : (⟨g2, 0, none⟩ : Addr).add j = ⟨g2, j, none⟩ := by unfold Addr.add; split <;> simp_all
      rw [hadd, World.ownsRow.cellAt hq j (by omega), hu])
    (Zi_one' ys) (by unfold maxLen; omega) (by omega) (Nat.zero_le _)
  obtain ⟨g', cap', rfl, hlt⟩ : ∃ g' cap', v' = .slice (some ⟨g', 0, none⟩) (n + m) cap' ∧ True := by
    rcases h2.2 with ⟨e, _⟩ | ⟨g', cap', cur, e, _⟩
    · have := (h4.1 e).1; cases this
    · exact ⟨g', cap', e, trivial⟩
  refine wpList_plain hgd fun _ hK => ?_
  unfold Oper.wp execOp
  simp only [ho, resolve, invoke, builtin, Sem.run_bind, Sem.run_pure, Result.andThen_ok, List.map_toArray, List.map_cons, List.map_nil, hs, hx, hr]
  refine hK _ _ (h g' cap' w' ?_ h3 ?_)
  · rw [Zi_append] at h2; exact h2
  · rcases h5 with h5 | h5
    · left; simpa [Value.ownBlock] using h5
    · right; simpa [Value.ownBlock] using h5

/-! ## strings of the type string -/
/-- strings of the type string, as cells. -/
def Sh (xs : List ByteArray) : List Value := xs.map fun (x : ByteArray) => Value.string x
theorem Sh_len (xs : List ByteArray) : (Sh xs).length = xs.length := by simp [Sh]
theorem Sh_get (xs : List ByteArray) (j : Nat) (h : j < xs.length) : (Sh xs)[j]? = some (.string (xs.getD j ⟨#[]⟩)) := by
  simp [Sh, List.getD_eq_getElem?_getD, List.getElem?_eq_getElem h]
theorem Sh_take (xs : List ByteArray) (k : Nat) : (Sh xs).take k = Sh (xs.take k) := by simp [Sh]
theorem Sh_set (xs : List ByteArray) (j : Nat) (x : ByteArray) : (Sh xs).set j (.string x) = Sh (xs.set j x) := by simp [Sh, List.map_set]
theorem Sh_append (xs ys : List ByteArray) : Sh xs ++ Sh ys = Sh (xs ++ ys) := by simp [Sh]
theorem Sh_one' (xs : List ByteArray) : ∀ u ∈ Sh xs, u.oneCell' = true := by
  intro u hu
  obtain ⟨x, _, rfl⟩ := List.mem_map.1 hu
  rfl

/-- Block g holds a slice of these, of length n, at its head; its elements are xs. -/
def Tc (w : World) (g n cap : Nat) (xs : List ByteArray) : Prop := w.ownsRow 0 9 1 (.slice (some ⟨g, 0, none⟩) n cap) n (Sh xs)

section
variable {w w' : World} {g n cap : Nat} {xs : List ByteArray}
theorem Tc.len (h : Tc w g n cap xs) : xs.length = n := by have := h.1; rw [Sh_len] at this; omega
theorem Tc.form (h : Tc w g n cap xs) : ∃ cur, w.heap[g]? = some (.cells cur 9 (0, 0)) ∧ n ≤ cap ∧ cap ≤ maxLen ∧ cur.size = cap ∧ cur.toList.take n = Sh xs := by
  rcases h.2 with ⟨e, _⟩ | ⟨g', cap', cur, e, _, hh, h1, h2, h3, h4⟩
  · cases e
  · cases e; exact ⟨cur, hh, h1, h2, by omega, by rw [Nat.mul_one] at h4; exact h4⟩
theorem Tc.mk' {cur : Array Value} (hh : w.heap[g]? = some (.cells cur 9 (0, 0))) (h1 : n ≤ cap) (h2 : cap ≤ maxLen) (h3 : cur.size = cap) (h4 : cur.toList.take n = Sh xs) : Tc w g n cap xs := by
  have hl : (Sh xs).length = n := by rw [← h4, List.length_take, Array.length_toList]; omega
  exact ⟨by omega, .inr ⟨g, cap, cur, rfl, Nat.zero_le _, hh, h1, h2, by omega, by rw [Nat.mul_one]; exact h4⟩⟩
theorem Tc.of_own {B g' cap' : Nat} {v : Value} (h : w.ownsRow B 9 1 v n (Sh xs)) (hv : v = .slice (some ⟨g', 0, none⟩) n cap') : Tc w g' n cap' xs := by
  subst hv
  refine ⟨h.1, ?_⟩
  rcases h.2 with ⟨e, _⟩ | ⟨g2, cap2, cur, e, _, r⟩
  · cases e
  · exact .inr ⟨g2, cap2, cur, e, Nat.zero_le _, r⟩
theorem Tc.to_own (h : Tc w g n cap xs) {B : Nat} (hB : B ≤ g) : w.ownsRow B 9 1 (.slice (some ⟨g, 0, none⟩) n cap) n (Sh xs) := by
  refine ⟨h.1, ?_⟩
  rcases h.2 with ⟨e, _⟩ | ⟨g2, cap2, cur, e, _, r⟩
  · cases e
  · cases e; exact .inr ⟨g, cap, cur, rfl, hB, r⟩
theorem Tc.lt (h : Tc w g n cap xs) : g < w.heap.size := by
  obtain ⟨cur, hh, _⟩ := h.form
  exact (Array.getElem?_eq_some_iff.1 hh).1
theorem Tc.le (h : Tc w g n cap xs) : n ≤ cap := by obtain ⟨_, _, h1, _⟩ := h.form; exact h1
theorem Tc.cap_le (h : Tc w g n cap xs) : cap ≤ 9223372036854775807 := by obtain ⟨_, _, _, h1, _⟩ := h.form; exact h1
theorem Tc.cell (h : Tc w g n cap xs) (j : Nat) (hj : j < n) : w.cell? ⟨g, j, none⟩ = some (.string (xs.getD j ⟨#[]⟩)) := by
  have := World.ownsRow.cellAt h j (by omega)
  rw [this, Sh_get xs j (by rw [h.len]; exact hj)]
theorem Tc.free (h : Tc w g n cap xs) (j : Nat) : w.frozen? ⟨g, j, none⟩ = false := World.ownsRow.frozenAt h j
theorem Tc.take (h : Tc w g n cap xs) (k : Nat) (hk : k ≤ n) : Tc w g k cap (xs.take k) := by
  obtain ⟨cur, hh, h1, h2, h3, h4⟩ := h.form
  refine Tc.mk' hh (by omega) h2 h3 ?_
  rw [← Sh_take, ← h4, List.take_take, Nat.min_eq_left hk]
theorem Tc.of_heap (h : Tc w g n cap xs) (e : w'.heap[g]? = w.heap[g]?) : Tc w' g n cap xs := by
  obtain ⟨cur, hh, h1, h2, h3, h4⟩ := h.form
  exact Tc.mk' (e.trans hh) h1 h2 h3 h4
theorem Tc.below (h : Tc w g n cap xs) {B : Nat} (hb : Below B w w') (hg : g < B) : Tc w' g n cap xs := h.of_heap (hb.block g hg)
theorem Tc.drew (h : Tc w g n cap xs) : Tc w.drew g n cap xs := h
theorem Tc.drewN (h : Tc w g n cap xs) (k : Nat) : Tc (w.drewN k) g n cap xs := h
theorem Tc.alloc (h : Tc w g n cap xs) (o : Obj) : Tc (w.alloc o) g n cap xs := h.of_heap (Below.heap_alloc w o g h.lt)
theorem Tc.far (h : Tc w g n cap xs) {p : Addr} (hp : g ≠ p.block) (u : Value) : Tc (w.setCell p u) g n cap xs := h.of_heap (Below.heap_setCell w p u g hp)
theorem Tc.set (h : Tc w g n cap xs) (j : Nat) (x : ByteArray) : Tc (w.setCell ⟨g, j, none⟩ (.string x)) g n cap (xs.set j x) := by
  obtain ⟨cur, hh, h1, h2, h3, h4⟩ := h.form
  refine Tc.mk' (cur := cur.setIfInBounds j (.string x)) (by simp [World.setCell, Array.getElem?_modify, hh]) h1 h2 (by simpa using h3) ?_
  rw [Array.toList_setIfInBounds, List.take_set, h4, Sh_set]
theorem Tc.grown (h : Tc w g n cap xs) {row : Option Nat} (hg : w.grownBy w' row) (hne : some g ≠ row) : Tc w' g n cap xs := h.of_heap (hg.block g h.lt hne)
theorem Only.Tc {a : World} {g0 : Nat} (h : Only g0 w a) {g' n cap : Nat} {xs : List ByteArray} (hp : Tc w g' n cap xs) (hne : g' ≠ g0) : Tc a g' n cap xs := hp.of_heap (h.block g' hp.lt (by intro e; injection e with e; exact hne e))
/-- A new block of one element, as an append lays it. -/
theorem Tc.one (w : World) (x : ByteArray) : Tc (w.alloc (.cells #[.string x] 9)) w.heap.size 1 1 [x] :=
  Tc.mk' (heap_alloc_new w _) (Nat.le_refl _) (by unfold maxLen; omega) rfl rfl
end

theorem Tryz.infoTc : (Tryz.prog.info? 9).map (fun i => (i.zero, i.size, i.bytes)) = some (some (.string ⟨#[]⟩), 1, 16) := by kernel_rfl
/-- n zeros, in a new block. -/
def TZ (n : Nat) : Array Value := madeCells #[.string ⟨#[]⟩] n
theorem TZ_size (n : Nat) : (TZ n).size = n := size_madeCells _ n
theorem TZ_list (n : Nat) : (TZ n).toList = Sh (List.replicate n (⟨#[]⟩ : ByteArray)) := by
  unfold TZ Sh
  (rw [toList_madeCells_one, List.map_replicate]) <;> rfl
theorem make_Tc (T : TypeId) (hT : Tryz.prog.underlying T = some (.slice 9)) (l c : Nat) (hl : l ≤ c) (hc : c ≤ 1000000000000) (w : World) :
    (Instr.makeSlice T (.int .i64 (l : Int)) (.int .i64 (c : Int))).run Tryz.prog w = .ok (.slice (some ⟨w.heap.size, 0, none⟩) l c) (w.alloc (.cells (TZ c) 9)) := by
  obtain ⟨i, hi, hz, hs, hb⟩ := info_parts Tryz.infoTc
  have h := run_make (P := Tryz.prog) w T 9 i _ hT hi hz .i64 .i64 (l : Int) (c : Int) (by omega) (by omega) (by rw [hb]; omega) (by omega)
  simp only [Int.toNat_natCast, hs, Nat.mul_one] at h
  exact h
theorem Tc.made (w : World) (l c : Nat) (hl : l ≤ c) (hc : c ≤ 1000000000000) : Tc (w.alloc (.cells (TZ c) 9)) w.heap.size l c (List.replicate l (⟨#[]⟩ : ByteArray)) := by
  refine Tc.mk' (heap_alloc_new w _) hl (by unfold maxLen; omega) (TZ_size c) ?_
  rw [TZ_list, Sh_take, List.take_replicate, Nat.min_eq_left hl]

/-- append: onto a row of the call's own, of another row (one new element, or '...'). -/
theorem append_Tc {ops : Array Oper} {rest : List Oper} {o : Oper} {a : Act} {w : World} {Q : Exit → Act → World → Prop} (hgd : o.guard = none) (s x : Operand) (t : TypeId)
    (ho : o.op = .call { callee := .builtin .append, args := #[s, x], argTypes := #[t, t] }) (ht : Tryz.prog.underlying t = some (.slice 9))
    (g n cap : Nat) (xs : List ByteArray) (hs : a.eval s = .slice (some ⟨g, 0, none⟩) n cap) (hp : Tc w g n cap xs)
    (g2 m c : Nat) (ys : List ByteArray) (hx : a.eval x = .slice (some ⟨g2, 0, none⟩) m c) (hq : Tc w g2 m c ys) (hbd : n + m ≤ 1000000000000)
    (h : ∀ g' cap' w', Tc w' g' (n + m) cap' (xs ++ ys) → Only g w w' → (g' = g ∨ g' = w.heap.size) → wpList Tryz.prog ops Q rest (a.put o.dst (.slice (some ⟨g', 0, none⟩) (n + m) cap')) w') :
    wpList Tryz.prog ops Q (o :: rest) a w := by
  obtain ⟨i, hi, hz, hsz, hb⟩ := info_parts Tryz.infoTc
  have hl := hq.len
  obtain ⟨v', w', hr, h2, h3, h4, h5⟩ := run_append_own_at (P := Tryz.prog) w 0 t o.type 9 i _ 1 16 ht hi hz hsz hb rfl (by decide) _ n (Sh xs) hp ⟨g2, 0, none⟩ m c (Sh ys) (by rw [Sh_len]; omega)
    (fun j u hu => by
      have hj : j < m := by have := (List.getElem?_eq_some_iff.1 hu).1; rw [Sh_len] at this; omega
      have hadd : (⟨g2, 0, none⟩ : Addr).add j = ⟨g2, j, none⟩ := by unfold Addr.add; split <;> simp_all
      rw [hadd, World.ownsRow.cellAt hq j (by omega), hu])
    (Sh_one' ys) (by unfold maxLen; omega) (by omega) (Nat.zero_le _)
  obtain ⟨g', cap', rfl, hlt⟩ : ∃ g' cap', v' = .slice (some ⟨g', 0, none⟩) (n + m) cap' ∧ True := by
    rcases h2.2 with ⟨e, _⟩ | ⟨g', cap', cur, e, _⟩
    · have := (h4.1 e).1; cases this
    · exact ⟨g', cap', e, trivial⟩
  refine wpList_plain hgd fun _ hK => ?_
  unfold Oper.wp execOp
  simp only [ho, resolve, invoke, builtin, Sem.run_bind, Sem.run_pure, Result.andThen_ok, List.map_toArray, List.map_cons, List.map_nil, hs, hx, hr]
  refine hK _ _ (h g' cap' w' ?_ h3 ?_)
  · rw [Sh_append] at h2; exact h2
  · rcases h5 with h5 | h5
    · left; simpa [Value.ownBlock] using h5
    · right; simpa [Value.ownBlock] using h5

/-- append onto nil. -/
theorem append_nil_Zc {ops : Array Oper} {rest : List Oper} {o : Oper} {a : Act} {w : World} {Q : Exit → Act → World → Prop} (hgd : o.guard = none) (s x : Operand) (t : TypeId)
    (ho : o.op = .call { callee := .builtin .append, args := #[s, x], argTypes := #[t, t] }) (ht : Tryz.prog.underlying t = some (.slice 3))
    (hs : a.eval s = .slice none 0 0) (g2 m c : Nat) (ys : List Int) (hx : a.eval x = .slice (some ⟨g2, 0, none⟩) m c) (hq : Zc w g2 m c ys) (hm : 0 < m) (hbd : m ≤ 1000000000000)
    (h : ∀ cap' w', Zc w' w.heap.size m cap' ys → Below w.heap.size w w' → wpList Tryz.prog ops Q rest (a.put o.dst (.slice (some ⟨w.heap.size, 0, none⟩) m cap')) w') :
    wpList Tryz.prog ops Q (o :: rest) a w := by
  obtain ⟨i, hi, hz, hsz, hb⟩ := info_parts Tryz.infoZc
  have hl := hq.len
  obtain ⟨v', w', hr, h2, h3, h4, h5⟩ := run_append_own_at (P := Tryz.prog) w w.heap.size t o.type 3 i _ 1 8 ht hi hz hsz hb rfl (by decide) _ 0 [] (World.ownsRow_nil w w.heap.size 3 1) ⟨g2, 0, none⟩ m c (Zi ys) (by rw [Zi_len]; omega)
    (fun j u hu => by
      have hj : j < m := by have := (List.getElem?_eq_some_iff.1 hu).1; rw [Zi_len] at this; omega
      have hadd : (⟨g2, 0, none⟩ : Addr).add j = ⟨g2, j, none⟩ := by unfold Addr.add; split <;> simp_all
      rw [hadd, World.ownsRow.cellAt hq j (by omega), hu])
    (Zi_one' ys) (by unfold maxLen; omega) (by omega) (Nat.le_refl _)
  rw [Nat.zero_add, List.nil_append] at h2
  obtain ⟨g', cap', rfl⟩ : ∃ g' cap', v' = .slice (some ⟨g', 0, none⟩) m cap' := by
    rcases h2.2 with ⟨e, _⟩ | ⟨g', cap', cur, e, _⟩
    · have := (h4.1 e).2; omega
    · exact ⟨g', cap', e⟩
  have hg' : g' = w.heap.size := by
    rcases h5 with h5 | h5
    · simp [Value.ownBlock] at h5
    · simpa [Value.ownBlock] using h5
  subst hg'
  refine wpList_plain hgd fun _ hK => ?_
  unfold Oper.wp execOp
  simp only [ho, resolve, invoke, builtin, Sem.run_bind, Sem.run_pure, Result.andThen_ok, List.map_toArray, List.map_cons, List.map_nil, hs, hx, hr]
  exact hK _ _ (h cap' w' (Zc.of_own h2 rfl) ⟨h3.os, h3.tape, h3.output, h3.size, fun k hk => h3.block k hk (by simp [Value.ownBlock])⟩)

/-- append onto nil. -/
theorem append_nil_Tc {ops : Array Oper} {rest : List Oper} {o : Oper} {a : Act} {w : World} {Q : Exit → Act → World → Prop} (hgd : o.guard = none) (s x : Operand) (t : TypeId)
    (ho : o.op = .call { callee := .builtin .append, args := #[s, x], argTypes := #[t, t] }) (ht : Tryz.prog.underlying t = some (.slice 9))
    (hs : a.eval s = .slice none 0 0) (g2 m c : Nat) (ys : List ByteArray) (hx : a.eval x = .slice (some ⟨g2, 0, none⟩) m c) (hq : Tc w g2 m c ys) (hm : 0 < m) (hbd : m ≤ 1000000000000)
    (h : ∀ cap' w', Tc w' w.heap.size m cap' ys → Below w.heap.size w w' → wpList Tryz.prog ops Q rest (a.put o.dst (.slice (some ⟨w.heap.size, 0, none⟩) m cap')) w') :
    wpList Tryz.prog ops Q (o :: rest) a w := by
  obtain ⟨i, hi, hz, hsz, hb⟩ := info_parts Tryz.infoTc
  have hl := hq.len
  obtain ⟨v', w', hr, h2, h3, h4, h5⟩ := run_append_own_at (P := Tryz.prog) w w.heap.size t o.type 9 i _ 1 16 ht hi hz hsz hb rfl (by decide) _ 0 [] (World.ownsRow_nil w w.heap.size 9 1) ⟨g2, 0, none⟩ m c (Sh ys) (by rw [Sh_len]; omega)
    (fun j u hu => by
      have hj : j < m := by have := (List.getElem?_eq_some_iff.1 hu).1; rw [Sh_len] at this; omega
      have hadd : (⟨g2, 0, none⟩ : Addr).add j = ⟨g2, j, none⟩ := by unfold Addr.add; split <;> simp_all
      rw [hadd, World.ownsRow.cellAt hq j (by omega), hu])
    (Sh_one' ys) (by unfold maxLen; omega) (by omega) (Nat.le_refl _)
  rw [Nat.zero_add, List.nil_append] at h2
  obtain ⟨g', cap', rfl⟩ : ∃ g' cap', v' = .slice (some ⟨g', 0, none⟩) m cap' := by
    rcases h2.2 with ⟨e, _⟩ | ⟨g', cap', cur, e, _⟩
    · have := (h4.1 e).2; omega
    · exact ⟨g', cap', e⟩
  have hg' : g' = w.heap.size := by
    rcases h5 with h5 | h5
    · simp [Value.ownBlock] at h5
    · simpa [Value.ownBlock] using h5
  subst hg'
  refine wpList_plain hgd fun _ hK => ?_
  unfold Oper.wp execOp
  simp only [ho, resolve, invoke, builtin, Sem.run_bind, Sem.run_pure, Result.andThen_ok, List.map_toArray, List.map_cons, List.map_nil, hs, hx, hr]
  exact hK _ _ (h cap' w' (Tc.of_own h2 rfl) ⟨h3.os, h3.tape, h3.output, h3.size, fun k hk => h3.block k hk (by simp [Value.ownBlock])⟩)

/-- A slice of ints, nil let in: '.slice A n cap'. -/
def Zs (w : World) (A : Option Addr) (n cap : Nat) (xs : List Int) : Prop := (A = none ∧ n = 0 ∧ cap = 0 ∧ xs = []) ∨ ∃ g, A = some ⟨g, 0, none⟩ ∧ Zc w g n cap xs
section
variable {w w' : World} {A : Option Addr} {n cap : Nat} {xs : List Int}
theorem Zs.nil (w : World) : Zs w none 0 0 [] := .inl ⟨rfl, rfl, rfl, rfl⟩
theorem Zs.of {g : Nat} (h : Zc w g n cap xs) : Zs w (some ⟨g, 0, none⟩) n cap xs := .inr ⟨g, rfl, h⟩
theorem Zs.len (h : Zs w A n cap xs) : xs.length = n := by
  rcases h with ⟨_, rfl, _, rfl⟩ | ⟨g, _, h⟩
  · rfl
  · exact h.len
theorem Zs.le (h : Zs w A n cap xs) : n ≤ cap := by
  rcases h with ⟨_, rfl, rfl, _⟩ | ⟨g, _, h⟩
  · exact Nat.le_refl _
  · exact h.le
theorem Zs.cap_le (h : Zs w A n cap xs) : cap ≤ 9223372036854775807 := by
  rcases h with ⟨_, _, rfl, _⟩ | ⟨g, _, h⟩
  · omega
  · exact h.cap_le
theorem Zs.at_ (h : Zs w A n cap xs) {k : Nat} (hk : k < n) : ∃ g, A = some ⟨g, 0, none⟩ ∧ Zc w g n cap xs := by
  rcases h with ⟨_, rfl, _, _⟩ | h
  · omega
  · exact h
theorem Zs.below (h : Zs w A n cap xs) {B : Nat} (hb : Below B w w') (hB : w.heap.size ≤ B) : Zs w' A n cap xs := by
  rcases h with h | ⟨g, e, h⟩
  · exact .inl h
  · exact .inr ⟨g, e, h.below hb (Nat.lt_of_lt_of_le h.lt hB)⟩
theorem Zs.take (h : Zs w A n cap xs) (k : Nat) (hk : k ≤ n) : Zs w A k cap (xs.take k) := by
  rcases h with ⟨e, rfl, e2, rfl⟩ | ⟨g, e, h⟩
  · exact .inl ⟨e, by omega, e2, by simp⟩
  · exact .inr ⟨g, e, h.take k hk⟩
end

/-- A slice of strings of the type string, nil let in: '.slice A n cap'. -/
def Ts (w : World) (A : Option Addr) (n cap : Nat) (xs : List ByteArray) : Prop := (A = none ∧ n = 0 ∧ cap = 0 ∧ xs = []) ∨ ∃ g, A = some ⟨g, 0, none⟩ ∧ Tc w g n cap xs
section
variable {w w' : World} {A : Option Addr} {n cap : Nat} {xs : List ByteArray}
theorem Ts.nil (w : World) : Ts w none 0 0 [] := .inl ⟨rfl, rfl, rfl, rfl⟩
theorem Ts.of {g : Nat} (h : Tc w g n cap xs) : Ts w (some ⟨g, 0, none⟩) n cap xs := .inr ⟨g, rfl, h⟩
theorem Ts.len (h : Ts w A n cap xs) : xs.length = n := by
  rcases h with ⟨_, rfl, _, rfl⟩ | ⟨g, _, h⟩
  · rfl
  · exact h.len
theorem Ts.le (h : Ts w A n cap xs) : n ≤ cap := by
  rcases h with ⟨_, rfl, rfl, _⟩ | ⟨g, _, h⟩
  · exact Nat.le_refl _
  · exact h.le
theorem Ts.cap_le (h : Ts w A n cap xs) : cap ≤ 9223372036854775807 := by
  rcases h with ⟨_, _, rfl, _⟩ | ⟨g, _, h⟩
  · omega
  · exact h.cap_le
theorem Ts.at_ (h : Ts w A n cap xs) {k : Nat} (hk : k < n) : ∃ g, A = some ⟨g, 0, none⟩ ∧ Tc w g n cap xs := by
  rcases h with ⟨_, rfl, _, _⟩ | h
  · omega
  · exact h
theorem Ts.below (h : Ts w A n cap xs) {B : Nat} (hb : Below B w w') (hB : w.heap.size ≤ B) : Ts w' A n cap xs := by
  rcases h with h | ⟨g, e, h⟩
  · exact .inl h
  · exact .inr ⟨g, e, h.below hb (Nat.lt_of_lt_of_le h.lt hB)⟩
theorem Ts.take (h : Ts w A n cap xs) (k : Nat) (hk : k ≤ n) : Ts w A k cap (xs.take k) := by
  rcases h with ⟨e, rfl, e2, rfl⟩ | ⟨g, e, h⟩
  · exact .inl ⟨e, by omega, e2, by simp⟩
  · exact .inr ⟨g, e, h.take k hk⟩
end

/-- A slice of ints that is nil or lies in a block from B on. -/
def OwnZ (B : Nat) (w : World) (v : Value) (xs : List Int) : Prop := (v = .slice none 0 0 ∧ xs = []) ∨ ∃ g cap, v = .slice (some ⟨g, 0, none⟩) xs.length cap ∧ B ≤ g ∧ Zc w g xs.length cap xs
theorem OwnZ.nil (B : Nat) (w : World) : OwnZ B w (.slice none 0 0) [] := .inl ⟨rfl, rfl⟩
theorem OwnZ.ss {B : Nat} {w : World} {v : Value} {xs : List Int} (h : OwnZ B w v xs) : ∃ A cap, v = .slice A xs.length cap ∧ Zs w A xs.length cap xs := by
  rcases h with ⟨rfl, rfl⟩ | ⟨g, cap, rfl, _, h⟩
  · exact ⟨none, 0, rfl, Zs.nil w⟩
  · exact ⟨_, cap, rfl, Zs.of h⟩
theorem OwnZ.drewN {B : Nat} {w : World} {v : Value} {xs : List Int} (h : OwnZ B w v xs) (k : Nat) : OwnZ B (w.drewN k) v xs := h
theorem OwnZ.below {B : Nat} {w w' : World} {v : Value} {xs : List Int} (h : OwnZ B w v xs) (hb : Below w.heap.size w w') : OwnZ B w' v xs := by
  rcases h with h | ⟨g, c, e, hg, h⟩
  · exact .inl h
  · exact .inr ⟨g, c, e, hg, h.below hb h.lt⟩
theorem OwnZ.mono {B B' : Nat} {w : World} {v : Value} {xs : List Int} (h : OwnZ B w v xs) (hB : B' ≤ B) : OwnZ B' w v xs := by
  rcases h with h | ⟨g, c, e, hg, h⟩
  · exact .inl h
  · exact .inr ⟨g, c, e, by omega, h⟩
theorem append_OwnZ {ops : Array Oper} {rest : List Oper} {o : Oper} {a : Act} {w : World} {Q : Exit → Act → World → Prop} (hgd : o.guard = none) (s x : Operand) (t : TypeId)
    (ho : o.op = .call { callee := .builtin .append, args := #[s, x], argTypes := #[t, t] }) (ht : Tryz.prog.underlying t = some (.slice 3))
    (B : Nat) (v : Value) (xs : List Int) (w0 : World) (hs : a.eval s = v) (hp : OwnZ B w0 v xs) (hB : B ≤ w0.heap.size) (hn : xs.length ≤ 1000000000) (y : Int)
    (hw : w = w0.alloc (.cells #[.int .i64 y] 3)) (hx : a.eval x = .slice (some ⟨w0.heap.size, 0, none⟩) 1 1)
    (h : ∀ v' w', OwnZ B w' v' (xs ++ [y]) → Below B w0 w' → wpList Tryz.prog ops Q rest (a.put o.dst v') w') :
    wpList Tryz.prog ops Q (o :: rest) a w := by
  subst hw
  have hone := Zc.one w0 y
  rcases hp with ⟨rfl, rfl⟩ | ⟨g, cap, rfl, hg, hp⟩
  · refine append_nil_Zc hgd s x t ho ht hs _ 1 1 [y] hx hone (by omega) (by omega) ?_
    intro cap' w' hq hb
    have hsz : (w0.alloc (.cells #[.int .i64 y] 3)).heap.size = w0.heap.size + 1 := World.size_alloc _ _
    exact h _ _ (.inr ⟨_, cap', rfl, by rw [hsz]; omega, hq⟩) (((Below.refl B w0).alloc hB _).trans (hb.mono (by rw [hsz]; omega)))
  · refine append_Zc hgd s x t ho ht g xs.length cap xs hs (hp.alloc _) _ 1 1 [y] hx hone (by omega) ?_
    intro g' cap' w' hq hon hat
    rw [World.size_alloc] at hat
    have hgl := hp.lt
    refine h _ _ (.inr ⟨g', cap', by rw [List.length_append]; rfl, by rcases hat with h | h <;> omega, by rw [List.length_append]; exact hq⟩) ?_
    exact bel_only ((Below.refl B w0).alloc hB _) hon hg (by rw [World.size_alloc]; omega)

/-- A slice of strings of the type string that is nil or lies in a block from B on. -/
def OwnS (B : Nat) (w : World) (v : Value) (xs : List ByteArray) : Prop := (v = .slice none 0 0 ∧ xs = []) ∨ ∃ g cap, v = .slice (some ⟨g, 0, none⟩) xs.length cap ∧ B ≤ g ∧ Tc w g xs.length cap xs
theorem OwnS.nil (B : Nat) (w : World) : OwnS B w (.slice none 0 0) [] := .inl ⟨rfl, rfl⟩
theorem OwnS.ss {B : Nat} {w : World} {v : Value} {xs : List ByteArray} (h : OwnS B w v xs) : ∃ A cap, v = .slice A xs.length cap ∧ Ts w A xs.length cap xs := by
  rcases h with ⟨rfl, rfl⟩ | ⟨g, cap, rfl, _, h⟩
  · exact ⟨none, 0, rfl, Ts.nil w⟩
  · exact ⟨_, cap, rfl, Ts.of h⟩
theorem OwnS.drewN {B : Nat} {w : World} {v : Value} {xs : List ByteArray} (h : OwnS B w v xs) (k : Nat) : OwnS B (w.drewN k) v xs := h
theorem OwnS.below {B : Nat} {w w' : World} {v : Value} {xs : List ByteArray} (h : OwnS B w v xs) (hb : Below w.heap.size w w') : OwnS B w' v xs := by
  rcases h with h | ⟨g, c, e, hg, h⟩
  · exact .inl h
  · exact .inr ⟨g, c, e, hg, h.below hb h.lt⟩
theorem OwnS.mono {B B' : Nat} {w : World} {v : Value} {xs : List ByteArray} (h : OwnS B w v xs) (hB : B' ≤ B) : OwnS B' w v xs := by
  rcases h with h | ⟨g, c, e, hg, h⟩
  · exact .inl h
  · exact .inr ⟨g, c, e, by omega, h⟩
theorem append_OwnS {ops : Array Oper} {rest : List Oper} {o : Oper} {a : Act} {w : World} {Q : Exit → Act → World → Prop} (hgd : o.guard = none) (s x : Operand) (t : TypeId)
    (ho : o.op = .call { callee := .builtin .append, args := #[s, x], argTypes := #[t, t] }) (ht : Tryz.prog.underlying t = some (.slice 9))
    (B : Nat) (v : Value) (xs : List ByteArray) (w0 : World) (hs : a.eval s = v) (hp : OwnS B w0 v xs) (hB : B ≤ w0.heap.size) (hn : xs.length ≤ 1000000000) (y : ByteArray)
    (hw : w = w0.alloc (.cells #[.string y] 9)) (hx : a.eval x = .slice (some ⟨w0.heap.size, 0, none⟩) 1 1)
    (h : ∀ v' w', OwnS B w' v' (xs ++ [y]) → Below B w0 w' → wpList Tryz.prog ops Q rest (a.put o.dst v') w') :
    wpList Tryz.prog ops Q (o :: rest) a w := by
  subst hw
  have hone := Tc.one w0 y
  rcases hp with ⟨rfl, rfl⟩ | ⟨g, cap, rfl, hg, hp⟩
  · refine append_nil_Tc hgd s x t ho ht hs _ 1 1 [y] hx hone (by omega) (by omega) ?_
    intro cap' w' hq hb
    have hsz : (w0.alloc (.cells #[.string y] 9)).heap.size = w0.heap.size + 1 := World.size_alloc _ _
    exact h _ _ (.inr ⟨_, cap', rfl, by rw [hsz]; omega, hq⟩) (((Below.refl B w0).alloc hB _).trans (hb.mono (by rw [hsz]; omega)))
  · refine append_Tc hgd s x t ho ht g xs.length cap xs hs (hp.alloc _) _ 1 1 [y] hx hone (by omega) ?_
    intro g' cap' w' hq hon hat
    rw [World.size_alloc] at hat
    have hgl := hp.lt
    refine h _ _ (.inr ⟨g', cap', by rw [List.length_append]; rfl, by rcases hat with h | h <;> omega, by rw [List.length_append]; exact hq⟩) ?_
    exact bel_only ((Below.refl B w0).alloc hB _) hon hg (by rw [World.size_alloc]; omega)

/-- A slice of ints that is read: its elements are xs. -/
def InZ (w : World) (A : Option Addr) (n cap : Nat) (xs : List Int) : Prop :=
  xs.length = n ∧ n ≤ cap ∧ cap ≤ 9223372036854775807 ∧ (0 < n → ∃ b off, A = some ⟨b, off, none⟩ ∧ b < w.heap.size ∧ ∀ j, j < n → w.cell? ⟨b, off + j, none⟩ = some (.int .i64 (xs.getD j 0)))
theorem InZ.below {w w' : World} {A : Option Addr} {n cap : Nat} {xs : List Int} (h : InZ w A n cap xs) (hb : Below w.heap.size w w') : InZ w' A n cap xs := by
  refine ⟨h.1, h.2.1, h.2.2.1, fun hn => ?_⟩
  obtain ⟨b, off, e, hlt, hc⟩ := h.2.2.2 hn
  have := hb.size
  exact ⟨b, off, e, by omega, fun j hj => (hb.cell (p := ⟨b, off + j, none⟩) hlt).trans (hc j hj)⟩
theorem InZ.nil (w : World) : InZ w none 0 0 [] := ⟨rfl, Nat.le_refl _, by omega, fun h => absurd h (Nat.lt_irrefl _)⟩
theorem Zc.ins {w : World} {g n cap : Nat} {xs : List Int} (h : Zc w g n cap xs) : InZ w (some ⟨g, 0, none⟩) n cap xs :=
  ⟨h.len, h.le, h.cap_le, fun _ => ⟨g, 0, rfl, h.lt, fun j hj => by rw [Nat.zero_add]; exact h.cell j hj⟩⟩
theorem Zs.ins {w : World} {A : Option Addr} {n cap : Nat} {xs : List Int} (h : Zs w A n cap xs) : InZ w A n cap xs := by
  rcases h with ⟨rfl, rfl, rfl, rfl⟩ | ⟨g, rfl, h⟩
  · exact InZ.nil w
  · exact h.ins
theorem OwnZ.ins {B : Nat} {w : World} {v : Value} {xs : List Int} (h : OwnZ B w v xs) : ∃ A cap, v = .slice A xs.length cap ∧ InZ w A xs.length cap xs := by
  obtain ⟨A, cap, e, h⟩ := h.ss
  exact ⟨A, cap, e, h.ins⟩
/-- The first k of them, with what capacity you will. -/
theorem InZ.take {w : World} {A : Option Addr} {n cap : Nat} {xs : List Int} (h : InZ w A n cap xs) (k c : Nat) (hk : k ≤ n) (hc : k ≤ c) (hm : c ≤ 9223372036854775807) : InZ w A k c (xs.take k) := by
  refine ⟨by rw [List.length_take, h.1]; omega, hc, hm, fun h0 => ?_⟩
  obtain ⟨b, off, e, hlt, hcell⟩ := h.2.2.2 (by omega)
  refine ⟨b, off, e, hlt, fun j hj => ?_⟩
  rw [hcell j (by omega), List.getD_eq_getElem?_getD, List.getD_eq_getElem?_getD, List.getElem?_take_of_lt hj]
/-- What the shelf's contracts ask of the cells. -/
theorem InZ.cells {w : World} {A : Option Addr} {n cap : Nat} {xs : List Int} (h : InZ w A n cap xs) (h0 : 0 < n) : ∃ b off, A = some ⟨b, off, none⟩ ∧ b < w.heap.size ∧ ∀ j, j < xs.length → w.cell? ⟨b, off + j, none⟩ = some (.int .i64 xs[j]!) := by
  obtain ⟨b, off, e, hlt, hc⟩ := h.2.2.2 h0
  refine ⟨b, off, e, hlt, fun j hj => ?_⟩
  rw [hc j (by rw [← h.1]; exact hj), List.getD_eq_getElem?_getD, List.getElem!_eq_getElem?_getD, List.getElem?_eq_getElem hj]; rfl

/-- A slice of strings of the type string that is read: its elements are xs. -/
def InS (w : World) (A : Option Addr) (n cap : Nat) (xs : List ByteArray) : Prop :=
  xs.length = n ∧ n ≤ cap ∧ cap ≤ 9223372036854775807 ∧ (0 < n → ∃ b off, A = some ⟨b, off, none⟩ ∧ b < w.heap.size ∧ ∀ j, j < n → w.cell? ⟨b, off + j, none⟩ = some (.string (xs.getD j ⟨#[]⟩)))
theorem InS.below {w w' : World} {A : Option Addr} {n cap : Nat} {xs : List ByteArray} (h : InS w A n cap xs) (hb : Below w.heap.size w w') : InS w' A n cap xs := by
  refine ⟨h.1, h.2.1, h.2.2.1, fun hn => ?_⟩
  obtain ⟨b, off, e, hlt, hc⟩ := h.2.2.2 hn
  have := hb.size
  exact ⟨b, off, e, by omega, fun j hj => (hb.cell (p := ⟨b, off + j, none⟩) hlt).trans (hc j hj)⟩
theorem InS.nil (w : World) : InS w none 0 0 [] := ⟨rfl, Nat.le_refl _, by omega, fun h => absurd h (Nat.lt_irrefl _)⟩
theorem Tc.ins {w : World} {g n cap : Nat} {xs : List ByteArray} (h : Tc w g n cap xs) : InS w (some ⟨g, 0, none⟩) n cap xs :=
  ⟨h.len, h.le, h.cap_le, fun _ => ⟨g, 0, rfl, h.lt, fun j hj => by rw [Nat.zero_add]; exact h.cell j hj⟩⟩
theorem Ts.ins {w : World} {A : Option Addr} {n cap : Nat} {xs : List ByteArray} (h : Ts w A n cap xs) : InS w A n cap xs := by
  rcases h with ⟨rfl, rfl, rfl, rfl⟩ | ⟨g, rfl, h⟩
  · exact InS.nil w
  · exact h.ins
theorem OwnS.ins {B : Nat} {w : World} {v : Value} {xs : List ByteArray} (h : OwnS B w v xs) : ∃ A cap, v = .slice A xs.length cap ∧ InS w A xs.length cap xs := by
  obtain ⟨A, cap, e, h⟩ := h.ss
  exact ⟨A, cap, e, h.ins⟩
/-- The first k of them, with what capacity you will. -/
theorem InS.take {w : World} {A : Option Addr} {n cap : Nat} {xs : List ByteArray} (h : InS w A n cap xs) (k c : Nat) (hk : k ≤ n) (hc : k ≤ c) (hm : c ≤ 9223372036854775807) : InS w A k c (xs.take k) := by
  refine ⟨by rw [List.length_take, h.1]; omega, hc, hm, fun h0 => ?_⟩
  obtain ⟨b, off, e, hlt, hcell⟩ := h.2.2.2 (by omega)
  refine ⟨b, off, e, hlt, fun j hj => ?_⟩
  rw [hcell j (by omega), List.getD_eq_getElem?_getD, List.getD_eq_getElem?_getD, List.getElem?_take_of_lt hj]
/-- What the shelf's contracts ask of the cells. -/
theorem InS.cells {w : World} {A : Option Addr} {n cap : Nat} {xs : List ByteArray} (h : InS w A n cap xs) (h0 : 0 < n) : ∃ b off, A = some ⟨b, off, none⟩ ∧ b < w.heap.size ∧ ∀ j, j < xs.length → w.cell? ⟨b, off + j, none⟩ = some (.string xs[j]!) := by
  obtain ⟨b, off, e, hlt, hc⟩ := h.2.2.2 h0
  refine ⟨b, off, e, hlt, fun j hj => ?_⟩
  rw [hc j (by rw [← h.1]; exact hj), List.getD_eq_getElem?_getD, List.getElem!_eq_getElem?_getD, List.getElem?_eq_getElem hj]; rfl

/-- A slice of ints is returned, and an error: all that lay there is as it was. -/
def ZRes (xs : List Int) (er : Int) (w : World) (e : Ending) (w' : World) : Prop := ∃ A n cap, e = .returned (.tuple #[.slice A n cap, .int .i64 er]) ∧ InZ w' A n cap xs ∧ Below w.heap.size w w'
/-- A slice of ints is returned: all that lay there is as it was. -/
def Z1Res (xs : List Int) (w : World) (e : Ending) (w' : World) : Prop := ∃ A n cap, e = .returned (.slice A n cap) ∧ InZ w' A n cap xs ∧ Below w.heap.size w w'
end Go.Proofs.YtolnojkdalbppaaGreatDoor
