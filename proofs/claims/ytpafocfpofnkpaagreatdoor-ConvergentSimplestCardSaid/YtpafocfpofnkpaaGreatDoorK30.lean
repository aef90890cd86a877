/- Greater text, out of: K30. -/
import Derived.Test.YtpafocfpofnkpaaGreatDoorGc
import Derived.Test.YtpafocfpofnkpaaGreatDoorGg
namespace Go.Proofs.YtpafocfpofnkpaaGreatDoor
open Go.RowKit

/-! ## integers of the type api.Int -/
/-- integers of the type api.Int, as cells. -/
def Jh (xs : List Int) : List Value := xs.map fun (x : Int) => Value.string (itx x)
theorem Jh_len (xs : List Int) : (Jh xs).length = xs.length := by simp [Jh]
theorem Jh_get (xs : List Int) (j : Nat) (h : j < xs.length) : (Jh xs)[j]? = some (.string (itx (xs.getD j 0))) := by
  simp [Jh, List.getD_eq_getElem?_getD, List.getElem?_eq_getElem h]
theorem Jh_take (xs : List Int) (k : Nat) : (Jh xs).take k = Jh (xs.take k) := by simp [Jh]
theorem Jh_set (xs : List Int) (j : Nat) (x : Int) : (Jh xs).set j (.string (itx x)) = Jh (xs.set j x) := by simp [Jh, List.map_set]
theorem Jh_append (xs ys : List Int) : Jh xs ++ Jh ys = Jh (xs ++ ys) := by simp [Jh]
theorem Jh_one' (xs : List Int) : ∀ u ∈ Jh xs, u.oneCell' = true := by
  intro u hu
  obtain ⟨x, _, rfl⟩ := List.mem_map.1 hu
  rfl

/-- Block g holds a slice of these, of length n, at its head; its elements are xs. -/
def Jc (w : World) (g n cap : Nat) (xs : List Int) : Prop := w.ownsRow 0 22 1 (.slice (some ⟨g, 0, none⟩) n cap) n (Jh xs)

section
variable {w w' : World} {g n cap : Nat} {xs : List Int}
theorem Jc.len (h : Jc w g n cap xs) : xs.length = n := by have := h.1; rw [Jh_len] at this; omega
theorem Jc.form (h : Jc w g n cap xs) : ∃ cur, w.heap[g]? = some (.cells cur 22 (0, 0)) ∧ n ≤ cap ∧ cap ≤ maxLen ∧ cur.size = cap ∧ cur.toList.take n = Jh xs := by
  rcases h.2 with ⟨e, _⟩ | ⟨g', cap', cur, e, _, hh, h1, h2, h3, h4⟩
  · cases e
  · cases e; exact ⟨cur, hh, h1, h2, by omega, by rw [Nat.mul_one] at h4; exact h4⟩
theorem Jc.mk' {cur : Array Value} (hh : w.heap[g]? = some (.cells cur 22 (0, 0))) (h1 : n ≤ cap) (h2 : cap ≤ maxLen) (h3 : cur.size = cap) (h4 : cur.toList.take n = Jh xs) : Jc w g n cap xs := by
  have hl : (Jh xs).length = n := by rw [← h4, List.length_take, Array.length_toList]; omega
  exact ⟨by omega, .inr ⟨g, cap, cur, rfl, Nat.zero_le _, hh, h1, h2, by omega, by rw [Nat.mul_one]; exact h4⟩⟩
theorem Jc.of_own {B g' cap' : Nat} {v : Value} (h : w.ownsRow B 22 1 v n (Jh xs)) (hv : v = .slice (some ⟨g', 0, none⟩) n cap') : Jc w g' n cap' xs := by
  subst hv
  refine ⟨h.1, ?_⟩
  rcases h.2 with ⟨e, _⟩ | ⟨g2, cap2, cur, e, _, r⟩
  · cases e
  · exact .inr ⟨g2, cap2, cur, e, Nat.zero_le _, r⟩
theorem Jc.to_own (h : Jc w g n cap xs) {B : Nat} (hB : B ≤ g) : w.ownsRow B 22 1 (.slice (some ⟨g, 0, none⟩) n cap) n (Jh xs) := by
  refine ⟨h.1, ?_⟩
  rcases h.2 with ⟨e, _⟩ | ⟨g2, cap2, cur, e, _, r⟩
  · cases e
  · cases e; exact .inr ⟨g, cap, cur, rfl, hB, r⟩
theorem Jc.lt (h : Jc w g n cap xs) : g < w.heap.size := by
  obtain ⟨cur, hh, _⟩ := h.form
  exact (Array.getElem?_eq_some_iff.1 hh).1
theorem Jc.le (h : Jc w g n cap xs) : n ≤ cap := by obtain ⟨_, _, h1, _⟩ := h.form; exact h1
theorem Jc.cap_le (h : Jc w g n cap xs) : cap ≤ 9223372036854775807 := by obtain ⟨_, _, _, h1, _⟩ := h.form; exact h1
theorem Jc.cell (h : Jc w g n cap xs) (j : Nat) (hj : j < n) : w.cell? ⟨g, j, none⟩ = some (.string (itx (xs.getD j 0))) := by
  have := World.ownsRow.cellAt h j (by omega)
  rw [this, Jh_get xs j (by rw [h.len]; exact hj)]
theorem Jc.free (h : Jc w g n cap xs) (j : Nat) : w.frozen? ⟨g, j, none⟩ = false := World.ownsRow.frozenAt h j
theorem Jc.take (h : Jc w g n cap xs) (k : Nat) (hk : k ≤ n) : Jc w g k cap (xs.take k) := by
  obtain ⟨cur, hh, h1, h2, h3, h4⟩ := h.form
  refine Jc.mk' hh (by omega) h2 h3 ?_
  rw [← Jh_take, ← h4, List.take_take, Nat.min_eq_left hk]
theorem Jc.of_heap (h : Jc w g n cap xs) (e : w'.heap[g]? = w.heap[g]?) : Jc w' g n cap xs := by
  obtain ⟨cur, hh, h1, h2, h3, h4⟩ := h.form
  exact Jc.mk' (e.trans hh) h1 h2 h3 h4
theorem Jc.below (h : Jc w g n cap xs) {B : Nat} (hb : Below B w w') (hg : g < B) : Jc w' g n cap xs := h.of_heap (hb.block g hg)
theorem Jc.drew (h : Jc w g n cap xs) : Jc w.drew g n cap xs := h
theorem Jc.drewN (h : Jc w g n cap xs) (k : Nat) : Jc (w.drewN k) g n cap xs := h
theorem Jc.alloc (h : Jc w g n cap xs) (o : Obj) : Jc (w.alloc o) g n cap xs := h.of_heap (Below.heap_alloc w o g h.lt)
theorem Jc.far (h : Jc w g n cap xs) {p : Addr} (hp : g ≠ p.block) (u : Value) : Jc (w.setCell p u) g n cap xs := h.of_heap (Below.heap_setCell w p u g hp)
theorem Jc.set (h : Jc w g n cap xs) (j : Nat) (x : Int) : Jc (w.setCell ⟨g, j, none⟩ (.string (itx x))) g n cap (xs.set j x) := by
  obtain ⟨cur, hh, h1, h2, h3, h4⟩ := h.form
  refine Jc.mk' (cur := cur.setIfInBounds j (.string (itx x))) (by simp [World.setCell, Array.getElem?_modify, hh]) h1 h2 (by simpa using h3) ?_
  rw [Array.toList_setIfInBounds, List.take_set, h4, Jh_set]
theorem Jc.grown (h : Jc w g n cap xs) {row : Option Nat} (hg : w.grownBy w' row) (hne : some g ≠ row) : Jc w' g n cap xs := h.of_heap (hg.block g h.lt hne)
theorem Only.Jc {a : World} {g0 : Nat} (h : Only g0 w a) {g' n cap : Nat} {xs : List Int} (hp : Jc w g' n cap xs) (hne : g' ≠ g0) : Jc a g' n cap xs := hp.of_heap (h.block g' hp.lt (by intro e; injection e with e; exact hne e))
/-- A new block of one element, as an append lays it. -/
theorem Jc.one (w : World) (x : Int) : Jc (w.alloc (.cells #[.string (itx x)] 22)) w.heap.size 1 1 [x] :=
  Jc.mk' (heap_alloc_new w _) (Nat.le_refl _) (by unfold maxLen; omega) rfl rfl
end

theorem Tryz.infoJc : (Tryz.prog.info? 22).map (fun i => (i.zero, i.size, i.bytes)) = some (some (.string ⟨#[]⟩), 1, 16) := by kernel_rfl
/-- append: onto a row of the call's own, of another row (one new element, or '...'). -/
theorem append_Jc {ops : Array Oper} {rest : List Oper} {o : Oper} {a : Act} {w : World} {Q : Exit → Act → World → Prop} (hgd : o.guard = none) (s x : Operand) (t : TypeId)
    (ho : o.op = .call { callee := .builtin .append, args := #[s, x], argTypes := #[t, t] }) (ht : Tryz.prog.underlying t = some (.slice 22))
    (g n cap : Nat) (xs : List Int) (hs : a.eval s = .slice (some ⟨g, 0, none⟩) n cap) (hp : Jc w g n cap xs)
    (g2 m c : Nat) (ys : List Int) (hx : a.eval x = .slice (some ⟨g2, 0, none⟩) m c) (hq : Jc w g2 m c ys) (hbd : n + m ≤ 1000000000000)
    (h : ∀ g' cap' w', Jc w' g' (n + m) cap' (xs ++ ys) → Only g w w' → (g' = g ∨ g' = w.heap.size) → wpList Tryz.prog ops Q rest (a.put o.dst (.slice (some ⟨g', 0, none⟩) (n + m) cap')) w') :
    wpList Tryz.prog ops Q (o :: rest) a w := by
  obtain ⟨i, hi, hz, hsz, hb⟩ := info_parts Tryz.infoJc
  have hl := hq.len
  obtain ⟨v', w', hr, h2, h3, h4, h5⟩ := run_append_own_at (P := Tryz.prog) w 0 t o.type 22 i _ 1 16 ht hi hz hsz hb rfl (by decide) _ n (Jh xs) hp ⟨g2, 0, none⟩ m c (Jh ys) (by rw [Jh_len]; omega)
    (fun j u hu => by
      have hj : j < m := by have := (List.getElem?_eq_some_iff.1 hu).1; rw [Jh_len] at this; omega
      have hadd : (⟨g2, 0, none⟩ : Addr).add j = ⟨g2, j, none⟩ := by unfold Addr.add; split <;> simp_all
      rw [hadd, World.ownsRow.cellAt hq j (by omega), hu])
    (Jh_one' ys) (by unfold maxLen; omega) (by omega) (Nat.zero_le _)
  obtain ⟨g', cap', rfl, hlt⟩ : ∃ g' cap', v' = .slice (some ⟨g', 0, none⟩) (n + m) cap' ∧ True := by
    rcases h2.2 with ⟨e, _⟩ | ⟨g', cap', cur, e, _⟩
    · have := (h4.1 e).1; cases this
    · exact ⟨g', cap', e, trivial⟩
  refine wpList_plain hgd fun _ hK => ?_
  unfold Oper.wp execOp
  simp only [ho, resolve, invoke, builtin, Sem.run_bind, Sem.run_pure, Result.andThen_ok, List.map_toArray, List.map_cons, List.map_nil, hs, hx, hr]
  refine hK _ _ (h g' cap' w' ?_ h3 ?_)
  · rw [Jh_append] at h2; exact h2
  · rcases h5 with h5 | h5
    · left; simpa [Value.ownBlock] using h5
    · right; simpa [Value.ownBlock] using h5

/-- append onto nil. -/
theorem append_nil_Jc {ops : Array Oper} {rest : List Oper} {o : Oper} {a : Act} {w : World} {Q : Exit → Act → World → Prop} (hgd : o.guard = none) (s x : Operand) (t : TypeId)
    (ho : o.op = .call { callee := .builtin .append, args := #[s, x], argTypes := #[t, t] }) (ht : Tryz.prog.underlying t = some (.slice 22))
    (hs : a.eval s = .slice none 0 0) (g2 m c : Nat) (ys : List Int) (hx : a.eval x = .slice (some ⟨g2, 0, none⟩) m c) (hq : Jc w g2 m c ys) (hm : 0 < m) (hbd : m ≤ 1000000000000)
    (h : ∀ cap' w', Jc w' w.heap.size m cap' ys → Below w.heap.size w w' → wpList Tryz.prog ops Q rest (a.put o.dst (.slice (some ⟨w.heap.size, 0, none⟩) m cap')) w') :
    wpList Tryz.prog ops Q (o :: rest) a w := by
  obtain ⟨i, hi, hz, hsz, hb⟩ := info_parts Tryz.infoJc
  have hl := hq.len
  obtain ⟨v', w', hr, h2, h3, h4, h5⟩ := run_append_own_at (P := Tryz.prog) w w.heap.size t o.type 22 i _ 1 16 ht hi hz hsz hb rfl (by decide) _ 0 [] (World.ownsRow_nil w w.heap.size 22 1) ⟨g2, 0, none⟩ m c (Jh ys) (by rw [Jh_len]; omega)
    (fun j u hu => by
      have hj : j < m := by have := (List.getElem?_eq_some_iff.1 hu).1; rw [Jh_len] at this; omega
      have hadd : (⟨g2, 0, none⟩ : Addr).add j = ⟨g2, j, none⟩ := by unfold Addr.add; split <;> simp_all
      rw [hadd, World.ownsRow.cellAt hq j (by omega), hu])
    (Jh_one' ys) (by unfold maxLen; omega) (by omega) (Nat.le_refl _)
  rw [Nat.zero_add, List.nil_append] at h2
  obtain ⟨g', cap', rfl⟩ : ∃ g' cap', v' = .slice (some ⟨g', 0, none⟩) m cap' := by
    rcases h2.2 with ⟨e, _⟩ | ⟨g', cap', cur, e, _⟩
    · have := (h4.1 e).2; omega
    · exact ⟨g', cap', e⟩
  have hg' : g' = w.heap.size := by
    rcases h5 with h5 | h5
    · simp [Value.ownBlock] at h5
    · simpa [Value.ownBlock] using h5
  subst hg'
  refine wpList_plain hgd fun _ hK => ?_
  unfold Oper.wp execOp
  simp only [ho, resolve, invoke, builtin, Sem.run_bind, Sem.run_pure, Result.andThen_ok, List.map_toArray, List.map_cons, List.map_nil, hs, hx, hr]
  exact hK _ _ (h cap' w' (Jc.of_own h2 rfl) ⟨h3.os, h3.tape, h3.output, h3.size, fun k hk => h3.block k hk (by simp [Value.ownBlock])⟩)

/-- A slice of integers of the type api.Int, nil let in: '.slice A n cap'. -/
def Js (w : World) (A : Option Addr) (n cap : Nat) (xs : List Int) : Prop := (A = none ∧ n = 0 ∧ cap = 0 ∧ xs = []) ∨ ∃ g, A = some ⟨g, 0, none⟩ ∧ Jc w g n cap xs
section
variable {w w' : World} {A : Option Addr} {n cap : Nat} {xs : List Int}
theorem Js.nil (w : World) : Js w none 0 0 [] := .inl ⟨rfl, rfl, rfl, rfl⟩
theorem Js.of {g : Nat} (h : Jc w g n cap xs) : Js w (some ⟨g, 0, none⟩) n cap xs := .inr ⟨g, rfl, h⟩
theorem Js.len (h : Js w A n cap xs) : xs.length = n := by
  rcases h with ⟨_, rfl, _, rfl⟩ | ⟨g, _, h⟩
  · rfl
  · exact h.len
theorem Js.le (h : Js w A n cap xs) : n ≤ cap := by
  rcases h with ⟨_, rfl, rfl, _⟩ | ⟨g, _, h⟩
  · exact Nat.le_refl _
  · exact h.le
theorem Js.cap_le (h : Js w A n cap xs) : cap ≤ 9223372036854775807 := by
  rcases h with ⟨_, _, rfl, _⟩ | ⟨g, _, h⟩
  · omega
  · exact h.cap_le
theorem Js.at_ (h : Js w A n cap xs) {k : Nat} (hk : k < n) : ∃ g, A = some ⟨g, 0, none⟩ ∧ Jc w g n cap xs := by
  rcases h with ⟨_, rfl, _, _⟩ | h
  · omega
  · exact h
theorem Js.below (h : Js w A n cap xs) {B : Nat} (hb : Below B w w') (hB : w.heap.size ≤ B) : Js w' A n cap xs := by
  rcases h with h | ⟨g, e, h⟩
  · exact .inl h
  · exact .inr ⟨g, e, h.below hb (Nat.lt_of_lt_of_le h.lt hB)⟩
theorem Js.take (h : Js w A n cap xs) (k : Nat) (hk : k ≤ n) : Js w A k cap (xs.take k) := by
  rcases h with ⟨e, rfl, e2, rfl⟩ | ⟨g, e, h⟩
  · exact .inl ⟨e, by omega, e2, by simp⟩
  · exact .inr ⟨g, e, h.take k hk⟩
end

/-- A slice of integers of the type api.Int that is nil or lies in a block from B on. -/
def OwnI (B : Nat) (w : World) (v : Value) (xs : List Int) : Prop := (v = .slice none 0 0 ∧ xs = []) ∨ ∃ g cap, v = .slice (some ⟨g, 0, none⟩) xs.length cap ∧ B ≤ g ∧ Jc w g xs.length cap xs
theorem OwnI.nil (B : Nat) (w : World) : OwnI B w (.slice none 0 0) [] := .inl ⟨rfl, rfl⟩
theorem OwnI.ss {B : Nat} {w : World} {v : Value} {xs : List Int} (h : OwnI B w v xs) : ∃ A cap, v = .slice A xs.length cap ∧ Js w A xs.length cap xs := by
  rcases h with ⟨rfl, rfl⟩ | ⟨g, cap, rfl, _, h⟩
  · exact ⟨none, 0, rfl, Js.nil w⟩
  · exact ⟨_, cap, rfl, Js.of h⟩
theorem OwnI.drewN {B : Nat} {w : World} {v : Value} {xs : List Int} (h : OwnI B w v xs) (k : Nat) : OwnI B (w.drewN k) v xs := h
theorem OwnI.below {B : Nat} {w w' : World} {v : Value} {xs : List Int} (h : OwnI B w v xs) (hb : Below w.heap.size w w') : OwnI B w' v xs := by
  rcases h with h | ⟨g, c, e, hg, h⟩
  · exact .inl h
  · exact .inr ⟨g, c, e, hg, h.below hb h.lt⟩
theorem OwnI.mono {B B' : Nat} {w : World} {v : Value} {xs : List Int} (h : OwnI B w v xs) (hB : B' ≤ B) : OwnI B' w v xs := by
  rcases h with h | ⟨g, c, e, hg, h⟩
  · exact .inl h
  · exact .inr ⟨g, c, e, by omega, h⟩
theorem append_OwnI {ops : Array Oper} {rest : List Oper} {o : Oper} {a : Act} {w : World} {Q : Exit → Act → World → Prop} (hgd : o.guard = none) (s x : Operand) (t : TypeId)
    (ho : o.op = .call { callee := .builtin .append, args := #[s, x], argTypes := #[t, t] }) (ht : Tryz.prog.underlying t = some (.slice 22))
    (B : Nat) (v : Value) (xs : List Int) (w0 : World) (hs : a.eval s = v) (hp : OwnI B w0 v xs) (hB : B ≤ w0.heap.size) (hn : xs.length ≤ 1000000000) (y : Int)
    (hw : w = w0.alloc (.cells #[.string (itx y)] 22)) (hx : a.eval x = .slice (some ⟨w0.heap.size, 0, none⟩) 1 1)
    (h : ∀ v' w', OwnI B w' v' (xs ++ [y]) → Below B w0 w' → wpList Tryz.prog ops Q rest (a.put o.dst v') w') :
    wpList Tryz.prog ops Q (o :: rest) a w := by
  subst hw
  have hone := Jc.one w0 y
  rcases hp with ⟨rfl, rfl⟩ | ⟨g, cap, rfl, hg, hp⟩
  · refine append_nil_Jc hgd s x t ho ht hs _ 1 1 [y] hx hone (by omega) (by omega) ?_
    intro cap' w' hq hb
    have hsz : (w0.alloc (.cells #[.string (itx y)] 22)).heap.size = w0.heap.size + 1 := World.size_alloc _ _
    exact h _ _ (.inr ⟨_, cap', rfl, by rw [hsz]; omega, hq⟩) (((Below.refl B w0).alloc hB _).trans (hb.mono (by rw [hsz]; omega)))
  · refine append_Jc hgd s x t ho ht g xs.length cap xs hs (hp.alloc _) _ 1 1 [y] hx hone (by omega) ?_
    intro g' cap' w' hq hon hat
    rw [World.size_alloc] at hat
    have hgl := hp.lt
    refine h _ _ (.inr ⟨g', cap', by rw [List.length_append]; rfl, by rcases hat with h | h <;> omega, by rw [List.length_append]; exact hq⟩) ?_
    exact bel_only ((Below.refl B w0).alloc hB _) hon hg (by rw [World.size_alloc]; omega)

/-- A slice of integers of the type api.Int that is read: its elements are xs. -/
def InJ (w : World) (A : Option Addr) (n cap : Nat) (xs : List Int) : Prop :=
  xs.length = n ∧ n ≤ cap ∧ cap ≤ 9223372036854775807 ∧ (0 < n → ∃ b off, A = some ⟨b, off, none⟩ ∧ b < w.heap.size ∧ ∀ j, j < n → w.cell? ⟨b, off + j, none⟩ = some (.string (itx (xs.getD j 0))))
theorem InJ.below {w w' : World} {A : Option Addr} {n cap : Nat} {xs : List Int} (h : InJ w A n cap xs) (hb : Below w.heap.size w w') : InJ w' A n cap xs := by
  refine ⟨h.1, h.2.1, h.2.2.1, fun hn => ?_⟩
  obtain ⟨b, off, e, hlt, hc⟩ := h.2.2.2 hn
  have := hb.size
  exact ⟨b, off, e, by omega, fun j hj => (hb.cell (p := ⟨b, off + j, none⟩) hlt).trans (hc j hj)⟩
theorem InJ.nil (w : World) : InJ w none 0 0 [] := ⟨rfl, Nat.le_refl _, by omega, fun h => absurd h (Nat.lt_irrefl _)⟩
theorem Jc.ins {w : World} {g n cap : Nat} {xs : List Int} (h : Jc w g n cap xs) : InJ w (some ⟨g, 0, none⟩) n cap xs :=
  ⟨h.len, h.le, h.cap_le, fun _ => ⟨g, 0, rfl, h.lt, fun j hj => by rw [Nat.zero_add]; exact h.cell j hj⟩⟩
theorem Js.ins {w : World} {A : Option Addr} {n cap : Nat} {xs : List Int} (h : Js w A n cap xs) : InJ w A n cap xs := by
  rcases h with ⟨rfl, rfl, rfl, rfl⟩ | ⟨g, rfl, h⟩
  · exact InJ.nil w
  · exact h.ins
theorem OwnI.ins {B : Nat} {w : World} {v : Value} {xs : List Int} (h : OwnI B w v xs) : ∃ A cap, v = .slice A xs.length cap ∧ InJ w A xs.length cap xs := by
  obtain ⟨A, cap, e, h⟩ := h.ss
  exact ⟨A, cap, e, h.ins⟩
/-- The first k of them, with what capacity you will. -/
theorem InJ.take {w : World} {A : Option Addr} {n cap : Nat} {xs : List Int} (h : InJ w A n cap xs) (k c : Nat) (hk : k ≤ n) (hc : k ≤ c) (hm : c ≤ 9223372036854775807) : InJ w A k c (xs.take k) := by
  refine ⟨by rw [List.length_take, h.1]; omega, hc, hm, fun h0 => ?_⟩
  obtain ⟨b, off, e, hlt, hcell⟩ := h.2.2.2 (by omega)
  refine ⟨b, off, e, hlt, fun j hj => ?_⟩
  rw [hcell j (by omega), List.getD_eq_getElem?_getD, List.getD_eq_getElem?_getD, List.getElem?_take_of_lt hj]

/-! ## api.Rational: two cells each -/
def Rh (xs : List Rat) : List Value := xs.flatMap fun (x : Rat) => [Value.string (itx x.num), Value.string (itx (x.den : Int))]
theorem Rh_len (xs : List Rat) : (Rh xs).length = xs.length * 2 := by
  induction xs with
  | nil => rfl
  | cons x xs ih => simp only [Rh, List.flatMap_cons, List.length_append, List.length_cons, List.length_nil] at *; omega
theorem Rh_get (xs : List Rat) : ∀ (j : Nat), j < xs.length → (Rh xs)[j * 2]? = some (.string (itx (xs.getD j 0).num)) ∧ (Rh xs)[j * 2 + 1]? = some (.string (itx ((xs.getD j 0).den : Int))) := by
  induction xs with
  | nil => intro j h; exact absurd h (Nat.not_lt_zero _)
  | cons x xs ih =>
    intro j h
    cases j with
    | zero => exact ⟨rfl, rfl⟩
    | succ j =>
      have := ih j (by simpa using h)
      have e : Rh (x :: xs) = Value.string (itx x.num) :: Value.string (itx (x.den : Int)) :: Rh xs := rfl
      rw [e, show (j + 1) * 2 = j * 2 + 1 + 1 by omega]
      simpa using this
theorem Rh_append (xs ys : List Rat) : Rh xs ++ Rh ys = Rh (xs ++ ys) := by simp [Rh, List.flatMap_append]
theorem Rh_take (xs : List Rat) : ∀ k, (Rh xs).take (k * 2) = Rh (xs.take k) := by
  induction xs with
  | nil => intro k; simp [Rh]
  | cons x xs ih =>
    intro k
    cases k with
    | zero => simp [Rh]
    | succ k =>
      have e : Rh (x :: xs) = Value.string (itx x.num) :: Value.string (itx (x.den : Int)) :: Rh xs := rfl
      rw [e, show (k + 1) * 2 = k * 2 + 1 + 1 by omega, List.take_succ_cons, List.take_succ_cons, ih]; rfl
theorem Rh_one' (xs : List Rat) : ∀ u ∈ Rh xs, u.oneCell' = true := by
  intro u hu
  obtain ⟨x, _, hx⟩ := List.mem_flatMap.1 hu
  rcases List.mem_cons.1 hx with rfl | hx
  · rfl
  · rcases List.mem_cons.1 hx with rfl | hx
    · rfl
    · cases hx
theorem Rh_set (xs : List Rat) (y : Rat) : ∀ j, ((Rh xs).set (j * 2) (.string (itx y.num))).set (j * 2 + 1) (.string (itx (y.den : Int))) = Rh (xs.set j y) := by
  induction xs with
  | nil => intro j; simp [Rh]
  | cons x xs ih =>
    intro j
    cases j with
    | zero => rfl
    | succ j =>
      have e : Rh (x :: xs) = Value.string (itx x.num) :: Value.string (itx (x.den : Int)) :: Rh xs := rfl
      rw [e, show (j + 1) * 2 = j * 2 + 1 + 1 by omega]
      simp only [List.set_cons_succ]
      rw [ih j]; rfl
/-- Block g holds a slice of fractions, of length n, at its head. -/
def Rc (w : World) (g n cap : Nat) (xs : List Rat) : Prop := w.ownsRow 0 24 2 (.slice (some ⟨g, 0, none⟩) n cap) n (Rh xs)
section
variable {w w' : World} {g n cap : Nat} {xs : List Rat}
theorem Rc.len (h : Rc w g n cap xs) : xs.length = n := by have := h.1; rw [Rh_len] at this; omega
theorem Rc.form (h : Rc w g n cap xs) : ∃ cur, w.heap[g]? = some (.cells cur 24 (0, 0)) ∧ n ≤ cap ∧ cap ≤ maxLen ∧ cur.size = cap * 2 ∧ cur.toList.take (n * 2) = Rh xs := by
  rcases h.2 with ⟨e, _⟩ | ⟨g', cap', cur, e, _, hh, h1, h2, h3, h4⟩
  · cases e
  · cases e; exact ⟨cur, hh, h1, h2, by omega, h4⟩
theorem Rc.mk' {cur : Array Value} (hh : w.heap[g]? = some (.cells cur 24 (0, 0))) (h1 : n ≤ cap) (h2 : cap ≤ maxLen) (h3 : cur.size = cap * 2) (h4 : cur.toList.take (n * 2) = Rh xs) : Rc w g n cap xs := by
  have hl : (Rh xs).length = n * 2 := by rw [← h4, List.length_take, Array.length_toList]; omega
  exact ⟨by omega, .inr ⟨g, cap, cur, rfl, Nat.zero_le _, hh, h1, h2, by omega, h4⟩⟩
theorem Rc.of_own {B g' cap' : Nat} {v : Value} (h : w.ownsRow B 24 2 v n (Rh xs)) (hv : v = .slice (some ⟨g', 0, none⟩) n cap') : Rc w g' n cap' xs := by
  subst hv
  refine ⟨h.1, ?_⟩
  rcases h.2 with ⟨e, _⟩ | ⟨g2, cap2, cur, e, _, r⟩
  · cases e
  · exact .inr ⟨g2, cap2, cur, e, Nat.zero_le _, r⟩
theorem Rc.to_own (h : Rc w g n cap xs) {B : Nat} (hB : B ≤ g) : w.ownsRow B 24 2 (.slice (some ⟨g, 0, none⟩) n cap) n (Rh xs) := by
  refine ⟨h.1, ?_⟩
  rcases h.2 with ⟨e, _⟩ | ⟨g2, cap2, cur, e, _, r⟩
  · cases e
  · cases e; exact .inr ⟨g, cap, cur, rfl, hB, r⟩
theorem Rc.lt (h : Rc w g n cap xs) : g < w.heap.size := by
  obtain ⟨cur, hh, _⟩ := h.form
  exact (Array.getElem?_eq_some_iff.1 hh).1
theorem Rc.le (h : Rc w g n cap xs) : n ≤ cap := by obtain ⟨_, _, h1, _⟩ := h.form; exact h1
theorem Rc.cap_le (h : Rc w g n cap xs) : cap ≤ 9223372036854775807 := by obtain ⟨_, _, _, h1, _⟩ := h.form; exact h1
theorem Rc.cell0 (h : Rc w g n cap xs) (j : Nat) (hj : j < n) : w.cell? ⟨g, j * 2, none⟩ = some (.string (itx (xs.getD j 0).num)) := by
  have := World.ownsRow.cellAt h (j * 2) (by omega)
  rw [this, (Rh_get xs j (by rw [h.len]; exact hj)).1]
theorem Rc.cell1 (h : Rc w g n cap xs) (j : Nat) (hj : j < n) : w.cell? ⟨g, j * 2 + 1, none⟩ = some (.string (itx ((xs.getD j 0).den : Int))) := by
  have := World.ownsRow.cellAt h (j * 2 + 1) (by omega)
  rw [this, (Rh_get xs j (by rw [h.len]; exact hj)).2]
theorem Rc.free (h : Rc w g n cap xs) (j : Nat) : w.frozen? ⟨g, j, none⟩ = false := World.ownsRow.frozenAt h j
theorem Rc.of_heap (h : Rc w g n cap xs) (e : w'.heap[g]? = w.heap[g]?) : Rc w' g n cap xs := by
  obtain ⟨cur, hh, h1, h2, h3, h4⟩ := h.form
  exact Rc.mk' (e.trans hh) h1 h2 h3 h4
theorem Rc.below (h : Rc w g n cap xs) {B : Nat} (hb : Below B w w') (hg : g < B) : Rc w' g n cap xs := h.of_heap (hb.block g hg)
theorem Rc.drewN (h : Rc w g n cap xs) (k : Nat) : Rc (w.drewN k) g n cap xs := h
theorem Rc.alloc (h : Rc w g n cap xs) (o : Obj) : Rc (w.alloc o) g n cap xs := h.of_heap (Below.heap_alloc w o g h.lt)
theorem Rc.far (h : Rc w g n cap xs) {p : Addr} (hp : g ≠ p.block) (u : Value) : Rc (w.setCell p u) g n cap xs := h.of_heap (Below.heap_setCell w p u g hp)
theorem Rc.grown (h : Rc w g n cap xs) {row : Option Nat} (hg : w.grownBy w' row) (hne : some g ≠ row) : Rc w' g n cap xs := h.of_heap (hg.block g h.lt hne)
theorem Rc.set (h : Rc w g n cap xs) (j : Nat) (y : Rat) : Rc ((w.setCell ⟨g, j * 2, none⟩ (.string (itx y.num))).setCell ⟨g, j * 2 + 1, none⟩ (.string (itx (y.den : Int)))) g n cap (xs.set j y) := by
  obtain ⟨cur, hh, h1, h2, h3, h4⟩ := h.form
  refine Rc.mk' (cur := (cur.setIfInBounds (j * 2) (.string (itx y.num))).setIfInBounds (j * 2 + 1) (.string (itx (y.den : Int)))) (by simp [World.setCell, Array.getElem?_modify, hh]) h1 h2 (by simpa using h3) ?_
  rw [Array.toList_setIfInBounds, Array.toList_setIfInBounds, List.take_set, List.take_set, h4, Rh_set]
theorem Only.Rc {a : World} {g0 : Nat} (h : Only g0 w a) {g' n cap : Nat} {xs : List Rat} (hp : Rc w g' n cap xs) (hne : g' ≠ g0) : Rc a g' n cap xs := hp.of_heap (h.block g' hp.lt (by intro e; injection e with e; exact hne e))
/-- A new block of one fraction, as an append lays it. -/
theorem Rc.one (w : World) (x : Rat) : Rc (w.alloc (.cells #[.string (itx x.num), .string (itx (x.den : Int))] 24)) w.heap.size 1 1 [x] :=
  Rc.mk' (heap_alloc_new w _) (Nat.le_refl _) (by unfold maxLen; omega) rfl rfl
end
theorem Tryz.infoRc : (Tryz.prog.info? 24).map (fun i => (i.zero, i.size, i.bytes)) = some (some (.agg #[.string ⟨#[]⟩, .string ⟨#[]⟩]), 2, 32) := by kernel_rfl
/-- append of one fraction onto a row of the call's own. -/
theorem append_Rc {ops : Array Oper} {rest : List Oper} {o : Oper} {a : Act} {w : World} {Q : Exit → Act → World → Prop} (hgd : o.guard = none) (s x : Operand) (t : TypeId)
    (ho : o.op = .call { callee := .builtin .append, args := #[s, x], argTypes := #[t, t] }) (ht : Tryz.prog.underlying t = some (.slice 24))
    (g n cap : Nat) (xs : List Rat) (hs : a.eval s = .slice (some ⟨g, 0, none⟩) n cap) (hp : Rc w g n cap xs)
    (g2 m c : Nat) (ys : List Rat) (hx : a.eval x = .slice (some ⟨g2, 0, none⟩) m c) (hq : Rc w g2 m c ys) (hbd : n + m ≤ 1000000000000)
    (h : ∀ g' cap' w', Rc w' g' (n + m) cap' (xs ++ ys) → Only g w w' → (g' = g ∨ g' = w.heap.size) → wpList Tryz.prog ops Q rest (a.put o.dst (.slice (some ⟨g', 0, none⟩) (n + m) cap')) w') :
    wpList Tryz.prog ops Q (o :: rest) a w := by
  obtain ⟨i, hi, hz, hsz, hb⟩ := info_parts Tryz.infoRc
  have hl := hq.len
  obtain ⟨v', w', hr, h2, h3, h4, h5⟩ := run_append_own_at (P := Tryz.prog) w 0 t o.type 24 i _ 2 32 ht hi hz hsz hb rfl (by decide) _ n (Rh xs) hp ⟨g2, 0, none⟩ m c (Rh ys) (by rw [Rh_len]; omega)
    (fun j u hu => by
      have hj : j < m * 2 := by have := (List.getElem?_eq_some_iff.1 hu).1; rw [Rh_len] at this; omega
      have hadd : (⟨g2, 0, none⟩ : Addr).add j = ⟨g2, j, none⟩ := by unfold Addr.add; split <;> simp_all
      rw [hadd, World.ownsRow.cellAt hq j (by omega), hu])
    (Rh_one' ys) (by unfold maxLen; omega) (by omega) (Nat.zero_le _)
  obtain ⟨g', cap', rfl, hlt⟩ : ∃ g' cap', v' = .slice (some ⟨g', 0, none⟩) (n + m) cap' ∧ True := by
    rcases h2.2 with ⟨e, _⟩ | ⟨g', cap', cur, e, _⟩
    · have := (h4.1 e).1; cases this
    · exact ⟨g', cap', e, trivial⟩
  refine wpList_plain hgd fun _ hK => ?_
  unfold Oper.wp execOp
  simp only [ho, resolve, invoke, builtin, Sem.run_bind, Sem.run_pure, Result.andThen_ok, List.map_toArray, List.map_cons, List.map_nil, hs, hx, hr]
  refine hK _ _ (h g' cap' w' ?_ h3 ?_)
  · rw [Rh_append] at h2; exact h2
  · rcases h5 with h5 | h5
    · left; simpa [Value.ownBlock] using h5
    · right; simpa [Value.ownBlock] using h5
/-- append onto nil. -/
theorem append_nil_Rc {ops : Array Oper} {rest : List Oper} {o : Oper} {a : Act} {w : World} {Q : Exit → Act → World → Prop} (hgd : o.guard = none) (s x : Operand) (t : TypeId)
    (ho : o.op = .call { callee := .builtin .append, args := #[s, x], argTypes := #[t, t] }) (ht : Tryz.prog.underlying t = some (.slice 24))
    (hs : a.eval s = .slice none 0 0) (g2 m c : Nat) (ys : List Rat) (hx : a.eval x = .slice (some ⟨g2, 0, none⟩) m c) (hq : Rc w g2 m c ys) (hm : 0 < m) (hbd : m ≤ 1000000000000)
    (h : ∀ cap' w', Rc w' w.heap.size m cap' ys → Below w.heap.size w w' → wpList Tryz.prog ops Q rest (a.put o.dst (.slice (some ⟨w.heap.size, 0, none⟩) m cap')) w') :
    wpList Tryz.prog ops Q (o :: rest) a w := by
  obtain ⟨i, hi, hz, hsz, hb⟩ := info_parts Tryz.infoRc
  have hl := hq.len
  obtain ⟨v', w', hr, h2, h3, h4, h5⟩ := run_append_own_at (P := Tryz.prog) w w.heap.size t o.type 24 i _ 2 32 ht hi hz hsz hb rfl (by decide) _ 0 [] (World.ownsRow_nil w w.heap.size 24 2) ⟨g2, 0, none⟩ m c (Rh ys) (by rw [Rh_len]; omega)
    (fun j u hu => by
      have hj : j < m * 2 := by have := (List.getElem?_eq_some_iff.1 hu).1; rw [Rh_len] at this; omega
      have hadd : (⟨g2, 0, none⟩ : Addr).add j = ⟨g2, j, none⟩ := by unfold Addr.add; split <;> simp_all
      rw [hadd, World.ownsRow.cellAt hq j (by omega), hu])
    (Rh_one' ys) (by unfold maxLen; omega) (by omega) (Nat.le_refl _)
  rw [Nat.zero_add, List.nil_append] at h2
  obtain ⟨g', cap', rfl⟩ : ∃ g' cap', v' = .slice (some ⟨g', 0, none⟩) m cap' := by
    rcases h2.2 with ⟨e, _⟩ | ⟨g', cap', cur, e, _⟩
    · have := (h4.1 e).2; omega
    · exact ⟨g', cap', e⟩
  have hg' : g' = w.heap.size := by
    rcases h5 with h5 | h5
    · simp [Value.ownBlock] at h5
    · simpa [Value.ownBlock] using h5
  subst hg'
  refine wpList_plain hgd fun _ hK => ?_
  unfold Oper.wp execOp
  simp only [ho, resolve, invoke, builtin, Sem.run_bind, Sem.run_pure, Result.andThen_ok, List.map_toArray, List.map_cons, List.map_nil, hs, hx, hr]
  exact hK _ _ (h cap' w' (Rc.of_own h2 rfl) ⟨h3.os, h3.tape, h3.output, h3.size, fun k hk => h3.block k hk (by simp [Value.ownBlock])⟩)


/-- A slice of fractions, nil let in: '.slice A n cap'. -/
def Rs (w : World) (A : Option Addr) (n cap : Nat) (xs : List Rat) : Prop := (A = none ∧ n = 0 ∧ cap = 0 ∧ xs = []) ∨ ∃ g, A = some ⟨g, 0, none⟩ ∧ Rc w g n cap xs
section
variable {w w' : World} {A : Option Addr} {n cap : Nat} {xs : List Rat}
theorem Rs.nil (w : World) : Rs w none 0 0 [] := .inl ⟨rfl, rfl, rfl, rfl⟩
theorem Rs.of {g : Nat} (h : Rc w g n cap xs) : Rs w (some ⟨g, 0, none⟩) n cap xs := .inr ⟨g, rfl, h⟩
theorem Rs.len (h : Rs w A n cap xs) : xs.length = n := by
  rcases h with ⟨_, rfl, _, rfl⟩ | ⟨g, _, h⟩
  · rfl
  · exact h.len
theorem Rs.le (h : Rs w A n cap xs) : n ≤ cap := by
  rcases h with ⟨_, rfl, rfl, _⟩ | ⟨g, _, h⟩
  · exact Nat.le_refl _
  · exact h.le
theorem Rs.cap_le (h : Rs w A n cap xs) : cap ≤ 9223372036854775807 := by
  rcases h with ⟨_, _, rfl, _⟩ | ⟨g, _, h⟩
  · omega
  · exact h.cap_le
theorem Rs.at_ (h : Rs w A n cap xs) {k : Nat} (hk : k < n) : ∃ g, A = some ⟨g, 0, none⟩ ∧ Rc w g n cap xs := by
  rcases h with ⟨_, rfl, _, _⟩ | h
  · omega
  · exact h
theorem Rs.below (h : Rs w A n cap xs) {B : Nat} (hb : Below B w w') (hB : w.heap.size ≤ B) : Rs w' A n cap xs := by
  rcases h with h | ⟨g, e, h⟩
  · exact .inl h
  · exact .inr ⟨g, e, h.below hb (Nat.lt_of_lt_of_le h.lt hB)⟩
end
/-- A slice of fractions that is nil or lies in a block from B on. -/
def OwnR (B : Nat) (w : World) (v : Value) (xs : List Rat) : Prop := (v = .slice none 0 0 ∧ xs = []) ∨ ∃ g cap, v = .slice (some ⟨g, 0, none⟩) xs.length cap ∧ B ≤ g ∧ Rc w g xs.length cap xs
theorem OwnR.nil (B : Nat) (w : World) : OwnR B w (.slice none 0 0) [] := .inl ⟨rfl, rfl⟩
theorem OwnR.ss {B : Nat} {w : World} {v : Value} {xs : List Rat} (h : OwnR B w v xs) : ∃ A cap, v = .slice A xs.length cap ∧ Rs w A xs.length cap xs := by
  rcases h with ⟨rfl, rfl⟩ | ⟨g, cap, rfl, _, h⟩
  · exact ⟨none, 0, rfl, Rs.nil w⟩
  · exact ⟨_, cap, rfl, Rs.of h⟩
theorem OwnR.drewN {B : Nat} {w : World} {v : Value} {xs : List Rat} (h : OwnR B w v xs) (k : Nat) : OwnR B (w.drewN k) v xs := h
theorem OwnR.below {B : Nat} {w w' : World} {v : Value} {xs : List Rat} (h : OwnR B w v xs) (hb : Below w.heap.size w w') : OwnR B w' v xs := by
  rcases h with h | ⟨g, c, e, hg, h⟩
  · exact .inl h
  · exact .inr ⟨g, c, e, hg, h.below hb h.lt⟩
theorem OwnR.mono {B B' : Nat} {w : World} {v : Value} {xs : List Rat} (h : OwnR B w v xs) (hB : B' ≤ B) : OwnR B' w v xs := by
  rcases h with h | ⟨g, c, e, hg, h⟩
  · exact .inl h
  · exact .inr ⟨g, c, e, by omega, h⟩
theorem append_OwnR {ops : Array Oper} {rest : List Oper} {o : Oper} {a : Act} {w : World} {Q : Exit → Act → World → Prop} (hgd : o.guard = none) (s x : Operand) (t : TypeId)
    (ho : o.op = .call { callee := .builtin .append, args := #[s, x], argTypes := #[t, t] }) (ht : Tryz.prog.underlying t = some (.slice 24))
    (B : Nat) (v : Value) (xs : List Rat) (w0 : World) (hs : a.eval s = v) (hp : OwnR B w0 v xs) (hB : B ≤ w0.heap.size) (hn : xs.length ≤ 1000000000) (y : Rat)
    (hw : w = w0.alloc (.cells #[.string (itx y.num), .string (itx (y.den : Int))] 24)) (hx : a.eval x = .slice (some ⟨w0.heap.size, 0, none⟩) 1 1)
    (h : ∀ v' w', OwnR B w' v' (xs ++ [y]) → Below B w0 w' → wpList Tryz.prog ops Q rest (a.put o.dst v') w') :
    wpList Tryz.prog ops Q (o :: rest) a w := by
  subst hw
  have hone := Rc.one w0 y
  rcases hp with ⟨rfl, rfl⟩ | ⟨g, cap, rfl, hg, hp⟩
  · refine append_nil_Rc hgd s x t ho ht hs _ 1 1 [y] hx hone (by omega) (by omega) ?_
    intro cap' w' hq hb
    have hsz : (w0.alloc (.cells #[.string (itx y.num), .string (itx (y.den : Int))] 24)).heap.size = w0.heap.size + 1 := World.size_alloc _ _
    exact h _ _ (.inr ⟨_, cap', rfl, by rw [hsz]; omega, hq⟩) (((Below.refl B w0).alloc hB _).trans (hb.mono (by rw [hsz]; omega)))
  · refine append_Rc hgd s x t ho ht g xs.length cap xs hs (hp.alloc _) _ 1 1 [y] hx hone (by omega) ?_
    intro g' cap' w' hq hon hat
    rw [World.size_alloc] at hat
    have hgl := hp.lt
    refine h _ _ (.inr ⟨g', cap', by rw [List.length_append]; rfl, by rcases hat with h | h <;> omega, by rw [List.length_append]; exact hq⟩) ?_
    exact bel_only ((Below.refl B w0).alloc hB _) hon hg (by rw [World.size_alloc]; omega)

/-- A slice of fractions that is read: its elements are xs. -/
def InR4 (w : World) (A : Option Addr) (n cap : Nat) (xs : List Rat) : Prop :=
  xs.length = n ∧ n ≤ cap ∧ cap ≤ 9223372036854775807 ∧ (0 < n → ∃ b off, A = some ⟨b, off, none⟩ ∧ b < w.heap.size ∧ ∀ j, j < n → w.cell? ⟨b, off + j * 2, none⟩ = some (.string (itx (xs.getD j 0).num)) ∧ w.cell? ⟨b, off + j * 2 + 1, none⟩ = some (.string (itx ((xs.getD j 0).den : Int))))
theorem InR4.below {w w' : World} {A : Option Addr} {n cap : Nat} {xs : List Rat} (h : InR4 w A n cap xs) (hb : Below w.heap.size w w') : InR4 w' A n cap xs := by
  refine ⟨h.1, h.2.1, h.2.2.1, fun hn => ?_⟩
  obtain ⟨b, off, e, hlt, hc⟩ := h.2.2.2 hn
  have := hb.size
  exact ⟨b, off, e, by omega, fun j hj => ⟨(hb.cell (p := ⟨b, _, none⟩) hlt).trans (hc j hj).1, (hb.cell (p := ⟨b, _, none⟩) hlt).trans (hc j hj).2⟩⟩
theorem InR4.nil (w : World) : InR4 w none 0 0 [] := ⟨rfl, Nat.le_refl _, by omega, fun h => absurd h (Nat.lt_irrefl _)⟩
theorem Rc.ins {w : World} {g n cap : Nat} {xs : List Rat} (h : Rc w g n cap xs) : InR4 w (some ⟨g, 0, none⟩) n cap xs :=
  ⟨h.len, h.le, h.cap_le, fun _ => ⟨g, 0, rfl, h.lt, fun j hj => ⟨by rw [Nat.zero_add]; exact h.cell0 j hj, by rw [Nat.zero_add]; exact h.cell1 j hj⟩⟩⟩
theorem Rs.ins {w : World} {A : Option Addr} {n cap : Nat} {xs : List Rat} (h : Rs w A n cap xs) : InR4 w A n cap xs := by
  rcases h with ⟨rfl, rfl, rfl, rfl⟩ | ⟨g, rfl, h⟩
  · exact InR4.nil w
  · exact h.ins
theorem OwnR.ins {B : Nat} {w : World} {v : Value} {xs : List Rat} (h : OwnR B w v xs) : ∃ A cap, v = .slice A xs.length cap ∧ InR4 w A xs.length cap xs := by
  obtain ⟨A, cap, e, h⟩ := h.ss
  exact ⟨A, cap, e, h.ins⟩
/-- A slice of integers, of fractions is returned, and an error: all that lay there is as it was. -/
def IRes (xs : List Int) (er : Int) (w : World) (e : Ending) (w' : World) : Prop := ∃ A n cap, e = .returned (.tuple #[.slice A n cap, .int .i64 er]) ∧ InJ w' A n cap xs ∧ Below w.heap.size w w'
def RRes (xs : List Rat) (er : Int) (w : World) (e : Ending) (w' : World) : Prop := ∃ A n cap, e = .returned (.tuple #[.slice A n cap, .int .i64 er]) ∧ InR4 w' A n cap xs ∧ Below w.heap.size w w'
def R1Res (xs : List Rat) (w : World) (e : Ending) (w' : World) : Prop := ∃ A n cap, e = .returned (.slice A n cap) ∧ InR4 w' A n cap xs ∧ Below w.heap.size w w'
end Go.Proofs.YtpafocfpofnkpaaGreatDoor
