/- Greater text, out of: T0, T1, T2, T3, T4, T5. -/
import Derived.Test.YtdpcmhdmdompnaaGreatDoorGc
import Derived.Test.YtdpcmhdmdompnaaGreatDoorGa
import Derived.Test.YtdpcmhdmdompnaaGreatDoorGb
import Derived.Deep.Upon
import Derived.Deep.DeepCutAuto
import Derived.Handy
import Derived.PlainAid
import Derived.Deep.DrawnRows
namespace Go.Proofs.YtdpcmhdmdompnaaGreatDoor
section
open Go.RowKit Go.PlainAid

/-- A slice of ints that is nil or lies in a block from B on. -/
def OwnN (B : Nat) (w : World) (v : Value) (xs : List Nat) : Prop := (v = .slice none 0 0 ∧ xs = []) ∨ ∃ g cap, v = .slice (some ⟨g, 0, none⟩) xs.length cap ∧ B ≤ g ∧ Nc w g xs.length cap xs
theorem OwnN.nil (B : Nat) (w : World) : OwnN B w (.slice none 0 0) [] := .inl ⟨rfl, rfl⟩
theorem OwnN.ns {B : Nat} {w : World} {v : Value} {xs : List Nat} (h : OwnN B w v xs) : ∃ A cap, v = .slice A xs.length cap ∧ Ns w A xs.length cap xs := by
  rcases h with ⟨rfl, rfl⟩ | ⟨g, cap, rfl, _, h⟩
  · exact ⟨none, 0, rfl, Ns.nil w⟩
  · exact ⟨_, cap, rfl, Ns.of h⟩
theorem OwnN.drewN {B : Nat} {w : World} {v : Value} {xs : List Nat} (h : OwnN B w v xs) (k : Nat) : OwnN B (w.drewN k) v xs := h
/-- append of one element, onto a slice of the call's own. -/
theorem append_own {ops : Array Oper} {rest : List Oper} {o : Oper} {a : Act} {w : World} {Q : Exit → Act → World → Prop} (hgd : o.guard = none) (s x : Operand) (t : TypeId)
    (ho : o.op = .call { callee := .builtin .append, args := #[s, x], argTypes := #[t, t] }) (ht : Tryz.prog.underlying t = some (.slice 3))
    (B : Nat) (v : Value) (xs : List Nat) (w0 : World) (hs : a.eval s = v) (hp : OwnN B w0 v xs) (hB : B ≤ w0.heap.size) (hn : xs.length ≤ 1000000000) (y : Nat)
    (hw : w = w0.alloc (.cells #[.int .i64 (y : Int)] 3)) (hx : a.eval x = .slice (some ⟨w0.heap.size, 0, none⟩) 1 1)
    (h : ∀ v' w', OwnN B w' v' (xs ++ [y]) → Below B w0 w' → wpList Tryz.prog ops Q rest (a.put o.dst v') w') :
    wpList Tryz.prog ops Q (o :: rest) a w := by
  subst hw
  have hone := Nc.one w0 y
  rcases hp with ⟨rfl, rfl⟩ | ⟨g, cap, rfl, hg, hp⟩
  · refine append_nil_Nc hgd s x t ho ht hs _ 1 1 [y] hx hone (by omega) (by omega) ?_
    intro cap' w' hq hb
    have hsz : (w0.alloc (.cells #[.int .i64 (y : Int)] 3)).heap.size = w0.heap.size + 1 := World.size_alloc _ _
    exact h _ _ (.inr ⟨_, cap', rfl, by rw [hsz]; omega, hq⟩) (((Below.refl B w0).alloc hB _).trans (hb.mono (by rw [hsz]; omega)))
  · refine append_Nc hgd s x t ho ht g xs.length cap xs hs (hp.alloc _) _ 1 1 [y] hx hone (by omega) ?_
    intro g' cap' w' hq hon hat
    rw [World.size_alloc] at hat
    have hgl := hp.lt
    refine h _ _ (.inr ⟨g', cap', by rw [List.length_append]; rfl, by rcases hat with h | h <;> omega, by rw [List.length_append]; exact hq⟩) ?_
    exact bel_only ((Below.refl B w0).alloc hB _) hon hg (by rw [World.size_alloc]; omega)
theorem Ns.trimmed {w : World} {A : Option Addr} {n cap : Nat} {xs : List Nat} (h : Ns w A n cap xs) : Ns w A (trimL xs).length cap (trimL xs) := by
  have h1 : (trimL xs).length ≤ xs.length := by rw [trimL_take, List.length_take]; omega
  have h2 := h.take (trimL xs).length (by rw [← h.len]; exact h1)
  rw [← trimL_take] at h2
  exact h2
theorem append_ownI {ops : Array Oper} {rest : List Oper} {o : Oper} {a : Act} {w : World} {Q : Exit → Act → World → Prop} (hgd : o.guard = none) (s x : Operand) (t : TypeId)
    (ho : o.op = .call { callee := .builtin .append, args := #[s, x], argTypes := #[t, t] }) (ht : Tryz.prog.underlying t = some (.slice 3))
    (B : Nat) (v : Value) (xs : List Nat) (w0 : World) (hs : a.eval s = v) (hp : OwnN B w0 v xs) (hB : B ≤ w0.heap.size) (hn : xs.length ≤ 1000000000) (y : Nat) (yi : Int)
    (hw : w = w0.alloc (.cells #[.int .i64 yi] 3)) (hx : a.eval x = .slice (some ⟨w0.heap.size, 0, none⟩) 1 1) (hy : yi = (y : Int))
    (h : ∀ v' w', OwnN B w' v' (xs ++ [y]) → Below B w0 w' → wpList Tryz.prog ops Q rest (a.put o.dst v') w') :
    wpList Tryz.prog ops Q (o :: rest) a w := by
  subst hy
  exact append_own hgd s x t ho ht B v xs w0 hs hp hB hn y hw hx h
theorem OwnN.trimmed {B : Nat} {w : World} {A : Option Addr} {n cap : Nat} {xs : List Nat} (h : OwnN B w (.slice A n cap) xs) : OwnN B w (.slice A (trimL xs).length cap) (trimL xs) := by
  rcases h with ⟨e, rfl⟩ | ⟨g, c, e, hg, h⟩
  · cases e; exact .inl ⟨rfl, rfl⟩
  · cases e
    rcases (Ns.of h).trimmed with ⟨e, _⟩ | ⟨g2, e, h2⟩
    · cases e
    · cases e; exact .inr ⟨g, cap, rfl, hg, h2⟩
theorem OwnN.below {B : Nat} {w w' : World} {v : Value} {xs : List Nat} (h : OwnN B w v xs) (hb : Below w.heap.size w w') : OwnN B w' v xs := by
  rcases h with h | ⟨g, c, e, hg, h⟩
  · exact .inl h
  · exact .inr ⟨g, c, e, hg, h.below hb h.lt⟩
theorem OwnN.far {B : Nat} {w : World} {v : Value} {xs : List Nat} (h : OwnN B w v xs) {p : Addr} (hp : p.block < B) (u : Value) : OwnN B (w.setCell p u) v xs := by
  rcases h with h | ⟨g, c, e, hg, h⟩
  · exact .inl h
  · exact .inr ⟨g, c, e, hg, h.far (by omega) u⟩
theorem OwnN.mono {B B' : Nat} {w : World} {v : Value} {xs : List Nat} (h : OwnN B w v xs) (hB : B' ≤ B) : OwnN B' w v xs := by
  rcases h with h | ⟨g, c, e, hg, h⟩
  · exact .inl h
  · exact .inr ⟨g, c, e, by omega, h⟩
/-- The pieces of a natural number, in a slice of the call's own. -/
def OwnPost (a : Nat) (w : World) (e : Ending) (w' : World) : Prop := ∃ v, e = .returned v ∧ OwnN w.heap.size w' v (lims a) ∧ Below w.heap.size w w'
/-- append(one piece, rest...). -/
theorem append_front {ops : Array Oper} {rest : List Oper} {o : Oper} {a : Act} {w : World} {Q : Exit → Act → World → Prop} (hgd : o.guard = none) (s x : Operand) (t : TypeId)
    (ho : o.op = .call { callee := .builtin .append, args := #[s, x], argTypes := #[t, t] }) (ht : Tryz.prog.underlying t = some (.slice 3))
    (B : Nat) (v : Value) (ys : List Nat) (w0 : World) (hx : a.eval x = v) (hp : OwnN B w0 v ys) (hB : B ≤ w0.heap.size) (hn : ys.length ≤ 1000000000) (y : Nat)
    (hw : w = w0.alloc (.cells #[.int .i64 (y : Int)] 3)) (hs : a.eval s = .slice (some ⟨w0.heap.size, 0, none⟩) 1 1)
    (h : ∀ v' w', OwnN B w' v' (y :: ys) → Below w0.heap.size w0 w' → wpList Tryz.prog ops Q rest (a.put o.dst v') w') :
    wpList Tryz.prog ops Q (o :: rest) a w := by
  subst hw
  have hone := Nc.one w0 y
  rcases hp with ⟨rfl, rfl⟩ | ⟨g, cap, rfl, hg, hp⟩
  · obtain ⟨i, hi, hz, hsz, hb⟩ := info_parts Tryz.infoNc
    have hr := run_append_nothing (P := Tryz.prog) (w0.alloc (.cells #[.int .i64 (y : Int)] 3)) t t o.type 3 i ht hi (some ⟨w0.heap.size, 0, none⟩) 1 1 (Nat.le_refl _) (.slice none 0 0) (Src.ofNil _ ht 0)
    refine wpList_plain hgd fun _ hK => ?_
    unfold Oper.wp execOp
    simp only [ho, resolve, invoke, builtin, Sem.run_bind, Sem.run_pure, Result.andThen_ok, List.map_toArray, List.map_cons, List.map_nil, hs, hx, hr]
    exact hK _ _ (h _ _ (.inr ⟨_, 1, rfl, by omega, hone⟩) ((Below.refl _ w0).alloc (Nat.le_refl _) _))
  · refine append_Nc hgd s x t ho ht _ 1 1 [y] hs hone g ys.length cap ys hx (hp.alloc _) (by omega) ?_
    intro g' cap' w' hq hon hat
    rw [World.size_alloc] at hat
    refine h _ _ (.inr ⟨g', cap', by rw [List.length_cons, Nat.add_comm 1], by rcases hat with h | h <;> omega, by rw [List.length_cons, Nat.add_comm]; exact hq⟩) ?_
    exact bel_only ((Below.refl _ w0).alloc (Nat.le_refl _) _) hon (Nat.le_refl _) (by rw [World.size_alloc]; omega)
def szOf : Value → Nat | .string t => t.size | _ => 0

theorem OwnN.ns_at {B : Nat} {w : World} {A : Option Addr} {n cap : Nat} {xs : List Nat} (h : OwnN B w (.slice A n cap) xs) : Ns w A n cap xs := by
  rcases h with ⟨h1, rfl⟩ | ⟨g, c, e, _, h⟩
  · cases h1; exact Ns.nil w
  · cases e; exact Ns.of h
/-- A struct of a sign and a slice, as a value. -/
def wv (b : Bool) (A : Option Addr) (n cap : Nat) : Value := .agg #[.bool b, .slice A n cap]
/-- An integer as the reference keeps it: its sign, and the pieces of its magnitude in a slice. -/
def W3 (w : World) (v : Value) (z : Int) : Prop := ∃ A n cap, v = wv (decide (z < 0)) A n cap ∧ Ns w A n cap (lims z.natAbs)
theorem W3.below {w w' : World} {v : Value} {z : Int} (h : W3 w v z) (hb : Below w.heap.size w w') : W3 w' v z := by
  obtain ⟨A, n, cap, e, h⟩ := h
  exact ⟨A, n, cap, e, h.below hb (Nat.le_refl _)⟩
/-- What a function leaves that hands back an integer. -/
def W3Post (z : Int) (w : World) (e : Ending) (w' : World) : Prop := ∃ v, e = .returned v ∧ W3 w' v z ∧ Below w.heap.size w w'
/-- What a function leaves that hands back pieces of a number. -/
def NsPost (a : Nat) (w : World) (e : Ending) (w' : World) : Prop :=
  ∃ A n cap, e = .returned (.slice A n cap) ∧ Ns w' A n cap (lims a) ∧ Below w.heap.size w w'
end
section
open Go.RowKit Go.PlainAid

/-- Block g holds two cells that can be written. -/
def Box2 (w : World) (g : Nat) (v0 v1 : Value) : Prop :=
  g < w.heap.size ∧ w.cell? ⟨g, 0, none⟩ = some v0 ∧ w.cell? ⟨g, 1, none⟩ = some v1 ∧ w.frozen? ⟨g, 0, none⟩ = false ∧ w.frozen? ⟨g, 1, none⟩ = false
section
variable {w w' : World} {g : Nat} {v0 v1 : Value}
theorem Box2.new (w : World) (v0 v1 : Value) (T : TypeId) : Box2 (w.alloc (.cells #[v0, v1] T)) w.heap.size v0 v1 :=
  ⟨by simp, by simp [World.cell?_alloc_new], by simp [World.cell?_alloc_new], by simp [World.frozen?_alloc_new], by simp [World.frozen?_alloc_new]⟩
theorem Box2.below (h : Box2 w g v0 v1) {B : Nat} (hb : Below B w w') (hB : g < B) : Box2 w' g v0 v1 :=
  ⟨Nat.lt_of_lt_of_le h.1 hb.size, (hb.cell (p := ⟨g, 0, none⟩) hB).trans h.2.1, (hb.cell (p := ⟨g, 1, none⟩) hB).trans h.2.2.1, (hb.frozen (p := ⟨g, 0, none⟩) hB).trans h.2.2.2.1, (hb.frozen (p := ⟨g, 1, none⟩) hB).trans h.2.2.2.2⟩
theorem Box2.later (h : Box2 w g v0 v1) (hb : Below w.heap.size w w') : Box2 w' g v0 v1 := h.below hb h.1
theorem Box2.alloc (h : Box2 w g v0 v1) (o : Obj) : Box2 (w.alloc o) g v0 v1 := h.later ((Below.refl _ _).alloc (Nat.le_refl _) o)
theorem Box2.drewN (h : Box2 w g v0 v1) (n : Nat) : Box2 (w.drewN n) g v0 v1 := h
theorem Box2.far (h : Box2 w g v0 v1) {p : Addr} (hp : g ≠ p.block) (u : Value) : Box2 (w.setCell p u) g v0 v1 := by
  have e := Below.heap_setCell w p u g hp
  obtain ⟨h0, h1, h2, h3, h4⟩ := h
  refine ⟨by simpa using h0, ?_, ?_, ?_, ?_⟩
  · rw [World.cell?_setCell_other _ _ _ _ (by rintro rfl; exact hp rfl)]; exact h1
  · rw [World.cell?_setCell_other _ _ _ _ (by rintro rfl; exact hp rfl)]; exact h2
  · rw [World.frozen?_setCell]; exact h3
  · rw [World.frozen?_setCell]; exact h4
theorem Box2.set1 (h : Box2 w g v0 v1) (u : Value) : Box2 (w.setCell ⟨g, 1, none⟩ u) g v0 u := by
  obtain ⟨h0, h1, h2, h3, h4⟩ := h
  refine ⟨by simpa using h0, ?_, ?_, ?_, ?_⟩
  · rw [World.cell?_setCell_other _ _ _ _ (by simp)]; exact h1
  · exact World.cell?_setCell_same' _ _ _ (by rw [h2]; rfl)
  · rw [World.frozen?_setCell]; exact h3
  · rw [World.frozen?_setCell]; exact h4
theorem Box2.set0 (h : Box2 w g v0 v1) (u : Value) : Box2 (w.setCell ⟨g, 0, none⟩ u) g u v1 := by
  obtain ⟨h0, h1, h2, h3, h4⟩ := h
  refine ⟨by simpa using h0, ?_, ?_, ?_, ?_⟩
  · exact World.cell?_setCell_same' _ _ _ (by rw [h1]; rfl)
  · rw [World.cell?_setCell_other _ _ _ _ (by simp)]; exact h2
  · rw [World.frozen?_setCell]; exact h3
  · rw [World.frozen?_setCell]; exact h4
end
/-- A result that lies in a block. -/
theorem ret_cell {fn : Func} {p : Tmp} {T : TypeId} (h : fn.results = #[.cell p T]) {a : Act} {w : World} {R : Ending → World → Prop} {ad : Addr} {v : Value} (hp : a.tmps.getD p undef = .pointer (some ad))
    (hl : (loadVar T ad).run Tryz.prog w = .ok v w) (hd : a.defers = []) (hR : R (.returned v) w) : bodyPost Tryz.prog fn R .ret a w := by
  refine bodyPost_ret (v := v) ?_ hd hR
  rw [Array.getD_eq_getD_getElem?] at hp
  simp [results, h, hp, asAddr, hl]
theorem ret_cell_tmp {fn : Func} {p u : Tmp} {T : TypeId} (h : fn.results = #[.cell p T, .tmp u]) {a : Act} {w : World} {R : Ending → World → Prop} {ad : Addr} {v : Value} (hp : a.tmps.getD p undef = .pointer (some ad))
    (hl : (loadVar T ad).run Tryz.prog w = .ok v w) (hd : a.defers = []) (hR : R (.returned (.tuple #[v, a.tmps.getD u undef])) w) : bodyPost Tryz.prog fn R .ret a w := by
  refine bodyPost_ret (v := .tuple #[v, a.tmps.getD u undef]) ?_ hd hR
  rw [Array.getD_eq_getD_getElem?] at hp
  simp [results, h, hp, asAddr, hl]
theorem ret_cell2 {fn : Func} {p u : Tmp} {T U : TypeId} (h : fn.results = #[.cell p T, .cell u U]) {a : Act} {w : World} {R : Ending → World → Prop} {ad ae : Addr} {v x : Value} (hp : a.tmps.getD p undef = .pointer (some ad)) (hu : a.tmps.getD u undef = .pointer (some ae))
    (hl : (loadVar T ad).run Tryz.prog w = .ok v w) (hl2 : (loadVar U ae).run Tryz.prog w = .ok x w) (hd : a.defers = []) (hR : R (.returned (.tuple #[v, x])) w) : bodyPost Tryz.prog fn R .ret a w := by
  refine bodyPost_ret (v := .tuple #[v, x]) ?_ hd hR
  rw [Array.getD_eq_getD_getElem?] at hp hu
  simp [results, h, hp, hu, asAddr, hl, hl2]
theorem load_whole {w : World} {g : Nat} {v0 v1 : Value} (h : Box2 w g v0 v1) : (loadVar 43 ⟨g, 0, none⟩).run Tryz.prog w = .ok (.agg #[v0, v1]) w := by
  simp [loadVar, go_sem, h.2.1, h.2.2.1]
/-- What trim's loop keeps: the parameter's box g, the result's box g + 1. -/
def TrimRel (b : Bool) (A : Option Addr) (cap : Nat) (xs : List Nat) (w : World) (k : Nat) (wr : World) : Prop :=
  Below w.heap.size w wr ∧ Box2 wr w.heap.size (.bool b) (.slice A k cap) ∧ Box2 wr (w.heap.size + 1) (.bool false) (.slice none 0 0) ∧ trimL (xs.take k) = trimL xs
theorem trim_at0 {xs : List Nat} (h : trimL xs = trimL (xs.take 0)) : (trimL xs).length = 0 := by
  rw [h, List.take_zero]; rfl
set_option maxRecDepth 100000 in
set_option maxHeartbeats 1000000 in
theorem t3trim_some (b : Bool) (g n cap : Nat) (xs : List Nat) (w : World) (h : Nc w g n cap xs) :
    Calls Tryz.prog 29 #[wv b (some ⟨g, 0, none⟩) n cap] w (SmallRes (wv (b && !(trimL xs).isEmpty) (some ⟨g, 0, none⟩) (trimL xs).length cap) w) := by
  have hn := h.len
  have hcap := h.cap_le
  have hle := h.le
  have HN := Lib.hid hn
  have HC := Lib.hid (fun wz (hb : Below w.heap.size w wz) => h.below hb h.lt)
  clear hn h
  unfold wv
  go_enter Tryz.func29, Tryz.ntmps29
  go_wp2_with fail
  go_loopg [3] n (fun gk v3 wr => gk ≤ n ∧ TrimRel b (some ⟨g, 0, none⟩) cap xs w gk wr)
  case atStart =>
    refine ⟨Nat.le_refl _, (((Below.refl _ _).alloc (Nat.le_refl _) _).alloc (by simp only [World.size_alloc]; omega) _), (Box2.new _ _ _ _).alloc _, ?_, by rw [List.take_of_length_le (by rw [HN.out]; exact Nat.le_refl _)]⟩
    have h := Box2.new (w.alloc (.cells #[.bool b, .slice (some ⟨g, 0, none⟩) n cap] 43)) (.bool false) (.slice none 0 0) 43
    simp only [World.size_alloc] at h
    exact h
  case round =>
    obtain ⟨hk, hB, hb, hr, ht⟩ := hrel
    obtain ⟨hb0, hb1, hb2, hb3, hb4⟩ := hb
    obtain ⟨hr0, hr1, hr2, hr3, hr4⟩ := hr
    have HT := Lib.hid ht
    have HB := Lib.hid hB
    clear ht hB
    by_cases hk0 : gk = 0
    · subst hk0
      have HZ := Lib.hid (trim_at0 HT.out.symm)
      have HE := Lib.hid (show (b && !(trimL xs).isEmpty) = false by rw [List.eq_nil_of_length_eq_zero HZ.out]; simp)
      cases b
      all_goals
        go_wp2_with fail
        refine ret_cell rfl rfl (load_whole (g := w.heap.size + 1) (((Box2.far ⟨hr0, hr1, hr2, hr3, hr4⟩ (by simp) _).set0 _).set1 _)) rfl ?_
        exact ⟨by rw [HZ.out, HE.out], ((HB.out.setCell (by simp) _).setCell (by simp) _).setCell (by simp) _⟩
    · obtain ⟨j, rfl⟩ : ∃ j, gk = j + 1 := ⟨gk - 1, by omega⟩
      have hc := (HC.out _ HB.out).cell j (by omega)
      have hji : ((j + 1 : Nat) : Int) - 1 = (j : Int) := by omega
      by_cases h0 : xs.getD j 0 = 0
      · rw [h0] at hc
        have H0 := Lib.hid h0
        have HBX := Lib.hid (show Box2 wr w.heap.size (.bool b) (.slice (some ⟨g, 0, none⟩) (j + 1) cap) from ⟨hb0, hb1, hb2, hb3, hb4⟩)
        have HRX := Lib.hid (show Box2 wr (w.heap.size + 1) (.bool false) (.slice none 0 0) from ⟨hr0, hr1, hr2, hr3, hr4⟩)
        clear h0
        go_wp2_with fail
        go_roundg j
        case measure => omega
        case rel => exact ⟨by omega, HB.out.setCell (by simp) _, HBX.out.set1 _, HRX.out.far (by simp) _, (trimL_step (by have := HN.out; omega) H0.out).symm.trans HT.out⟩
      · have h1 : (((xs.getD j 0 : Nat) : Int) == 0) = false := by simpa using h0
        have h2 := trimL_stop (k := j) (xs := xs) (by have := HN.out; omega) h0
        have HZ := Lib.hid (show (trimL xs).length = j + 1 by rw [← HT.out, h2])
        have HE := Lib.hid (show (b && !(trimL xs).isEmpty) = b by
          have : (trimL xs).isEmpty = false := by
            cases h : trimL xs with
            | nil => have := HZ.out; rw [h] at this; simp at this
            | cons _ _ => rfl
          rw [this]; simp)
        generalize xs.getD j 0 = x at *
        clear h2 h0
        cases b
        all_goals
          go_wp2_with fail
          refine ret_cell rfl rfl (load_whole (g := w.heap.size + 1) (((Box2.far ⟨hr0, hr1, hr2, hr3, hr4⟩ (by simp) _).set0 _).set1 _)) rfl ?_
          exact ⟨by rw [HZ.out, HE.out], ((HB.out.setCell (by simp) _).setCell (by simp) _).setCell (by simp) _⟩
set_option maxRecDepth 100000 in
set_option maxHeartbeats 1000000 in
theorem t3trim_none (b : Bool) (w : World) :
    Calls Tryz.prog 29 #[wv b none 0 0] w (SmallRes (wv false none 0 0) w) := by
  unfold wv
  go_enter Tryz.func29, Tryz.ntmps29
  go_wp2_with fail
  go_loopg [3] 1 (fun gk v3 wr => 0 < gk ∧ TrimRel b none 0 [] w 0 wr)
  case atStart =>
    refine ⟨Nat.one_pos, (((Below.refl _ _).alloc (Nat.le_refl _) _).alloc (by simp only [World.size_alloc]; omega) _), (Box2.new _ _ _ _).alloc _, ?_, rfl⟩
    have h := Box2.new (w.alloc (.cells #[.bool b, .slice none 0 0] 43)) (.bool false) (.slice none 0 0) 43
    simp only [World.size_alloc] at h
    exact h
  case round =>
    obtain ⟨_, hB, hb, hr, _⟩ := hrel
    obtain ⟨hb0, hb1, hb2, hb3, hb4⟩ := hb
    obtain ⟨hr0, hr1, hr2, hr3, hr4⟩ := hr
    have HB := Lib.hid hB
    clear hB
    cases b
    all_goals
      go_wp2_with fail
      refine ret_cell rfl rfl (load_whole (g := w.heap.size + 1) (((Box2.far ⟨hr0, hr1, hr2, hr3, hr4⟩ (by simp) _).set0 _).set1 _)) rfl ?_
      exact ⟨rfl, ((HB.out.setCell (by simp) _).setCell (by simp) _).setCell (by simp) _⟩
/-- schismaref03.trim. -/
theorem t3trim_any (b : Bool) (A : Option Addr) (n cap : Nat) (xs : List Nat) (w : World) (h : Ns w A n cap xs) :
    Calls Tryz.prog 29 #[wv b A n cap] w (SmallRes (wv (b && !(trimL xs).isEmpty) A (trimL xs).length cap) w) := by
  rcases h with ⟨rfl, rfl, rfl, rfl⟩ | ⟨g, rfl, h⟩
  · have e : (b && !(trimL []).isEmpty) = false := by rw [trimL_nil]; simp
    rw [e, trimL_nil]
    exact t3trim_none b w
  · exact t3trim_some b g n cap xs w h
/-- trim, its argument and result written out. -/
theorem t3trim_agg (b : Bool) (A : Option Addr) (n cap : Nat) (xs : List Nat) (w : World) (h : Ns w A n cap xs) :
    Calls Tryz.prog 29 #[.agg #[.bool b, .slice A n cap]] w (SmallRes (.agg #[.bool (b && !(trimL xs).isEmpty), .slice A (trimL xs).length cap]) w) := t3trim_any b A n cap xs w h
end
section
open Go.RowKit Go.PlainAid

set_option maxHeartbeats 400000 in
/-- schismaref03.above. -/
theorem t3above_any (A1 : Option Addr) (n1 cap1 : Nat) (A2 : Option Addr) (n2 cap2 a b : Nat) (w : World) (hp : Ns w A1 n1 cap1 (lims a)) (hq : Ns w A2 n2 cap2 (lims b)) :
    Calls Tryz.prog 59 #[.slice A1 n1 cap1, .slice A2 n2 cap2] w (SmallRes (.int .i64 (cmpI a b)) w) := by
  have hcap := hp.cap_le
  have hle := hp.le
  have hle2 := hq.le
  have hcap2 := hq.cap_le
  have HL := Lib.hid hp.len
  have HL2 := Lib.hid hq.len
  by_cases hn : n1 = n2
  · subst hn
    have hne : ((n1 : Int) != (n1 : Int)) = false := by simp
    by_cases h0 : n1 = 0
    · subst h0
      have HC := Lib.hid (show cmpI a b = 0 by
        have e1 : a = 0 := lims_ne_nil.1 (List.eq_nil_of_length_eq_zero HL.out)
        have e2 : b = 0 := lims_ne_nil.1 (List.eq_nil_of_length_eq_zero HL2.out)
        rw [e1, e2]; rfl)
      rw [HC.out]
      go_enter Tryz.func59, Tryz.ntmps59
      go_wp2
      go_loop [5] (fun v => v = .int .i64 (-1)) (fun _ => 0)
      case atStart => rfl
      case round =>
        subst hrel
        go_wp2
        go_ret
        exact ⟨rfl, Below.refl _ _⟩
    obtain ⟨g1, rfl, hp1⟩ := hp.at_ (show 0 < n1 by omega)
    obtain ⟨g2, rfl, hq1⟩ := hq.at_ (show 0 < n1 by omega)
    clear hp hq
    have hp := hp1
    have hq := hq1
    clear hp1 hq1
    have hg1 := hp.lt
    have hg2 := hq.lt
    go_enter Tryz.func59, Tryz.ntmps59
    go_wp2
    go_loopw [5] (fun vi wr => ∃ i : Nat, i ≤ n1 ∧ vi = .int .i64 ((i : Int) - 1) ∧ Below w.heap.size w wr ∧ Hid ((lims a).drop i = (lims b).drop i)) (fun vi _ => (intOf vi + 1).toNat)
    case atStart => exact ⟨n1, Nat.le_refl _, rfl, Below.refl _ _, by rw [List.drop_of_length_le (by rw [HL.out]; omega), List.drop_of_length_le (by rw [HL2.out]; omega)]; rfl⟩
    case round =>
      obtain ⟨i, hi, rfl, hb, HD⟩ := hrel
      by_cases hi0 : i = 0
      · subst hi0
        go_wp2
        go_ret
        exact ⟨ret_int (by rw [pcmp_eq HD.out, cmpI_eq]), hb⟩
      · obtain ⟨j, rfl⟩ : ∃ j, i = j + 1 := ⟨i - 1, by omega⟩
        have ec : ((j + 1 : Nat) : Int) - 1 = (j : Int) := by omega
        rw [ec]
        have hc1 := (hp.below hb hg1).cell j (by omega)
        have hc2 := (hq.below hb hg2).cell j (by omega)
        have hb1 : (j : Int) < (n1 : Int) := by omega
        have HLT := Lib.hid (fun h => pcmp_lt (a := a) (b := b) (i := j) (by rw [HL.out, HL2.out]) (by rw [HL2.out]; omega) HD.out h)
        have HGT := Lib.hid (fun h => pcmp_lt (a := b) (b := a) (i := j) (by rw [HL.out, HL2.out]) (by rw [HL.out]; omega) HD.out.symm h)
        have HEQ := Lib.hid (fun h => drop_step (xs := lims a) (ys := lims b) (i := j) (by rw [HL.out]; omega) (by rw [HL2.out]; omega) HD.out h)
        clear ec
        generalize (lims a).getD j 0 = x at *
        generalize (lims b).getD j 0 = y at *
        rcases Nat.lt_trichotomy x y with h | h | h
        · go_wp2
          go_quiet (fail)
          go_wp2
          go_ret
          exact ⟨ret_int (cmpI_lt (HLT.out h)).symm, bel_drewN hb _⟩
        · subst h
          go_wp2
          go_quiet (fail)
          go_wp2
          go_quiet (fail)
          go_wp2
          refine ⟨⟨j, by omega, rfl, ?_, HEQ.out trivial⟩, by simp [intOf]⟩
          first | exact bel_drewN hb _ | exact bel_drewN (bel_drewN hb _) _
        · have hxy : ¬ x < y := by omega
          go_wp2
          go_quiet (fail)
          go_wp2
          go_quiet (fail)
          go_wp2
          go_ret
          refine ⟨ret_int (cmpI_gt (HGT.out h)).symm, ?_⟩
          first | exact bel_drewN hb _ | exact bel_drewN (bel_drewN hb _) _
  · have hne : ((n1 : Int) != (n2 : Int)) = true := by rw [bne_iff_ne]; omega
    rcases Nat.lt_or_gt_of_ne hn with h | h
    · have HC := Lib.hid (cmpI_lt (pcmp_len (a := a) (b := b) (by rw [HL.out, HL2.out]; exact h)))
      go_enter Tryz.func59, Tryz.ntmps59
      go_wp2
      all_goals go_ret
      all_goals exact ⟨ret_int (by rw [HC.out]), Below.refl _ _⟩
    · have HC := Lib.hid (cmpI_gt (pcmp_len (a := b) (b := a) (by rw [HL.out, HL2.out]; exact h)))
      go_enter Tryz.func59, Tryz.ntmps59
      go_wp2
      all_goals go_ret
      all_goals exact ⟨ret_int (by rw [HC.out]), Below.refl _ _⟩
/-- Pieces of a number, in a slice of the call's own, perhaps with zeros at the end. -/
def RawOwn (a k : Nat) (w : World) (e : Ending) (w' : World) : Prop :=
  ∃ v xs, e = .returned v ∧ OwnN w.heap.size w' v xs ∧ Lims xs ∧ lv xs = a ∧ xs.length ≤ k ∧ Below w.heap.size w w'
def PlusRel (xs ys : List Nat) (i c : Nat) (vo : Value) (w wr : World) : Prop := Below w.heap.size w wr ∧ ∃ o, OwnN w.heap.size wr vo o ∧ PlusAt xs ys i c o
set_option maxRecDepth 100000 in
set_option maxHeartbeats 1000000 in
/-- schismaref03.plus. -/
theorem t3plus_any (A1 : Option Addr) (n1 cap1 : Nat) (A2 : Option Addr) (n2 cap2 a b : Nat) (w : World) (hp : Ns w A1 n1 cap1 (lims a)) (hq : Ns w A2 n2 cap2 (lims b)) (h1 : n1 ≤ 1000000) (h2 : n2 ≤ 1000000) :
    Calls Tryz.prog 63 #[.slice A1 n1 cap1, .slice A2 n2 cap2] w (RawOwn (a + b) (n1 + n2 + 1) w) := by
  have hcap := hp.cap_le
  have hle := hp.le
  have hle2 := hq.le
  have hcap2 := hq.cap_le
  have HL := Lib.hid hp.len
  have HL2 := Lib.hid hq.len
  have HP := Lib.hid hp
  have HQ := Lib.hid hq
  have HV := Lib.hid (And.intro (lv_lims a) (lv_lims b))
  have HX := Lib.hid (Lims_lims a)
  have HY := Lib.hid (Lims_lims b)
  generalize lims a = xs at *
  generalize lims b = ys at *
  clear hp hq
  go_enter Tryz.func63, Tryz.ntmps63
  go_wp2
  go_loopw [5, 6, 7] (fun vo vc vi wr => ∃ i c : Nat, i ≤ n1 + n2 + 1 ∧ c ≤ 1 ∧ (n1 ≤ i → n2 ≤ i → c = 1 → i ≤ n1 + n2) ∧ vi = .int .i64 (i : Int) ∧ vc = .int .i64 (c : Int) ∧ PlusRel xs ys i c vo w wr) (fun _ _ vi _ => n1 + n2 + 1 - (intOf vi).toNat)
  case atStart => exact ⟨0, 0, by omega, by omega, by omega, rfl, rfl, Below.refl _ _, [], OwnN.nil _ _, PlusAt.start _ _⟩
  case round =>
    obtain ⟨i, c, hi, hc, hmore, rfl, rfl, hB, o, hown, hP⟩ := hrel
    obtain ⟨wo, rfl⟩ : ∃ wo : World, wo = wr := ⟨_, rfl⟩
    by_cases hend : n1 ≤ i ∧ n2 ≤ i ∧ c = 0
    · obtain ⟨he1, he2, rfl⟩ := hend
      have HF := Lib.hid (hP.fin (by rw [HL.out]; exact he1) (by rw [HL2.out]; exact he2))
      have HLO := Lib.hid (And.intro hP.lims hP.len)
      clear hP hmore
      go_wp2
      go_ret
      exact ⟨_, o, rfl, hown, HLO.out.1, by rw [HF.out, HV.out.1, HV.out.2], by rw [HLO.out.2]; exact hi, hB⟩
    · have hi2 : i < n1 + n2 + 1 := by omega
      have hxb := Lims_getD HX.out i
      have hyb := Lims_getD HY.out i
      have HXZ := Lib.hid (fun h : ¬ i < n1 => take_getD_zero xs i (by rw [HL.out]; omega))
      have HYZ := Lib.hid (fun h : ¬ i < n2 => take_getD_zero ys i (by rw [HL2.out]; omega))
      have HST := Lib.hid (fun t ht => hP.step HX.out HY.out t ht)
      have HLO := Lib.hid hP.len
      have HC1 := Lib.hid (fun (h : i < n1) => (HP.out.below hB (Nat.le_refl _)).at_ h)
      have HC2 := Lib.hid (fun (h : i < n2) => (HQ.out.below hB (Nat.le_refl _)).at_ h)
      obtain ⟨x, hx⟩ : ∃ x, xs.getD i 0 = x := ⟨_, rfl⟩
      obtain ⟨y, hy⟩ : ∃ y, ys.getD i 0 = y := ⟨_, rfl⟩
      rw [hx] at hxb HXZ HST
      rw [hy] at hyb HYZ HST
      have HXE := Lib.hid hx
      have HYE := Lib.hid hy
      obtain ⟨t, ht⟩ : ∃ t, t = c + x + y := ⟨_, rfl⟩
      have HST2 := Lib.hid (HST.out t ht)
      have hol : o.length ≤ 1000000000 := by have := HLO.out; omega
      have HEND := Lib.hid hend
      have HMORE := Lib.hid (show n1 ≤ i + 1 → n2 ≤ i + 1 → t / 1000000000 = 1 → i + 1 ≤ n1 + n2 by
        intro e1 e2 e3
        have := (e3 ▸ (HST.out t ht)).more HX.out HY.out
        rw [HL.out, HL2.out] at this
        omega)
      clear hP hmore hx hy HST hend
      go_upto_region 4 with fail
      go_cut [21] (fun s21 wx => s21 = .bool true ∧ wo = wx)
      case first =>
        by_cases g1 : i < n1
        · go_wp2_with fail
          go_meet
          exact ⟨rfl, rfl⟩
        · by_cases g2 : i < n2
          · go_wp2_with fail
            go_meet
            exact ⟨rfl, rfl⟩
          · have hc1 : c = 1 := by have := HEND.out; omega
            subst hc1
            go_wp2_with fail
            go_meet
            exact ⟨rfl, rfl⟩
      case rest =>
        obtain ⟨rfl, rfl⟩ := hcut
        go_upto_if 27 with fail
        go_cut [6] (fun s6 wx => s6 = .int .i64 ((c : Int) + (x : Int)) ∧ wo = wx)
        case first =>
          by_cases g1 : i < n1
          · obtain ⟨b1, rfl, hc1⟩ := HC1.out g1
            have hc1 := hc1.cell i g1
            rw [HXE.out] at hc1
            go_wp2_with fail
            go_meet
            exact ⟨rfl, rfl⟩
          · have hx0 := HXZ.out g1
            go_wp2_with fail
            go_meet
            exact ⟨vint (by omega), rfl⟩
        case rest =>
        obtain ⟨rfl, rfl⟩ := hcut
        go_upto_if 37 with fail
        go_cut [6] (fun s6 wx => s6 = .int .i64 (t : Int) ∧ wo = wx)
        case first =>
          by_cases g2 : i < n2
          · obtain ⟨b2, rfl, hc2⟩ := HC2.out g2
            have hc2 := hc2.cell i g2
            rw [HYE.out] at hc2
            go_wp2_with fail
            go_meet
            exact ⟨vint (by omega), rfl⟩
          · have hy0 := HYZ.out g2
            go_wp2_with fail
            go_meet
            exact ⟨vint (by omega), rfl⟩
        case rest =>
          obtain ⟨rfl, rfl⟩ := hcut
          have htb : t ≤ 2000000001 := by omega
          clear hxb hyb ht
          go_wp2_with (at_builtin; refine append_ownI rfl _ _ 29 rfl Tryz.underlying29 w.heap.size _ o wo rfl hown hB.size hol (t % 1000000000) _ rfl rfl (by omega) ?_; intro v4 w4 hq4 hb4)
          go_roundw
          case rel => exact ⟨i + 1, t / 1000000000, by omega, by have := HST2.out.carry; omega, HMORE.out, by go_num, by go_num, hB.trans hb4, _, hq4, HST2.out⟩
          case measure => simp [intOf]; omega
end
section
open Go.RowKit Go.PlainAid

def MinusRel (xs ys : List Nat) (i c : Nat) (vo : Value) (w wr : World) : Prop := Below w.heap.size w wr ∧ ∃ o, OwnN w.heap.size wr vo o ∧ MinusAt xs ys i c o
set_option maxRecDepth 100000 in
set_option maxHeartbeats 1000000 in
/-- schismaref03.minus. -/
theorem t3minus_any (A1 : Option Addr) (n1 cap1 : Nat) (A2 : Option Addr) (n2 cap2 a b : Nat) (w : World) (hp : Ns w A1 n1 cap1 (lims a)) (hq : Ns w A2 n2 cap2 (lims b)) (h1 : n1 ≤ 1000000) (hba : b ≤ a) :
    Calls Tryz.prog 61 #[.slice A1 n1 cap1, .slice A2 n2 cap2] w (RawOwn (a - b) n1 w) := by
  have hcap := hp.cap_le
  have hle := hp.le
  have hle2 := hq.le
  have hcap2 := hq.cap_le
  have HL := Lib.hid hp.len
  have HL2 := Lib.hid hq.len
  have h21 : n2 ≤ n1 := by have := lims_len_mono hba; rw [hp.len, hq.len] at this; exact this
  have HP := Lib.hid hp
  have HQ := Lib.hid hq
  have HV := Lib.hid (And.intro (lv_lims a) (lv_lims b))
  have HX := Lib.hid (Lims_lims a)
  have HY := Lib.hid (Lims_lims b)
  generalize lims a = xs at *
  generalize lims b = ys at *
  clear hp hq
  go_enter Tryz.func61, Tryz.ntmps61
  go_wp2
  go_loopw [5, 6, 7] (fun vo vc vi wr => ∃ i c : Nat, i ≤ n1 ∧ c ≤ 1 ∧ vi = .int .i64 (i : Int) ∧ vc = .int .i64 (c : Int) ∧ MinusRel xs ys i c vo w wr) (fun _ _ vi _ => n1 - (intOf vi).toNat)
  case atStart => exact ⟨0, 0, by omega, by omega, rfl, rfl, Below.refl _ _, [], OwnN.nil _ _, MinusAt.start _ _⟩
  case round =>
    obtain ⟨i, c, hi, hc, rfl, rfl, hB, o, hown, hP⟩ := hrel
    obtain ⟨wo, rfl⟩ : ∃ wo : World, wo = wr := ⟨_, rfl⟩
    by_cases hend : i = n1
    · have hF := hP.fin (by rw [HL.out]; exact hend.symm) (by rw [HL2.out]; omega) (by rw [HV.out.1, HV.out.2]; exact hba)
      rw [HV.out.1, HV.out.2] at hF
      have HF := Lib.hid hF
      have HLO := Lib.hid (And.intro hP.lims hP.len)
      subst hend
      clear hF hP
      go_wp2_with fail
      go_ret
      exact ⟨_, o, rfl, hown, HLO.out.1, HF.out, by rw [HLO.out.2]; exact Nat.le_refl _, hB⟩
    · have hi2 : i < n1 := by omega
      have hxb := Lims_getD HX.out i
      have hyb := Lims_getD HY.out i
      have HYZ := Lib.hid (fun h : ¬ i < n2 => take_getD_zero ys i (by rw [HL2.out]; omega))
      have HST := Lib.hid (fun d c' e1 e2 e3 => hP.step d c' e1 e2 e3)
      have HLO := Lib.hid hP.len
      obtain ⟨b1, rfl, hc1⟩ := (HP.out.below hB (Nat.le_refl _)).at_ hi2
      have hc1 := hc1.cell i hi2
      have HC2 := Lib.hid (fun (h : i < n2) => (HQ.out.below hB (Nat.le_refl _)).at_ h)
      obtain ⟨x, hx⟩ : ∃ x, xs.getD i 0 = x := ⟨_, rfl⟩
      obtain ⟨y, hy⟩ : ∃ y, ys.getD i 0 = y := ⟨_, rfl⟩
      rw [hx] at hxb hc1 HST
      rw [hy] at hyb HYZ HST
      have HYE := Lib.hid hy
      have hol : o.length ≤ 1000000000 := by have := HLO.out; omega
      clear hP hx hy hend
      go_upto_if 24 with fail
      go_cut [8] (fun s8 wx => s8 = .int .i64 ((x : Int) - (c : Int) - (y : Int)) ∧ wo = wx)
      case first =>
        by_cases g2 : i < n2
        · obtain ⟨b2, rfl, hc2⟩ := HC2.out g2
          have hc2 := hc2.cell i g2
          rw [HYE.out] at hc2
          go_wp2_with fail
          go_meet
          exact ⟨rfl, rfl⟩
        · have hy0 := HYZ.out g2
          go_wp2_with fail
          go_meet
          exact ⟨vint (by omega), rfl⟩
      case rest =>
        obtain ⟨rfl, rfl⟩ := hcut
        by_cases hneg : (x : Int) - (c : Int) - (y : Int) < 0
        · obtain ⟨d, hd⟩ : ∃ d : Nat, (d : Int) = (x : Int) - (c : Int) - (y : Int) + 1000000000 := ⟨((x : Int) - (c : Int) - (y : Int) + 1000000000).toNat, by omega⟩
          have HS := Lib.hid (HST.out d 1 (by omega) (by omega) (by omega))
          go_wp2_with (at_builtin; refine append_ownI rfl _ _ 29 rfl Tryz.underlying29 w.heap.size _ o wo rfl hown hB.size hol d _ rfl rfl (by omega) ?_; intro v4 w4 hq4 hb4)
          go_roundw
          case rel => exact ⟨i + 1, 1, by omega, by omega, by go_num, rfl, hB.trans hb4, _, hq4, HS.out⟩
          case measure => simp [intOf]; omega
        · obtain ⟨d, hd⟩ : ∃ d : Nat, (d : Int) = (x : Int) - (c : Int) - (y : Int) := ⟨((x : Int) - (c : Int) - (y : Int)).toNat, by omega⟩
          have HS := Lib.hid (HST.out d 0 (by omega) (by omega) (by omega))
          go_wp2_with (at_builtin; refine append_ownI rfl _ _ 29 rfl Tryz.underlying29 w.heap.size _ o wo rfl hown hB.size hol d _ rfl rfl (by omega) ?_; intro v4 w4 hq4 hb4)
          go_roundw
          case rel => exact ⟨i + 1, 0, by omega, by omega, by go_num, rfl, hB.trans hb4, _, hq4, HS.out⟩
          case measure => simp [intOf]; omega
end
section
open Go.RowKit Go.PlainAid

def MulWRow (X : World → Prop) (g m : Nat) (xs ys : List Nat) (i : Nat) (w wr : World) : Prop :=
  Below w.heap.size w wr ∧ X wr ∧ ∃ o, Nc wr g m m o ∧ Lims o ∧ lv o = lv (xs.take i) * lv ys ∧ ∀ j, i + ys.length ≤ j → o.getD j 0 = 0
def MulWIn (X : World → Prop) (g m : Nat) (ys : List Nat) (v0 i a k c : Nat) (w wr : World) : Prop := Below w.heap.size w wr ∧ X wr ∧ ∃ o, Nc wr g m m o ∧
  (k ≤ ys.length ∧ TimesAt v0 i a ys k c o ∨ k = ys.length + 1 ∧ c = 0 ∧ Lims o ∧ lv o = v0 + a * lv ys * 1000000000 ^ i ∧ ∀ j, i + 1 + ys.length ≤ j → o.getD j 0 = 0)
/-- The boxes of two parameters and of the result. -/
def Boxes3 (g : Nat) (x y : Bool × Option Addr × Nat × Nat) (wr : World) : Prop :=
  Box2 wr g (.bool x.1) (.slice x.2.1 x.2.2.1 x.2.2.2) ∧ Box2 wr (g + 1) (.bool y.1) (.slice y.2.1 y.2.2.1 y.2.2.2) ∧ Box2 wr (g + 2) (.bool false) (.slice none 0 0)
theorem Boxes3.set {g : Nat} {x y : Bool × Option Addr × Nat × Nat} {wr : World} (h : Boxes3 g x y wr) {p : Addr} (hp : g + 3 ≤ p.block) (u : Value) : Boxes3 g x y (wr.setCell p u) :=
  ⟨h.1.far (by omega) u, h.2.1.far (by omega) u, h.2.2.far (by omega) u⟩
theorem Boxes3.drewN {g : Nat} {x y : Bool × Option Addr × Nat × Nat} {wr : World} (h : Boxes3 g x y wr) (n : Nat) : Boxes3 g x y (wr.drewN n) := h
theorem Boxes3.later {g : Nat} {x y : Bool × Option Addr × Nat × Nat} {w wr : World} (h : Boxes3 g x y w) (hb : Below w.heap.size w wr) : Boxes3 g x y wr := ⟨h.1.later hb, h.2.1.later hb, h.2.2.later hb⟩
theorem Boxes3.alloc {g : Nat} {x y : Bool × Option Addr × Nat × Nat} {w : World} (h : Boxes3 g x y w) (o : Obj) : Boxes3 g x y (w.alloc o) := h.later ((Below.refl _ _).alloc (Nat.le_refl _) o)
theorem Boxes3.new (w : World) (b1 : Bool) (A1 : Option Addr) (n1 cap1 : Nat) (b2 : Bool) (A2 : Option Addr) (n2 cap2 : Nat) (T : TypeId) :
    Boxes3 w.heap.size (b1, A1, n1, cap1) (b2, A2, n2, cap2) (((w.alloc (.cells #[.bool b1, .slice A1 n1 cap1] T)).alloc (.cells #[.bool b2, .slice A2 n2 cap2] T)).alloc (.cells #[.bool false, .slice none 0 0] T)) := by
  have h1 := Box2.new w (.bool b1) (.slice A1 n1 cap1) T
  have h2 := Box2.new (w.alloc (.cells #[.bool b1, .slice A1 n1 cap1] T)) (.bool b2) (.slice A2 n2 cap2) T
  have h3 := Box2.new ((w.alloc (.cells #[.bool b1, .slice A1 n1 cap1] T)).alloc (.cells #[.bool b2, .slice A2 n2 cap2] T)) (.bool false) (.slice none 0 0) T
  simp only [World.size_alloc] at h2 h3
  exact ⟨(h1.alloc _).alloc _, h2.alloc _, h3⟩
theorem bel3 (w : World) (o1 o2 o3 : Obj) : Below w.heap.size w (((w.alloc o1).alloc o2).alloc o3) :=
  (((Below.refl _ _).alloc (Nat.le_refl _) _).alloc (by simp only [World.size_alloc]; omega) _).alloc (by simp only [World.size_alloc]; omega) _
/-- What MulW leaves: the sign as the two signs give it. -/
def MulPost (b : Bool) (a : Nat) (w : World) (e : Ending) (w' : World) : Prop := ∃ A n cap, e = .returned (wv (b && !(lims a).isEmpty) A n cap) ∧ Ns w' A n cap (lims a) ∧ Below w.heap.size w w'
set_option maxRecDepth 100000 in
set_option maxHeartbeats 2000000 in
/-- schismaref03.MulW. -/
theorem t3mul_raw (s1 s2 : Bool) (A1 : Option Addr) (n1 cap1 : Nat) (A2 : Option Addr) (n2 cap2 : Nat) (xs ys : List Nat) (w : World) (hp : Ns w A1 n1 cap1 xs) (hq : Ns w A2 n2 cap2 ys) (hx : Lims xs) (hy : Lims ys) (h1 : n1 ≤ 1000000) (h2 : n2 ≤ 1000000) :
    Calls Tryz.prog 88 #[wv s1 A1 n1 cap1, wv s2 A2 n2 cap2] w (MulPost (s1 != s2) (lv xs * lv ys) w) := by
  have hcap1 := hp.cap_le
  have hle1 := hp.le
  have hle2 := hq.le
  have hcap2 := hq.cap_le
  have HL1 := Lib.hid hp.len
  have HL2 := Lib.hid hq.len
  have HP := Lib.hid (fun wz (h : Below w.heap.size w wz) => hp.below h (Nat.le_refl _))
  have HQ := Lib.hid (fun wz (h : Below w.heap.size w wz) => hq.below h (Nat.le_refl _))
  have HX := Lib.hid hx
  have HY := Lib.hid hy
  have hmk := make_Nc 29 Tryz.underlying29 (n1 + n2 + 1) (n1 + n2 + 1) (Nat.le_refl _) (by omega)
  simp only [Int.natCast_add, Int.cast_ofNat_Int] at hmk
  have HBX := Lib.hid (Boxes3.new w s1 A1 n1 cap1 s2 A2 n2 cap2 43)
  have HBL := Lib.hid (bel3 w (.cells #[.bool s1, .slice A1 n1 cap1] 43) (.cells #[.bool s2, .slice A2 n2 cap2] 43) (.cells #[.bool false, .slice none 0 0] 43))
  have HM := Lib.hid (Nc.made (((w.alloc (.cells #[.bool s1, .slice A1 n1 cap1] 43)).alloc (.cells #[.bool s2, .slice A2 n2 cap2] 43)).alloc (.cells #[.bool false, .slice none 0 0] 43)) (n1 + n2 + 1) (n1 + n2 + 1) (Nat.le_refl _) (by omega))
  have hsz3 : (((w.alloc (.cells #[.bool s1, .slice A1 n1 cap1] 43)).alloc (.cells #[.bool s2, .slice A2 n2 cap2] 43)).alloc (.cells #[.bool false, .slice none 0 0] 43)).heap.size = w.heap.size + 3 := by simp only [World.size_alloc]
  rw [hsz3] at HM
  clear hsz3
  clear hp hq hx hy
  unfold wv
  go_enter Tryz.func88, Tryz.ntmps88
  go_wp2_with fail
  clear hmk
  go_loopw [6] (fun vi wr => ∃ i : Nat, i ≤ n1 ∧ vi = .int .i64 (i : Int) ∧ MulWRow (Boxes3 w.heap.size (s1, A1, n1, cap1) (s2, A2, n2, cap2)) (w.heap.size + 3) (n1 + n2 + 1) xs ys i w wr) (fun vi _ => n1 - (intOf vi).toNat)
  case atStart =>
    refine ⟨0, by omega, rfl, HBL.out.alloc (by simp only [World.size_alloc]; omega) _, HBX.out.alloc _, _, HM.out, fun x hx => ?_, ?_, fun j _ => ?_⟩
    · rw [List.eq_of_mem_replicate hx]; omega
    · rw [lv_zeros]; simp [lv]
    · rw [List.getD_eq_getElem?_getD, List.getElem?_replicate]; split <;> rfl
  case round =>
    obtain ⟨i, hi, rfl, hb, hX, o, ho, hoL, hov, hoz⟩ := hrel
    obtain ⟨wo, rfl⟩ : ∃ wo : World, wo = wr := ⟨_, rfl⟩
    by_cases hin : i = n1
    · subst hin
      have hfin : lv o = lv xs * lv ys := by rw [hov, List.take_of_length_le (by rw [HL1.out]; omega)]
      have hty := t3trim_some (s1 != s2) (w.heap.size + 3) (i + n2 + 1) (i + n2 + 1) o wo ho
      have hN := ho.take (trimL o).length (by have := ho.len; rw [trimL_take, List.length_take] ; omega)
      rw [← trimL_take] at hN
      rw [trimL_eq _ hoL, hfin] at hty hN
      unfold wv at hty
      have HTR := Lib.hid hty
      have HN := Lib.hid hN
      have HBX2 := Lib.hid hX
      obtain ⟨⟨ga0, ga1, ga2, ga3, ga4⟩, ⟨gb0, gb1, gb2, gb3, gb4⟩, _⟩ := hX
      clear hty hN hfin hoL hov hoz ho
      cases s1 <;> cases s2
      all_goals
        go_wp2_with fail
        refine HTR.out.mono ?_
        rintro e w1 ⟨rfl, hb1⟩
        obtain ⟨_, _, hr⟩ := HBX2.out.later hb1
        have HRB := Lib.hid hr
        obtain ⟨gr0, gr1, gr2, gr3, gr4⟩ := hr
        go_wp2_with fail
        refine ret_cell rfl rfl (load_whole (g := w.heap.size + 2) ((HRB.out.set0 _).set1 _)) rfl ?_
        exact ⟨_, _, _, rfl, Ns.of (((HN.out.below hb1 HN.out.lt).far (by simp) _).far (by simp) _), ((bel_chain hb hb1).setCell (by simp <;> omega) _).setCell (by simp <;> omega) _⟩
    · have hin' : i < n1 := by omega
      have hstart := TimesAt.start (i := i) (a := xs.getD i 0) (q := ys) hoL hoz
      have HS := Lib.hid hstart
      have hrow := times_row (p := xs) (q := ys) (i := i)
      rw [← hov] at hrow
      have HR := Lib.hid hrow
      have hxb := Lims_getD HX.out i
      have HA := Lib.hid (fun wz (h : Below w.heap.size w wz) => (HP.out wz h).at_ hin')
      clear hstart hrow hoL hov hoz
      obtain ⟨x, hxe⟩ : ∃ x, xs.getD i 0 = x := ⟨_, rfl⟩
      rw [hxe] at HS HR hxb
      have HXE := Lib.hid hxe
      clear hxe
      have HBX3 := Lib.hid hX
      obtain ⟨⟨ga0, ga1, ga2, ga3, ga4⟩, ⟨gb0, gb1, gb2, gb3, gb4⟩, _⟩ := hX
      go_wp2_with fail
      go_loopw [7, 8] (fun vc vk wr => ∃ k c : Nat, k ≤ n2 + 1 ∧ c < 1000000000 ∧ vk = .int .i64 (k : Int) ∧ vc = .int .i64 (c : Int) ∧ MulWIn (Boxes3 w.heap.size (s1, A1, n1, cap1) (s2, A2, n2, cap2)) (w.heap.size + 3) (n1 + n2 + 1) ys (lv o) i x k c w wr) (fun _ vk _ => n2 + 1 - (intOf vk).toNat)
      case atStart => exact ⟨0, 0, by omega, by omega, rfl, rfl, hb, HBX3.out, o, ho, .inl ⟨by omega, HS.out⟩⟩
      case round =>
        obtain ⟨k, c, hk, hcc, rfl, rfl, hb2, hX, o2, ho2, hT⟩ := hrel
        obtain ⟨wi, rfl⟩ : ∃ wi : World, wi = wr := ⟨_, rfl⟩
        have HBX2 := Lib.hid hX
        obtain ⟨⟨ga0, ga1, ga2, ga3, ga4⟩, ⟨gb0, gb1, gb2, gb3, gb4⟩, _⟩ := hX
        by_cases hstop : n2 ≤ k ∧ c = 0
        · obtain ⟨hnk, rfl⟩ := hstop
          have hf : Lims o2 ∧ lv o2 = lv o + x * lv ys * 1000000000 ^ i ∧ ∀ j, i + 1 + ys.length ≤ j → o2.getD j 0 = 0 := by
            rcases hT with ⟨hk1, hT⟩ | ⟨_, _, hT⟩
            · have : k = ys.length := by rw [HL2.out] at hk1 ⊢; omega
              subst this
              exact ⟨hT.lims, hT.stop⟩
            · exact hT
          have HF := Lib.hid hf
          have HO2 := Lib.hid ho2
          clear hf hT ho2
          go_wp2
          go_roundw
          case rel =>
            refine ⟨i + 1, by omega, by go_num, hb2, HBX2.out, o2, HO2.out, HF.out.1, ?_, ?_⟩
            · rw [HF.out.2.1, ← HR.out]
            · exact HF.out.2.2
          case measure => simp [intOf]; omega
        · have hk2 : k ≤ n2 := by
            rcases hT with ⟨hk1, _⟩ | ⟨hk1, hc0, _⟩
            · rw [HL2.out] at hk1; exact hk1
            · rw [HL2.out] at hk1; exact absurd ⟨by omega, hc0⟩ hstop
          have hT2 : TimesAt (lv o) i x ys k c o2 := by
            rcases hT with ⟨_, h⟩ | ⟨hk1, hc0, _⟩
            · exact h
            · rw [HL2.out] at hk1; omega
          clear hT
          have hcell := ho2.cell (i + k) (by omega)
          have hfr := ho2.free (i + k)
          have hik0 : (0 : Int) ≤ (i : Int) + (k : Int) := by omega
          have hik1 : (i : Int) + (k : Int) < (n1 : Int) + (n2 : Int) + 1 := by omega
          by_cases hkn : k < n2
          · obtain ⟨b1, rfl, hc1⟩ := HA.out _ hb2
            have hc1 := hc1.cell i hin'
            rw [HXE.out] at hc1
            obtain ⟨b2, rfl, hc2⟩ := (HQ.out _ hb2).at_ hkn
            have hc2 := hc2.cell k hkn
            have hyL := Lims_getD HY.out k
            have hzL := Lims_getD hT2.lims (i + k)
            have hstep := hT2.step (by rw [HL2.out]; exact hkn) (by rw [ho2.len]; omega) hxb HY.out
            have hset := fun d v => (ho2.drewN d).set (i + k) v
            have hbd := times_bound hxb hyL hcc hzL
            have HST := Lib.hid hstep
            have HSet := Lib.hid hset
            clear hstep hset hT2 ho2
            generalize ys.getD k 0 = y at *
            generalize o2.getD (i + k) 0 = z at *
            have hnn : (0 : Int) ≤ (x : Int) * (y : Int) := Int.mul_nonneg (by omega) (by omega)
            have hbd' : (c : Int) + (z : Int) + (x : Int) * (y : Int) ≤ 999999999999999999 := by
              have : ((c + (z + x * y) : Nat) : Int) ≤ 999999999999999999 := by omega
              rw [Int.natCast_add, Int.natCast_add, Int.natCast_mul] at this
              omega
            have HCAST := Lib.hid (show ((c + (z + x * y) : Nat) : Int) = (c : Int) + (z : Int) + (x : Int) * (y : Int) from by rw [Int.natCast_add, Int.natCast_add, Int.natCast_mul]; omega)
            clear hbd
            go_wp2
            go_quiet (fail)
            go_wp2
            go_roundw
            case rel =>
              have hcast := HCAST.out
              have hstep := HST.out
              refine ⟨k + 1, (c + (z + x * y)) / 1000000000, by omega, hstep.carry, by go_num, ?_, (bel_drewN hb2 _).setCell (by simp <;> omega) _, (HBX2.out.drewN _).set (by simp) _, _, ?_, .inl ⟨by rw [HL2.out]; omega, hstep⟩⟩
              · exact vint (by omega)
              · have hg : ∀ d, _ := fun d => HSet.out d ((c + (z + x * y)) % 1000000000)
                rw [Int.natCast_emod, hcast] at hg
                exact hg _
            case measure => simp [intOf]; omega
          · have hkn' : k = n2 := by omega
            subst hkn'
            have hc0 : 0 < c := by omega
            have hz0 := hT2.zero (i + k) (by rw [HL2.out]; omega)
            rw [hz0] at hcell
            have hset := ho2.set (i + k) c
            have hlen2 := ho2.len
            have hT3 : TimesAt (lv o) i x ys ys.length c o2 := by rw [HL2.out]; exact hT2
            have HF := Lib.hid (hT3.finish (by rw [HL2.out]; omega))
            have HSet := Lib.hid hset
            have hcm : (c : Int) % 1000000000 = (c : Int) := by omega
            have hcd : (c : Int) / 1000000000 = 0 := by omega
            clear hset hT2 hT3 hz0 hlen2 ho2 hstop
            go_wp2
            go_roundw
            case rel =>
              have hf := HF.out
              rw [HL2.out] at hf
              refine ⟨k + 1, 0, by omega, by omega, by go_num, by go_num, hb2.setCell (by simp <;> omega) _, HBX2.out.set (by simp) _, _, HSet.out, .inr ⟨by rw [HL2.out], rfl, hf.2.1, hf.1, by rw [HL2.out]; exact hf.2.2⟩⟩
            case measure => simp [intOf]
end
section
open Go.RowKit Go.PlainAid

theorem field_whole0 (v0 v1 : Value) (w : World) : (Instr.field 43 (.agg #[v0, v1]) 0).run Tryz.prog w = .ok v0 w := by
  simp [Instr.field, asAgg, go_sem]
theorem field_whole1 (v0 v1 : Value) (w : World) : (Instr.field 43 (.agg #[v0, v1]) 1).run Tryz.prog w = .ok v1 w := by
  simp [Instr.field, asAgg, go_sem]
attribute [local go_sem] field_whole0 field_whole1
theorem trimL_lims_one {d : Nat} (h : d < 1000000000) : trimL [d] = lims d := by
  rw [trimL_eq _ (by intro z hz; rw [List.mem_singleton.1 hz]; exact h)]; exact congrArg lims (lv_one d)
theorem Nc.trimmed {w : World} {g n cap : Nat} {xs : List Nat} (h : Nc w g n cap xs) : Nc w g (trimL xs).length cap (trimL xs) := by
  have hN := h.take (trimL xs).length (by have := h.len; rw [trimL_take, List.length_take]; omega)
  rw [← trimL_take] at hN
  exact hN
/-- trim of one piece. -/
theorem t3trim_cell (d : Nat) (hd : d < 1000000000) (g : Nat) (w : World) (h : Nc w g 1 1 [d]) :
    Calls Tryz.prog 29 #[.agg #[.bool false, .slice (some ⟨g, 0, none⟩) 1 1]] w (SmallRes (.agg #[.bool false, .slice (some ⟨g, 0, none⟩) (lims d).length 1]) w) := by
  have hty := t3trim_some false g 1 1 [d] _ h
  rw [trimL_lims_one hd, Bool.false_and] at hty
  exact hty
theorem Nc.one_trimmed (d : Nat) (hd : d < 1000000000) (w : World) : Nc (w.alloc (.cells #[.int .i64 (d : Int)] 3)) w.heap.size (lims d).length 1 (lims d) := by
  have hN := (Nc.one w d).trimmed
  rw [trimL_lims_one hd] at hN
  exact hN
set_option maxRecDepth 100000 in
/-- schismaref03.times. -/
theorem t3times_any (A : Option Addr) (n cap a d : Nat) (w : World) (h : Ns w A n cap (lims a)) (hn : n ≤ 1000000) (hd : d < 1000000000) :
    Calls Tryz.prog 60 #[.slice A n cap, .int .i64 (d : Int)] w (NsPost (a * d) w) := by
  have hty := t3trim_some false w.heap.size 1 1 [d] _ (Nc.one w d)
  have hN := (Nc.one w d).trimmed
  rw [trimL_lims_one hd] at hty hN
  unfold wv at hty
  rw [Bool.false_and] at hty
  have hl : (lims d).length ≤ 1 := by rw [lims_len_le]; omega
  obtain ⟨m, hm⟩ : ∃ m, (lims d).length = m := ⟨_, rfl⟩
  rw [hm] at hty hN hl
  have HTR := Lib.hid hty
  have hba : Below w.heap.size w (w.alloc (.cells #[.int .i64 (d : Int)] 3)) := (Below.refl _ _).alloc (Nat.le_refl _) _
  have HM := Lib.hid (fun w1 (hb : Below (w.alloc (.cells #[.int .i64 (d : Int)] 3)).heap.size (w.alloc (.cells #[.int .i64 (d : Int)] 3)) w1) => t3mul_raw false false A n cap (some ⟨w.heap.size, 0, none⟩) m 1 (lims a) (lims d) w1 (h.below (bel_chain hba hb) (Nat.le_refl _)) (Ns.of (hN.below hb hN.lt)) (Lims_lims _) (Lims_lims _) hn (by omega))
  clear hty hN h hm
  go_enter Tryz.func60, Tryz.ntmps60
  go_wp2_with fail
  refine HTR.out.mono ?_
  rintro e w1 ⟨rfl, hb1⟩
  go_wp2_with fail
  refine (HM.out w1 hb1).mono ?_
  rintro e w2 ⟨A', n', cap', rfl, hns, hb2⟩
  unfold wv
  rw [lv_lims, lv_lims] at hns
  go_wp2_with fail
  go_ret
  exact ⟨A', n', cap', rfl, hns, bel_chain (bel_chain hba hb1) hb2⟩
end
end Go.Proofs.YtdpcmhdmdompnaaGreatDoor
