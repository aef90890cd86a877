/- Greater text, out of: K36. -/
import Derived.Test.YtpafocfpofnkpaaGreatDoorK35
import Derived.RangeFuncNested
import Derived.RangeFuncBound
import Derived.RangeFuncCalls
import Derived.RangeFuncLeaves
import Derived.Shelf.Abstract
import Derived.Shelf.RegionOpen
import Derived.WalkKit
import Derived.OwnWalkIn
import Derived.TacticsInMore
import Derived.LoopNIn
import Derived.LoopIn
import Derived.RangeFuncBox
namespace Go.Proofs.YtpafocfpofnkpaaGreatDoor
open Go.RowKit Go.PlainAid Go.Shelf
attribute [local go_sem] Oper.semAt_some
/-- The three boxes that Semiconvergents, Best begin with. -/
structure SB (w : World) (x0 x1 : Value) (W : World) : Prop where
  x : W.heap[w.heap.size]? = some (.cells #[x0, x1] 24 (0, 0))
  r : Boxed W (w.heap.size + 1) 29 (.slice none 0 0)
  e : Boxed W (w.heap.size + 1 + 1) 30 (.int .i64 0)
  bl : Below w.heap.size w W
section
variable {w W W' : World} {x0 x1 : Value}
theorem SB.new (w : World) (x0 x1 : Value) : SB w x0 x1 (((w.alloc (.cells #[x0, x1] 24)).alloc (.cells #[.slice none 0 0] 29)).alloc (.cells #[.int .i64 0] 30)) := by
  have h1 : Below w.heap.size w (w.alloc (.cells #[x0, x1] 24)) := (Below.refl _ _).alloc (Nat.le_refl _) _
  have s1 : (w.alloc (.cells #[x0, x1] 24)).heap.size = w.heap.size + 1 := World.size_alloc _ _
  have hx := heap_alloc_new w (.cells #[x0, x1] 24)
  generalize w.alloc (.cells #[x0, x1] 24) = A at *
  have h2 : Below A.heap.size A (A.alloc (.cells #[.slice none 0 0] 29)) := (Below.refl _ _).alloc (Nat.le_refl _) _
  have s2 : (A.alloc (.cells #[.slice none 0 0] 29)).heap.size = A.heap.size + 1 := World.size_alloc _ _
  have hr := Boxed.new A 29 (.slice none 0 0)
  generalize A.alloc (.cells #[.slice none 0 0] 29) = B at *
  have h3 : Below B.heap.size B (B.alloc (.cells #[.int .i64 0] 30)) := (Below.refl _ _).alloc (Nat.le_refl _) _
  have he := Boxed.new B 30 (.int .i64 0)
  generalize B.alloc (.cells #[.int .i64 0] 30) = C at *
  rw [s1] at hr s2
  rw [s2] at he
  exact ⟨(h3.block _ (by omega)).trans ((h2.block _ (by omega)).trans hx), (h3.block _ (by omega)).trans hr, he, bel_chain (bel_chain h1 h2) h3⟩
theorem SB.lt (h : SB w x0 x1 W) : w.heap.size + 1 + 1 < W.heap.size := h.e.lt
theorem SB.later (h : SB w x0 x1 W) (hb : Below W.heap.size W W') : SB w x0 x1 W' := by
  have := h.lt
  exact ⟨(hb.block _ (by omega)).trans h.x, (hb.block _ (by omega)).trans h.r, (hb.block _ (by omega)).trans h.e, bel_chain h.bl hb⟩
theorem SB.onlyN {M : Nat} {T : TypeId → Bool} (h : SB w x0 x1 W) (hM : w.heap.size + 1 + 1 < M) (k : OnlyN M T W W') : SB w x0 x1 W' := by
  have := h.lt
  exact ⟨(k.same _ (by omega) (.inl (by omega))).trans h.x, (k.same _ (by omega) (.inl (by omega))).trans h.r, (k.same _ (by omega) (.inl (by omega))).trans h.e, h.bl.trans ⟨k.os, k.tape, k.output, k.size, fun b hb => k.same b (by omega) (.inl (by omega))⟩⟩
theorem SB.cells (h : SB w x0 x1 W) : W.cell? ⟨w.heap.size, 0, none⟩ = some x0 ∧ W.cell? ⟨w.heap.size, 1, none⟩ = some x1 := by
  constructor <;> simp [World.cell?, h.x]
end
/-- The body of the loop that collects: what lies in the boxes when k have come. -/
structure SI (w : World) (x0 x1 : Value) (ob : Nat) (xs : List Rat) (k : Nat) (W : World) : Prop where
  sb : SB w x0 x1 W
  out : ∃ v, Boxed W ob 29 v ∧ W.ownsRow (w.heap.size + 1 + 1 + 1) 24 2 v k (Rh (xs.take k))
theorem ownsRow_onlyN {B : Nat} {M : Nat} {T : TypeId → Bool} {X Y : World} {v : Value} {k : Nat} {cs : List Value} (h : X.ownsRow B 24 2 v k cs) (o : OnlyN M T X Y) (hT : T 24 = false) : Y.ownsRow B 24 2 v k cs := by
  refine ⟨h.1, ?_⟩
  rcases h.2 with h2 | ⟨g, cap, cur, e, hB, hh, r⟩
  · exact .inl h2
  · exact .inr ⟨g, cap, cur, e, hB, (o.same g (Array.getElem?_eq_some_iff.1 hh).1 (.inr ⟨_, _, _, hh, hT⟩)).trans hh, r⟩
theorem SI.onlyN {w : World} {x0 x1 : Value} {ob : Nat} {xs : List Rat} {k M : Nat} {T : TypeId → Bool} {X Y : World} (h : SI w x0 x1 ob xs k X) (hM : w.heap.size + 1 + 1 < M) (hob : ob < M) (o : OnlyN M T X Y) (hT : T 24 = false) : SI w x0 x1 ob xs k Y := by
  obtain ⟨h1, v, h2, h3⟩ := h
  exact ⟨h1.onlyN hM o, v, (o.same ob h2.lt (.inl hob)).trans h2, ownsRow_onlyN h3 o hT⟩
theorem SI.alloc {w : World} {x0 x1 : Value} {ob : Nat} {xs : List Rat} {k : Nat} {X : World} (h : SI w x0 x1 ob xs k X) (o : Obj) : SI w x0 x1 ob xs k (X.alloc o) := by
  obtain ⟨h1, v, h2, h3⟩ := h
  exact ⟨h1.later ((Below.refl _ _).alloc (Nat.le_refl _) _), v, h2.alloc o, h3.alloc o⟩
/-- Behind an append to the row, and the store into its box. -/
theorem SI.app {w : World} {x0 x1 : Value} {ob : Nat} {xs : List Rat} {k : Nat} {W w1 : World} {v v' : Value} {x : Rat} (hs : SB w x0 x1 W) (hbo : Boxed W ob 29 v) (hrow : W.ownsRow (w.heap.size + 1 + 1 + 1) 24 2 v k (Rh (xs.take k)))
    (hob : w.heap.size + 1 + 1 < ob) (hown' : w1.ownsRow (w.heap.size + 1 + 1 + 1) 24 2 v' (k + 1) (Rh (xs.take k) ++ [.string (itx x.num), .string (itx (x.den : Int))]))
    (hg : (W.alloc (.cells #[.string (itx x.num), .string (itx (x.den : Int))] 24)).grownBy w1 v.ownBlock) (hx : xs.take (k + 1) = xs.take k ++ [x]) :
    Boxed w1 ob 29 v ∧ OnlyT (w.heap.size + 1 + 1 + 1) isRat W (w1.setCell ⟨ob, 0, none⟩ v') ∧ SI w x0 x1 ob xs (k + 1) (w1.setCell ⟨ob, 0, none⟩ v') := by
  have hlt := hs.lt
  obtain ⟨b1, b2, b3, _, b5⟩ := hbo.appended (by decide) hrow (by omega) (by omega) hown' hg
  refine ⟨b1, ?_, ⟨⟨(b5.block _ (by omega)).trans hs.x, (b5.block _ (by omega)).trans hs.r, (b5.block _ (by omega)).trans hs.e, hs.bl.trans (b5.mono (by omega))⟩, v', b2, ?_⟩⟩
  · refine ((OnlyT.alloc W _).trans (OnlyT.grown hg fun r e => ?_)).trans (OnlyT.setCell b1 rfl (by omega) v')
    rcases (hrow.alloc (.cells #[.string (itx x.num), .string (itx (x.den : Int))] 24)).2 with ⟨rfl, _⟩ | ⟨g, cap, cur, rfl, hB, hh, _⟩
    · simp [Value.ownBlock] at e
    · obtain rfl : g = r := by simpa [Value.ownBlock] using e
      exact ⟨hB, _, _, _, hh, rfl⟩
  · rw [hx, ← Rh_append]; exact b3
/-- A return of two results that lie in boxes, behind a range over a function. -/
theorem retM_cell2 {fn : Func} {p u : Tmp} {T U : TypeId} (h : fn.results = #[.cell p T, .cell u U]) {a : Act} {w : World} {R : Ending → World → Prop} {D : Nat} {ad ae : Addr} {v x : Value} (hd : a.defers = [{ target := .collected D, args := #[] }])
    (hK : w.heap[D]? = some (.deferred (some []))) (hp : a.tmps.getD p undef = .pointer (some ad)) (hu : a.tmps.getD u undef = .pointer (some ae))
    (hl : (loadVar T ad).run Tryz.prog (w.putObj D (.deferred none)) = .ok v (w.putObj D (.deferred none))) (hl2 : (loadVar U ae).run Tryz.prog (w.putObj D (.deferred none)) = .ok x (w.putObj D (.deferred none)))
    (hR : R (.returned (.tuple #[v, x])) (w.putObj D (.deferred none))) : bodyPostM Fence.wide 0 Tryz.prog fn R .ret a w := by
  show LeavesInM Fence.wide 0 Tryz.prog fn a.tmps R a.defers .returning w
  rw [hd]
  refine ⟨by simp, .inl ⟨_, _, rfl, run_takeDeferred hK, ?_⟩⟩
  rw [Array.getD_eq_getD_getElem?] at hp hu
  exact ⟨.tuple #[v, x], by simp [results, h, hp, hu, asAddr, hl, hl2], hR⟩
theorem load_boxR {W : World} {b : Nat} {v : Value} (h : Boxed W b 29 v) : (loadVar 29 ⟨b, 0, none⟩).run Tryz.prog W = .ok v W := by
  have := h.cell
  simp [loadVar, go_sem, this]
theorem load_boxE {W : World} {b : Nat} {v : Value} (h : Boxed W b 30 v) : (loadVar 30 ⟨b, 0, none⟩).run Tryz.prog W = .ok v W := by
  have := h.cell
  simp [loadVar, go_sem, this]
theorem row_in {W : World} {B : Nat} {v : Value} {k : Nat} {xs : List Rat} (h : W.ownsRow B 24 2 v k (Rh xs)) : ∃ A n cap, v = .slice A n cap ∧ InR4 W A n cap xs := by
  rcases h.2 with ⟨rfl, hk⟩ | ⟨g, cap, cur, rfl, _, hh, h1, h2, h3, h4⟩
  · have := h.1
    rw [hk, Rh_len] at this
    have hx : xs = [] := List.eq_nil_of_length_eq_zero (by omega)
    subst hx
    exact ⟨none, 0, 0, rfl, InR4.nil W⟩
  · exact ⟨_, _, _, rfl, (Rc.mk' hh h1 h2 (by omega) h4).ins⟩
theorem ownsRow_far {W : World} {B : Nat} {v : Value} {k : Nat} {cs : List Value} (h : W.ownsRow B 24 2 v k cs) {b : Nat} (hb : b < B) (u : Value) : (W.setCell ⟨b, 0, none⟩ u).ownsRow B 24 2 v k cs := by
  refine ⟨h.1, ?_⟩
  rcases h.2 with h2 | ⟨g, cap, cur, e, hB, hh, r⟩
  · exact .inl h2
  · exact .inr ⟨g, cap, cur, e, hB, (Below.heap_setCell W ⟨b, 0, none⟩ u g (fun e => by have e' : g = b := e; omega)).trans hh, r⟩
/-- The end: the slice and the error are stored, the block of deferred calls is shut. -/
theorem SB.finish {w W : World} {x0 x1 : Value} {v : Value} {k D : Nat} {xs : List Rat} (hs : SB w x0 x1 W) (hrow : W.ownsRow (w.heap.size + 1 + 1 + 1) 24 2 v k (Rh xs)) (hK : W.heap[D]? = some (.deferred (some []))) (er : Int) :
    ((W.setCell ⟨w.heap.size + 1, 0, none⟩ v).setCell ⟨w.heap.size + 1 + 1, 0, none⟩ (.int .i64 er)).heap[D]? = some (.deferred (some [])) ∧
    Boxed (((W.setCell ⟨w.heap.size + 1, 0, none⟩ v).setCell ⟨w.heap.size + 1 + 1, 0, none⟩ (.int .i64 er)).putObj D (.deferred none)) (w.heap.size + 1) 29 v ∧
    Boxed (((W.setCell ⟨w.heap.size + 1, 0, none⟩ v).setCell ⟨w.heap.size + 1 + 1, 0, none⟩ (.int .i64 er)).putObj D (.deferred none)) (w.heap.size + 1 + 1) 30 (.int .i64 er) ∧
    (D < w.heap.size ∨ RRes xs er w (.returned (.tuple #[v, .int .i64 er])) (((W.setCell ⟨w.heap.size + 1, 0, none⟩ v).setCell ⟨w.heap.size + 1 + 1, 0, none⟩ (.int .i64 er)).putObj D (.deferred none))) := by
  have hr1 : D ≠ w.heap.size + 1 := fun e => by rw [e, show W.heap[w.heap.size + 1]? = _ from hs.r] at hK; cases hK
  have hr2 : D ≠ w.heap.size + 1 + 1 := fun e => by rw [e, show W.heap[w.heap.size + 1 + 1]? = _ from hs.e] at hK; cases hK
  have k1 := hs.r.set v
  have e1 : Boxed (W.setCell ⟨w.heap.size + 1, 0, none⟩ v) (w.heap.size + 1 + 1) 30 (.int .i64 0) := (Below.heap_setCell W ⟨w.heap.size + 1, 0, none⟩ v _ (by show w.heap.size + 1 + 1 ≠ w.heap.size + 1; omega)).trans hs.e
  have d1 := (Below.heap_setCell W ⟨w.heap.size + 1, 0, none⟩ v D hr1).trans hK
  have o1 := ownsRow_far hrow (b := w.heap.size + 1) (by omega) v
  have b1 : Below w.heap.size w (W.setCell ⟨w.heap.size + 1, 0, none⟩ v) := hs.bl.setCell (by simp) v
  generalize W.setCell ⟨w.heap.size + 1, 0, none⟩ v = X at *
  have e2 := e1.set (.int .i64 er)
  have k2 : Boxed (X.setCell ⟨w.heap.size + 1 + 1, 0, none⟩ (.int .i64 er)) (w.heap.size + 1) 29 v := (Below.heap_setCell X ⟨w.heap.size + 1 + 1, 0, none⟩ (.int .i64 er) _ (by show w.heap.size + 1 ≠ w.heap.size + 1 + 1; omega)).trans k1
  have d2 := (Below.heap_setCell X ⟨w.heap.size + 1 + 1, 0, none⟩ (.int .i64 er) D hr2).trans d1
  have o2 := ownsRow_far o1 (b := w.heap.size + 1 + 1) (by omega) (.int .i64 er)
  have b2 : Below w.heap.size w (X.setCell ⟨w.heap.size + 1 + 1, 0, none⟩ (.int .i64 er)) := b1.setCell (by simp; omega) _
  generalize X.setCell ⟨w.heap.size + 1 + 1, 0, none⟩ (.int .i64 er) = Y at *
  refine ⟨d2, (World.putObj_heap_other (by omega)).trans k2, (World.putObj_heap_other (by omega)).trans e2, ?_⟩
  by_cases hD : D < w.heap.size
  · exact .inl hD
  · right
    obtain ⟨A, n, cap, rfl, hin⟩ := row_in (ownsRow_putObj o2 (.deferred none) d2 rfl)
    exact ⟨A, n, cap, rfl, hin, b2.trans ⟨rfl, rfl, rfl, by simp, fun i hi => World.putObj_heap_other (by omega)⟩⟩
theorem two_cells (W : World) (u0 u1 : Value) (T : TypeId) : ∀ j u, [u0, u1][j]? = some u → (W.alloc (.cells #[u0, u1] T)).cell? ((⟨W.heap.size, 0, none⟩ : Addr).add j) = some u := by
  intro j u h
  have hadd : (⟨W.heap.size, 0, none⟩ : Addr).add j = ⟨W.heap.size, j, none⟩ := by unfold Addr.add; split <;> simp_all
  rw [hadd, World.cell?_alloc_new]
  match j, h with
  | 0, h => simpa using h
  | 1, h => simpa using h
/-- A block of a fraction. -/
def BxR (W : World) (g : Nat) (q : Rat) : Prop := W.heap[g]? = some (.cells #[.string (itx q.num), .string (itx (q.den : Int))] 24 (0, 0))
theorem BxR.cells {W : World} {g : Nat} {q : Rat} (h : BxR W g q) : W.cell? ⟨g, 0, none⟩ = some (.string (itx q.num)) ∧ W.cell? ⟨g, 1, none⟩ = some (.string (itx (q.den : Int))) := by
  have h' : W.heap[g]? = some (.cells #[.string (itx q.num), .string (itx (q.den : Int))] 24 (0, 0)) := h
  constructor <;> simp [World.cell?, h']
/-- The law, for a loop variable that is a fraction in a block of its own. -/
theorem range_rat {g : Operand} {p y : Tmp} {assign body : Code} {Q : Exit → Act → World → Prop} {a : Act} {w : World}
    {gf : Nat} {lb : Array Value} (hg : a.eval g = .func (.func gf) #[] lb) (eg : ∀ args w, (callFunc gf args).run Tryz.prog w = .ok (.enter gf args) w)
    {xs : List Rat} {TI : TypeId → Bool} {M : Nat} {TB : TypeId → Bool} (hseq : SeqT Tryz.prog gf lb rv xs TI M TB w)
    (I : Nat → World → Prop) (hI : ∀ k A B, I k A → OnlyN w.heap.size TI A B → I k B) (h0 : I 0 w) (hal : ∀ k W o, I k W → I k (W.alloc o))
    (hassign : ∀ (l : Nat) (x : Rat) (W : World) (K : Act → World → Prop), K { tmps := (a.tmps.setIfInBounds p (rv x)).setIfInBounds y (.pointer (some ⟨W.heap.size, 0, none⟩)), defers := [] } (W.alloc (.cells #[.string (itx x.num), .string (itx (x.den : Int))] 24)) →
      assign.wpIn (Fence.wide.inRound l) 0 Tryz.prog (Exit.then K (fun _ _ _ => False)) { tmps := a.tmps.setIfInBounds p (rv x), defers := [] } W)
    (hbody : ∀ (l k : Nat) (x : Rat) (Bx : Nat) (W : World), xs[k]? = some x → I k W → w.heap.size ≤ Bx → BxR W Bx x → w.heap.size ≤ W.heap.size →
      body.wpIn (Fence.wide.inRound l) 0 Tryz.prog (postT M TB (I (k + 1)) W) { tmps := (a.tmps.setIfInBounds p (rv x)).setIfInBounds y (.pointer (some ⟨Bx, 0, none⟩)), defers := [] } W)
    (hdone : ∀ (D : Nat) (W : World), w.heap.size ≤ D → I xs.length W → W.heap[D]? = some (.deferred (some [])) → Q .normal { a with defers := { target := .collected D, args := #[] } :: a.defers } W) :
    (Code.rangeFunc g #[p] assign body).wpIn Fence.wide 0 Tryz.prog Q a w := by
  refine wpIn_rangeFunc_T hg eg hseq rfl I hI h0 (fun x a' W => ∃ Bx, w.heap.size ≤ Bx ∧ BxR W Bx x ∧ a' = { tmps := (a.tmps.setIfInBounds p (rv x)).setIfInBounds y (.pointer (some ⟨Bx, 0, none⟩)), defers := [] }) ?_ ?_ ?_ hdone
  · rintro x a' A B ⟨Bx, h1, h2, h3⟩ ho
    exact ⟨Bx, h1, (ho.same Bx (Array.getElem?_eq_some_iff.1 h2).1 (.inr ⟨_, _, _, h2, rfl⟩)).trans h2, h3⟩
  · intro l k x W K hx hi hsz hK
    have e : (#[p].zip #[rv x]).foldl (fun t (p, v) => t.setIfInBounds p v) a.tmps = a.tmps.setIfInBounds p (rv x) := by simp
    rw [e]
    exact hassign l x W K (hK _ _ (OnlyT.alloc W _) (hal _ _ _ hi) ⟨W.heap.size, hsz, heap_alloc_new W _, rfl⟩)
  · rintro l k x a' W hx hi hsz ⟨Bx, h1, h2, rfl⟩
    exact hbody l k x Bx W hx hi h1 h2 hsz
theorem enters_semi1 : ∀ args w, (callFunc 66 args).run Tryz.prog w = .ok (.enter 66 args) w := enters_of Tryz.func66 (by kernel_rfl) rfl
theorem enters_one : ∀ args w, (callFunc 50 args).run Tryz.prog w = .ok (.enter 50 args) w := enters_of Tryz.func50 (by kernel_rfl) rfl

set_option maxRecDepth 100000 in
set_option maxHeartbeats 4000000 in
/-- convergent.Semiconvergents of a right fraction and a right bound. -/
theorem Semi_any (n d : Int) (b : Int) (w : World) (hamb : Amb w) (hd : 0 < d) (hnn : nz n ≤ 14) (hnd : nz d ≤ 14) (hr : RB (itx n) (itx d) = true) (hb0 : 1 ≤ b) (hb1 : b ≤ 900) :
    Calls Tryz.prog 21 #[.agg #[.string (itx n), .string (itx d)], .int .i64 b] w (RRes ((semiL oneF b (tms n d)).map fun y => Rat.divInt y.1 y.2) 0 w) := by
  have hlen := tms_short14 (n := n) hnd
  have hbe : bndE true b = 0 := by unfold bndE; rw [if_neg (by decide), if_neg (by omega)]
  have HW := Lib.hid (fun w h => show Calls Tryz.prog 32 #[.agg #[.string (itx n), .string (itx d)], .int .i64 b] w (SmallRes (.int .i64 0) w) from by
    rw [← hbe]; exact bounded_any (itx n) (itx d) b w h (by have := itx_size_le n; omega) (by have := itx_size_le d; omega) true hr (by omega) (by omega))
  have HT := Lib.hid (fun w h => Terms_any n d w h hd (by omega) (by omega) hr)
  have HTN := Lib.hid (tms_nz (k := 13) hnn hnd)
  have HTP := Lib.hid (tms_tail (n := n) hd)
  have HY := Lib.hid (show ((semiL oneF b (tms n d)).length : Int) ≤ b + 1 from by
    have := tms_tail (n := n) hd
    rw [tms_step hd] at this ⊢
    exact semiL_len hb0 oneF _ _ this)
  obtain ⟨T, hT⟩ : ∃ T, tms n d = T := ⟨_, rfl⟩
  rw [hT] at hlen HT HTN HTP HY ⊢
  obtain ⟨ys, hys⟩ : ∃ ys, (semiL oneF b T).map (fun y => Rat.divInt y.1 y.2) = ys := ⟨_, rfl⟩
  have HYS := Lib.hid hys
  have HYL := Lib.hid (show (ys.length : Int) ≤ b + 1 by rw [← hys, List.length_map]; exact HY.out)
  rw [hys]
  have HAMB := Lib.hid hamb
  clear hT hamb hr hd hnn hnd hbe HY hys
  refine (callsIn_wide (n := 0)).1 ?_
  refine callsIn_of_wp_marks Tryz.func21 rfl trivial ?_ rfl
  simp only [Tryz.ntmps21, List.size_toArray, List.length_cons, List.length_nil, Nat.reduceAdd, Nat.reduceSub, Array.replicate_succ, Array.replicate_zero, List.push_toArray, List.append_toArray, List.nil_append, List.cons_append]
  gi_wp2_with fail
  obtain ⟨W, hW⟩ : ∃ W, (((w.alloc (.cells #[.string (itx n), .string (itx d)] 24)).alloc (.cells #[.slice none 0 0] 29)).alloc (.cells #[.int .i64 0] 30)) = W := ⟨_, rfl⟩
  rw [hW]
  have HS0 := Lib.hid (show SB w (.string (itx n)) (.string (itx d)) W from hW ▸ SB.new w _ _)
  have HA := Lib.hid (fun wz (hb : Below w.heap.size w wz) => HAMB.out.below hb)
  clear hW
  refine ⟨trivial, rfl, (callsIn_wide.2 (HW.out W (HA.out _ HS0.out.bl))).mono ?_⟩
  rintro e w1 ⟨rfl, hb1'⟩
  have HS1 := Lib.hid (HS0.out.later hb1')
  obtain ⟨c0, c1⟩ := HS1.out.cells
  clear HS0 hb1'
  gi_wp2_with fail
  refine ⟨trivial, rfl, (callsIn_wide.2 (HT.out w1 (HA.out _ HS1.out.bl))).mono ?_⟩
  rintro e w2 ⟨vT, rfl, hown, hb2⟩
  have HS2 := Lib.hid (HS1.out.later hb2)
  obtain ⟨A, cap, rfl, hjs⟩ := hown.ss
  have HJS := Lib.hid hjs
  clear hb2 hown hjs c0 c1 HS1
  gi_wp2_with fail
  obtain ⟨w3, hw3⟩ : ∃ W, w2.alloc (.cells #[.slice none 0 0] 29) = W := ⟨_, rfl⟩
  rw [hw3]
  have hb3 : Below w2.heap.size w2 w3 := hw3 ▸ (Below.refl _ _).alloc (Nat.le_refl _) _
  have hbo3 : Boxed w3 w2.heap.size 29 (.slice none 0 0) := hw3 ▸ Boxed.new w2 _ _
  have HS3 := Lib.hid (HS2.out.later hb3)
  have HJ3 := Lib.hid (HJS.out.below hb3 (Nat.le_refl _))
  clear hw3
  refine ⟨trivial, rfl, (callsIn_wide.2 (semi_any A T.length cap b 50 w3)).mono ?_⟩
  rintro e w4 ⟨rfl, k0, k1, k2, hb4⟩
  have HS4 := Lib.hid (HS3.out.later hb4)
  have HJ4 := Lib.hid (HJ3.out.below hb4 (Nat.le_refl _))
  have HBO := Lib.hid ((hb4.block _ hbo3.lt).trans hbo3)
  have HCAP := Lib.hid (show Cap w3.heap.size A T.length cap b 50 T w4 from ⟨k0, k1, k2, HJ4.out⟩)
  have HOB := Lib.hid (show w2.heap.size < w4.heap.size from Nat.lt_of_lt_of_le hbo3.lt hb4.size)
  have HOB0 := Lib.hid (show w.heap.size + 1 + 1 < w2.heap.size from HS2.out.lt)
  clear hb3 hbo3 hb4 k0 k1 k2 HS2 HS3 HJS HJ3 HJ4
  gi_wp2_with fail
  refine range_rat (y := 10) rfl enters_semi1 (semi1_seq w3.heap.size A T.length cap b 50 T oneF (w.heap.size + 1 + 1 + 1) w4 HS4.out.lt enters_one
    (fun k a l w _ _ _ => fromOne_any k a l w) (fun a l _ _ _ _ => ⟨by unfold oneF; omega, Nat.le_trans ((nz_le_iff 1 0).2 (by decide)) (by omega)⟩)
    (fun W' hb => HA.out _ (HS4.out.bl.trans (hb.mono (by omega)))) HCAP.out hb0 (by omega) hlen (fun a ha => Nat.le_trans (HTN.out a ha) (by omega)) HTP.out)
    (SI w (.string (itx n)) (.string (itx d)) w2.heap.size ys) ?hI ?h0 (fun k W o h => h.alloc o) ?hassign ?hbody ?hdone
  case hI =>
    intro k X Y h ho
    exact h.onlyN (by have := HOB.out; have := HOB0.out; omega) HOB.out ho rfl
  case h0 => exact ⟨HS4.out, _, HBO.out, World.ownsRow_nil _ _ _ _⟩
  case hassign =>
    intro l x W K hK
    simp only [List.setIfInBounds_toArray, List.set_cons_succ, List.set_cons_zero] at hK ⊢
    gi_wp2_with fail
    exact hK
  case hbody =>
    intro l k x Bx W hx hi hBx hbx hsz
    simp only [List.setIfInBounds_toArray, List.set_cons_succ, List.set_cons_zero]
    rw [HYS.out] at hx
    have hkl : k < ys.length := (List.getElem?_eq_some_iff.1 hx).1
    have hk9 : (k : Int) ≤ 901 := by have := HYL.out; omega
    have hk10 : ((k : Int) == 1000) = false := by rw [beq_eq_false_iff_ne]; omega
    have hk11 : ¬ (k : Int) = 1000 := by omega
    obtain ⟨sb, v, hbo, hrow⟩ := hi
    have HXK := Lib.hid (show ys.take (k + 1) = ys.take k ++ [x] by rw [List.take_add_one, hx]; rfl)
    have HROW := Lib.hid hrow
    have HSB := Lib.hid sb
    have HBO2 := Lib.hid hbo
    have hc := hbo.cell
    have hf := hbo.frozen
    have hbl := hbo.lt
    obtain ⟨x0, x1⟩ := hbx.cells
    obtain ⟨i0, hi0, hz0, hz1, hz2⟩ := info_parts Tryz.infoRc
    have HI0 := Lib.hid (And.intro hi0 (And.intro hz0 (And.intro hz1 hz2)))
    have HKB := Lib.hid (show k + 1 ≤ maxLen ∧ (k + 1) * 32 ≤ 140737488355328 by unfold maxLen; omega)
    have HNB := Lib.hid (show w.heap.size + 1 + 1 + 1 ≤ (W.alloc (.cells #[.string (itx x.num), .string (itx (x.den : Int))] 24)).heap.size by have := sb.lt; simp; omega)
    clear hkl sb hx hbx hbo hi0 hz0 hz1 hz2
    rcases hrow.2 with ⟨rfl, hk0⟩ | ⟨g, cap', cur, rfl, _⟩
    · obtain rfl : k = 0 := by omega
      clear hrow hk0
      gi_wp2_with (gi_at_builtin; refine wpListIn_append_own _ rfl _ _ 29 rfl (w.heap.size + 1 + 1 + 1) 24 i0 (.agg #[.string ⟨#[]⟩, .string ⟨#[]⟩]) 2 32 Tryz.underlying29 HI0.out.1 HI0.out.2.1 HI0.out.2.2.1 HI0.out.2.2.2 rfl (by decide) _ _ _ rfl (HROW.out.alloc _) ⟨W.heap.size, 0, none⟩ 1 1 [.string (itx x.num), .string (itx (x.den : Int))] rfl rfl (two_cells W _ _ _) (by intro u hu; rcases List.mem_cons.1 hu with rfl | hu; rfl; rcases List.mem_cons.1 hu with rfl | hu; rfl; cases hu) HKB.out.1 HKB.out.2 HNB.out ?_; intro v' w1' hown' hgrow _; obtain ⟨g', cap'', rfl⟩ := ownsRow_succ hown'; have HA1 := Lib.hid (SI.app HSB.out HBO2.out HROW.out HOB0.out hown' hgrow HXK.out); have HAPP := Lib.hid HA1.out.2; have hc1 := HA1.out.1.cell; have hf1 := HA1.out.1.frozen; clear hown' hgrow HA1)
      exact HAPP.out
    · clear hrow
      gi_wp2_with (gi_at_builtin; refine wpListIn_append_own _ rfl _ _ 29 rfl (w.heap.size + 1 + 1 + 1) 24 i0 (.agg #[.string ⟨#[]⟩, .string ⟨#[]⟩]) 2 32 Tryz.underlying29 HI0.out.1 HI0.out.2.1 HI0.out.2.2.1 HI0.out.2.2.2 rfl (by decide) _ _ _ rfl (HROW.out.alloc _) ⟨W.heap.size, 0, none⟩ 1 1 [.string (itx x.num), .string (itx (x.den : Int))] rfl rfl (two_cells W _ _ _) (by intro u hu; rcases List.mem_cons.1 hu with rfl | hu; rfl; rcases List.mem_cons.1 hu with rfl | hu; rfl; cases hu) HKB.out.1 HKB.out.2 HNB.out ?_; intro v' w1' hown' hgrow _; obtain ⟨g', cap'', rfl⟩ := ownsRow_succ hown'; have HA1 := Lib.hid (SI.app HSB.out HBO2.out HROW.out HOB0.out hown' hgrow HXK.out); have HAPP := Lib.hid HA1.out.2; have hc1 := HA1.out.1.cell; have hf1 := HA1.out.1.frozen; clear hown' hgrow HA1)
      exact HAPP.out
  case hdone =>
    intro D W hD hi hK
    rw [List.length_map] at hi
    have hys : (semiL oneF b T).length = ys.length := by rw [← HYS.out, List.length_map]
    rw [hys] at hi
    obtain ⟨sb, v, hbo, hrow⟩ := hi
    rw [List.take_of_length_le (Nat.le_refl _)] at hrow
    have HROW := Lib.hid hrow
    have HSB := Lib.hid sb
    have HK := Lib.hid hK
    have HD := Lib.hid hD
    have hc := hbo.cell
    have r0 := sb.r.cell
    have r1 := sb.r.frozen
    have e0 := sb.e.cell
    have e1 := sb.e.frozen
    clear hbo hrow sb hK hys
    have HFIN := Lib.hid (HSB.out.finish HROW.out HK.out 0)
    have HDW := Lib.hid (show ¬ D < w.heap.size by have := HOB.out; have := HOB0.out; omega)
    rcases HROW.out.2 with ⟨rfl, hk0⟩ | ⟨g, cap', cur, rfl, _⟩
    all_goals
      gi_wp2_with fail
      refine retM_cell2 rfl rfl HFIN.out.1 rfl rfl (load_boxR HFIN.out.2.1) (load_boxE HFIN.out.2.2.1) ?_
      exact HFIN.out.2.2.2.resolve_left HDW.out
end Go.Proofs.YtpafocfpofnkpaaGreatDoor
