/- Greater text, out of: K20. -/
import Derived.RangeFuncNested
import Derived.RangeFuncBox
namespace Go.Proofs.YtpafocfpofnkpaaGreatDoor
open Go.RowKit

/-- From A to B there are new blocks, and of the old ones only such have changed as lie from M on and are cells of these types. -/
structure OnlyT (M : Nat) (T : TypeId → Bool) (A B : World) : Prop where
  os : B.os = A.os
  tape : B.tape = A.tape
  output : B.output = A.output
  size : A.heap.size ≤ B.heap.size
  same : ∀ b, b < A.heap.size → (b < M ∨ ∀ cs t f, A.heap[b]? = some (.cells cs t f) → T t = false) → B.heap[b]? = A.heap[b]?
/-- Also what is no cells may have changed, from M on. -/
structure OnlyN (M : Nat) (T : TypeId → Bool) (A B : World) : Prop where
  os : B.os = A.os
  tape : B.tape = A.tape
  output : B.output = A.output
  size : A.heap.size ≤ B.heap.size
  same : ∀ b, b < A.heap.size → (b < M ∨ ∃ cs t f, A.heap[b]? = some (.cells cs t f) ∧ T t = false) → B.heap[b]? = A.heap[b]?
section
variable {M M' : Nat} {T T' : TypeId → Bool} {A B C : World}
theorem OnlyT.refl (M : Nat) (T : TypeId → Bool) (A : World) : OnlyT M T A A := ⟨rfl, rfl, rfl, Nat.le_refl _, fun _ _ _ => rfl⟩
theorem OnlyT.trans (h : OnlyT M T A B) (k : OnlyT M T B C) : OnlyT M T A C :=
  ⟨k.os.trans h.os, k.tape.trans h.tape, k.output.trans h.output, Nat.le_trans h.size k.size, fun b hb hc => by
    have e := h.same b hb hc
    refine (k.same b (Nat.lt_of_lt_of_le hb h.size) ?_).trans e
    rcases hc with hc | hc
    · exact .inl hc
    · exact .inr fun cs t f ht => hc cs t f (by rw [← e]; exact ht)⟩
theorem OnlyT.of_below {D : Nat} (h : Below D A B) (hD : A.heap.size ≤ D) : OnlyT M T A B := ⟨h.os, h.tape, h.output, h.size, fun b hb _ => h.block b (by omega)⟩
theorem OnlyT.new (h : Below A.heap.size A B) : OnlyT M T A B := OnlyT.of_below h (Nat.le_refl _)
theorem OnlyT.alloc (A : World) (o : Obj) : OnlyT M T A (A.alloc o) := OnlyT.new ((Below.refl _ _).alloc (Nat.le_refl _) o)
theorem OnlyT.mono (h : OnlyT M T A B) (hM : M' ≤ M) : OnlyT M' T A B :=
  ⟨h.os, h.tape, h.output, h.size, fun b hb hc => h.same b hb (hc.imp (fun h => by omega) id)⟩
theorem OnlyT.setCell {b o : Nat} {cs : Array Value} {t : TypeId} {f : Nat × Nat} (hh : A.heap[b]? = some (.cells cs t f)) (ht : T t = true) (hM : M ≤ b) (v : Value) : OnlyT M T A (A.setCell ⟨b, o, none⟩ v) :=
  ⟨rfl, rfl, rfl, by simp [World.setCell], fun k _ hc => by
    refine Below.heap_setCell A ⟨b, o, none⟩ v k ?_
    intro e
    have e' : k = b := e
    rcases hc with hc | hc
    · omega
    · have := hc cs t f (by rw [e']; exact hh)
      rw [ht] at this; cases this⟩
theorem OnlyT.grown {row : Option Nat} (hg : A.grownBy B row) (hr : ∀ r, row = some r → M ≤ r ∧ ∃ cs t f, A.heap[r]? = some (.cells cs t f) ∧ T t = true) : OnlyT M T A B :=
  ⟨hg.os, hg.tape, hg.output, hg.size, fun b hb hc => hg.block b hb fun e => by
    obtain ⟨h1, cs, t, f, h2, h3⟩ := hr b e.symm
    rcases hc with hc | hc
    · omega
    · rw [hc cs t f h2] at h3; cases h3⟩
theorem OnlyT.below (h : OnlyT M T A B) (hM : M ≤ A.heap.size) : Below M A B := ⟨h.os, h.tape, h.output, h.size, fun k hk => h.same k (by omega) (.inl hk)⟩
theorem OnlyT.other (h : OnlyT M T A B) {l : Nat} {o : Obj} (ho : A.heap[l]? = some o) (hc : o.isCells = false) : B.heap[l]? = some o := by
  refine (h.same l (Array.getElem?_eq_some_iff.1 ho).1 (.inr fun cs t f e => ?_)).trans ho
  rw [ho] at e; cases e; cases hc
theorem OnlyT.n (h : OnlyT M T A B) : OnlyN M T A B :=
  ⟨h.os, h.tape, h.output, h.size, fun b hb hc => h.same b hb (by
    rcases hc with hc | ⟨cs, t, f, h1, h2⟩
    · exact .inl hc
    · exact .inr fun cs' t' f' e => by rw [h1] at e; cases e; exact h2)⟩
theorem OnlyN.mono (h : OnlyN M T A B) (hM : M' ≤ M) : OnlyN M' T A B :=
  ⟨h.os, h.tape, h.output, h.size, fun b hb hc => h.same b hb (hc.imp (fun h => by omega) id)⟩
theorem OnlyN.putObj {l : Nat} {o : Obj} (ho : A.heap[l]? = some o) (hc : o.isCells = false) (hM : M ≤ l) (o' : Obj) : OnlyN M T A (A.putObj l o') :=
  ⟨rfl, rfl, rfl, by simp, fun b _ hb => World.putObj_heap_other fun e => by
    subst e
    rcases hb with hb | ⟨cs, t, f, h1, _⟩
    · omega
    · rw [ho] at h1; cases h1; cases hc⟩
theorem OnlyN.below (h : OnlyN M T A B) (hM : M ≤ A.heap.size) : Below M A B := ⟨h.os, h.tape, h.output, h.size, fun k hk => h.same k (by omega) (.inl hk)⟩
end

/-- An iterator that yields these, one after another, writes cells of the types TI alone, of its own, and asks the body to write none but of the types TB. -/
def SeqT {α : Type} (P : Program) (gf : Nat) (lb : Array Value) (enc : α → Value) (xs : List α) (TI : TypeId → Bool) (M : Nat) (TB : TypeId → Bool) (w : World) : Prop :=
  ∀ (l : Nat) (J : Nat → World → Prop) (W : World), Below w.heap.size w W →
    (∀ k A B, J k A → OnlyT W.heap.size TI A B → J k B) →
    (∀ k x A, xs[k]? = some x → J k A → YieldAt Fence.wide 0 P l #[enc x] A fun e B => e = .returned (.bool true) ∧ J (k + 1) B ∧ OnlyT M TB A B) →
    J 0 W → Calls P gf (#[.func (.yield l) #[] #[]] ++ lb) W fun e B => (∃ v, e = .returned v) ∧ J xs.length B

/-- How a round's body is left. -/
def postT (M : Nat) (TB : TypeId → Bool) (J : World → Prop) (A : World) : Exit → Act → World → Prop
  | .normal, _, B => OnlyT M TB A B ∧ J B
  | _, _, _ => False

/-- The law. -/
theorem wpIn_rangeFunc_T {α : Type} {P : Program} {g : Operand} {ps : Array Tmp} {assign body : Code} {Q : Exit → Act → World → Prop} {a : Act} {w : World}
    {gf : Nat} {lb : Array Value} (hg : a.eval g = .func (.func gf) #[] lb) (eg : ∀ args w, (callFunc gf args).run P w = .ok (.enter gf args) w)
    {enc : α → Value} {xs : List α} {TI : TypeId → Bool} {M : Nat} {TB : TypeId → Bool} (hseq : SeqT P gf lb enc xs TI M TB w) (hps : ps.size = 1)
    (I : Nat → World → Prop) (hI : ∀ k A B, I k A → OnlyN w.heap.size TI A B → I k B) (h0 : I 0 w)
    (Ax : α → Act → World → Prop) (hAx : ∀ x a' A B, Ax x a' A → OnlyN w.heap.size (fun _ => false) A B → Ax x a' B)
    (hassign : ∀ (l k : Nat) (x : α) (W : World) (K : Act → World → Prop), xs[k]? = some x → I k W → w.heap.size ≤ W.heap.size → (∀ a' W', OnlyT M TB W W' → I k W' → Ax x a' W' → K a' W') →
      assign.wpIn (Fence.wide.inRound l) 0 P (Exit.then K (fun _ _ _ => False)) { tmps := (ps.zip #[enc x]).foldl (fun t (p, v) => t.setIfInBounds p v) a.tmps, defers := [] } W)
    (hbody : ∀ (l k : Nat) (x : α) (a' : Act) (W : World), xs[k]? = some x → I k W → w.heap.size ≤ W.heap.size → Ax x a' W → body.wpIn (Fence.wide.inRound l) 0 P (postT M TB (I (k + 1)) W) a' W)
    (hdone : ∀ (D : Nat) (W : World), w.heap.size ≤ D → I xs.length W → W.heap[D]? = some (.deferred (some [])) → Q .normal { a with defers := { target := .collected D, args := #[] } :: a.defers } W) :
    (Code.rangeFunc g ps assign body).wpIn Fence.wide 0 P Q a w := by
  refine wpIn_rangeFunc fun fn hfn => ?_
  show ∃ (l : Nat) (mark : List Deferred) (w₁ : World) (d : Deferred) (w₁' : World) (f : FuncId) (args : Array Value) (w₂ : World), (Instr.enterLoop fn a.tmps ps assign body none).run P w = .ok (l, mark) w₁ ∧ _
  obtain ⟨rec, hrec⟩ : ∃ rec : LoopState → Option Code → Loop, rec = fun st pe => { state := st, pending := pe, fn, tmps := a.tmps, params := ps, assign, body, defers := w.heap.size } := ⟨_, rfl⟩
  obtain ⟨W1, hW1⟩ : ∃ W1, (w.alloc (.deferred (some []))).alloc (.loop (rec .ready none)) = W1 := ⟨_, rfl⟩
  have hsz : W1.heap.size = w.heap.size + 2 := by rw [← hW1]; simp
  have hB1 : Below w.heap.size w W1 := by rw [← hW1]; exact ((Below.refl _ w).alloc (Nat.le_refl _) _).alloc (by simp) _
  have hL1 : W1.heap[w.heap.size + 1]? = some (.loop (rec .ready none)) := by
    have := World.alloc_heap_new (w.alloc (.deferred (some []))) (.loop (rec .ready none))
    rwa [World.size_alloc, hW1] at this
  have hD1 : W1.heap[w.heap.size]? = some (.deferred (some [])) := by
    rw [← hW1]; exact (Below.heap_alloc _ _ _ (by simp)).trans (World.alloc_heap_new w _)
  refine ⟨w.heap.size + 1, [{ target := .collected w.heap.size, args := #[] }], W1, { target := .fn (.func gf) lb, args := #[.func (.yield (w.heap.size + 1)) #[] #[]] }, W1, gf,
    #[.func (.yield (w.heap.size + 1)) #[] #[]] ++ lb, W1, ?_, ?_, fun _ _ => trivial, ?_, fun h => (by cases h), ?_⟩
  · rw [← hW1, hrec]; exact run_enterLoop_outer _ _ _ _ _
  · simp only [resolve, hg]
    simp [go_sem]
  · simp [invoke, go_sem, eg]
  refine callsIn_wide.2 ((hseq (w.heap.size + 1) (fun k W => (I k W ∧ W1.heap.size ≤ W.heap.size) ∧ W.heap[w.heap.size + 1]? = some (.loop (rec .ready none)) ∧ W.heap[w.heap.size]? = some (.deferred (some [])))
    W1 hB1 ?_ ?_ ⟨⟨hI 0 w W1 h0 (OnlyT.new hB1).n, Nat.le_refl _⟩, hL1, hD1⟩).mono ?_)
  · rintro k A B ⟨⟨h1, h4⟩, h2, h3⟩ hAB
    exact ⟨⟨hI k A B h1 (hAB.n.mono (by omega)), Nat.le_trans h4 hAB.size⟩, hAB.other h2 rfl, hAB.other h3 rfl⟩
  · rintro k x A hx ⟨⟨hi, hs⟩, hl, hd⟩
    have hy := run_yield (P := P) (args := #[enc x]) hl (by rw [hrec]; exact hps.symm)
    rw [hrec] at hy
    refine ⟨fn, _, assign, body, hy, roundIn_of_wpIn hfn (hassign _ k x A _ hx hi (by omega) ?_)⟩
    intro a' Wa ho hia hax
    have hla := ho.other hl rfl
    have hda := ho.other hd rfl
    refine ⟨_, run_beginRound hla (by rw [hrec]), ?_⟩
    obtain ⟨Wb, hWb⟩ : ∃ Wb, Wa.putObj (w.heap.size + 1) (.loop { rec .ready none with state := .busy }) = Wb := ⟨_, rfl⟩
    rw [hWb]
    have hlt : w.heap.size + 1 < Wa.heap.size := (Array.getElem?_eq_some_iff.1 hla).1
    have hlb : Wb.heap[w.heap.size + 1]? = some (.loop { rec .ready none with state := .busy }) := by rw [← hWb]; exact World.putObj_heap_same hlt
    have hdb : Wb.heap[w.heap.size]? = some (.deferred (some [])) := by rw [← hWb]; exact (World.putObj_heap_other (by omega)).trans hda
    have hnb : ∀ {T}, OnlyN w.heap.size T Wa Wb := fun {T} => by rw [← hWb]; exact OnlyN.putObj hla rfl (by omega) _
    refine wpIn_mono (hbody _ k x a' Wb hx (hI k _ _ hia hnb) (by have := hnb (T := TI); have := this.size; omega) (hAx x a' _ _ hax hnb)) ?_
    rintro e a3 Wc hp
    cases e with
    | normal =>
      obtain ⟨hoc, hic⟩ := hp
      have hlc := hoc.other hlb rfl
      have hdc := hoc.other hdb rfl
      have hltc : w.heap.size + 1 < Wc.heap.size := (Array.getElem?_eq_some_iff.1 hlc).1
      have hend := run_endRound (P := P) none hlc
      obtain ⟨Wd, hWd⟩ : ∃ Wd, Wc.putObj (w.heap.size + 1) (.loop (rec .ready none)) = Wd := ⟨_, rfl⟩
      have hend' : (Instr.endRound (w.heap.size + 1) none).run P Wc = .ok (.bool true) Wd := by rw [hend, ← hWd, hrec]; rfl
      have hld : Wd.heap[w.heap.size + 1]? = some (.loop (rec .ready none)) := by rw [← hWd]; exact World.putObj_heap_same hltc
      have hsd : Wd.heap.size = Wc.heap.size := by rw [← hWd]; simp
      have hsb : Wb.heap.size = Wa.heap.size := by rw [← hWb]; simp
      have hfar : ∀ b, b ≠ w.heap.size + 1 → Wd.heap[b]? = Wc.heap[b]? := fun b hb => by rw [← hWd]; exact World.putObj_heap_other hb
      have hfarb : ∀ b, b ≠ w.heap.size + 1 → Wb.heap[b]? = Wa.heap[b]? := fun b hb => by rw [← hWb]; exact World.putObj_heap_other hb
      have hos := hoc.size
      have hosa := ho.size
      refine ⟨_, _, hend', rfl, ⟨⟨hI _ _ _ hic (by rw [← hWd]; exact OnlyN.putObj hlc rfl (by omega) _), by omega⟩, hld, (hfar _ (by omega)).trans hdc⟩, ?_⟩
      have hob : Wb.os = Wa.os ∧ Wb.tape = Wa.tape ∧ Wb.output = Wa.output := by rw [← hWb]; exact ⟨rfl, rfl, rfl⟩
      have hod : Wd.os = Wc.os ∧ Wd.tape = Wc.tape ∧ Wd.output = Wc.output := by rw [← hWd]; exact ⟨rfl, rfl, rfl⟩
      refine ⟨by rw [hod.1, hoc.os, hob.1, ho.os], by rw [hod.2.1, hoc.tape, hob.2.1, ho.tape], by rw [hod.2.2, hoc.output, hob.2.2, ho.output], by omega, fun b hb hc => ?_⟩
      by_cases e : b = w.heap.size + 1
      · subst e; rw [hld, hl]
      · have e1 := ho.same b hb hc
        have e2 := hfarb b e
        have e3 : Wc.heap[b]? = Wb.heap[b]? := by
          refine hoc.same b (by omega) ?_
          rcases hc with hc | hc
          · exact .inl hc
          · exact .inr fun cs t f ht => hc cs t f (by rw [← e1, ← e2]; exact ht)
        rw [hfar b e, e3, e2, e1]
    | ret => exact hp.elim
    | exit id => exact hp.elim
    | goto t => exact hp.elim
    | panic ch => exact hp.elim
    | outgrown => exact hp.elim
  · rintro e W2 ⟨⟨v, rfl⟩, ⟨hi, _⟩, hl, hd⟩
    have hend := run_endLoop (P := P) hl (by rw [hrec]; simp)
    have hlt : w.heap.size + 1 < W2.heap.size := (Array.getElem?_eq_some_iff.1 hl).1
    refine ⟨none, _, by rw [hend, hrec], ?_⟩
    exact hdone _ _ (Nat.le_refl _) (hI _ _ _ hi (OnlyN.putObj hl rfl (by omega) _)) ((World.putObj_heap_other (by omega)).trans hd)
end Go.Proofs.YtpafocfpofnkpaaGreatDoor
