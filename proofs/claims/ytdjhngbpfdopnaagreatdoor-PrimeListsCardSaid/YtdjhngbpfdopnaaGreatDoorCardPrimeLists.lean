/- Greater text, out of: CardPrimeLists. -/
import Derived.Test.YtdjhngbpfdopnaaGreatDoorFrame11
import Derived.Test.YtdjhngbpfdopnaaGreatDoorQV1
import Derived.Lib.SmallJoins
namespace Go.Proofs.YtdjhngbpfdopnaaGreatDoor.primeListsDone
open Go.ChangeShapes Go.WideShapes Go.ChangeAt Go.RowKit
open Go.ChangeMaps (open_string shut_string)
set_option linter.unusedVariables false

set_option maxRecDepth 100000 in
theorem contract (H : Type) (enc : TypeId × Value → H) (W : World) (base : Nat) (args : Array Value) (ds gs : List (DataW H)) (before : List MemPlace)
    (hval0 : ∀ (j : Nat) t v, Tryz.f6.params[j]? = some t → args[j]? = some v → Value.okWide Tryz.prog W .any base t v)
    (hW : DataW.Whole enc Tryz.prog Tryz.f6.params.toList Rows.primeListsSpec.vars false W args.toList ds gs before) (hL : laidMetH Tryz.prog Rows.primeListsRow.laid W) (hsh : W.ShapedOpen Tryz.prog) :
    Calls Tryz.prog 6 args W fun e W' => ∃ v, e = .returned v ∧ Rows.primeListsSpec.post enc Tryz.prog Tryz.f6 false true false false W args v W' := by
  have hval : ∀ (j : Nat) t v, Tryz.f6.params[j]? = some t → args[j]? = some v → Value.okWide Tryz.prog W .any base t v := hval0
  have hW' := hW
  obtain ⟨p, q, hA0, hV, rfl, hfz, hnd⟩ := hW
  have hA : DataW.TrodAll enc Tryz.prog W 0 (fun _ => true) true Tryz.f6.params.toList args.toList ds p := hA0
  rw [Tryz.params6] at hA hval
  obtain ⟨v0, vs0, d0, ds0, p0, q0, hargs, rfl, rfl, h0, r0⟩ := trodAll_cons hA
  obtain ⟨v1, vs1, d1, ds1, p1, q1, rfl, rfl, rfl, h1, r1⟩ := trodAll_cons r0
  obtain ⟨rfl, rfl, rfl⟩ := trodAll_nil r1
  obtain rfl : args = #[v0, v1] := by cases args; simp_all
  obtain ⟨rfl, rfl⟩ := trodVars_none hV
  obtain ⟨a0, len0, cap0, rfl⟩ := okWide_slice Tryz.underlying35 (hval 0 35 v0 rfl rfl)
  have k0 := h0
  have lt0 : ∀ x ∈ p0, x.block < W.heap.size := by obtain ⟨m, hm⟩ := k0; exact DataW.trod_lt m _ _ _ hm
  obtain ⟨z0, w0⟩ : ∃ l, InZ W a0 len0 cap0 l := by
    obtain ⟨fuel, hf⟩ := h0
    rcases open_ints Tryz.underlying35 Tryz.underlying3 (by kernel_rfl) hf with ⟨hcs, _⟩ | ⟨x, l, c, zs, hcs, _, hl, hm, hz, _, hcell, hwz⟩
    · simp [Value.cells] at hcs
      obtain ⟨rfl, rfl, rfl⟩ := hcs
      exact ⟨[], InZ.nil W⟩
    · simp [Value.cells] at hcs
      obtain ⟨rfl, rfl, rfl⟩ := hcs
      exact ⟨_, inZ_of_row hl hm (by simpa using hz) hcell⟩
  have k1 := h1
  have lt1 : ∀ x ∈ p1, x.block < W.heap.size := by obtain ⟨m, hm⟩ := k1; exact DataW.trod_lt m _ _ _ hm
  have hC1 : Tryz.prog.cellsOf 3 = 1 := by kernel_rfl
  obtain ⟨cs1, rfl, hsz1⟩ : ∃ cs : Array Value, v1 = .agg cs ∧ cs.size = 3 := by
    have h := hval 1 58 v1 rfl rfl
    simp only [Value.okWide, Tryz.underlying58] at h
    obtain ⟨cs, e1, e2, _⟩ := h
    exact ⟨cs, e1, by rw [e2]; kernel_rfl⟩
  obtain ⟨c1, e1, f1, rfl⟩ := Go.Joins.array3 hsz1
  obtain ⟨fuel1, hf1⟩ := h1
  obtain ⟨xs1, m1, _, _, _, hl1, hel1⟩ := DataW.trod_array Tryz.underlying58 hf1
  obtain ⟨y1, z1, zz1, rfl⟩ : ∃ y z zz, xs1 = [y, z, zz] := by
    match xs1, hl1 with
    | [y, z, zz], _ => exact ⟨_, _, _, rfl⟩
  have q1 := hel1 0 (by omega)
  have r1x := hel1 1 (by omega)
  have r1y := hel1 2 (by omega)
  rw [hC1] at q1 r1x r1y
  obtain ⟨a1, hx1, _, wa1⟩ := DataW.trod_int (x := y1) Tryz.underlying3 (by simpa [Value.cells] using q1)
  obtain rfl : c1 = .int .i64 a1 := by simpa using hx1
  obtain ⟨b1, hy1, _, wb1⟩ := DataW.trod_int (x := z1) Tryz.underlying3 (by simpa [Value.cells] using r1x)
  obtain rfl : e1 = .int .i64 b1 := by simpa using hy1
  obtain ⟨g1, hg1, _, wg1⟩ := DataW.trod_int (x := zz1) Tryz.underlying3 (by simpa [Value.cells] using r1y)
  obtain rfl : f1 = .int .i64 g1 := by simpa using hg1
  clear hA0 hval0
  have hamb : Amb11 W := ⟨amb_of_laid hL, ambM_of hsh⟩
  refine (lawLists_walk a0 len0 cap0 z0 a1 b1 g1 W hamb w0).mono fun e W' ⟨he, bel⟩ => ?_
  subst he
  exact ⟨_, rfl, _, _, _, [], _, [], hW', trodAll_mk1 (shut_bool Tryz.underlying4 _), (trodAll_cons_mk (Below.trod laidOut (by kernel_rfl) (of_decide_eq_true (by kernel_rfl)) k0 bel lt0) (trodAll_cons_mk (Below.trod laidOut (by kernel_rfl) (of_decide_eq_true (by kernel_rfl)) k1 bel lt1) trodAll_mk0)), rfl, bel.frame _, fun h => by cases h⟩

set_option maxRecDepth 100000 in
theorem reads (os : Os) {H : Type} (enc : TypeId × Value → H) : ∃ places, DataW.whole enc Tryz.prog ((laidWorld os).forCall (fun _ _ => 0) ⟨#[], #[.slice none 0 0, .agg #[.int .i64 0, .int .i64 0, .int .i64 0]], []⟩).memory Tryz.f6.params.toList Rows.primeListsSpec.vars false #[.slice none 0 0, .agg #[.int .i64 0, .int .i64 0, .int .i64 0]].toList 8 = some ([.nil, .agg [.lit (.int .i64 0), .lit (.int .i64 0), .lit (.int .i64 0)]], [], places) :=
  ⟨[], by kernel_rfl⟩

set_option maxRecDepth 100000 in
theorem lifted (os : Os) (started : os.Started) (H : Type) (enc : TypeId × Value → H) (F : Stop.Interp) :
    ReturnsInHanded {} Tryz.checked os 6 .any ((OpenSpec.ofChange Rows.primeListsSpec).preRow enc Tryz.prog Tryz.f6 Rows.primeListsRow.domain false Rows.primeListsRow.laid) (((OpenSpec.ofChange Rows.primeListsSpec).at F).post enc Tryz.prog Tryz.f6 false true false false) := by
  obtain ⟨places, hx⟩ := reads os enc
  refine returnsInHanded_of_row (C := Tryz.checked) (s := OpenSpec.ofChange Rows.primeListsSpec) own started (by kernel_rfl) Tryz.func6
    (witness_row_atRef (enc := enc) (C := Tryz.checked) false (laidWorld os) #[.slice none 0 0, .agg #[.int .i64 0, .int .i64 0, .int .i64 0]] rfl (by kernel_rfl) (by kernel_rfl) (by kernel_rfl)
      (OpenSpec.preRow_of_cond 8 hx (by kernel_rfl) (fun k hk => by cases hk) (by kernel_rfl) (laid_met os _))) ?_
  intro W base args ds gs before hval hW _ _ _ hL hsh _
  exact contract H enc W base args ds gs before hval hW hL hsh

set_option maxRecDepth 100000 in
theorem said : Rows.PrimeListsSaid :=
  OpenClaim.holds_of_cond 6 Tryz.f6 rfl rfl rfl rfl rfl rfl rfl ⟨rfl, rfl, rfl, rfl, rfl⟩ rfl rfl rfl rfl rfl (by kernel_rfl) Tryz.func6 (by kernel_rfl)
    (of_decide_eq_true (by kernel_rfl)) (by unfold Func.isWrapper; first | (rw [if_pos (by decide +kernel)]; kernel_rfl) | (rw [if_neg (by decide +kernel)]; exact ⟨rfl, rfl⟩))
    (fun os started H enc _ F => by rw [OpenClaim.pre_eq_preRow]; exact lifted os started H enc F)

set_option maxRecDepth 100000 in
theorem plain (f : FuncId) (fn : Func) (hf : Tryz.pinned.checked.prog.funcNamed "schisma/schismalaw11.PrimeLists" = some f) (hfn : Tryz.pinned.checked.prog.funcs[f]? = some fn) :
    true = Tryz.pinned.checked.prog.looks [] ∧ ∀ (j : Nat) t, fn.params[j]? = some t → Tryz.pinned.checked.prog.wantsStandIn t = false := by
  obtain rfl : f = 6 := Option.some.inj ((show Tryz.prog.funcNamed "schisma/schismalaw11.PrimeLists" = some 6 by kernel_rfl).symm.trans hf) |>.symm
  obtain rfl : fn = Tryz.f6 := (Option.some.inj (Tryz.func6.symm.trans hfn)).symm
  refine ⟨by kernel_rfl, fun j t ht => ?_⟩
  rw [Tryz.params6] at ht
  have wt0 : Tryz.prog.wantsStandIn 58 = false := by kernel_rfl
  have wt1 : Tryz.prog.wantsStandIn 35 = false := by kernel_rfl
  have hm := Array.mem_of_getElem? ht
  simp only [List.mem_toArray, List.mem_cons, List.not_mem_nil, or_false] at hm
  rcases hm with rfl | rfl
  all_goals first | exact wt0 | exact wt1

set_option maxRecDepth 100000 in
/-- The card. -/
theorem card : Rows.PrimeListsCardSaid :=
  Claim7.holds_tied_plain_at .later [] _ _ _ _ said (fun _ h => by cases h) (by kernel_rfl) (fun _ h => by cases h) primeLists_row_tie rfl ⟨rfl, rfl⟩ (by kernel_rfl) rfl plain (by kernel_rfl)
end Go.Proofs.YtdjhngbpfdopnaaGreatDoor.primeListsDone
