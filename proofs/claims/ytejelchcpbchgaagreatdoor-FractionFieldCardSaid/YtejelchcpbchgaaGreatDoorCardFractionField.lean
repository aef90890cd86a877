/- Greater text, out of: CardFractionField. -/
import Derived.Test.YtejelchcpbchgaaGreatDoorFrame3
import Derived.Test.YtejelchcpbchgaaGreatDoorV9
import Derived.Lib.SmallJoins
namespace Go.Proofs.YtejelchcpbchgaaGreatDoor.fractionFieldDone
open Go.ChangeShapes Go.WideShapes Go.ChangeAt Go.RowKit
open Go.ChangeMaps (open_string shut_string)
set_option linter.unusedVariables false

set_option maxRecDepth 100000 in
theorem contract (H : Type) (enc : TypeId × Value → H) (W : World) (base : Nat) (args : Array Value) (ds gs : List (DataW H)) (before : List MemPlace)
    (hval0 : ∀ (j : Nat) t v, Tryz.f5.params[j]? = some t → args[j]? = some v → Value.okWide Tryz.prog W .any base t v)
    (hW : DataW.Whole enc Tryz.prog Tryz.f5.params.toList Rows.fractionFieldSpec.vars false W args.toList ds gs before) (hL : laidMetH Tryz.prog Rows.fractionFieldRow.laid W) :
    Calls Tryz.prog 5 args W fun e W' => ∃ v, e = .returned v ∧ Rows.fractionFieldSpec.post enc Tryz.prog Tryz.f5 false true false false W args v W' := by
  have hval : ∀ (j : Nat) t v, Tryz.f5.params[j]? = some t → args[j]? = some v → Value.okWide Tryz.prog W .any base t v := hval0
  have hW' := hW
  obtain ⟨p, q, hA0, hV, rfl, hfz, hnd⟩ := hW
  have hA : DataW.TrodAll enc Tryz.prog W 0 (fun _ => true) true Tryz.f5.params.toList args.toList ds p := hA0
  rw [Tryz.params5] at hA hval
  obtain ⟨v0, vs0, d0, ds0, p0, q0, hargs, rfl, rfl, h0, r0⟩ := trodAll_cons hA
  obtain ⟨v1, vs1, d1, ds1, p1, q1, rfl, rfl, rfl, h1, r1⟩ := trodAll_cons r0
  obtain ⟨v2, vs2, d2, ds2, p2, q2, rfl, rfl, rfl, h2, r2⟩ := trodAll_cons r1
  obtain ⟨rfl, rfl, rfl⟩ := trodAll_nil r2
  obtain rfl : args = #[v0, v1, v2] := by cases args; simp_all
  obtain ⟨rfl, rfl⟩ := trodVars_none hV
  have k0 := h0
  have lt0 : ∀ x ∈ p0, x.block < W.heap.size := by obtain ⟨m, hm⟩ := k0; exact DataW.trod_lt m _ _ _ hm
  obtain ⟨x0, s0, y0, u0, m0, rfl, _, _, hb0, hs0⟩ := Go.Joins.open_agg2 Tryz.underlying49 (by kernel_rfl) (by kernel_rfl) (hval 0 49 v0 rfl rfl) h0
  obtain ⟨a0, hx0, _, wa0⟩ := DataW.trod_int Tryz.underlying47 hb0
  obtain rfl : x0 = .int .i16 a0 := by simpa using hx0
  obtain ⟨b0, hy0, _, wb0⟩ := DataW.trod_int Tryz.underlying5 hs0
  obtain rfl : s0 = .int .u8 b0 := by simpa using hy0
  have k1 := h1
  have lt1 : ∀ x ∈ p1, x.block < W.heap.size := by obtain ⟨m, hm⟩ := k1; exact DataW.trod_lt m _ _ _ hm
  obtain ⟨x1, s1, y1, u1, m1, rfl, _, _, hb1, hs1⟩ := Go.Joins.open_agg2 Tryz.underlying49 (by kernel_rfl) (by kernel_rfl) (hval 1 49 v1 rfl rfl) h1
  obtain ⟨a1, hx1, _, wa1⟩ := DataW.trod_int Tryz.underlying47 hb1
  obtain rfl : x1 = .int .i16 a1 := by simpa using hx1
  obtain ⟨b1, hy1, _, wb1⟩ := DataW.trod_int Tryz.underlying5 hs1
  obtain rfl : s1 = .int .u8 b1 := by simpa using hy1
  have k2 := h2
  have lt2 : ∀ x ∈ p2, x.block < W.heap.size := by obtain ⟨m, hm⟩ := k2; exact DataW.trod_lt m _ _ _ hm
  obtain ⟨x2, s2, y2, u2, m2, rfl, _, _, hb2, hs2⟩ := Go.Joins.open_agg2 Tryz.underlying49 (by kernel_rfl) (by kernel_rfl) (hval 2 49 v2 rfl rfl) h2
  obtain ⟨a2, hx2, _, wa2⟩ := DataW.trod_int Tryz.underlying47 hb2
  obtain rfl : x2 = .int .i16 a2 := by simpa using hx2
  obtain ⟨b2, hy2, _, wb2⟩ := DataW.trod_int Tryz.underlying5 hs2
  obtain rfl : s2 = .int .u8 b2 := by simpa using hy2
  clear hA0 hval0
  have hamb : Amb W := amb_of_laid hL
  refine (lawField_walk a0 b0 a1 b1 a2 b2 W hamb (bounds_i16 wa0) (bounds_u8 wb0) (bounds_i16 wa1) (bounds_u8 wb1) (bounds_i16 wa2) (bounds_u8 wb2)).mono fun e W' ⟨he, bel⟩ => ?_
  subst he
  exact ⟨_, rfl, _, _, _, [], _, [], hW', trodAll_mk1 (shut_bool Tryz.underlying4 _), (trodAll_cons_mk (Below.trod laidOut (by kernel_rfl) (of_decide_eq_true (by kernel_rfl)) k0 bel lt0) (trodAll_cons_mk (Below.trod laidOut (by kernel_rfl) (of_decide_eq_true (by kernel_rfl)) k1 bel lt1) (trodAll_cons_mk (Below.trod laidOut (by kernel_rfl) (of_decide_eq_true (by kernel_rfl)) k2 bel lt2) trodAll_mk0))), rfl, bel.frame _, fun h => by cases h⟩

set_option maxRecDepth 100000 in
theorem reads (os : Os) {H : Type} (enc : TypeId × Value → H) : ∃ places, DataW.whole enc Tryz.prog ((laidWorld os).forCall (fun _ _ => 0) ⟨#[], #[.agg #[.int .i16 0, .int .u8 0], .agg #[.int .i16 0, .int .u8 0], .agg #[.int .i16 0, .int .u8 0]], []⟩).memory Tryz.f5.params.toList Rows.fractionFieldSpec.vars false #[.agg #[.int .i16 0, .int .u8 0], .agg #[.int .i16 0, .int .u8 0], .agg #[.int .i16 0, .int .u8 0]].toList 8 = some ([.agg [.lit (.int .i16 0), .lit (.int .u8 0)], .agg [.lit (.int .i16 0), .lit (.int .u8 0)], .agg [.lit (.int .i16 0), .lit (.int .u8 0)]], [], places) :=
  ⟨[], by kernel_rfl⟩

set_option maxRecDepth 100000 in
theorem lifted (os : Os) (started : os.Started) (H : Type) (enc : TypeId × Value → H) (F : Stop.Interp) :
    ReturnsInHanded {} Tryz.checked os 5 .any ((OpenSpec.ofChange Rows.fractionFieldSpec).preRow enc Tryz.prog Tryz.f5 Rows.fractionFieldRow.domain false Rows.fractionFieldRow.laid) (((OpenSpec.ofChange Rows.fractionFieldSpec).at F).post enc Tryz.prog Tryz.f5 false true false false) := by
  obtain ⟨places, hx⟩ := reads os enc
  refine returnsInHanded_of_row (C := Tryz.checked) (s := OpenSpec.ofChange Rows.fractionFieldSpec) own started (by kernel_rfl) Tryz.func5
    (witness_row_atRef (enc := enc) (C := Tryz.checked) false (laidWorld os) #[.agg #[.int .i16 0, .int .u8 0], .agg #[.int .i16 0, .int .u8 0], .agg #[.int .i16 0, .int .u8 0]] rfl (by kernel_rfl) (by kernel_rfl) (by kernel_rfl)
      (OpenSpec.preRow_of_cond 8 hx (by kernel_rfl) (fun k hk => by cases hk) (by kernel_rfl) (laid_met os _))) ?_
  intro W base args ds gs before hval hW _ _ _ hL _ _
  exact contract H enc W base args ds gs before hval hW hL

set_option maxRecDepth 100000 in
theorem said : Rows.FractionFieldSaid :=
  OpenClaim.holds_of_cond 5 Tryz.f5 rfl rfl rfl rfl rfl rfl rfl ⟨rfl, rfl, rfl, rfl, rfl⟩ rfl rfl rfl rfl rfl (by kernel_rfl) Tryz.func5 (by kernel_rfl)
    (of_decide_eq_true (by kernel_rfl)) (by unfold Func.isWrapper; first | (rw [if_pos (by decide +kernel)]; kernel_rfl) | (rw [if_neg (by decide +kernel)]; exact ⟨rfl, rfl⟩))
    (fun os started H enc _ F => by rw [OpenClaim.pre_eq_preRow]; exact lifted os started H enc F)

set_option maxRecDepth 100000 in
theorem plain (f : FuncId) (fn : Func) (hf : Tryz.pinned.checked.prog.funcNamed "schisma/schismalaw03.FractionField" = some f) (hfn : Tryz.pinned.checked.prog.funcs[f]? = some fn) :
    true = Tryz.pinned.checked.prog.looks [] ∧ ∀ (j : Nat) t, fn.params[j]? = some t → Tryz.pinned.checked.prog.wantsStandIn t = false := by
  obtain rfl : f = 5 := Option.some.inj ((show Tryz.prog.funcNamed "schisma/schismalaw03.FractionField" = some 5 by kernel_rfl).symm.trans hf) |>.symm
  obtain rfl : fn = Tryz.f5 := (Option.some.inj (Tryz.func5.symm.trans hfn)).symm
  refine ⟨by kernel_rfl, fun j t ht => ?_⟩
  rw [Tryz.params5] at ht
  have wt0 : Tryz.prog.wantsStandIn 49 = false := by kernel_rfl
  have hm := Array.mem_of_getElem? ht
  simp only [List.mem_toArray, List.mem_cons, List.not_mem_nil, or_false] at hm
  rcases hm with rfl | rfl | rfl
  all_goals first | exact wt0

set_option maxRecDepth 100000 in
/-- The card. -/
theorem card : Rows.FractionFieldCardSaid :=
  Claim7.holds_tied_plain_at .later [] _ _ _ _ said (fun _ h => by cases h) (by kernel_rfl) (fun _ h => by cases h) fractionField_row_tie rfl ⟨rfl, rfl⟩ (by kernel_rfl) rfl plain (by kernel_rfl)
end Go.Proofs.YtejelchcpbchgaaGreatDoor.fractionFieldDone
