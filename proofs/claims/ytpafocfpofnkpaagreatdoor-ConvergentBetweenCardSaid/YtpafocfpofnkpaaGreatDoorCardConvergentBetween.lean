/- Greater text, out of: CardConvergentBetween. -/
import Derived.Test.YtpafocfpofnkpaaGreatDoorFrame4
import Derived.Test.YtpafocfpofnkpaaGreatDoorV49
import Derived.Lib.SmallJoins
namespace Go.Proofs.YtpafocfpofnkpaaGreatDoor.convergentBetweenDone
open Go.ChangeShapes Go.WideShapes Go.ChangeAt Go.RowKit
open Go.ChangeMaps (open_string shut_string)
set_option linter.unusedVariables false

set_option maxRecDepth 100000 in
theorem contract (H : Type) (enc : TypeId × Value → H) (W : World) (base : Nat) (args : Array Value) (ds gs : List (DataW H)) (before : List MemPlace)
    (hval0 : ∀ (j : Nat) t v, Tryz.f6.params[j]? = some t → args[j]? = some v → Value.okWide Tryz.prog W .any base t v)
    (hW : DataW.Whole enc Tryz.prog Tryz.f6.params.toList Rows.convergentBetweenSpec.vars false W args.toList ds gs before) (hL : laidMetH Tryz.prog Rows.convergentBetweenRow.laid W) :
    Calls Tryz.prog 6 args W fun e W' => ∃ v, e = .returned v ∧ Rows.convergentBetweenSpec.post enc Tryz.prog Tryz.f6 false true false false W args v W' := by
  have hval : ∀ (j : Nat) t v, Tryz.f6.params[j]? = some t → args[j]? = some v → Value.okWide Tryz.prog W .any base t v := hval0
  have hW' := hW
  obtain ⟨p, q, hA0, hV, rfl, hfz, hnd⟩ := hW
  have hA : DataW.TrodAll enc Tryz.prog W 0 (fun _ => true) true Tryz.f6.params.toList args.toList ds p := hA0
  rw [Tryz.params6] at hA hval
  obtain ⟨v0, vs0, d0, ds0, p0, q0, hargs, rfl, rfl, h0, r0⟩ := trodAll_cons hA
  obtain ⟨v1, vs1, d1, ds1, p1, q1, rfl, rfl, rfl, h1, r1⟩ := trodAll_cons r0
  obtain ⟨rfl, rfl, rfl⟩ := trodAll_nil r1
  obtain rfl : args = #[v0, v1] := by cases args; simp_all
  obtain ⟨rfl, rfl⟩ := trodVars_none hV
  have k0 := h0
  have lt0 : ∀ x ∈ p0, x.block < W.heap.size := by obtain ⟨m, hm⟩ := k0; exact DataW.trod_lt m _ _ _ hm
  obtain ⟨x0, s0, y0, u0, m0, rfl, _, _, hb0, hs0⟩ := Go.Joins.open_agg2 Tryz.underlying24 (by kernel_rfl) (by kernel_rfl) (hval 0 24 v0 rfl rfl) h0
  obtain ⟨a0, hx0, _⟩ := DataW.trod_string Tryz.underlying22 hb0
  obtain rfl : x0 = .string a0 := by simpa using hx0
  obtain ⟨b0, hy0, _⟩ := DataW.trod_string Tryz.underlying22 hs0
  obtain rfl : s0 = .string b0 := by simpa using hy0
  obtain ⟨a1, rfl, rfl, rfl, w1⟩ := open_int Tryz.underlying5 (hval 1 5 v1 rfl rfl) h1
  clear hA0 hval0
  have hamb : Amb W := amb_of_laid hL
  refine (lawBetween_walk a0 b0 a1 W hamb (bounds_u8 w1)).mono fun e W' ⟨he, bel⟩ => ?_
  subst he
  exact ⟨_, rfl, _, _, _, [], _, [], hW', trodAll_mk1 (shut_bool Tryz.underlying4 _), (trodAll_cons_mk (Below.trod laidOut (by kernel_rfl) (of_decide_eq_true (by kernel_rfl)) k0 bel lt0) (trodAll_cons_mk (shut_int Tryz.underlying5 w1) trodAll_mk0)), rfl, bel.frame _, fun h => by cases h⟩

set_option maxRecDepth 100000 in
theorem reads (os : Os) {H : Type} (enc : TypeId × Value → H) : ∃ places, DataW.whole enc Tryz.prog ((laidWorld os).forCall (fun _ _ => 0) ⟨#[], #[.agg #[.string ⟨#[]⟩, .string ⟨#[]⟩], .int .u8 0], []⟩).memory Tryz.f6.params.toList Rows.convergentBetweenSpec.vars false #[.agg #[.string ⟨#[]⟩, .string ⟨#[]⟩], .int .u8 0].toList 8 = some ([.agg [.lit (.string []), .lit (.string [])], .lit (.int .u8 0)], [], places) :=
  ⟨[], by kernel_rfl⟩

set_option maxRecDepth 100000 in
theorem lifted (os : Os) (started : os.Started) (H : Type) (enc : TypeId × Value → H) (F : Stop.Interp) :
    ReturnsInHanded {} Tryz.checked os 6 .any ((OpenSpec.ofChange Rows.convergentBetweenSpec).preRow enc Tryz.prog Tryz.f6 Rows.convergentBetweenRow.domain false Rows.convergentBetweenRow.laid) (((OpenSpec.ofChange Rows.convergentBetweenSpec).at F).post enc Tryz.prog Tryz.f6 false true false false) := by
  obtain ⟨places, hx⟩ := reads os enc
  refine returnsInHanded_of_row (C := Tryz.checked) (s := OpenSpec.ofChange Rows.convergentBetweenSpec) own started (by kernel_rfl) Tryz.func6
    (witness_row_atRef (enc := enc) (C := Tryz.checked) false (laidWorld os) #[.agg #[.string ⟨#[]⟩, .string ⟨#[]⟩], .int .u8 0] rfl (by kernel_rfl) (by kernel_rfl) (by kernel_rfl)
      (OpenSpec.preRow_of_cond 8 hx (by kernel_rfl) (fun k hk => by cases hk) (by kernel_rfl) (laid_met os _))) ?_
  intro W base args ds gs before hval hW _ _ _ hL _ _
  exact contract H enc W base args ds gs before hval hW hL

set_option maxRecDepth 100000 in
theorem f1 : (Rows.convergentBetweenRow.inPlace == Tryz.pinned.checked.prog.inPlace 6) = true := by kernel_rfl
set_option maxRecDepth 100000 in
theorem f2 : (Rows.convergentBetweenRow.unfollowed == Tryz.pinned.checked.prog.unfollowed 6) = true := by kernel_rfl
set_option maxRecDepth 100000 in
theorem f3 : (Rows.convergentBetweenRow.recurses == Tryz.pinned.checked.prog.recurses 6) = true := by kernel_rfl
set_option maxRecDepth 100000 in
theorem f4 : (Rows.convergentBetweenRow.named == Tryz.pinned.checked.prog.varsNamed 6) = true := by kernel_rfl
theorem band {a b : Bool} (h1 : a = true) (h2 : b = true) : (a && b) = true := by rw [h1, h2]; rfl
set_option maxHeartbeats 8000000 in
set_option maxRecDepth 100000 in
theorem facts : joinedFacts Tryz.pinned.checked.prog 6 Tryz.f6 (OpenSpec.ofChange Rows.convergentBetweenSpec).bare Rows.convergentBetweenRow = true := by
  unfold joinedFacts
  repeat' with_reducible apply band
  all_goals first
    | with_reducible exact f1
    | with_reducible exact f2
    | with_reducible exact f3
    | with_reducible exact f4
    | (as_aux_lemma => kernel_rfl)

set_option maxHeartbeats 8000000 in
set_option maxRecDepth 100000 in
theorem said : Rows.ConvergentBetweenSaid :=
  OpenClaim.holds_of_cond 6 Tryz.f6 rfl rfl rfl rfl rfl rfl rfl ⟨rfl, rfl, rfl, rfl, rfl⟩ rfl rfl rfl rfl rfl (by kernel_rfl) Tryz.func6 facts
    (of_decide_eq_true (by kernel_rfl)) (by unfold Func.isWrapper; first | (rw [if_pos (by decide +kernel)]; kernel_rfl) | (rw [if_neg (by decide +kernel)]; exact ⟨rfl, rfl⟩))
    (fun os started H enc _ F => by rw [OpenClaim.pre_eq_preRow]; exact lifted os started H enc F)

set_option maxRecDepth 100000 in
theorem plain (f : FuncId) (fn : Func) (hf : Tryz.pinned.checked.prog.funcNamed "schisma/schismalaw04.ConvergentBetween" = some f) (hfn : Tryz.pinned.checked.prog.funcs[f]? = some fn) :
    true = Tryz.pinned.checked.prog.looks [] ∧ ∀ (j : Nat) t, fn.params[j]? = some t → Tryz.pinned.checked.prog.wantsStandIn t = false := by
  obtain rfl : f = 6 := Option.some.inj ((show Tryz.prog.funcNamed "schisma/schismalaw04.ConvergentBetween" = some 6 by kernel_rfl).symm.trans hf) |>.symm
  obtain rfl : fn = Tryz.f6 := (Option.some.inj (Tryz.func6.symm.trans hfn)).symm
  refine ⟨by kernel_rfl, fun j t ht => ?_⟩
  rw [Tryz.params6] at ht
  have wt0 : Tryz.prog.wantsStandIn 24 = false := by kernel_rfl
  have wt1 : Tryz.prog.wantsStandIn 5 = false := by kernel_rfl
  have hm := Array.mem_of_getElem? ht
  simp only [List.mem_toArray, List.mem_cons, List.not_mem_nil, or_false] at hm
  rcases hm with rfl | rfl
  all_goals first | exact wt0 | exact wt1

set_option maxRecDepth 100000 in
theorem g_wf : Rows.convergentBetweenRow.wfByText (OpenSpec.ofChange Rows.convergentBetweenSpec) = true := by kernel_rfl
set_option maxRecDepth 100000 in
theorem g_goes : false = Rows.convergentBetweenRow.goesBy Tryz.pinned.checked.prog := by kernel_rfl
set_option maxHeartbeats 8000000 in
set_option maxRecDepth 100000 in
/-- The card. -/
theorem card : Rows.ConvergentBetweenCardSaid :=
  Claim7.holds_tied_plain_at .later [] _ _ _ _ said (fun _ h => by cases h) g_wf (fun _ h => by cases h) convergentBetween_row_tie rfl ⟨rfl, rfl⟩ (by as_aux_lemma => kernel_rfl) rfl plain g_goes
end Go.Proofs.YtpafocfpofnkpaaGreatDoor.convergentBetweenDone
