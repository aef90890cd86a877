/- append(s, make([]uint64, k)...): the translation hands the builtin the number k. -/
import Derived.Test.YtebcmefbpfcgmaaGreatDoorBase
import Derived.Lib.AppendZerosOnto
import Derived.Laws.CopyRow
namespace Go.Proofs.YtebcmefbpfcgmaaGreatDoor
open Go.RowKit

theorem zeroCells_one (k : Nat) : (Builtin.zeroCells #[Value.int .u64 0] k).toList = U (List.replicate k 0) := by
  apply List.ext_getElem?
  intro j
  by_cases hj : j < k
  · simp [Builtin.zeroCells, U, hj, Nat.mod_one]
  · simp [Builtin.zeroCells, U, hj]
theorem run_append_zeros (w : World) (T Tn ty : TypeId) (kn : IntKind) (hT : Tryz.prog.underlying T = some (.slice 70)) (hTn : Tryz.prog.underlying Tn = some (.int kn)) (g n cap : Nat) (xs : List Nat) (hp : Pc w g n cap xs) (kq : IntKind) (k : Nat) (hbd : n + k ≤ 1000000000000) :
    ∃ g' cap' w', (Builtin.append_ #[T, Tn] ty #[.slice (some ⟨g, 0, none⟩) n cap, .int kq (k : Int)]).run Tryz.prog w = .ok (.slice (some ⟨g', 0, none⟩) (n + k) cap') w' ∧ Pc w' g' (n + k) cap' (xs ++ List.replicate k 0) ∧ Only g w w' ∧ (g' = g ∨ g' = w.heap.size) := by
  obtain ⟨i, hi, hz, hsz, hb⟩ := info_parts Tryz.infoPc
  obtain ⟨cur, hh, h1, h2, h3, h4⟩ := hp.form
  have hxl := hp.len
  have hcl : Value.cells (.int .u64 0) = #[Value.int .u64 0] := rfl
  by_cases hroom : n + k ≤ cap
  · have hw : IntKind.i64.wrap (k : Int) = k := by rw [IntKind.wrap_i64]; omega
    have hneg : ¬ ((k : Int) < 0) := by omega
    have h48i : ¬ (281474976710656 < (k : Int) * (i.bytes : Int)) := by rw [hb]; omega
    have hst := run_storeCells_at Tryz.prog g n 70 (U (List.replicate k 0)) 0 cur w hh (by rw [U_len, List.length_replicate]; omega) (U_one' _)
    simp only [Nat.add_zero, U_len, List.length_replicate] at hst
    have hset : Pc (w.setRow g (cur.toList.take n ++ U (List.replicate k 0) ++ cur.toList.drop (n + k)).toArray) g (n + k) cap (xs ++ List.replicate k 0) := by
      refine Pc.mk' (setRow_heap w g cur _ 70 _ hh) hroom h2 ?_ ?_
      · simp only [List.size_toArray, List.length_append, List.length_take, List.length_drop, Array.length_toList, U_len, List.length_replicate]; omega
      · rw [h4, U_append]
        exact List.take_left' (by rw [U_len, List.length_append, List.length_replicate]; omega)
    have hon : Only g w (w.setRow g (cur.toList.take n ++ U (List.replicate k 0) ++ cur.toList.drop (n + k)).toArray) :=
      ⟨rfl, rfl, rfl, by simp, fun j _ hj => setRow_other w g j _ (fun e => hj (by rw [e]))⟩
    by_cases hk : k = 0
    · subst hk
      have hw0 : IntKind.i64.wrap 0 = 0 := by rw [IntKind.wrap_i64]; omega
      refine ⟨g, cap, w, ?_, by simpa using hp, Only.refl _ _, .inl rfl⟩
      simp [Builtin.append_, run_underlying hT, run_underlying hTn, sizeOf, typeInfo, hi, asInt, asIntOf, hw0, h1, storeCells, Addr.add_lit]
    · refine ⟨g, cap, _, ?_, hset, hon, .inl rfl⟩
      have hzc : (Builtin.zeroCells (Value.cells (.int .u64 0)) k).toList = U (List.replicate k 0) := zeroCells_one k
      simp [Builtin.append_, run_underlying hT, run_underlying hTn, sizeOf, typeInfo, zeroValue, hi, hz, hsz, asInt, asIntOf, hw, hneg, hk, h48i, hroom, Addr.add_lit, hst, hzc]
  · have hk : 0 < k := by omega
    have holds : ∀ j u, (U xs)[j]? = some u → w.drew.cell? ((⟨g, 0, none⟩ : Addr).add j) = some u := fun j u hu => by
      have hadd : (⟨g, 0, none⟩ : Addr).add j = ⟨g, j, none⟩ := by unfold Addr.add; split <;> simp_all
      have hj : j < n := by have := (List.getElem?_eq_some_iff.1 hu).1; rw [U_len] at this; omega
      rw [hadd, World.cell?_drew, World.ownsRow.cellAt hp j (by omega), hu]
    have hold := run_firstCells_some (P := Tryz.prog) w.drew i.size n ⟨g, 0, none⟩ n cap (U xs) (by rw [hsz, U_len]; omega) holds
    have hnx := nextslicecap_le (need := n + k) (old := cap) (by omega)
    have hr := Lib.run_append_grow_zeros (P := Tryz.prog) w T Tn ty 70 i _ kq kn hT hTn hi hz (some ⟨g, 0, none⟩) n cap (U xs) hold k hk (by omega) (by omega) (by omega) (by rw [hb]; omega) (by rw [hb]; omega)
    refine ⟨w.heap.size, _, _, hr, ?_, ⟨rfl, rfl, rfl, by simp, fun j hj _ => Below.heap_alloc w.drew _ j hj⟩, .inr rfl⟩
    have hge := grownCap_ge w (n + k) cap 70
    have hcm : grownCap w (n + k) cap 70 ≤ maxLen := grownCap_le_maxLen w (n + k) cap 70 (by unfold maxLen; omega)
    refine Pc.mk' (heap_alloc_new w.drew _) hge hcm ?_ ?_
    · simp only [Array.size_append, List.size_toArray, size_zeroCells, U_len, hcl]
      simp
      omega
    · simp only [Array.toList_append, List.append_assoc]
      rw [hcl, zeroCells_one, ← List.append_assoc, U_append]
      exact List.take_left' (by rw [U_len, List.length_append, List.length_replicate]; omega)

/-- At the list of a plain region's operations. -/
theorem append_zeros {ops : Array Oper} {rest : List Oper} {o : Oper} {a : Act} {w : World} {Q : Exit → Act → World → Prop} (hgd : o.guard = none) (s x : Operand) (T Tn : TypeId) (kn : IntKind)
    (ho : o.op = .call { callee := .builtin .append, args := #[s, x], argTypes := #[T, Tn] }) (hT : Tryz.prog.underlying T = some (.slice 70)) (hTn : Tryz.prog.underlying Tn = some (.int kn))
    (g n cap : Nat) (xs : List Nat) (hs : a.eval s = .slice (some ⟨g, 0, none⟩) n cap) (hp : Pc w g n cap xs) (kq : IntKind) (k : Nat) (hx : a.eval x = .int kq (k : Int)) (hbd : n + k ≤ 1000000000000)
    (h : ∀ g' cap' w', Pc w' g' (n + k) cap' (xs ++ List.replicate k 0) → Only g w w' → (g' = g ∨ g' = w.heap.size) → wpList Tryz.prog ops Q rest (a.put o.dst (.slice (some ⟨g', 0, none⟩) (n + k) cap')) w') :
    wpList Tryz.prog ops Q (o :: rest) a w := by
  obtain ⟨g', cap', w', hr, h2, h3, h4⟩ := run_append_zeros w T Tn o.type kn hT hTn g n cap xs hp kq k hbd
  refine wpList_plain hgd fun _ hK => ?_
  unfold Oper.wp execOp
  simp only [ho, resolve, invoke, builtin, Sem.run_bind, Sem.run_pure, Result.andThen_ok, List.map_toArray, List.map_cons, List.map_nil, hs, hx, hr]
  exact hK _ _ (h g' cap' w' h2 h3 h4)
end Go.Proofs.YtebcmefbpfcgmaaGreatDoor
