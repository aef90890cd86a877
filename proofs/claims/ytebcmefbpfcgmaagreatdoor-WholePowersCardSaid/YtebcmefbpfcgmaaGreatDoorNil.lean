/- append onto nil, for rows of uint64, of bytes, of ints. Printed by wip/gen_rows.py. -/
import Derived.Test.YtebcmefbpfcgmaaGreatDoorWords
namespace Go.Proofs.YtebcmefbpfcgmaaGreatDoor
open Go.RowKit

/-- append onto nil. -/
theorem append_nil_Pc {ops : Array Oper} {rest : List Oper} {o : Oper} {a : Act} {w : World} {Q : Exit → Act → World → Prop} (hgd : o.guard = none) (s x : Operand) (t : TypeId)
    (ho : o.op = .call { callee := .builtin .append, args := #[s, x], argTypes := #[t, t] }) (ht : Tryz.prog.underlying t = some (.slice 70))
    (hs : a.eval s = .slice none 0 0) (g2 m c : Nat) (ys : List Nat) (hx : a.eval x = .slice (some ⟨g2, 0, none⟩) m c) (hq : Pc w g2 m c ys) (hm : 0 < m) (hbd : m ≤ 1000000000000)
    (h : ∀ cap' w', Pc w' w.heap.size m cap' ys → Below w.heap.size w w' → wpList Tryz.prog ops Q rest (a.put o.dst (.slice (some ⟨w.heap.size, 0, none⟩) m cap')) w') :
    wpList Tryz.prog ops Q (o :: rest) a w := by
  obtain ⟨i, hi, hz, hsz, hb⟩ := info_parts Tryz.infoPc
  have hl := hq.len
  obtain ⟨v', w', hr, h2, h3, h4, h5⟩ := run_append_own_at (P := Tryz.prog) w w.heap.size t o.type 70 i _ 1 8 ht hi hz hsz hb rfl (by decide) _ 0 [] (World.ownsRow_nil w w.heap.size 70 1) ⟨g2, 0, none⟩ m c (U ys) (by rw [U_len]; omega)
    (fun j u hu => by
      have hj : j < m := by have := (List.getElem?_eq_some_iff.1 hu).1; rw [U_len] at this; omega
      have hadd : (⟨g2, 0, none⟩ : Addr).add j = ⟨g2, j, none⟩ := by unfold Addr.add; split <;> simp_all
      rw [hadd, World.ownsRow.cellAt hq j (by omega), hu])
    (U_one' ys) (by unfold maxLen; omega) (by omega) (Nat.le_refl _)
  rw [Nat.zero_add, List.nil_append] at h2
  obtain ⟨g', cap', rfl⟩ : ∃ g' cap', v' = .slice (some ⟨g', 0, none⟩) m cap' := by
    rcases h2.2 with ⟨e, _⟩ | ⟨g', cap', cur, e, _⟩
    · have := (h4.1 e).2; omega
    · exact ⟨g', cap', e⟩
  have hg' : g' = w.heap.size := by
    rcases h5 with h5 | h5
    · simp [Value.ownBlock] at h5
    · simpa [Value.ownBlock] using h5
  subst hg'
  refine wpList_plain hgd fun _ hK => ?_
  unfold Oper.wp execOp
  simp only [ho, resolve, invoke, builtin, Sem.run_bind, Sem.run_pure, Result.andThen_ok, List.map_toArray, List.map_cons, List.map_nil, hs, hx, hr]
  exact hK _ _ (h cap' w' (Pc.of_own h2 rfl) ⟨h3.os, h3.tape, h3.output, h3.size, fun k hk => h3.block k hk (by simp [Value.ownBlock])⟩)

/-- append onto nil. -/
theorem append_nil_Bc {ops : Array Oper} {rest : List Oper} {o : Oper} {a : Act} {w : World} {Q : Exit → Act → World → Prop} (hgd : o.guard = none) (s x : Operand) (t : TypeId)
    (ho : o.op = .call { callee := .builtin .append, args := #[s, x], argTypes := #[t, t] }) (ht : Tryz.prog.underlying t = some (.slice 5))
    (hs : a.eval s = .slice none 0 0) (g2 m c : Nat) (ys : List UInt8) (hx : a.eval x = .slice (some ⟨g2, 0, none⟩) m c) (hq : Bc w g2 m c ys) (hm : 0 < m) (hbd : m ≤ 1000000000000)
    (h : ∀ cap' w', Bc w' w.heap.size m cap' ys → Below w.heap.size w w' → wpList Tryz.prog ops Q rest (a.put o.dst (.slice (some ⟨w.heap.size, 0, none⟩) m cap')) w') :
    wpList Tryz.prog ops Q (o :: rest) a w := by
  obtain ⟨i, hi, hz, hsz, hb⟩ := info_parts Tryz.infoBc
  have hl := hq.len
  obtain ⟨v', w', hr, h2, h3, h4, h5⟩ := run_append_own_at (P := Tryz.prog) w w.heap.size t o.type 5 i _ 1 1 ht hi hz hsz hb rfl (by decide) _ 0 [] (World.ownsRow_nil w w.heap.size 5 1) ⟨g2, 0, none⟩ m c (V ys) (by rw [V_len]; omega)
    (fun j u hu => by
      have hj : j < m := by have := (List.getElem?_eq_some_iff.1 hu).1; rw [V_len] at this; omega
      have hadd : (⟨g2, 0, none⟩ : Addr).add j = ⟨g2, j, none⟩ := by unfold Addr.add; split <;> simp_all
      rw [hadd, World.ownsRow.cellAt hq j (by omega), hu])
    (V_one' ys) (by unfold maxLen; omega) (by omega) (Nat.le_refl _)
  rw [Nat.zero_add, List.nil_append] at h2
  obtain ⟨g', cap', rfl⟩ : ∃ g' cap', v' = .slice (some ⟨g', 0, none⟩) m cap' := by
    rcases h2.2 with ⟨e, _⟩ | ⟨g', cap', cur, e, _⟩
    · have := (h4.1 e).2; omega
    · exact ⟨g', cap', e⟩
  have hg' : g' = w.heap.size := by
    rcases h5 with h5 | h5
    · simp [Value.ownBlock] at h5
    · simpa [Value.ownBlock] using h5
  subst hg'
  refine wpList_plain hgd fun _ hK => ?_
  unfold Oper.wp execOp
  simp only [ho, resolve, invoke, builtin, Sem.run_bind, Sem.run_pure, Result.andThen_ok, List.map_toArray, List.map_cons, List.map_nil, hs, hx, hr]
  exact hK _ _ (h cap' w' (Bc.of_own h2 rfl) ⟨h3.os, h3.tape, h3.output, h3.size, fun k hk => h3.block k hk (by simp [Value.ownBlock])⟩)

/-- append onto nil. -/
theorem append_nil_Ic {ops : Array Oper} {rest : List Oper} {o : Oper} {a : Act} {w : World} {Q : Exit → Act → World → Prop} (hgd : o.guard = none) (s x : Operand) (t : TypeId)
    (ho : o.op = .call { callee := .builtin .append, args := #[s, x], argTypes := #[t, t] }) (ht : Tryz.prog.underlying t = some (.slice 3))
    (hs : a.eval s = .slice none 0 0) (g2 m c : Nat) (ys : List Int) (hx : a.eval x = .slice (some ⟨g2, 0, none⟩) m c) (hq : Ic w g2 m c ys) (hm : 0 < m) (hbd : m ≤ 1000000000000)
    (h : ∀ cap' w', Ic w' w.heap.size m cap' ys → Below w.heap.size w w' → wpList Tryz.prog ops Q rest (a.put o.dst (.slice (some ⟨w.heap.size, 0, none⟩) m cap')) w') :
    wpList Tryz.prog ops Q (o :: rest) a w := by
  obtain ⟨i, hi, hz, hsz, hb⟩ := info_parts Tryz.infoIc
  have hl := hq.len
  obtain ⟨v', w', hr, h2, h3, h4, h5⟩ := run_append_own_at (P := Tryz.prog) w w.heap.size t o.type 3 i _ 1 8 ht hi hz hsz hb rfl (by decide) _ 0 [] (World.ownsRow_nil w w.heap.size 3 1) ⟨g2, 0, none⟩ m c (I ys) (by rw [I_len]; omega)
    (fun j u hu => by
      have hj : j < m := by have := (List.getElem?_eq_some_iff.1 hu).1; rw [I_len] at this; omega
      have hadd : (⟨g2, 0, none⟩ : Addr).add j = ⟨g2, j, none⟩ := by unfold Addr.add; split <;> simp_all
      rw [hadd, World.ownsRow.cellAt hq j (by omega), hu])
    (I_one' ys) (by unfold maxLen; omega) (by omega) (Nat.le_refl _)
  rw [Nat.zero_add, List.nil_append] at h2
  obtain ⟨g', cap', rfl⟩ : ∃ g' cap', v' = .slice (some ⟨g', 0, none⟩) m cap' := by
    rcases h2.2 with ⟨e, _⟩ | ⟨g', cap', cur, e, _⟩
    · have := (h4.1 e).2; omega
    · exact ⟨g', cap', e⟩
  have hg' : g' = w.heap.size := by
    rcases h5 with h5 | h5
    · simp [Value.ownBlock] at h5
    · simpa [Value.ownBlock] using h5
  subst hg'
  refine wpList_plain hgd fun _ hK => ?_
  unfold Oper.wp execOp
  simp only [ho, resolve, invoke, builtin, Sem.run_bind, Sem.run_pure, Result.andThen_ok, List.map_toArray, List.map_cons, List.map_nil, hs, hx, hr]
  exact hK _ _ (h cap' w' (Ic.of_own h2 rfl) ⟨h3.os, h3.tape, h3.output, h3.size, fun k hk => h3.block k hk (by simp [Value.ownBlock])⟩)
end Go.Proofs.YtebcmefbpfcgmaaGreatDoor
