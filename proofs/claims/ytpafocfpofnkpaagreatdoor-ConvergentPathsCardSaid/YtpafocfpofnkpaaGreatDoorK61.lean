/- Greater text, out of: Nil, K61. -/
import Derived.Test.YtpafocfpofnkpaaGreatDoorGa
import Derived.Test.YtpafocfpofnkpaaGreatDoorK60
import Derived.Test.YtpafocfpofnkpaaGreatDoorK44
import Derived.Test.YtpafocfpofnkpaaGreatDoorK40
import Derived.Laws.BytesArg
namespace Go.Proofs.YtpafocfpofnkpaaGreatDoor
section
open Go.RowKit

/-- append onto nil. -/
theorem append_nil_Pc {ops : Array Oper} {rest : List Oper} {o : Oper} {a : Act} {w : World} {Q : Exit → Act → World → Prop} (hgd : o.guard = none) (s x : Operand) (t : TypeId)
    (ho : o.op = .call { callee := .builtin .append, args := #[s, x], argTypes := #[t, t] }) (ht : Tryz.prog.underlying t = some (.slice 126))
    (hs : a.eval s = .slice none 0 0) (g2 m c : Nat) (ys : List Nat) (hx : a.eval x = .slice (some ⟨g2, 0, none⟩) m c) (hq : Pc w g2 m c ys) (hm : 0 < m) (hbd : m ≤ 1000000000000)
    (h : ∀ cap' w', Pc w' w.heap.size m cap' ys → Below w.heap.size w w' → wpList Tryz.prog ops Q rest (a.put o.dst (.slice (some ⟨w.heap.size, 0, none⟩) m cap')) w') :
    wpList Tryz.prog ops Q (o :: rest) a w := by
  obtain ⟨i, hi, hz, hsz, hb⟩ := info_parts Tryz.infoPc
  have hl := hq.len
  obtain ⟨v', w', hr, h2, h3, h4, h5⟩ := run_append_own_at (P := Tryz.prog) w w.heap.size t o.type 126 i _ 1 8 ht hi hz hsz hb rfl (by decide) _ 0 [] (World.ownsRow_nil w w.heap.size 126 1) ⟨g2, 0, none⟩ m c (U ys) (by rw [U_len]; omega)
    (fun j u hu => by
      have hj : j < m := by have := (List.getElem?_eq_some_iff.1 hu).1; rw [U_len] at this; omega
      have hadd : (⟨g2, 0, none⟩ : Addr).add j = ⟨g2, j, none⟩ := by unfold Addr.add; split <;> simp_all
      rw [hadd, World.ownsRow.cellAt hq j (by omega), hu])
    (U_one' ys) (by unfold maxLen; omega) (by omega) (Nat.le_refl _)
  rw [Nat.zero_add, List.nil_append] at h2
  obtain ⟨g', cap', rfl⟩ : ∃ g' cap', v' = .slice (some ⟨g', 0, none⟩) m cap' := by
    rcases h2.2 with ⟨e, _⟩ | ⟨g', cap', cur, e, _⟩
    · have := (h4.1 e).2; omega
    · exact ⟨g', cap', e⟩
  have hg' : g' = w.heap.size := by
    rcases h5 with h5 | h5
    · simp [Value.ownBlock] at h5
    · simpa [Value.ownBlock] using h5
  subst hg'
  refine wpList_plain hgd fun _ hK => ?_
  unfold Oper.wp execOp
  simp only [ho, resolve, invoke, builtin, Sem.run_bind, Sem.run_pure, Result.andThen_ok, List.map_toArray, List.map_cons, List.map_nil, hs, hx, hr]
  exact hK _ _ (h cap' w' (Pc.of_own h2 rfl) ⟨h3.os, h3.tape, h3.output, h3.size, fun k hk => h3.block k hk (by simp [Value.ownBlock])⟩)

/-- append onto nil. -/
theorem append_nil_Bc {ops : Array Oper} {rest : List Oper} {o : Oper} {a : Act} {w : World} {Q : Exit → Act → World → Prop} (hgd : o.guard = none) (s x : Operand) (t : TypeId)
    (ho : o.op = .call { callee := .builtin .append, args := #[s, x], argTypes := #[t, t] }) (ht : Tryz.prog.underlying t = some (.slice 5))
    (hs : a.eval s = .slice none 0 0) (g2 m c : Nat) (ys : List UInt8) (hx : a.eval x = .slice (some ⟨g2, 0, none⟩) m c) (hq : Bc w g2 m c ys) (hm : 0 < m) (hbd : m ≤ 1000000000000)
    (h : ∀ cap' w', Bc w' w.heap.size m cap' ys → Below w.heap.size w w' → wpList Tryz.prog ops Q rest (a.put o.dst (.slice (some ⟨w.heap.size, 0, none⟩) m cap')) w') :
    wpList Tryz.prog ops Q (o :: rest) a w := by
  obtain ⟨i, hi, hz, hsz, hb⟩ := info_parts Tryz.infoBc
  have hl := hq.len
  obtain ⟨v', w', hr, h2, h3, h4, h5⟩ := run_append_own_at (P := Tryz.prog) w w.heap.size t o.type 5 i _ 1 1 ht hi hz hsz hb rfl (by decide) _ 0 [] (World.ownsRow_nil w w.heap.size 5 1) ⟨g2, 0, none⟩ m c (V ys) (by rw [V_len]; omega)
    (fun j u hu => by
      have hj : j < m := by have := (List.getElem?_eq_some_iff.1 hu).1; rw [V_len] at this; omega
      have hadd : (⟨g2, 0, none⟩ : Addr).add j = ⟨g2, j, none⟩ := by unfold Addr.add; split <;> simp_all
      rw [hadd, World.ownsRow.cellAt hq j (by omega), hu])
    (V_one' ys) (by unfold maxLen; omega) (by omega) (Nat.le_refl _)
  rw [Nat.zero_add, List.nil_append] at h2
  obtain ⟨g', cap', rfl⟩ : ∃ g' cap', v' = .slice (some ⟨g', 0, none⟩) m cap' := by
    rcases h2.2 with ⟨e, _⟩ | ⟨g', cap', cur, e, _⟩
    · have := (h4.1 e).2; omega
    · exact ⟨g', cap', e⟩
  have hg' : g' = w.heap.size := by
    rcases h5 with h5 | h5
    · simp [Value.ownBlock] at h5
    · simpa [Value.ownBlock] using h5
  subst hg'
  refine wpList_plain hgd fun _ hK => ?_
  unfold Oper.wp execOp
  simp only [ho, resolve, invoke, builtin, Sem.run_bind, Sem.run_pure, Result.andThen_ok, List.map_toArray, List.map_cons, List.map_nil, hs, hx, hr]
  exact hK _ _ (h cap' w' (Bc.of_own h2 rfl) ⟨h3.os, h3.tape, h3.output, h3.size, fun k hk => h3.block k hk (by simp [Value.ownBlock])⟩)

/-- append onto nil. -/
theorem append_nil_Ic {ops : Array Oper} {rest : List Oper} {o : Oper} {a : Act} {w : World} {Q : Exit → Act → World → Prop} (hgd : o.guard = none) (s x : Operand) (t : TypeId)
    (ho : o.op = .call { callee := .builtin .append, args := #[s, x], argTypes := #[t, t] }) (ht : Tryz.prog.underlying t = some (.slice 3))
    (hs : a.eval s = .slice none 0 0) (g2 m c : Nat) (ys : List Int) (hx : a.eval x = .slice (some ⟨g2, 0, none⟩) m c) (hq : Ic w g2 m c ys) (hm : 0 < m) (hbd : m ≤ 1000000000000)
    (h : ∀ cap' w', Ic w' w.heap.size m cap' ys → Below w.heap.size w w' → wpList Tryz.prog ops Q rest (a.put o.dst (.slice (some ⟨w.heap.size, 0, none⟩) m cap')) w') :
    wpList Tryz.prog ops Q (o :: rest) a w := by
  obtain ⟨i, hi, hz, hsz, hb⟩ := info_parts Tryz.infoIc
  have hl := hq.len
  obtain ⟨v', w', hr, h2, h3, h4, h5⟩ := run_append_own_at (P := Tryz.prog) w w.heap.size t o.type 3 i _ 1 8 ht hi hz hsz hb rfl (by decide) _ 0 [] (World.ownsRow_nil w w.heap.size 3 1) ⟨g2, 0, none⟩ m c (I ys) (by rw [I_len]; omega)
    (fun j u hu => by
      have hj : j < m := by have := (List.getElem?_eq_some_iff.1 hu).1; rw [I_len] at this; omega
      have hadd : (⟨g2, 0, none⟩ : Addr).add j = ⟨g2, j, none⟩ := by unfold Addr.add; split <;> simp_all
      rw [hadd, World.ownsRow.cellAt hq j (by omega), hu])
    (I_one' ys) (by unfold maxLen; omega) (by omega) (Nat.le_refl _)
  rw [Nat.zero_add, List.nil_append] at h2
  obtain ⟨g', cap', rfl⟩ : ∃ g' cap', v' = .slice (some ⟨g', 0, none⟩) m cap' := by
    rcases h2.2 with ⟨e, _⟩ | ⟨g', cap', cur, e, _⟩
    · have := (h4.1 e).2; omega
    · exact ⟨g', cap', e⟩
  have hg' : g' = w.heap.size := by
    rcases h5 with h5 | h5
    · simp [Value.ownBlock] at h5
    · simpa [Value.ownBlock] using h5
  subst hg'
  refine wpList_plain hgd fun _ hK => ?_
  unfold Oper.wp execOp
  simp only [ho, resolve, invoke, builtin, Sem.run_bind, Sem.run_pure, Result.andThen_ok, List.map_toArray, List.map_cons, List.map_nil, hs, hx, hr]
  exact hK _ _ (h cap' w' (Ic.of_own h2 rfl) ⟨h3.os, h3.tape, h3.output, h3.size, fun k hk => h3.block k hk (by simp [Value.ownBlock])⟩)
end
section
open Go.RowKit Go.PlainAid
attribute [local go_sem] field_rat0 field_rat1
/-- A slice of bytes that is nil or lies in a block from B on. -/
def OwnB (B : Nat) (w : World) (v : Value) (xs : List UInt8) : Prop := (v = .slice none 0 0 ∧ xs = []) ∨ ∃ g cap, v = .slice (some ⟨g, 0, none⟩) xs.length cap ∧ B ≤ g ∧ Bc w g xs.length cap xs
theorem OwnB.nil (B : Nat) (w : World) : OwnB B w (.slice none 0 0) [] := .inl ⟨rfl, rfl⟩
theorem OwnB.drewN {B : Nat} {w : World} {v : Value} {xs : List UInt8} (h : OwnB B w v xs) (k : Nat) : OwnB B (w.drewN k) v xs := h
theorem OwnB.below {B : Nat} {w w' : World} {v : Value} {xs : List UInt8} (h : OwnB B w v xs) (hb : Below w.heap.size w w') : OwnB B w' v xs := by
  rcases h with h | ⟨g, c, e, hg, h⟩
  · exact .inl h
  · exact .inr ⟨g, c, e, hg, h.below hb h.lt⟩
theorem OwnB.mono {B B' : Nat} {w : World} {v : Value} {xs : List UInt8} (h : OwnB B w v xs) (hB : B' ≤ B) : OwnB B' w v xs := by
  rcases h with h | ⟨g, c, e, hg, h⟩
  · exact .inl h
  · exact .inr ⟨g, c, e, by omega, h⟩
theorem append_OwnB {ops : Array Oper} {rest : List Oper} {o : Oper} {a : Act} {w : World} {Q : Exit → Act → World → Prop} (hgd : o.guard = none) (s x : Operand) (t : TypeId)
    (ho : o.op = .call { callee := .builtin .append, args := #[s, x], argTypes := #[t, t] }) (ht : Tryz.prog.underlying t = some (.slice 5))
    (B : Nat) (v : Value) (xs : List UInt8) (w0 : World) (hs : a.eval s = v) (hp : OwnB B w0 v xs) (hB : B ≤ w0.heap.size) (hn : xs.length ≤ 1000000000) (y : UInt8)
    (hw : w = w0.alloc (.cells #[.int .u8 (y.toNat : Int)] 5)) (hx : a.eval x = .slice (some ⟨w0.heap.size, 0, none⟩) 1 1)
    (h : ∀ v' w', OwnB B w' v' (xs ++ [y]) → Below B w0 w' → wpList Tryz.prog ops Q rest (a.put o.dst v') w') :
    wpList Tryz.prog ops Q (o :: rest) a w := by
  subst hw
  have hone := Bc.one w0 y
  rcases hp with ⟨rfl, rfl⟩ | ⟨g, cap, rfl, hg, hp⟩
  · refine append_nil_Bc hgd s x t ho ht hs _ 1 1 [y] hx hone (by omega) (by omega) ?_
    intro cap' w' hq hb
    have hsz : (w0.alloc (.cells #[.int .u8 (y.toNat : Int)] 5)).heap.size = w0.heap.size + 1 := World.size_alloc _ _
    exact h _ _ (.inr ⟨_, cap', rfl, by rw [hsz]; omega, hq⟩) (((Below.refl B w0).alloc hB _).trans (hb.mono (by rw [hsz]; omega)))
  · refine append_Bc hgd s x t ho ht g xs.length cap xs hs (hp.alloc _) _ 1 1 [y] hx hone (by omega) ?_
    intro g' cap' w' hq hon hat
    rw [World.size_alloc] at hat
    have hgl := hp.lt
    refine h _ _ (.inr ⟨g', cap', by rw [List.length_append]; rfl, by rcases hat with h | h <;> omega, by rw [List.length_append]; exact hq⟩) ?_
    exact bel_only ((Below.refl B w0).alloc hB _) hon hg (by rw [World.size_alloc]; omega)

theorem OwnB.str {B : Nat} {w : World} {v : Value} {xs : List UInt8} (h : OwnB B w v xs) : (convert 80 9 v).run Tryz.prog w = .ok (.string ⟨xs.toArray⟩) w := by
  rcases h with ⟨rfl, rfl⟩ | ⟨g, cap, rfl, _, h⟩
  · exact run_convert_bytes_nil (P := Tryz.prog) w 80 5 Tryz.underlying80 Tryz.underlying5 0 0 9 Tryz.underlying9
  · exact str_of_Bc 80 9 Tryz.underlying80 Tryz.underlying9 h
theorem OwnB.form {B : Nat} {w : World} {v : Value} {xs : List UInt8} (h : OwnB B w v xs) : ∃ A n cap, v = .slice A n cap := by
  rcases h with ⟨rfl, _⟩ | ⟨g, cap, rfl, _⟩
  · exact ⟨_, _, _, rfl⟩
  · exact ⟨_, _, _, rfl⟩
theorem way_size (l : List Bool) : (way l).size = l.length := by
  show (wayL l).toArray.size = l.length
  simp [wayL]
theorem way_bt (l : List Bool) (i : Nat) (h : i < l.length) : bt (way l) i = (if l.getD i false = true then 82 else 76) := by
  rw [bt_at (way l) i (by rw [way_size]; exact h)]
  show (((wayL l).toArray.toList.getD i 0).toNat : Int) = _
  rw [List.toList_toArray, wayL, List.getD_eq_getElem?_getD, List.getElem?_map, List.getD_eq_getElem?_getD, List.getElem?_eq_getElem h]
  show ((if l[i] = true then (82 : UInt8) else 76).toNat : Int) = if l[i] = true then 82 else 76
  split <;> rfl
theorem at_take (l : List Bool) (i : Nat) (h : i < l.length) : q0.at (l.take (i + 1)) = (q0.at (l.take i)).go (l.getD i false) := by
  rw [List.take_add_one, List.getElem?_eq_getElem h, Option.toList, Q4.at_snoc, List.getD_eq_getElem?_getD, List.getElem?_eq_getElem h]; rfl
/-- How great the numbers become on a short way. -/
theorem at_bd30 (l : List Bool) (hl : l.length ≤ 31) (i : Nat) : (q0.at (l.take i)).Le 2147483648 := by
  have h := at_le (l.take i) q0 1 Q4.Le.zero
  have k1 : 2 ^ (l.take i).length ≤ 2 ^ 31 := Nat.pow_le_pow_right (by decide) (by rw [List.length_take]; omega)
  have k2 : ((2 ^ (l.take i).length : Nat) : Int) = (2 : Int) ^ (l.take i).length := by rw [Int.natCast_pow]; rfl
  rw [← k2, Int.mul_one] at h
  obtain ⟨n, hn⟩ : ∃ n, 2 ^ (l.take i).length = n := ⟨_, rfl⟩
  rw [hn] at h k1
  have k3 : (n : Int) ≤ 2147483648 := by omega
  obtain ⟨h1, h2, h3, h4, h5, h6, h7, h8, h9⟩ := h
  exact ⟨h1, by omega, h3, by omega, h5, by omega, h7, by omega, h9⟩

set_option maxRecDepth 100000 in
set_option maxHeartbeats 4000000 in
/-- schismaref04.At. -/
theorem r4at_any (l : List Bool) (w : World) (hl : l.length ≤ 30) :
    Calls Tryz.prog 26 #[.string (way l)] w (SmallRes (rv (Rat.divInt ((q0.at l).a + (q0.at l).c) ((q0.at l).b + (q0.at l).d))) w) := by
  have HBD := Lib.hid (fun i => at_bd30 l (by omega) i)
  have HAT := Lib.hid (fun i h => at_take l i h)
  have HBT := Lib.hid (fun i h => way_bt l i h)
  have hsz := way_size l
  have HEND := Lib.hid (show q0.at (l.take l.length) = q0.at l by rw [List.take_of_length_le (Nat.le_refl _)])
  obtain ⟨m, hm⟩ : ∃ m, l.length = m := ⟨_, rfl⟩
  rw [hm] at hl HAT HBT HEND hsz
  obtain ⟨s, hs⟩ : ∃ s, way l = s := ⟨_, rfl⟩
  rw [hs] at HBT hsz ⊢
  have hbt := get_bt s
  rw [← HEND.out]
  clear hm hs
  go_enter Tryz.func26, Tryz.ntmps26
  go_wp2_with fail
  obtain ⟨W, hW⟩ : ∃ W, (w.alloc (.cells #[.string ⟨#[]⟩, .string ⟨#[]⟩] 24)) = W := ⟨_, rfl⟩
  try rw [hW]
  obtain ⟨hX, hBW⟩ := B1.of hW
  have HB := Lib.hid hBW
  have HXB := Lib.hid (fun wz (hb : Below W.heap.size W wz) => hX.later hb)
  clear hW hX hBW
  go_loopw [3, 4, 5, 6, 7] (fun va vb vc vd vi wr => ∃ i : Nat, i ≤ m ∧ vi = .int .i64 (i : Int) ∧ va = .int .i64 (q0.at (l.take i)).a ∧ vb = .int .i64 (q0.at (l.take i)).b ∧ vc = .int .i64 (q0.at (l.take i)).c ∧ vd = .int .i64 (q0.at (l.take i)).d ∧ Below W.heap.size W wr) (fun _ _ _ _ vi _ => m - (intOf vi).toNat)
  case atStart => exact ⟨0, Nat.zero_le _, by first | rfl | (simp; done), rfl, rfl, rfl, rfl, Below.refl _ _⟩
  case round =>
    obtain ⟨i, hi, rfl, rfl, rfl, rfl, rfl, hB⟩ := hrel
    have HBR := Lib.hid hB
    clear hB
    have hbd := HBD.out i
    obtain ⟨z, hz⟩ : ∃ z, q0.at (l.take i) = z := ⟨_, rfl⟩
    rw [hz] at hbd
    obtain ⟨h1, h2, h3, h4, h5, h6, h7, h8, h9⟩ := hbd
    have w1 : IntKind.i64.wrap (z.a + z.c) = z.a + z.c := IntWalk.i64_in _ (by omega)
    have w2 : IntKind.i64.wrap (z.b + z.d) = z.b + z.d := IntWalk.i64_in _ (by omega)
    have HM := Lib.hid (fun w => r4make_any (z.a + z.c) (z.b + z.d) w ⟨by omega, by omega⟩ h9 (by omega))
    by_cases hie : i = m
    · subst hie
      rw [hz]
      have hlt : ¬ (i : Int) < (i : Int) := by omega
      obtain ⟨Y, hY⟩ : ∃ Y, Rat.divInt (z.a + z.c) (z.b + z.d) = Y := ⟨_, rfl⟩
      rw [hY] at HM
      have HYY := Lib.hid hY
      have HZZ := Lib.hid hz
      obtain ⟨za, zb, zc, zd⟩ := z
      dsimp only at *
      clear hz hY h1 h2 h3 h4 h5 h6 h7 h8 h9 hbt
      go_wp2_with fail
      refine (HM.out wr).mono ?_
      rintro e w5 ⟨rfl, hb5⟩
      have hz5 := bel_chain HBR.out hb5
      have HL5 := Lib.hid (HXB.out _ hz5)
      obtain ⟨_, c0, c1, f0, f1⟩ := HXB.out _ hz5
      clear hb5
      go_wp2_with fail
      refine ret_cell rfl rfl (load_rat (g := w.heap.size) (HL5.out.store0 _ _)) rfl ?_
      rw [HZZ.out]
      dsimp only
      rw [HYY.out]
      exact ⟨rfl, ((bel_chain HB.out hz5).setCell (by simp <;> omega) _).setCell (by simp <;> omega) _⟩
    · have hlt : (i : Int) < (m : Int) := by omega
      have hltn : i < m := by omega
      have hb := HBT.out i hltn
      have HNX := Lib.hid (HAT.out i hltn)
      obtain ⟨r, hr⟩ : ∃ r, l.getD i false = r := ⟨_, rfl⟩
      rw [hr] at hb HNX
      rw [hz] at HNX ⊢
      obtain ⟨za, zb, zc, zd⟩ := z
      dsimp only at *
      clear hz hr h1 h2 h3 h4 h5 h6 h7 h8 h9 HM
      cases r
      · have hb' : bt s i = 76 := by rw [hb, if_neg (by decide)]
        have HN := Lib.hid (show q0.at (l.take (i + 1)) = ⟨za, zb, za + zc, zb + zd⟩ from HNX.out)
        clear hb
        go_wp2_with fail
        go_roundw
        case rel => exact ⟨i + 1, by omega, by go_num, by rw [HN.out], by rw [HN.out], by rw [HN.out], by rw [HN.out], HBR.out⟩
        case measure => simp [intOf]; omega
      · have hb' : bt s i = 82 := by rw [hb, if_pos rfl]
        have HN := Lib.hid (show q0.at (l.take (i + 1)) = ⟨za + zc, zb + zd, zc, zd⟩ from HNX.out)
        clear hb
        go_wp2_with fail
        go_roundw
        case rel => exact ⟨i + 1, by omega, by go_num, by rw [HN.out], by rw [HN.out], by rw [HN.out], by rw [HN.out], HBR.out⟩
        case measure => simp [intOf]; omega

set_option maxRecDepth 100000 in
set_option maxHeartbeats 4000000 in
/-- schismaref04.Path. -/
theorem r4path_any (n d : Int) (w : World) (hn0 : 0 < n) (hd0 : 0 < d) (hn : n ≤ 1000000000) (hd : d ≤ 1000000000) (hlen : (sb true n d).length ≤ 1000000) :
    Calls Tryz.prog 25 #[.int .i64 n, .int .i64 d] w (SmallRes (.string (way (sb true n d))) w) := by
  obtain ⟨S, hS⟩ : ∃ S, sb true n d = S := ⟨_, rfl⟩
  have HS := Lib.hid hS
  rw [hS] at hlen ⊢
  have HPI := Lib.hid (PI.beg hn0 hd0)
  have HPR := Lib.hid (fun (p q : Int) (h1 : 0 ≤ p) (h2 : p ≤ 1000000000) (h3 : 0 ≤ q) (h4 : q ≤ 1000000000) => pr4 (a := p) (b := q) (A := 1000000000) (B := 1000000000) (by omega) (by omega))
  clear hS
  go_enter Tryz.func25, Tryz.ntmps25
  go_wp2_with fail
  go_loopw [5, 6, 7, 8, 9] (fun va vb vc vd vs wr => ∃ (z : Q4) (n' d' : Int) (pre : List Bool), PI n d n' d' z ∧ va = .int .i64 z.a ∧ vb = .int .i64 z.b ∧ vc = .int .i64 z.c ∧ vd = .int .i64 z.d ∧ OwnB w.heap.size wr vs (wayL pre) ∧ Hid (S = pre ++ sb true n' d') ∧ Below w.heap.size w wr) (fun va vb vc vd _ _ => (n + d - (intOf va + intOf vb + intOf vc + intOf vd)).toNat)
  case atStart => exact ⟨q0, n, d, [], HPI.out, rfl, rfl, rfl, rfl, OwnB.nil _ _, Lib.hid HS.out.symm, Below.refl _ _⟩
  case round =>
    obtain ⟨z, n', d', pre, hpi, rfl, rfl, rfl, rfl, hown, HE, hB⟩ := hrel
    have HB := Lib.hid hB
    have HO := Lib.hid hown
    have HSTR := Lib.hid hown.str
    obtain ⟨Av, An, Ac, hv⟩ := hown.form
    subst hv
    have hlp : (wayL pre).length ≤ 1000000000 := by
      have := congrArg List.length HE.out
      rw [List.length_append] at this
      rw [wayL_len]; omega
    have hcmp := hpi.cmp
    have hbd := hpi.bd
    have HPIZ := Lib.hid hpi
    have ha0 := hpi.a0
    have hb0 := hpi.b0
    have hc0 := hpi.c0
    have he0 := hpi.e0
    have m1 := HPR.out n (z.b + z.d) (by omega) hn (by omega) (by omega)
    have m2 := HPR.out (z.a + z.c) d (by omega) (by omega) (by omega) hd
    have w1 : IntKind.i64.wrap (z.a + z.c) = z.a + z.c := IntWalk.i64_in _ (by omega)
    have w2 : IntKind.i64.wrap (z.b + z.d) = z.b + z.d := IntWalk.i64_in _ (by omega)
    obtain ⟨x, hx⟩ : ∃ x, n * (z.b + z.d) = x := ⟨_, rfl⟩
    obtain ⟨y, hy⟩ : ∃ y, (z.a + z.c) * d = y := ⟨_, rfl⟩
    rw [hx] at m1 hcmp
    rw [hy] at m2 hcmp
    have w3 : IntKind.i64.wrap (n * (z.b + z.d)) = x := by rw [hx]; exact IntWalk.i64_in _ (by omega)
    have w4 : IntKind.i64.wrap ((z.a + z.c) * d) = y := by rw [hy]; exact IntWalk.i64_in _ (by omega)
    have HMS := Lib.hid (And.intro hbd (And.intro ha0 (And.intro hb0 (And.intro hc0 he0))))
    have HBS := Lib.hid hB.size
    clear hown hB hx hy m1 m2 ha0 hb0 hc0 he0 hbd
    by_cases h1 : n' < d'
    · have hlt : x < y := by omega
      have HPN := Lib.hid (hpi.left h1)
      have HE2 := Lib.hid (show S = (pre ++ [false]) ++ sb true n' (d' - n') by rw [HE.out, sb_left hpi.n0 h1, List.append_assoc]; rfl)
      have HW := Lib.hid (show wayL (pre ++ [false]) = wayL pre ++ [76] by simp [wayL])
      obtain ⟨za, zb, zc, zd⟩ := z
      dsimp only at *
      clear hpi hcmp h1 HSTR
      go_wp2_with (at_builtin; refine append_OwnB rfl _ _ 80 rfl Tryz.underlying80 w.heap.size _ _ wr rfl HO.out HBS.out hlp 76 rfl rfl ?_; intro v9 w9 hown9 hb9; have HO9 := Lib.hid hown9; have HB9 := Lib.hid hb9; clear hown9 hb9)
      go_roundw
      case rel => exact ⟨_, n', d' - n', pre ++ [false], HPN.out, rfl, rfl, rfl, rfl, by rw [HW.out]; exact HO9.out, HE2, HB.out.trans HB9.out⟩
      case measure =>
        have := HMS.out
        have := HPN.out.bd
        simp only [intOf, Q4.go, Bool.false_eq_true, ↓reduceIte] at *
        omega
    · by_cases h2 : d' < n'
      · have hlt : ¬ x < y := by omega
        have hgt : x > y := by omega
        have hgt2 : y < x := hgt
        have HPN := Lib.hid (hpi.right h2)
        have HE2 := Lib.hid (show S = (pre ++ [true]) ++ sb true (n' - d') d' by rw [HE.out, sb_right hpi.d0 h2, List.append_assoc]; rfl)
        have HW := Lib.hid (show wayL (pre ++ [true]) = wayL pre ++ [82] by simp [wayL])
        obtain ⟨za, zb, zc, zd⟩ := z
        dsimp only at *
        clear hpi hcmp h1 h2 HSTR
        go_wp2_with (at_builtin; refine append_OwnB rfl _ _ 80 rfl Tryz.underlying80 w.heap.size _ _ wr rfl HO.out HBS.out hlp 82 rfl rfl ?_; intro v9 w9 hown9 hb9; have HO9 := Lib.hid hown9; have HB9 := Lib.hid hb9; clear hown9 hb9)
        go_roundw
        case rel => exact ⟨_, n' - d', d', pre ++ [true], HPN.out, rfl, rfl, rfl, rfl, by rw [HW.out]; exact HO9.out, HE2, HB.out.trans HB9.out⟩
        case measure =>
          have := HMS.out
          have := HPN.out.bd
          simp only [intOf, Q4.go, ↓reduceIte] at *
          omega
      · have hlt : ¬ x < y := by omega
        have hgt2 : ¬ y < x := by omega
        have hgt : ¬ x > y := by omega
        have HF := Lib.hid (show S = pre by
          obtain rfl : n' = d' := by omega
          rw [HE.out, sb_stop, List.append_nil])
        have hconv := HSTR.out
        obtain ⟨za, zb, zc, zd⟩ := z
        dsimp only at *
        clear hpi hcmp h1 h2
        go_wp2_with fail
        go_ret
        exact ⟨by rw [HF.out]; rfl, HB.out⟩
end
end Go.Proofs.YtpafocfpofnkpaaGreatDoor
