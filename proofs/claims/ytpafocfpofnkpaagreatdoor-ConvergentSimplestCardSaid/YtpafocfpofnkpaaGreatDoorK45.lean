/- Greater text, out of: K45. -/
import Derived.Test.YtpafocfpofnkpaaGreatDoorK37
namespace Go.Proofs.YtpafocfpofnkpaaGreatDoor
open Go.RowKit Go.PlainAid Go.Shelf
attribute [local go_sem] Oper.semAt_some field_rat0 field_rat1
/-- A return of two results that lie in boxes, nothing deferred. -/
theorem retM_plain2 {fn : Func} {p u : Tmp} {T U : TypeId} (h : fn.results = #[.cell p T, .cell u U]) {a : Act} {w : World} {R : Ending → World → Prop} {ad ae : Addr} {v x : Value} (hd : a.defers = [])
    (hp : a.tmps.getD p undef = .pointer (some ad)) (hu : a.tmps.getD u undef = .pointer (some ae))
    (hl : (loadVar T ad).run Tryz.prog w = .ok v w) (hl2 : (loadVar U ae).run Tryz.prog w = .ok x w)
    (hR : R (.returned (.tuple #[v, x])) w) : bodyPostM Fence.wide 0 Tryz.prog fn R .ret a w := by
  show LeavesInM Fence.wide 0 Tryz.prog fn a.tmps R a.defers .returning w
  rw [hd]
  rw [Array.getD_eq_getD_getElem?] at hp hu
  exact ⟨.tuple #[v, x], by simp [results, h, hp, hu, asAddr, hl, hl2], hR⟩
/-- The boxes behind the stores of an error's road. -/
theorem SB.errd {w W : World} {x0 x1 : Value} (hs : SB w x0 x1 W) (er : Int) :
    Boxed ((W.setCell ⟨w.heap.size + 1, 0, none⟩ (.slice none 0 0)).setCell ⟨w.heap.size + 1 + 1, 0, none⟩ (.int .i64 er)) (w.heap.size + 1) 29 (.slice none 0 0) ∧
    Boxed ((W.setCell ⟨w.heap.size + 1, 0, none⟩ (.slice none 0 0)).setCell ⟨w.heap.size + 1 + 1, 0, none⟩ (.int .i64 er)) (w.heap.size + 1 + 1) 30 (.int .i64 er) ∧
    Below w.heap.size w ((W.setCell ⟨w.heap.size + 1, 0, none⟩ (.slice none 0 0)).setCell ⟨w.heap.size + 1 + 1, 0, none⟩ (.int .i64 er)) := by
  have k1 := hs.r.set (.slice none 0 0)
  have e1 : Boxed (W.setCell ⟨w.heap.size + 1, 0, none⟩ (.slice none 0 0)) (w.heap.size + 1 + 1) 30 (.int .i64 0) := (Below.heap_setCell W ⟨w.heap.size + 1, 0, none⟩ (.slice none 0 0) _ (by show w.heap.size + 1 + 1 ≠ w.heap.size + 1; omega)).trans hs.e
  have b1 : Below w.heap.size w (W.setCell ⟨w.heap.size + 1, 0, none⟩ (.slice none 0 0)) := hs.bl.setCell (by simp) _
  generalize W.setCell ⟨w.heap.size + 1, 0, none⟩ (.slice none 0 0) = X at *
  exact ⟨(Below.heap_setCell X ⟨w.heap.size + 1 + 1, 0, none⟩ (.int .i64 er) _ (by show w.heap.size + 1 ≠ w.heap.size + 1 + 1; omega)).trans k1, e1.set (.int .i64 er), b1.setCell (by simp; omega) _⟩
set_option maxRecDepth 100000 in
set_option maxHeartbeats 4000000 in
theorem Semi_err (n d : ByteArray) (b E : Int) (w : World) (hamb : Amb w) (hn : n.size ≤ 1000000000) (hd : d.size ≤ 1000000000) (r : Bool) (hr : RB n d = r) (hb0 : -9223372036854775808 ≤ b) (hb1 : b ≤ 9223372036854775807) (hE : bndE r b = E) (hE0 : E ≠ 0) :
    Calls Tryz.prog 21 #[.agg #[.string n, .string d], .int .i64 b] w (SmallRes (.tuple #[.slice none 0 0, .int .i64 E]) w) := by
  have HW := Lib.hid (fun w h => show Calls Tryz.prog 32 #[.agg #[.string n, .string d], .int .i64 b] w (SmallRes (.int .i64 E) w) from by
    rw [← hE]; exact bounded_any n d b w h hn hd r hr hb0 hb1)
  have hEb : (E == 0) = false := by rw [beq_eq_false_iff_ne]; exact hE0
  have hEn : (E != 0) = true := by rw [bne, hEb]; rfl
  have HAMB := Lib.hid hamb
  clear hamb hn hd hr hb0 hb1 hE
  refine (callsIn_wide (n := 0)).1 ?_
  refine callsIn_of_wp_marks Tryz.func21 rfl trivial ?_ rfl
  simp only [Tryz.ntmps21, List.size_toArray, List.length_cons, List.length_nil, Nat.reduceAdd, Nat.reduceSub, Array.replicate_succ, Array.replicate_zero, List.push_toArray, List.append_toArray, List.nil_append, List.cons_append]
  gi_wp2_with fail
  obtain ⟨W, hW⟩ : ∃ W, (((w.alloc (.cells #[.string n, .string d] 24)).alloc (.cells #[.slice none 0 0] 29)).alloc (.cells #[.int .i64 0] 30)) = W := ⟨_, rfl⟩
  rw [hW]
  have HS0 := Lib.hid (show SB w (.string n) (.string d) W from hW ▸ SB.new w _ _)
  clear hW
  refine ⟨trivial, rfl, (callsIn_wide.2 (HW.out W (HAMB.out.below HS0.out.bl))).mono ?_⟩
  rintro e w1 ⟨rfl, hb1'⟩
  have HS1 := Lib.hid (HS0.out.later hb1')
  have r0 := HS1.out.r.cell
  have r1 := HS1.out.r.frozen
  have e0 := HS1.out.e.cell
  have e1 := HS1.out.e.frozen
  gi_wp2_with fail
  obtain ⟨k1, k2, k3⟩ := HS1.out.errd E
  refine retM_plain2 rfl rfl rfl rfl (load_boxR k1) (load_boxE k2) ?_
  exact ⟨rfl, k3⟩
set_option maxRecDepth 100000 in
set_option maxHeartbeats 4000000 in
theorem Best_err (n d : ByteArray) (b E : Int) (w : World) (hamb : Amb w) (hn : n.size ≤ 1000000000) (hd : d.size ≤ 1000000000) (r : Bool) (hr : RB n d = r) (hb0 : -9223372036854775808 ≤ b) (hb1 : b ≤ 9223372036854775807) (hE : bndE r b = E) (hE0 : E ≠ 0) :
    Calls Tryz.prog 12 #[.agg #[.string n, .string d], .int .i64 b] w (SmallRes (.tuple #[.slice none 0 0, .int .i64 E]) w) := by
  have HW := Lib.hid (fun w h => show Calls Tryz.prog 32 #[.agg #[.string n, .string d], .int .i64 b] w (SmallRes (.int .i64 E) w) from by
    rw [← hE]; exact bounded_any n d b w h hn hd r hr hb0 hb1)
  have hEb : (E == 0) = false := by rw [beq_eq_false_iff_ne]; exact hE0
  have hEn : (E != 0) = true := by rw [bne, hEb]; rfl
  have HAMB := Lib.hid hamb
  clear hamb hn hd hr hb0 hb1 hE
  refine (callsIn_wide (n := 0)).1 ?_
  refine callsIn_of_wp_marks Tryz.func12 rfl trivial ?_ rfl
  simp only [Tryz.ntmps12, List.size_toArray, List.length_cons, List.length_nil, Nat.reduceAdd, Nat.reduceSub, Array.replicate_succ, Array.replicate_zero, List.push_toArray, List.append_toArray, List.nil_append, List.cons_append]
  gi_wp2_with fail
  obtain ⟨W, hW⟩ : ∃ W, (((w.alloc (.cells #[.string n, .string d] 24)).alloc (.cells #[.slice none 0 0] 29)).alloc (.cells #[.int .i64 0] 30)) = W := ⟨_, rfl⟩
  rw [hW]
  have HS0 := Lib.hid (show SB w (.string n) (.string d) W from hW ▸ SB.new w _ _)
  clear hW
  refine ⟨trivial, rfl, (callsIn_wide.2 (HW.out W (HAMB.out.below HS0.out.bl))).mono ?_⟩
  rintro e w1 ⟨rfl, hb1'⟩
  have HS1 := Lib.hid (HS0.out.later hb1')
  have r0 := HS1.out.r.cell
  have r1 := HS1.out.r.frozen
  have e0 := HS1.out.e.cell
  have e1 := HS1.out.e.frozen
  gi_wp2_with fail
  obtain ⟨k1, k2, k3⟩ := HS1.out.errd E
  refine retM_plain2 rfl rfl rfl rfl (load_boxR k1) (load_boxE k2) ?_
  exact ⟨rfl, k3⟩
end Go.Proofs.YtpafocfpofnkpaaGreatDoor
