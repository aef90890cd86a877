/- Greater text, out of: U9, V0, U10. -/
import Derived.Test.YtejelchcpbchgaaGreatDoorGj
import Derived.Test.YtejelchcpbchgaaGreatDoorGm
import Derived.Test.YtejelchcpbchgaaGreatDoorGi
import Derived.Deep.LoopGhost
namespace Go.Proofs.YtejelchcpbchgaaGreatDoor
section
open Go.RowKit Go.PlainAid
attribute [local go_sem] field_whole0 field_whole1 field_rat0 field_rat1

theorem tlong_any (n d : ByteArray) (k : Nat) (w : World) :
    Calls Tryz.prog 38 #[.agg #[.string n, .string d], .int .i64 (k : Int)] w (SmallRes (.bool (decide (k < n.size ∨ k < d.size))) w) := by
  by_cases h1 : k < n.size
  · have h1i : (k : Int) < (n.size : Int) := by omega
    have HF := Lib.hid (show decide (k < n.size ∨ k < d.size) = true from decide_eq_true (.inl h1))
    clear h1
    rw [HF.out]
    go_enter Tryz.func38, Tryz.ntmps38
    go_wp2_with fail
    go_ret
    exact ⟨rfl, (Below.refl _ _).alloc (Nat.le_refl _) _⟩
  · have h1i : ¬ (k : Int) < (n.size : Int) := by omega
    by_cases h2 : k < d.size
    · have h2i : (k : Int) < (d.size : Int) := by omega
      have HF := Lib.hid (show decide (k < n.size ∨ k < d.size) = true from decide_eq_true (.inr h2))
      clear h1 h2
      rw [HF.out]
      go_enter Tryz.func38, Tryz.ntmps38
      go_wp2_with fail
      go_ret
      exact ⟨rfl, (Below.refl _ _).alloc (Nat.le_refl _) _⟩
    · have h2i : ¬ (k : Int) < (d.size : Int) := by omega
      have HF := Lib.hid (show decide (k < n.size ∨ k < d.size) = false from decide_eq_false (by omega))
      clear h1 h2
      rw [HF.out]
      go_enter Tryz.func38, Tryz.ntmps38
      go_wp2_with fail
      go_ret
      exact ⟨rfl, (Below.refl _ _).alloc (Nat.le_refl _) _⟩
/-- A fraction's texts are right, and have at most 60 bytes. -/
def fitB (x : ByteArray × ByteArray) : Bool := !decide (60 < x.1.size ∨ 60 < x.2.size) && rightB x.1.data.toList x.2.data.toList
/-- A slice of pairs of texts. -/
def InQ (w : World) (A : Option Addr) (xs : List (ByteArray × ByteArray)) : Prop :=
  xs.length ≤ 1000000 ∧ (0 < xs.length → ∃ b off, A = some ⟨b, off, none⟩ ∧ b < w.heap.size ∧ ∀ i, i < xs.length → w.cell? ⟨b, off + i * 2, none⟩ = some (.string (xs.getD i (⟨#[]⟩, ⟨#[]⟩)).1) ∧ w.cell? ⟨b, off + i * 2 + 1, none⟩ = some (.string (xs.getD i (⟨#[]⟩, ⟨#[]⟩)).2))
theorem InQ.below {w w' : World} {A : Option Addr} {xs : List (ByteArray × ByteArray)} (h : InQ w A xs) (hb : Below w.heap.size w w') : InQ w' A xs := by
  refine ⟨h.1, fun hn => ?_⟩
  obtain ⟨b, off, e, hlt, hc⟩ := h.2 hn
  have := hb.size
  refine ⟨b, off, e, by omega, fun i hi => ?_⟩
  obtain ⟨h1, h2⟩ := hc i hi
  exact ⟨(hb.cell (p := ⟨b, off + i * 2, none⟩) hlt).trans h1, (hb.cell (p := ⟨b, off + i * 2 + 1, none⟩) hlt).trans h2⟩
set_option maxRecDepth 100000 in
set_option maxHeartbeats 2000000 in
theorem tfits_any (A : Option Addr) (n cap : Nat) (xs : List (ByteArray × ByteArray)) (w : World) (hamb : Amb w) (hq : InQ w A xs) (hn : xs.length = n) :
    Calls Tryz.prog 12 #[.slice A n cap] w (SmallRes (.bool (xs.all fitB)) w) := by
  have HQ := Lib.hid (fun wz (hb : Below w.heap.size w wz) => hq.below hb)
  have HN := Lib.hid hn
  have HAMB := Lib.hid hamb
  have hn6 : n ≤ 1000000 := by rw [← hn]; exact hq.1
  obtain ⟨V, hV⟩ : ∃ V, xs.all fitB = V := ⟨_, rfl⟩
  have HV := Lib.hid hV
  rw [hV]
  clear hq hn hamb hV
  go_enter Tryz.func12, Tryz.ntmps12
  go_wp2_with fail
  go_loopw [3] (fun vi wr => ∃ i : Nat, i ≤ n ∧ vi = .int .i64 (i : Int) ∧ Hid ((xs.take i).all fitB = true) ∧ Below w.heap.size w wr) (fun vi _ => n - (intOf vi).toNat)
  case atStart => exact ⟨0, Nat.zero_le _, rfl, Lib.hid rfl, Below.refl _ _⟩
  case round =>
    obtain ⟨i, hi, rfl, HI, hB⟩ := hrel
    by_cases hin : i = n
    · have hlt : ¬ i < n := by omega
      have HF := Lib.hid (show V = true by rw [← HV.out, ← HI.out, List.take_of_length_le (by rw [HN.out]; omega)])
      clear hin
      go_wp2_with fail
      go_ret
      exact ⟨by rw [HF.out]; rfl, hB⟩
    · have hlt : i < n := by omega
      have hii : (i : Int) < (n : Int) := by omega
      obtain ⟨b, off, rfl, hbl, hcs⟩ := (HQ.out _ hB).2 (by rw [HN.out]; omega)
      obtain ⟨hc0, hc1⟩ := hcs i (by rw [HN.out]; exact hlt)
      have hst : (xs.take (i + 1)).all fitB = fitB (xs.getD i (⟨#[]⟩, ⟨#[]⟩)) := by
        rw [List.take_succ_eq_append_getElem (by rw [HN.out]; exact hlt), List.all_append, HI.out, List.getD_eq_getElem?_getD, List.getElem?_eq_getElem (by rw [HN.out]; exact hlt)]
        simp
      have hno : fitB (xs.getD i (⟨#[]⟩, ⟨#[]⟩)) = false → V = false := fun h => by
        rw [← HV.out, List.all_eq_false]
        exact ⟨xs.getD i (⟨#[]⟩, ⟨#[]⟩), by rw [List.getD_eq_getElem?_getD, List.getElem?_eq_getElem (by rw [HN.out]; exact hlt)]; exact List.getElem_mem _, by rw [h]; decide⟩
      have HST := Lib.hid hst
      have HNO := Lib.hid hno
      have HCS := Lib.hid (fun wz (hb : Below wr.heap.size wr wz) => And.intro ((hb.cell (p := ⟨b, off + i * 2, none⟩) hbl).trans hc0) ((hb.cell (p := ⟨b, off + i * 2 + 1, none⟩) hbl).trans hc1))
      clear hst hno hcs hin
      obtain ⟨x, hx⟩ : ∃ x, xs.getD i (⟨#[]⟩, ⟨#[]⟩) = x := ⟨_, rfl⟩
      rw [hx] at hc0 hc1 HST HNO HCS
      clear hx
      obtain ⟨x0, x1⟩ := x
      have HL := Lib.hid (fun w => tlong_any x0 x1 60 w)
      have HR := Lib.hid (fun w h => t3right_any x0 x1 w h)
      have HFB := Lib.hid (show fitB (x0, x1) = (!decide (60 < x0.size ∨ 60 < x1.size) && rightB x0.data.toList x1.data.toList) from rfl)
      generalize fitB (x0, x1) = fb at *
      generalize decide (60 < x0.size ∨ 60 < x1.size) = lb at *
      generalize rightB x0.data.toList x1.data.toList = rb at *
      cases lb with
      | true =>
        have HF := Lib.hid (HNO.out HFB.out)
        go_wp2_with fail
        refine (HL.out _).mono ?_
        rintro e w1 ⟨rfl, hb1⟩
        go_wp2_with fail
        go_ret
        exact ⟨by rw [HF.out]; rfl, bel_chain hB hb1⟩
      | false =>
        cases rb with
        | true =>
          have HF := Lib.hid (HST.out.trans HFB.out)
          go_wp2_with fail
          refine (HL.out _).mono ?_
          rintro e w1 ⟨rfl, hb1⟩
          obtain ⟨hd0, hd1⟩ := HCS.out _ hb1
          have hB1 := bel_chain hB hb1
          clear hb1
          go_wp2_with fail
          refine (HR.out _ (HAMB.out.below hB1)).mono ?_
          rintro e w2 ⟨rfl, hb2⟩
          have hB2 := bel_chain hB1 hb2
          go_wp2_with fail
          go_roundw
          case rel => exact ⟨i + 1, by omega, by go_num, HF, hB2⟩
          case measure => simp [intOf]; omega
        | false =>
          have HF := Lib.hid (HNO.out HFB.out)
          go_wp2_with fail
          refine (HL.out _).mono ?_
          rintro e w1 ⟨rfl, hb1⟩
          obtain ⟨hd0, hd1⟩ := HCS.out _ hb1
          have hB1 := bel_chain hB hb1
          clear hb1
          go_wp2_with fail
          refine (HR.out _ (HAMB.out.below hB1)).mono ?_
          rintro e w2 ⟨rfl, hb2⟩
          go_wp2_with fail
          go_ret
          exact ⟨by rw [HF.out]; rfl, bel_chain hB1 hb2⟩
end
section
open Go.RowKit Go.PlainAid

theorem al1 (w : World) (o : Obj) : Below w.heap.size w (w.alloc o) := (Below.refl _ _).alloc (Nat.le_refl _) _
theorem InQ.made1 (w : World) (n0 d0 : ByteArray) (T : TypeId) : InQ (w.alloc (.cells #[.string n0, .string d0] T)) (some ⟨w.heap.size, 0, none⟩) [(n0, d0)] := by
  refine ⟨by simp, fun _ => ⟨w.heap.size, 0, rfl, by simp, fun i hi => ?_⟩⟩
  have hi2 : i < 1 := hi
  obtain rfl : i = 0 := by omega
  exact ⟨by simp [World.cell?_alloc_new], by simp [World.cell?_alloc_new]⟩
theorem InQ.made2 (w : World) (n0 d0 n1 d1 : ByteArray) (T : TypeId) : InQ (w.alloc (.cells #[.string n0, .string d0, .string n1, .string d1] T)) (some ⟨w.heap.size, 0, none⟩) [(n0, d0), (n1, d1)] := by
  refine ⟨by simp, fun _ => ⟨w.heap.size, 0, rfl, by simp, fun i hi => ?_⟩⟩
  have hi2 : i < 2 := hi
  rcases (show i = 0 ∨ i = 1 by omega) with rfl | rfl
  · exact ⟨by simp [World.cell?_alloc_new], by simp [World.cell?_alloc_new]⟩
  · exact ⟨by simp [World.cell?_alloc_new], by simp [World.cell?_alloc_new]⟩
theorem InQ.made3 (w : World) (n0 d0 n1 d1 n2 d2 : ByteArray) (T : TypeId) : InQ (w.alloc (.cells #[.string n0, .string d0, .string n1, .string d1, .string n2, .string d2] T)) (some ⟨w.heap.size, 0, none⟩) [(n0, d0), (n1, d1), (n2, d2)] := by
  refine ⟨by simp, fun _ => ⟨w.heap.size, 0, rfl, by simp, fun i hi => ?_⟩⟩
  have hi2 : i < 3 := hi
  rcases (show i = 0 ∨ i = 1 ∨ i = 2 by omega) with rfl | rfl | rfl
  · exact ⟨by simp [World.cell?_alloc_new], by simp [World.cell?_alloc_new]⟩
  · exact ⟨by simp [World.cell?_alloc_new], by simp [World.cell?_alloc_new]⟩
  · exact ⟨by simp [World.cell?_alloc_new], by simp [World.cell?_alloc_new]⟩
theorem fitB_rat {n d : ByteArray} (h : fitB (n, d) = true) : ∃ q : Rat, n = itx q.num ∧ d = itx (q.den : Int) ∧ NQ q 400 := by
  unfold fitB at h
  rw [Bool.and_eq_true] at h
  exact rightB_rat h.2
theorem fitB_size {n d : ByteArray} (h : fitB (n, d) = true) : n.size ≤ 60 ∧ d.size ≤ 60 := by
  unfold fitB at h
  rw [Bool.and_eq_true] at h
  have h1 := h.1
  simp only [Bool.not_eq_true', decide_eq_false_iff_not] at h1
  omega
end
section
open Go.RowKit Go.PlainAid
attribute [local go_sem] field_rat0 field_rat1

/-- The sum of the first i. -/
def sumQ (ps : List Rat) (i : Nat) : Rat := (ps.take i).foldl (· + ·) 0
theorem sumQ_zero (ps : List Rat) : sumQ ps 0 = 0 := rfl
theorem sumQ_succ (ps : List Rat) (i : Nat) (h : i < ps.length) : sumQ ps (i + 1) = sumQ ps i + ps.getD i 0 := by
  unfold sumQ
  rw [List.take_succ_eq_append_getElem h, List.foldl_append, List.getD_eq_getElem?_getD, List.getElem?_eq_getElem h]; rfl
/-- The texts of a fraction. -/
def tx (p : Rat) : ByteArray × ByteArray := (itx p.num, itx (p.den : Int))
theorem rv_zero : rv (0 : Rat) = .agg #[.string ⟨#[48]⟩, .string ⟨#[49]⟩] := by
  unfold rv
  rw [show (0 : Rat).num = 0 from rfl, show (0 : Rat).den = 1 from rfl, itx_lit_zero, show ((1 : Nat) : Int) = 1 from rfl, itx_lit_one]
end
end Go.Proofs.YtejelchcpbchgaaGreatDoor
