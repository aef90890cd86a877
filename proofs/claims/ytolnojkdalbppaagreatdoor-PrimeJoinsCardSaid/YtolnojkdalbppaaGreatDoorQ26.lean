/- Greater text, out of: Q26. -/
import Derived.Test.YtolnojkdalbppaaGreatDoorQ25
import Derived.Lib.OwnBridge
import Derived.Sort.OwnSortedInts
import Derived.Lib.AppendZeros
namespace Go.Proofs.YtolnojkdalbppaaGreatDoor
open Go.RowKit Go.PlainAid

/-- append: onto a row of the call's own, of a slice that is read ('...'). -/
theorem append_Zc_in {ops : Array Oper} {rest : List Oper} {o : Oper} {a : Act} {w : World} {Q : Exit → Act → World → Prop} (hgd : o.guard = none) (s x : Operand) (t : TypeId)
    (ho : o.op = .call { callee := .builtin .append, args := #[s, x], argTypes := #[t, t] }) (ht : Tryz.prog.underlying t = some (.slice 3))
    (g n cap : Nat) (xs : List Int) (hs : a.eval s = .slice (some ⟨g, 0, none⟩) n cap) (hp : Zc w g n cap xs)
    (A : Option Addr) (m c : Nat) (ys : List Int) (hx : a.eval x = .slice A m c) (hq : InZ w A m c ys) (hm : 0 < m) (hbd : n + m ≤ 1000000000000)
    (h : ∀ g' cap' w', Zc w' g' (n + m) cap' (xs ++ ys) → Only g w w' → (g' = g ∨ g' = w.heap.size) → wpList Tryz.prog ops Q rest (a.put o.dst (.slice (some ⟨g', 0, none⟩) (n + m) cap')) w') :
    wpList Tryz.prog ops Q (o :: rest) a w := by
  obtain ⟨i, hi, hz, hsz, hb⟩ := info_parts Tryz.infoZc
  have hl := hq.1
  obtain ⟨b, off, rfl, _, hc⟩ := hq.2.2.2 hm
  obtain ⟨v', w', hr, h2, h3, h4, h5⟩ := run_append_own_at (P := Tryz.prog) w 0 t o.type 3 i _ 1 8 ht hi hz hsz hb rfl (by decide) _ n (Zi xs) hp ⟨b, off, none⟩ m c (Zi ys) (by rw [Zi_len]; omega)
    (fun j u hu => by
      have hj : j < m := by have := (List.getElem?_eq_some_iff.1 hu).1; rw [Zi_len] at this; omega
      have hadd : (⟨b, off, none⟩ : Addr).add j = ⟨b, off + j, none⟩ := Lib.add_plain b off j
      rw [Zi_get ys j (by omega)] at hu
      rw [hadd, hc j hj, hu])
    (Zi_one' ys) (by unfold maxLen; omega) (by omega) (Nat.zero_le _)
  obtain ⟨g', cap', rfl, hlt⟩ : ∃ g' cap', v' = .slice (some ⟨g', 0, none⟩) (n + m) cap' ∧ True := by
    rcases h2.2 with ⟨e, _⟩ | ⟨g', cap', cur, e, _⟩
    · have := (h4.1 e).1; cases this
    · exact ⟨g', cap', e, trivial⟩
  refine wpList_plain hgd fun _ hK => ?_
  unfold Oper.wp execOp
  simp only [ho, resolve, invoke, builtin, Sem.run_bind, Sem.run_pure, Result.andThen_ok, List.map_toArray, List.map_cons, List.map_nil, hs, hx, hr]
  refine hK _ _ (h g' cap' w' ?_ h3 ?_)
  · rw [Zi_append] at h2; exact h2
  · rcases h5 with h5 | h5
    · left; simpa [Value.ownBlock] using h5
    · right; simpa [Value.ownBlock] using h5

set_option maxHeartbeats 1000000 in
/-- slices.Grow, of nil. -/
theorem grow_nil (n : Nat) (w : World) (h0 : 0 < n) (hn : n ≤ 1000) :
    Calls Tryz.prog 24 #[.slice none 0 0, .int .i64 (n : Int)] w (fun e w' => ∃ cap, e = .returned (.slice (some ⟨w.heap.size, 0, none⟩) 0 cap) ∧ Zc w' w.heap.size 0 cap [] ∧ Below w.heap.size w w') := by
  obtain ⟨i, hi, hz, hs, hb⟩ := info_parts Tryz.infoZc
  have hge := grownCap_ge w n 0 3
  have hcm : grownCap w n 0 3 ≤ maxLen := grownCap_le_maxLen w n 0 3 (by unfold maxLen; omega)
  have hrz : ∀ ty, (Builtin.append_ #[27, 3] ty #[.slice none 0 0, .int .i64 (n : Int)]).run Tryz.prog w = _ := fun ty => Lib.run_append_nil_zeros w 27 3 ty 3 i _ .i64 .i64 Tryz.underlying27 Tryz.underlying3 hi hz n h0 (by omega) (by omega) (by rw [hb]; omega)
  have HZ := Lib.hid (show Zc (w.drew.alloc (.cells (Builtin.zeroCells (Value.cells (.int .i64 0)) n ++ Builtin.zeroCells (Value.cells (.int .i64 0)) (grownCap w n 0 3 - n)) 3)) w.heap.size 0 (grownCap w n 0 3) [] ∧ Below w.heap.size w (w.drew.alloc (.cells (Builtin.zeroCells (Value.cells (.int .i64 0)) n ++ Builtin.zeroCells (Value.cells (.int .i64 0)) (grownCap w n 0 3 - n)) 3)) from by
    refine ⟨Zc.mk' (heap_alloc_new w.drew _) (Nat.zero_le _) hcm ?_ rfl, (below_drewN w 1).alloc (Nat.le_refl _) _⟩
    have hcl : Value.cells (.int .i64 0) = #[Value.int .i64 0] := rfl
    simp only [Array.size_append, size_zeroCells, hcl]
    simp
    omega)
  obtain ⟨W, hW⟩ : ∃ W, w.drew.alloc (.cells (Builtin.zeroCells (Value.cells (.int .i64 0)) n ++ Builtin.zeroCells (Value.cells (.int .i64 0)) (grownCap w n 0 3 - n)) 3) = W := ⟨_, rfl⟩
  rw [hW] at HZ
  simp only [hW] at hrz
  obtain ⟨c, hc⟩ : ∃ c, grownCap w n 0 3 = c := ⟨_, rfl⟩
  rw [hc] at HZ hge hcm
  simp only [hc] at hrz
  have hcm' : c ≤ 9223372036854775807 := hcm
  have hn0 : ¬ ((n : Int) < 0) := by omega
  have hn1 : 0 < (n : Int) := by omega
  clear hW hc hi hz hs hb hcm
  go_enter Tryz.func24, Tryz.ntmps24
  go_wp2_with (at_builtin; refine Lib.wpList_append_run _ rfl _ _ _ _ rfl _ _ rfl rfl _ _ (hrz _) ?_)
  go_ret
  exact ⟨c, rfl, HZ.out.1, HZ.out.2⟩

/-- A row of the call's own is returned. -/
def NewRow (xs : List Int) (w : World) (e : Ending) (w' : World) : Prop := ∃ g cap, e = .returned (.slice (some ⟨g, 0, none⟩) xs.length cap) ∧ Zc w' g xs.length cap xs ∧ w.heap.size ≤ g ∧ Below w.heap.size w w'
/-- The first of two lists. -/
def cat2 (ps qs : List Int) : Nat → List Int
  | 0 => []
  | 1 => ps
  | _ => ps ++ qs
set_option maxRecDepth 100000 in
set_option maxHeartbeats 2000000 in
/-- slices.Concat, of two lists. -/
theorem concat_any (gb : Nat) (A1 A2 : Option Addr) (n1 n2 cap1 cap2 : Nat) (ps qs : List Int) (w : World) (hgb : gb < w.heap.size) (hc0 : w.cell? ⟨gb, 0, none⟩ = some (.slice A1 n1 cap1)) (hc1 : w.cell? ⟨gb, 1, none⟩ = some (.slice A2 n2 cap2))
    (h1 : InZ w A1 n1 cap1 ps) (h2 : InZ w A2 n2 cap2 qs) (h01 : 0 < n1) (h02 : 0 < n2) (hn1 : n1 ≤ 100) (hn2 : n2 ≤ 100) :
    Calls Tryz.prog 10 #[.slice (some ⟨gb, 0, none⟩) 2 2] w (NewRow (ps ++ qs) w) := by
  have HC0 := Lib.hid (fun wz (hb : Below w.heap.size w wz) => (hb.cell (p := ⟨gb, 0, none⟩) hgb).trans hc0)
  have HC1 := Lib.hid (fun wz (hb : Below w.heap.size w wz) => (hb.cell (p := ⟨gb, 1, none⟩) hgb).trans hc1)
  have HI1 := Lib.hid (fun wz (hb : Below w.heap.size w wz) => h1.below hb)
  have HI2 := Lib.hid (fun wz (hb : Below w.heap.size w wz) => h2.below hb)
  have HL1 := Lib.hid h1.1
  have HL2 := Lib.hid h2.1
  have hp1 : ¬ ((n1 : Int) < 0) := by omega
  have hp2 : ¬ ((n1 : Int) + (n2 : Int) < 0) := by omega
  have hw1 : wrap64 ((n1 : Int) + (n2 : Int)) = (n1 : Int) + (n2 : Int) := by unfold wrap64; omega
  clear h1 h2 hc0 hc1
  go_enter Tryz.func10, Tryz.ntmps10
  go_wp2_with fail
  go_loopw [3, 11] (fun vs vi wr => ∃ i : Nat, i ≤ 2 ∧ vi = .int .i64 (i : Int) ∧ vs = .int .i64 ((cat2 ps qs i).length : Int) ∧ Below w.heap.size w wr) (fun _ vi _ => 2 - (intOf vi).toNat)
  case atStart => exact ⟨0, Nat.zero_le _, rfl, rfl, Below.refl _ _⟩
  case round =>
    obtain ⟨i, hi, rfl, rfl, hb⟩ := hrel
    rcases (show i = 0 ∨ i = 1 ∨ i = 2 by omega) with rfl | rfl | rfl
    · have hcell := HC0.out _ hb
      have HB := Lib.hid hb
      rw [show cat2 ps qs 0 = [] from rfl]
      clear hb
      go_wp2_with fail
      go_roundw
      case rel => exact ⟨1, by omega, by go_num, by rw [show cat2 ps qs 1 = ps from rfl, HL1.out], HB.out⟩
      case measure => simp [intOf]
    · have hcell := HC1.out _ hb
      have HB := Lib.hid hb
      rw [show cat2 ps qs 1 = ps from rfl, HL1.out]
      clear hb
      go_wp2_with fail
      go_roundw
      case rel => exact ⟨2, by omega, by go_num, by rw [show cat2 ps qs 2 = ps ++ qs from rfl, List.length_append, HL1.out, HL2.out]; go_num, HB.out⟩
      case measure => simp [intOf]
    · have hlen : ((cat2 ps qs 2).length : Int) = (n1 + n2 : Nat) := by rw [show cat2 ps qs 2 = ps ++ qs from rfl, List.length_append, HL1.out, HL2.out]
      rw [hlen]
      have HG := Lib.hid (fun wz => grow_nil (n1 + n2) wz (by omega) (by omega))
      obtain ⟨m, hm⟩ : ∃ m, n1 + n2 = m := ⟨_, rfl⟩
      rw [hm] at HG ⊢
      have HM := Lib.hid hm
      clear hlen hp1 hp2 hw1 hm
      go_wp2_with fail
      refine (HG.out _).mono ?_
      rintro e w1 ⟨cap, rfl, hz1, hb1⟩
      have hz := bel_chain hb hb1
      have hsz := hb.size
      have HZ := Lib.hid hz1
      have HB := Lib.hid hz
      clear hb hb1 hz1 hz
      go_wp2_with fail
      go_loopw [6, 27] (fun vo vi wr => ∃ i : Nat, i ≤ 2 ∧ vi = .int .i64 (i : Int) ∧ (∃ g cap, vo = .slice (some ⟨g, 0, none⟩) (cat2 ps qs i).length cap ∧ w.heap.size ≤ g ∧ Zc wr g (cat2 ps qs i).length cap (cat2 ps qs i)) ∧ Below w.heap.size w wr) (fun _ vi _ => 2 - (intOf vi).toNat)
      case atStart => exact ⟨0, Nat.zero_le _, rfl, ⟨_, cap, rfl, hsz, HZ.out⟩, HB.out⟩
      case round =>
        obtain ⟨i, hi, rfl, ⟨g, cap3, rfl, hg, hzg⟩, hb⟩ := hrel
        have hsz3 := hb.size
        rcases (show i = 0 ∨ i = 1 ∨ i = 2 by omega) with rfl | rfl | rfl
        · have hcell := HC0.out _ hb
          have HB := Lib.hid hb
          have hin := HI1.out _ hb
          rw [show cat2 ps qs 0 = [] from rfl] at hzg ⊢
          clear hb
          go_wp2_with (at_builtin; refine append_Zc_in rfl _ _ 27 rfl Tryz.underlying27 g 0 cap3 [] rfl hzg A1 n1 cap1 ps rfl hin h01 (by omega) ?_; intro g4 cap4 w4 hz4 hon4 hat4; have HZ4 := Lib.hid hz4; have HB4 := Lib.hid (bel_only HB.out hon4 hg hsz3); have hg4 : w.heap.size ≤ g4 := (by rcases hat4 with h | h <;> omega); clear hz4 hon4 hat4)
          go_roundw
          case rel => exact ⟨1, by omega, by go_num, ⟨g4, cap4, by rw [show cat2 ps qs 1 = ps from rfl, HL1.out], hg4, by rw [show cat2 ps qs 1 = ps from rfl, HL1.out]; have h := HZ4.out; rw [Nat.zero_add, List.nil_append] at h; exact h⟩, HB4.out⟩
          case measure => simp [intOf]
        · have hcell := HC1.out _ hb
          have HB := Lib.hid hb
          have hin := HI2.out _ hb
          rw [show cat2 ps qs 1 = ps from rfl, HL1.out] at hzg ⊢
          clear hb
          go_wp2_with (at_builtin; refine append_Zc_in rfl _ _ 27 rfl Tryz.underlying27 g n1 cap3 ps rfl hzg A2 n2 cap2 qs rfl hin h02 (by omega) ?_; intro g4 cap4 w4 hz4 hon4 hat4; have HZ4 := Lib.hid hz4; have HB4 := Lib.hid (bel_only HB.out hon4 hg hsz3); have hg4 : w.heap.size ≤ g4 := (by rcases hat4 with h | h <;> omega); clear hz4 hon4 hat4)
          go_roundw
          case rel => exact ⟨2, by omega, by go_num, ⟨g4, cap4, by rw [show cat2 ps qs 2 = ps ++ qs from rfl, List.length_append, HL1.out, HL2.out], hg4, by rw [show cat2 ps qs 2 = ps ++ qs from rfl, List.length_append, HL1.out, HL2.out]; exact HZ4.out⟩, HB4.out⟩
          case measure => simp [intOf]
        · have HZ4 := Lib.hid hzg
          have HB4 := Lib.hid hb
          clear hb hzg
          go_wp2_with fail
          go_ret
          exact ⟨g, cap3, rfl, HZ4.out, hg, HB4.out⟩

/-- slices.Sort, of a row of the call's own. -/
theorem sort_any (g n cap : Nat) (xs : List Int) (w : World) (h : Zc w g n cap xs) (hn : n ≤ 1000) :
    Calls Tryz.prog 11 #[.slice (some ⟨g, 0, none⟩) n cap] w (fun e w' => e = .returned (.tuple #[]) ∧ Zc w' g n cap (xs.mergeSort fun x y => decide (x ≤ y)) ∧ Only g w w') := by
  obtain rfl := h.len
  obtain ⟨cur, hh, h1, h2, h3, h4⟩ := h.form
  have hH := holds_of_blockI hh h4
  refine (Tryz.slices_Sort_int g 0 cap xs w hH h.lt (by omega)).mono ?_
  rintro e w' ⟨rfl, k, os, rfl⟩
  exact ⟨rfl, ownsRow_sortedI (w := w) (base := 0) (n := k) (os := os) (ts := xs.mergeSort fun x y => decide (x ≤ y)) (List.length_mergeSort _) (Nat.zero_le g) hh h1 h2 (by omega), grownBy_sortedI _⟩
theorem only_putRow (w : World) (q g off : Nat) (d : Array Int) : Only g w (Sort.putRow (Value.int .i64) (Sort.ahead w q) g off d) :=
  ⟨rfl, rfl, rfl, by rw [Sort.size_putRow]; exact Nat.le_refl _, fun k _ hk => by
    have : g ≠ k := fun e => hk (by rw [e])
    simp [Sort.putRow, Sort.mapBlock, Sort.ahead, Array.getElem?_modify, this]⟩
/-- slices.Compact, of a row of the call's own. -/
theorem compact_any (g n cap : Nat) (xs : List Int) (w : World) (h : Zc w g n cap xs) (hn : n ≤ 1000) :
    Calls Tryz.prog 12 #[.slice (some ⟨g, 0, none⟩) n cap] w (fun e w' => e = .returned (.slice (some ⟨g, 0, none⟩) (Lib.compact xs).length cap) ∧ Zc w' g (Lib.compact xs).length cap (Lib.compact xs) ∧ Only g w w') := by
  obtain rfl := h.len
  obtain ⟨cur, hh, h1, h2, h3, h4⟩ := h.form
  have hH := holds_of_blockI hh h4
  have hle := Lib.compact_length_le xs
  refine (Tryz.slices_Compact_int g 0 cap xs w hH (by omega) h1).mono ?_
  rintro e w' ⟨rfl, q, rfl⟩
  have hrow := Lib.ownsRow_putRow (q := q) (ys := Lib.compact xs ++ List.replicate (xs.length - (Lib.compact xs).length) 0) h (by simp; omega) hle
  rw [List.take_left' rfl] at hrow
  exact ⟨rfl, hrow, only_putRow _ _ _ _ _⟩
end Go.Proofs.YtolnojkdalbppaaGreatDoor
