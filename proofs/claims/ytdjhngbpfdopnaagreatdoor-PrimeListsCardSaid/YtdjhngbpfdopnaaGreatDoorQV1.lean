/- Greater text, out of: QV1. -/
import Derived.Test.YtdjhngbpfdopnaaGreatDoorQ12
namespace Go.Proofs.YtdjhngbpfdopnaaGreatDoor
open Go.RowKit Go.PlainAid
attribute [local go_sem ↓] Go.wp_at_zero Go.wp_at_succ

theorem pall20_len : (pall 20).length = 8 := by rw [pall_20]; rfl
/-- A block that holds three ints. -/
def Box3i (w : World) (g : Nat) (a b c : Int) : Prop := g < w.heap.size ∧ w.cell? ⟨g, 0, none⟩ = some (.int .i64 a) ∧ w.cell? ⟨g, 1, none⟩ = some (.int .i64 b) ∧ w.cell? ⟨g, 2, none⟩ = some (.int .i64 c)
theorem Box3i.later {w w' : World} {g : Nat} {a b c : Int} (h : Box3i w g a b c) (hb : Below w.heap.size w w') : Box3i w' g a b c :=
  ⟨Nat.lt_of_lt_of_le h.1 hb.size, (hb.cell (p := ⟨g, 0, none⟩) h.1).trans h.2.1, (hb.cell (p := ⟨g, 1, none⟩) h.1).trans h.2.2.1, (hb.cell (p := ⟨g, 2, none⟩) h.1).trans h.2.2.2⟩
theorem Box3i.new (w : World) (a b c : Int) (T : TypeId) : Box3i (w.alloc (.cells #[.int .i64 a, .int .i64 b, .int .i64 c] T)) w.heap.size a b c :=
  ⟨by simp, by simp [World.cell?_alloc_new], by simp [World.cell?_alloc_new], by simp [World.cell?_alloc_new]⟩
set_option maxRecDepth 100000 in
set_option maxHeartbeats 4000000 in
theorem lawLists_long (A : Option Addr) (n cap : Nat) (ps : List Int) (a b c : Int) (w : World) (hamb : Amb11 w) (h : InZ w A n cap ps) (h9 : 9 < n) :
    Calls Tryz.prog 6 #[.slice A n cap, .agg #[.int .i64 a, .int .i64 b, .int .i64 c]] w (SmallRes (.bool true) w) := by
  have HAMB := Lib.hid (fun wz (hb : Below w.heap.size w wz) => hamb.below hb)
  have HIN := Lib.hid (fun wz (hb : Below w.heap.size w wz) => h.below hb)
  clear hamb h
  have h9' : 9 < (n : Int) := by omega
  go_enter Tryz.func6, Tryz.ntmps6
  go_wp2_with fail
  obtain ⟨W, hW⟩ : ∃ W, (w.alloc (.cells #[.int .i64 a, .int .i64 b, .int .i64 c] 58)) = W := ⟨_, rfl⟩
  rw [hW]
  have hX : Box3i W w.heap.size a b c := hW ▸ Box3i.new w a b c _
  have HX := Lib.hid (fun wz (hb : Below W.heap.size W wz) => hX.later hb)
  have hBW : Below w.heap.size w W := hW ▸ (Below.refl _ _).alloc (Nat.le_refl _) _
  have HB := Lib.hid (fun wz (hb : Below W.heap.size W wz) => bel_chain hBW hb)
  clear hW hX hBW
  refine (known11_any _ (HAMB.out _ (HB.out _ (Below.refl _ _)))).mono ?_
  rintro e w1 ⟨rfl, hz1⟩
  go_wp2_with fail
  refine (known11_any _ (HAMB.out _ (HB.out _ hz1))).mono ?_
  rintro e w2 ⟨rfl, hb2⟩
  have hz2 := bel_chain hz1 hb2
  go_wp2_with fail
  go_ret
  exact ⟨rfl, HB.out _ hz2⟩
set_option maxRecDepth 100000 in
set_option maxHeartbeats 4000000 in
theorem lawLists_low (A : Option Addr) (n cap : Nat) (ps : List Int) (a b c : Int) (w : World) (hamb : Amb11 w) (h : InZ w A n cap ps) (h9 : ¬ 9 < n) (hbl : b < 1) :
    Calls Tryz.prog 6 #[.slice A n cap, .agg #[.int .i64 a, .int .i64 b, .int .i64 c]] w (SmallRes (.bool true) w) := by
  have HAMB := Lib.hid (fun wz (hb : Below w.heap.size w wz) => hamb.below hb)
  have HIN := Lib.hid (fun wz (hb : Below w.heap.size w wz) => h.below hb)
  clear hamb h
  have h9' : ¬ 9 < (n : Int) := by omega
  have hb0 : b < 1 ∨ 6 < b := .inl hbl
  go_enter Tryz.func6, Tryz.ntmps6
  go_wp2_with fail
  obtain ⟨W, hW⟩ : ∃ W, (w.alloc (.cells #[.int .i64 a, .int .i64 b, .int .i64 c] 58)) = W := ⟨_, rfl⟩
  rw [hW]
  have hX : Box3i W w.heap.size a b c := hW ▸ Box3i.new w a b c _
  have HX := Lib.hid (fun wz (hb : Below W.heap.size W wz) => hX.later hb)
  have hBW : Below w.heap.size w W := hW ▸ (Below.refl _ _).alloc (Nat.le_refl _) _
  have HB := Lib.hid (fun wz (hb : Below W.heap.size W wz) => bel_chain hBW hb)
  clear hW hX hBW
  refine (known11_any _ (HAMB.out _ (HB.out _ (Below.refl _ _)))).mono ?_
  rintro e w1 ⟨rfl, hz1⟩
  go_upto_region 3 with fail
  go_cut [30] (fun s30 wx => s30 = .bool false ∧ Below W.heap.size W wx)
  case first =>
    obtain ⟨hg, ca, cb, cc⟩ := HX.out _ hz1
    obtain ⟨x, hx⟩ : ∃ x, pr a = x := ⟨_, rfl⟩
    obtain ⟨y, hy⟩ : ∃ y, chk ps = y := ⟨_, rfl⟩
    have K1 := Lib.hid (fun wz => show Calls Tryz.prog 33 #[.int .i64 a] wz (SmallRes (.bool x) wz) from hx ▸ isprime_any a wz)
    have K2 := Lib.hid (fun wz => show Calls Tryz.prog 34 #[.int .i64 a] wz (SmallRes (.bool x) wz) from hx ▸ lisprime_any a wz)
    have K3 := Lib.hid (fun wz (hz : InZ wz A n cap ps) => show Calls Tryz.prog 35 #[.slice A n cap] wz (SmallRes (.int .i64 y) wz) from hy ▸ pcheck_any A n cap ps wz hz)
    have K4 := Lib.hid (fun wz (hz : InZ wz A n cap ps) => show Calls Tryz.prog 26 #[.slice A n cap] wz (SmallRes (.int .i64 y) wz) from hy ▸ lcheck_any A n cap ps wz hz)
    clear hx hy cb cc
    go_region_with (first
      | ((with_reducible refine Calls.mono (K1.out _) ?_); rintro e w2 ⟨rfl, hb2⟩; have ca2 := (hb2.cell (p := ⟨w.heap.size, 0, none⟩) hg).trans ca; have hz2 := bel_chain (bel_drewN hz1 1) hb2)
      | ((with_reducible refine Calls.mono (K2.out _) ?_); rintro e w3 ⟨rfl, hb3⟩; have hz3 := bel_chain hz2 hb3)
      | ((with_reducible refine Calls.mono (K3.out _ (HIN.out _ (HB.out _ hz3))) ?_); rintro e w4 ⟨rfl, hb4⟩; have hz4 := bel_chain hz3 hb4)
      | ((with_reducible refine Calls.mono (K4.out _ (HIN.out _ (HB.out _ hz4))) ?_); rintro e w5 ⟨rfl, hb5⟩; have hz5 := bel_chain hz4 hb5))
    all_goals (go_wp2_with fail; go_meet; exact ⟨by simp, hz5⟩)
  case rest =>
    obtain ⟨rfl, hz1⟩ := hcut
    obtain ⟨hg, ca, cb, cc⟩ := HX.out _ hz1
    go_wp2_with fail
    refine (first_no b _ hb0).mono ?_
    rintro e w2 ⟨A2, n2, c2, rfl, hin2, hb2⟩
    obtain rfl : 0 = n2 := hin2.1
    have hz2 := bel_chain hz1 hb2
    obtain ⟨hg2, ca2, cb2, cc2⟩ := HX.out _ hz2
    clear hin2 hb2 hg ca cb cc
    by_cases hc2 : c < 2
    · go_wp2_with fail
      refine (upto_low c _ hc2).mono ?_
      rintro e w5 ⟨rfl, hb5⟩
      have hz5 := bel_chain hz2 hb5
      obtain ⟨hg5, ca5, cb5, cc5⟩ := HX.out _ hz5
      have HZ5 := Lib.hid hz5
      clear hb5 hz5 hz2 hg2 ca2 cb2 cc2
      go_wp2_with fail
      go_ret
      exact ⟨rfl, HB.out _ HZ5.out⟩
    · by_cases hc17 : 17 ≤ c
      · go_wp2_with fail
        refine (upto_many c _ (HAMB.out _ (HB.out _ hz2)).m hc17).mono ?_
        rintro e w5 ⟨A5, n5, c5, rfl, hin5, hb5⟩
        obtain rfl : 0 = n5 := hin5.1
        have hz5 := bel_chain hz2 hb5
        obtain ⟨hg5, ca5, cb5, cc5⟩ := HX.out _ hz5
        have HZ5 := Lib.hid hz5
        clear hin5 hb5 hz5 hz2 hg2 ca2 cb2 cc2
        go_wp2_with fail
        go_ret
        exact ⟨rfl, HB.out _ HZ5.out⟩
      · go_wp2_with fail
        refine (upto_few c _ (HAMB.out _ (HB.out _ hz2)).m (by omega) (by omega)).mono ?_
        rintro e w5 ⟨A5, n5, c5, rfl, hin5, hb5⟩
        have hz5 := bel_chain hz2 hb5
        have HI5 := Lib.hid hin5
        obtain ⟨hg5, ca5, cb5, cc5⟩ := HX.out _ hz5
        clear hin5 hb5 hz2 hg2 ca2 cb2 cc2
        go_wp2_with fail
        refine (lall_any c _).mono ?_
        rintro e w6 ⟨v6, rfl, hown6, hb6⟩
        have hz6 := bel_chain hz5 hb6
        obtain ⟨A6, c6, rfl, hin6⟩ := hown6.ins
        have HI6 := Lib.hid hin6
        have HI5' := Lib.hid (HI5.out.below hb6)
        clear hown6 hin6 hb6 hz5
        go_wp2_with fail
        refine (equalP_any _ _ _ _ _ _ _ _ _ HI5'.out HI6.out).mono ?_
        rintro e w7 ⟨rfl, hb7⟩
        have HZ7 := Lib.hid (bel_chain hz6 hb7)
        rw [show (pall c == pall c) = true from beq_self_eq_true _]
        clear hb7 hz6
        go_wp2_with fail
        go_ret
        exact ⟨rfl, HB.out _ HZ7.out⟩
set_option maxRecDepth 100000 in
set_option maxHeartbeats 4000000 in
theorem lawLists_high (A : Option Addr) (n cap : Nat) (ps : List Int) (a b c : Int) (w : World) (hamb : Amb11 w) (h : InZ w A n cap ps) (h9 : ¬ 9 < n) (hbl : ¬ b < 1) (hbh : 6 < b) :
    Calls Tryz.prog 6 #[.slice A n cap, .agg #[.int .i64 a, .int .i64 b, .int .i64 c]] w (SmallRes (.bool true) w) := by
  have HAMB := Lib.hid (fun wz (hb : Below w.heap.size w wz) => hamb.below hb)
  have HIN := Lib.hid (fun wz (hb : Below w.heap.size w wz) => h.below hb)
  clear hamb h
  have h9' : ¬ 9 < (n : Int) := by omega
  have hb0 : b < 1 ∨ 6 < b := .inr hbh
  go_enter Tryz.func6, Tryz.ntmps6
  go_wp2_with fail
  obtain ⟨W, hW⟩ : ∃ W, (w.alloc (.cells #[.int .i64 a, .int .i64 b, .int .i64 c] 58)) = W := ⟨_, rfl⟩
  rw [hW]
  have hX : Box3i W w.heap.size a b c := hW ▸ Box3i.new w a b c _
  have HX := Lib.hid (fun wz (hb : Below W.heap.size W wz) => hX.later hb)
  have hBW : Below w.heap.size w W := hW ▸ (Below.refl _ _).alloc (Nat.le_refl _) _
  have HB := Lib.hid (fun wz (hb : Below W.heap.size W wz) => bel_chain hBW hb)
  clear hW hX hBW
  refine (known11_any _ (HAMB.out _ (HB.out _ (Below.refl _ _)))).mono ?_
  rintro e w1 ⟨rfl, hz1⟩
  go_upto_region 3 with fail
  go_cut [30] (fun s30 wx => s30 = .bool false ∧ Below W.heap.size W wx)
  case first =>
    obtain ⟨hg, ca, cb, cc⟩ := HX.out _ hz1
    obtain ⟨x, hx⟩ : ∃ x, pr a = x := ⟨_, rfl⟩
    obtain ⟨y, hy⟩ : ∃ y, chk ps = y := ⟨_, rfl⟩
    have K1 := Lib.hid (fun wz => show Calls Tryz.prog 33 #[.int .i64 a] wz (SmallRes (.bool x) wz) from hx ▸ isprime_any a wz)
    have K2 := Lib.hid (fun wz => show Calls Tryz.prog 34 #[.int .i64 a] wz (SmallRes (.bool x) wz) from hx ▸ lisprime_any a wz)
    have K3 := Lib.hid (fun wz (hz : InZ wz A n cap ps) => show Calls Tryz.prog 35 #[.slice A n cap] wz (SmallRes (.int .i64 y) wz) from hy ▸ pcheck_any A n cap ps wz hz)
    have K4 := Lib.hid (fun wz (hz : InZ wz A n cap ps) => show Calls Tryz.prog 26 #[.slice A n cap] wz (SmallRes (.int .i64 y) wz) from hy ▸ lcheck_any A n cap ps wz hz)
    clear hx hy cb cc
    go_region_with (first
      | ((with_reducible refine Calls.mono (K1.out _) ?_); rintro e w2 ⟨rfl, hb2⟩; have ca2 := (hb2.cell (p := ⟨w.heap.size, 0, none⟩) hg).trans ca; have hz2 := bel_chain (bel_drewN hz1 1) hb2)
      | ((with_reducible refine Calls.mono (K2.out _) ?_); rintro e w3 ⟨rfl, hb3⟩; have hz3 := bel_chain hz2 hb3)
      | ((with_reducible refine Calls.mono (K3.out _ (HIN.out _ (HB.out _ hz3))) ?_); rintro e w4 ⟨rfl, hb4⟩; have hz4 := bel_chain hz3 hb4)
      | ((with_reducible refine Calls.mono (K4.out _ (HIN.out _ (HB.out _ hz4))) ?_); rintro e w5 ⟨rfl, hb5⟩; have hz5 := bel_chain hz4 hb5))
    all_goals (go_wp2_with fail; go_meet; exact ⟨by simp, hz5⟩)
  case rest =>
    obtain ⟨rfl, hz1⟩ := hcut
    obtain ⟨hg, ca, cb, cc⟩ := HX.out _ hz1
    go_wp2_with fail
    refine (first_no b _ hb0).mono ?_
    rintro e w2 ⟨A2, n2, c2, rfl, hin2, hb2⟩
    obtain rfl : 0 = n2 := hin2.1
    have hz2 := bel_chain hz1 hb2
    obtain ⟨hg2, ca2, cb2, cc2⟩ := HX.out _ hz2
    clear hin2 hb2 hg ca cb cc
    by_cases hc2 : c < 2
    · go_wp2_with fail
      refine (upto_low c _ hc2).mono ?_
      rintro e w5 ⟨rfl, hb5⟩
      have hz5 := bel_chain hz2 hb5
      obtain ⟨hg5, ca5, cb5, cc5⟩ := HX.out _ hz5
      have HZ5 := Lib.hid hz5
      clear hb5 hz5 hz2 hg2 ca2 cb2 cc2
      go_wp2_with fail
      go_ret
      exact ⟨rfl, HB.out _ HZ5.out⟩
    · by_cases hc17 : 17 ≤ c
      · go_wp2_with fail
        refine (upto_many c _ (HAMB.out _ (HB.out _ hz2)).m hc17).mono ?_
        rintro e w5 ⟨A5, n5, c5, rfl, hin5, hb5⟩
        obtain rfl : 0 = n5 := hin5.1
        have hz5 := bel_chain hz2 hb5
        obtain ⟨hg5, ca5, cb5, cc5⟩ := HX.out _ hz5
        have HZ5 := Lib.hid hz5
        clear hin5 hb5 hz5 hz2 hg2 ca2 cb2 cc2
        go_wp2_with fail
        go_ret
        exact ⟨rfl, HB.out _ HZ5.out⟩
      · go_wp2_with fail
        refine (upto_few c _ (HAMB.out _ (HB.out _ hz2)).m (by omega) (by omega)).mono ?_
        rintro e w5 ⟨A5, n5, c5, rfl, hin5, hb5⟩
        have hz5 := bel_chain hz2 hb5
        have HI5 := Lib.hid hin5
        obtain ⟨hg5, ca5, cb5, cc5⟩ := HX.out _ hz5
        clear hin5 hb5 hz2 hg2 ca2 cb2 cc2
        go_wp2_with fail
        refine (lall_any c _).mono ?_
        rintro e w6 ⟨v6, rfl, hown6, hb6⟩
        have hz6 := bel_chain hz5 hb6
        obtain ⟨A6, c6, rfl, hin6⟩ := hown6.ins
        have HI6 := Lib.hid hin6
        have HI5' := Lib.hid (HI5.out.below hb6)
        clear hown6 hin6 hb6 hz5
        go_wp2_with fail
        refine (equalP_any _ _ _ _ _ _ _ _ _ HI5'.out HI6.out).mono ?_
        rintro e w7 ⟨rfl, hb7⟩
        have HZ7 := Lib.hid (bel_chain hz6 hb7)
        rw [show (pall c == pall c) = true from beq_self_eq_true _]
        clear hb7 hz6
        go_wp2_with fail
        go_ret
        exact ⟨rfl, HB.out _ HZ7.out⟩
set_option maxRecDepth 100000 in
set_option maxHeartbeats 4000000 in
theorem lawLists_yes (A : Option Addr) (n cap : Nat) (ps : List Int) (a b c : Int) (w : World) (hamb : Amb11 w) (h : InZ w A n cap ps) (h9 : ¬ 9 < n) (hbl : ¬ b < 1) (hbh : ¬ 6 < b) :
    Calls Tryz.prog 6 #[.slice A n cap, .agg #[.int .i64 a, .int .i64 b, .int .i64 c]] w (SmallRes (.bool true) w) := by
  have HAMB := Lib.hid (fun wz (hb : Below w.heap.size w wz) => hamb.below hb)
  have HIN := Lib.hid (fun wz (hb : Below w.heap.size w wz) => h.below hb)
  clear hamb h
  have h9' : ¬ 9 < (n : Int) := by omega
  go_enter Tryz.func6, Tryz.ntmps6
  go_wp2_with fail
  obtain ⟨W, hW⟩ : ∃ W, (w.alloc (.cells #[.int .i64 a, .int .i64 b, .int .i64 c] 58)) = W := ⟨_, rfl⟩
  rw [hW]
  have hX : Box3i W w.heap.size a b c := hW ▸ Box3i.new w a b c _
  have HX := Lib.hid (fun wz (hb : Below W.heap.size W wz) => hX.later hb)
  have hBW : Below w.heap.size w W := hW ▸ (Below.refl _ _).alloc (Nat.le_refl _) _
  have HB := Lib.hid (fun wz (hb : Below W.heap.size W wz) => bel_chain hBW hb)
  clear hW hX hBW
  refine (known11_any _ (HAMB.out _ (HB.out _ (Below.refl _ _)))).mono ?_
  rintro e w1 ⟨rfl, hz1⟩
  go_upto_region 3 with fail
  go_cut [30] (fun s30 wx => s30 = .bool false ∧ Below W.heap.size W wx)
  case first =>
    obtain ⟨hg, ca, cb, cc⟩ := HX.out _ hz1
    obtain ⟨x, hx⟩ : ∃ x, pr a = x := ⟨_, rfl⟩
    obtain ⟨y, hy⟩ : ∃ y, chk ps = y := ⟨_, rfl⟩
    have K1 := Lib.hid (fun wz => show Calls Tryz.prog 33 #[.int .i64 a] wz (SmallRes (.bool x) wz) from hx ▸ isprime_any a wz)
    have K2 := Lib.hid (fun wz => show Calls Tryz.prog 34 #[.int .i64 a] wz (SmallRes (.bool x) wz) from hx ▸ lisprime_any a wz)
    have K3 := Lib.hid (fun wz (hz : InZ wz A n cap ps) => show Calls Tryz.prog 35 #[.slice A n cap] wz (SmallRes (.int .i64 y) wz) from hy ▸ pcheck_any A n cap ps wz hz)
    have K4 := Lib.hid (fun wz (hz : InZ wz A n cap ps) => show Calls Tryz.prog 26 #[.slice A n cap] wz (SmallRes (.int .i64 y) wz) from hy ▸ lcheck_any A n cap ps wz hz)
    clear hx hy cb cc
    go_region_with (first
      | ((with_reducible refine Calls.mono (K1.out _) ?_); rintro e w2 ⟨rfl, hb2⟩; have ca2 := (hb2.cell (p := ⟨w.heap.size, 0, none⟩) hg).trans ca; have hz2 := bel_chain (bel_drewN hz1 1) hb2)
      | ((with_reducible refine Calls.mono (K2.out _) ?_); rintro e w3 ⟨rfl, hb3⟩; have hz3 := bel_chain hz2 hb3)
      | ((with_reducible refine Calls.mono (K3.out _ (HIN.out _ (HB.out _ hz3))) ?_); rintro e w4 ⟨rfl, hb4⟩; have hz4 := bel_chain hz3 hb4)
      | ((with_reducible refine Calls.mono (K4.out _ (HIN.out _ (HB.out _ hz4))) ?_); rintro e w5 ⟨rfl, hb5⟩; have hz5 := bel_chain hz4 hb5))
    all_goals (go_wp2_with fail; go_meet; exact ⟨by simp, hz5⟩)
  case rest =>
    obtain ⟨rfl, hz1⟩ := hcut
    obtain ⟨hg, ca, cb, cc⟩ := HX.out _ hz1
    obtain ⟨k, rfl⟩ : ∃ k : Nat, b = (k : Int) := ⟨b.toNat, by omega⟩
    go_wp2_with fail
    refine (first_yes k _ (HAMB.out _ (HB.out _ hz1)).m (by omega) (by omega)).mono ?_
    rintro e w2 ⟨A2, n2, c2, rfl, hin2, hb2⟩
    obtain rfl : k = n2 := by have := hin2.1; rw [first_len k (by omega)] at this; exact this
    have hz2 := bel_chain hz1 hb2
    obtain ⟨hg2, ca2, cb2, cc2⟩ := HX.out _ hz2
    have HI2 := Lib.hid hin2
    have hb1' : ¬ (k : Int) < 1 := by omega
    have hb2' : ¬ 6 < (k : Int) := by omega
    clear hin2 hb2 hg ca cb cc
    go_upto_region 9 with fail
    go_cut [62] (fun s62 wx => s62 = .bool false ∧ Below W.heap.size W wx)
    case first =>
      have HFA := Lib.hid (first_all ⟨k, by omega⟩)
      have HEQ := Lib.hid (fun (A1 A2 : Option Addr) (c1 c2 : Nat) (w : World) (h1 : InZ w A1 k c1 (P25.take k)) (h2 : InZ w A2 k c2 ((pall 20).take k)) => show Calls Tryz.prog 25 #[.slice A1 k c1, .slice A2 k c2] w (SmallRes (.bool true) w) from by
        have hh := equalP_any A1 A2 k c1 k c2 _ _ w h1 h2
        have e : (P25.take k == (pall 20).take k) = true := by rw [beq_iff_eq]; exact HFA.out
        rw [e] at hh
        exact hh)
      go_region_with (first
        | ((with_reducible refine Calls.mono (lall_any 20 _) ?_); rintro e w3 ⟨v3, rfl, hown3, hb3⟩; have cb3 := (hb3.cell (p := ⟨w.heap.size, 1, none⟩) hg2).trans cb2; have hz3 := bel_chain (bel_drewN hz2 1) hb3; have HI3 := Lib.hid (HI2.out.below (bel_chain (bel_drewN (Below.refl _ _) 1) hb3)); rcases hown3 with ⟨_, e⟩ | ⟨g3, cap3, rfl, hg3, hzz⟩; (focus (rw [pall_20] at e; cases e)); rw [pall20_len] at hzz ⊢; have hle3 := hzz.le; have hcm3 := hzz.cap_le; have HZ3 := Lib.hid hzz.ins; clear hzz)
        | ((with_reducible refine Calls.mono (HEQ.out _ _ _ _ _ HI3.out (HZ3.out.take k _ (by omega) (by omega) (by omega))) ?_); rintro e w4 ⟨rfl, hb4⟩; have hz4 := bel_chain hz3 hb4))
      all_goals (go_wp2_with fail; go_meet; exact ⟨by simp, hz4⟩)
    case rest =>
      obtain ⟨rfl, hz2⟩ := hcut
      obtain ⟨hg2, ca2, cb2, cc2⟩ := HX.out _ hz2
      by_cases hc2 : c < 2
      · go_wp2_with fail
        refine (upto_low c _ hc2).mono ?_
        rintro e w5 ⟨rfl, hb5⟩
        have hz5 := bel_chain hz2 hb5
        obtain ⟨hg5, ca5, cb5, cc5⟩ := HX.out _ hz5
        have HZ5 := Lib.hid hz5
        clear hb5 hz5 hz2 hg2 ca2 cb2 cc2
        go_wp2_with fail
        go_ret
        exact ⟨rfl, HB.out _ HZ5.out⟩
      · by_cases hc17 : 17 ≤ c
        · go_wp2_with fail
          refine (upto_many c _ (HAMB.out _ (HB.out _ hz2)).m hc17).mono ?_
          rintro e w5 ⟨A5, n5, c5, rfl, hin5, hb5⟩
          obtain rfl : 0 = n5 := hin5.1
          have hz5 := bel_chain hz2 hb5
          obtain ⟨hg5, ca5, cb5, cc5⟩ := HX.out _ hz5
          have HZ5 := Lib.hid hz5
          clear hin5 hb5 hz5 hz2 hg2 ca2 cb2 cc2
          go_wp2_with fail
          go_ret
          exact ⟨rfl, HB.out _ HZ5.out⟩
        · go_wp2_with fail
          refine (upto_few c _ (HAMB.out _ (HB.out _ hz2)).m (by omega) (by omega)).mono ?_
          rintro e w5 ⟨A5, n5, c5, rfl, hin5, hb5⟩
          have hz5 := bel_chain hz2 hb5
          have HI5 := Lib.hid hin5
          obtain ⟨hg5, ca5, cb5, cc5⟩ := HX.out _ hz5
          clear hin5 hb5 hz2 hg2 ca2 cb2 cc2
          go_wp2_with fail
          refine (lall_any c _).mono ?_
          rintro e w6 ⟨v6, rfl, hown6, hb6⟩
          have hz6 := bel_chain hz5 hb6
          obtain ⟨A6, c6, rfl, hin6⟩ := hown6.ins
          have HI6 := Lib.hid hin6
          have HI5' := Lib.hid (HI5.out.below hb6)
          clear hown6 hin6 hb6 hz5
          go_wp2_with fail
          refine (equalP_any _ _ _ _ _ _ _ _ _ HI5'.out HI6.out).mono ?_
          rintro e w7 ⟨rfl, hb7⟩
          have HZ7 := Lib.hid (bel_chain hz6 hb7)
          rw [show (pall c == pall c) = true from beq_self_eq_true _]
          clear hb7 hz6
          go_wp2_with fail
          go_ret
          exact ⟨rfl, HB.out _ HZ7.out⟩
/-- The walk. -/
theorem lawLists_walk (A : Option Addr) (n cap : Nat) (ps : List Int) (a b c : Int) (w : World) (hamb : Amb11 w) (h : InZ w A n cap ps) :
    Calls Tryz.prog 6 #[.slice A n cap, .agg #[.int .i64 a, .int .i64 b, .int .i64 c]] w (SmallRes (.bool true) w) := by
  by_cases h9 : 9 < n
  · exact lawLists_long A n cap ps a b c w hamb h h9
  by_cases hb : b < 1
  · exact lawLists_low A n cap ps a b c w hamb h h9 hb
  by_cases hb6 : 6 < b
  · exact lawLists_high A n cap ps a b c w hamb h h9 hb hb6
  · exact lawLists_yes A n cap ps a b c w hamb h h9 hb hb6
end Go.Proofs.YtdjhngbpfdopnaaGreatDoor
