/- Greater text, out of: K42. -/
import Derived.Test.YtfokdhpccajmbaaGreatDoorK38
import Derived.OrdersHeld
namespace Go.Proofs.YtfokdhpccajmbaaGreatDoor
open Go.RowKit Go.PlainAid
attribute [local go_sem] field_rat0 field_rat1
set_option maxHeartbeats 1000000 in
/-- Mediant, of what is not right. -/
theorem Mediant_no (n d n2 d2 : ByteArray) (w : World) (hamb : Amb w) (hn : n.size ≤ 1000000000) (hd : d.size ≤ 1000000000) (hn2 : n2.size ≤ 1000000000) (hd2 : d2.size ≤ 1000000000) (hr : RB n d = false ∨ RB n2 d2 = false) :
    Calls Tryz.prog 14 #[.agg #[.string n, .string d], .agg #[.string n2, .string d2]] w (SmallRes (.tuple #[.agg #[.string ⟨#[]⟩, .string ⟨#[]⟩], .int .i64 2]) w) := by
  obtain ⟨r1, hr1⟩ : ∃ r, RB n d = r := ⟨_, rfl⟩
  obtain ⟨r2, hr2⟩ : ∃ r, RB n2 d2 = r := ⟨_, rfl⟩
  have HW1 := Lib.hid (fun w h => wrong_any n d w h hn hd r1 hr1)
  have HW2 := Lib.hid (fun w h => wrong_any n2 d2 w h hn2 hd2 r2 hr2)
  rw [hr1, hr2] at hr
  have HAMB := Lib.hid hamb
  clear hamb hr1 hr2 hn hd hn2 hd2
  go_enter Tryz.func14, Tryz.ntmps14
  go_wp2_with fail
  obtain ⟨W, hW⟩ : ∃ W, ((w.alloc (.cells #[.string n, .string d] 24)).alloc (.cells #[.string n2, .string d2] 24)).alloc (.cells #[.string ⟨#[]⟩, .string ⟨#[]⟩] 24) = W := ⟨_, rfl⟩
  rw [hW]
  obtain ⟨hX, hBW⟩ := B3.of hW
  clear hW
  have HX := Lib.hid (fun wz (hb : Below W.heap.size W wz) => hX.later hb)
  have HB := Lib.hid hBW
  clear hX hBW
  refine (HW1.out W (HAMB.out.below HB.out)).mono ?_
  rintro e w1 ⟨rfl, hb1⟩
  obtain ⟨⟨_, a0, a1, _, _⟩, ⟨_, b0, b1, _, _⟩, ⟨_, c0, c1, f0, f1⟩⟩ := HX.out _ hb1
  cases r1
  · clear hr
    go_wp2_with fail
    refine ret_cell_tmp rfl rfl (load_rat (g := w.heap.size + 1 + 1) ((HX.out _ hb1).store2 _ _).2.2) rfl ?_
    exact ⟨rfl, ((bel_chain HB.out hb1).setCell (by simp <;> omega) _).setCell (by simp <;> omega) _⟩
  · obtain rfl : r2 = false := by rcases hr with h | h; cases h; exact h
    clear hr
    go_wp2_with fail
    refine (HW2.out w1 (HAMB.out.below (bel_chain HB.out hb1))).mono ?_
    rintro e w2 ⟨rfl, hb2⟩
    have hz2 := bel_chain hb1 hb2
    clear a0 a1 b0 b1 c0 c1 f0 f1 hb2
    obtain ⟨⟨_, a0, a1, _, _⟩, ⟨_, b0, b1, _, _⟩, ⟨_, c0, c1, f0, f1⟩⟩ := HX.out _ hz2
    go_wp2_with fail
    refine ret_cell_tmp rfl rfl (load_rat (g := w.heap.size + 1 + 1) ((HX.out _ hz2).store2 _ _).2.2) rfl ?_
    exact ⟨rfl, ((bel_chain HB.out hz2).setCell (by simp <;> omega) _).setCell (by simp <;> omega) _⟩

-- printed by gen_k42.py
theorem RB_q (x : Rat) (h : NQ x 400) : RB (itx x.num) (itx (x.den : Int)) = true := by
  have e1 := (itx_inj (canonR_itx (canonR_itoa x.num h.1)).1).symm
  have e2 := (itx_inj (canonR_itx (canonR_itoa (x.den : Int) h.2)).1).symm
  unfold RB rightB
  rw [canonR_itoa _ h.1, canonR_itoa _ h.2, e1, e2, decide_eq_true (rden_pos x), decide_eq_true (rat_gcd x)]
  rfl

set_option maxRecDepth 100000 in
set_option maxHeartbeats 8000000 in
/-- Mediant, of two right fractions. -/
theorem Mediant_any (p q : Rat) (w : World) (hamb : Amb w) (hp : NQ p 20) (hq : NQ q 20) :
    Calls Tryz.prog 14 #[rv p, rv q] w (SmallRes (.tuple #[rv (Rat.divInt (p.num + q.num) ((p.den : Int) + (q.den : Int))), .int .i64 0]) w) := by
  have hpd := rden_pos p
  have hqd := rden_pos q
  have HRB := Lib.hid (fun (x : Rat) (k : Nat) (h : NQ x k) (hk : k ≤ 400) => RB_q x (h.mono hk))
  have HWR := Lib.hid (fun (x : Rat) (h : NQ x 400) w hw => show Calls Tryz.prog 40 #[.agg #[.string (itx x.num), .string (itx (x.den : Int))]] w (SmallRes (.bool false) w) from wrong_any _ _ w hw (by have := itx_size_le x.num; have := h.1; omega) (by have := itx_size_le (x.den : Int); have := h.2; omega) true (RB_q x h))
  have HW1 := Lib.hid (fun w h => HWR.out p (hp.mono (by omega)) w h)
  have HW2 := Lib.hid (fun w h => HWR.out q (hq.mono (by omega)) w h)
  have hsn := Nat.le_trans (nz_add p.num q.num) (show max (nz p.num) (nz q.num) + 1 ≤ 21 by have := hp.1; have := hq.1; omega)
  have hsd := Nat.le_trans (nz_add (p.den : Int) (q.den : Int)) (show max (nz (p.den : Int)) (nz (q.den : Int)) + 1 ≤ 21 by have := hp.2; have := hq.2; omega)
  have HC1 := Lib.hid (fun w h => wadd_any p.num q.num w h (by have := hp.1; omega) (by have := hq.1; omega))
  have HC2 := Lib.hid (fun w h => wadd_any (p.den : Int) (q.den : Int) w h (by have := hp.2; omega) (by have := hq.2; omega))
  have HC3 := Lib.hid (fun w h => over_any (p.num + q.num) ((p.den : Int) + (q.den : Int)) w h (by omega) (by omega) (by omega))
  have hM := NQ.of_divInt (n := p.num + q.num) (d := (p.den : Int) + (q.den : Int)) (by omega) hsn hsd
  obtain ⟨M, hMM⟩ : ∃ M, Rat.divInt (p.num + q.num) ((p.den : Int) + (q.den : Int)) = M := ⟨_, rfl⟩
  obtain ⟨sn, h1⟩ : ∃ x, p.num + q.num = x := ⟨_, rfl⟩
  obtain ⟨sd, h2⟩ : ∃ x, (p.den : Int) + (q.den : Int) = x := ⟨_, rfl⟩
  rw [hMM] at HC3 hM ⊢
  rw [h1] at HC1 HC3
  rw [h2] at HC2 HC3
  have HW3 := Lib.hid (fun w h => HWR.out M (hM.mono (by omega)) w h)
  have HAMB := Lib.hid hamb
  clear hamb hp hq hsn hsd hM hMM h1 h2 hpd hqd HWR HRB
  go_enter Tryz.func14, Tryz.ntmps14
  go_wp2_with fail
  obtain ⟨W, hW⟩ : ∃ W, ((w.alloc (.cells #[.string (itx p.num), .string (itx (p.den : Int))] 24)).alloc (.cells #[.string (itx q.num), .string (itx (q.den : Int))] 24)).alloc (.cells #[.string ⟨#[]⟩, .string ⟨#[]⟩] 24) = W := ⟨_, rfl⟩
  rw [hW]
  obtain ⟨hX, hBW⟩ := B3.of hW
  clear hW
  have HX := Lib.hid (fun wz (hb : Below W.heap.size W wz) => hX.later hb)
  have HB := Lib.hid hBW
  have HAW := Lib.hid (fun wz (hb : Below W.heap.size W wz) => HAMB.out.below (bel_chain HB.out hb))
  clear hX hBW
  refine (HW1.out W (HAW.out _ (Below.refl _ _))).mono ?_
  rintro e w1 ⟨rfl, hb1⟩
  obtain ⟨⟨_, a0, a1, _, _⟩, ⟨_, b0, b1, _, _⟩, ⟨_, c0, c1, f0, f1⟩⟩ := HX.out _ hb1
  go_wp2_with fail
  refine (HW2.out w1 (HAW.out _ hb1)).mono ?_
  rintro e w2 ⟨rfl, hb2⟩
  have hz2 := bel_chain hb1 hb2
  clear a0 a1 b0 b1 c0 c1 f0 f1 hb2 hb1
  have HSS := Lib.hid (fun wz (hb : Below W.heap.size W wz) => show wz.cell? ⟨w.heap.size, 0, none⟩ = some (.string (itx p.num)) ∧ wz.cell? ⟨w.heap.size, 1, none⟩ = some (.string (itx (p.den : Int))) ∧ wz.cell? ⟨w.heap.size + 1, 0, none⟩ = some (.string (itx q.num)) ∧ wz.cell? ⟨w.heap.size + 1, 1, none⟩ = some (.string (itx (q.den : Int))) from ⟨(HX.out _ hb).1.2.1, (HX.out _ hb).1.2.2.1, (HX.out _ hb).2.1.2.1, (HX.out _ hb).2.1.2.2.1⟩)
  go_wp2_with fail
  have hz3 : Below W.heap.size W w2.drew := hz2.drew
  obtain ⟨w3, hw3⟩ : ∃ x, w2.drew = x := ⟨_, rfl⟩
  refine wp_region_held_drew (S := fun w' => w'.cell? ⟨w.heap.size, 0, none⟩ = some (.string (itx p.num)) ∧ w'.cell? ⟨w.heap.size, 1, none⟩ = some (.string (itx (p.den : Int))) ∧ w'.cell? ⟨w.heap.size + 1, 0, none⟩ = some (.string (itx q.num)) ∧ w'.cell? ⟨w.heap.size + 1, 1, none⟩ = some (.string (itx (q.den : Int)))) (by kernel_rfl) (HSS.out _ hz3) (fun hS => ?_)
  rw [hw3] at hz3 hS ⊢
  clear hw3
  refine wpAnyH_take (i := 0) (v := ?_) rfl (by kernel_rfl) (by kernel_rfl) (by kernel_rfl) (fun _ _ _ h => h) (Or.inl ⟨by kernel_rfl, ?_⟩) (by assumption) ?_
  rotate_left
  · intro w hSw
    try dsimp only at hSw
    go_simp
    try with_reducible rfl
  try simp only [Act.put, List.getElem_toArray, List.getElem_cons_zero, List.setIfInBounds_toArray, List.set_cons_zero, List.set_cons_succ]
  refine wpAnyH_take (i := 1) (v := ?_) rfl (by kernel_rfl) (by kernel_rfl) (by kernel_rfl) (fun _ _ _ h => h) (Or.inl ⟨by kernel_rfl, ?_⟩) (by assumption) ?_
  rotate_left
  · intro w hSw
    try dsimp only at hSw
    go_simp
    try with_reducible rfl
  try simp only [Act.put, List.getElem_toArray, List.getElem_cons_zero, List.getElem_cons_succ, List.setIfInBounds_toArray, List.set_cons_zero, List.set_cons_succ]
  refine wpAnyH_take (i := 2) (v := ?_) rfl (by kernel_rfl) (by kernel_rfl) (by kernel_rfl) (fun _ _ _ h => h) (Or.inl ⟨by kernel_rfl, ?_⟩) (by assumption) ?_
  rotate_left
  · intro w hSw
    try dsimp only at hSw
    go_simp
    try with_reducible rfl
  try simp only [Act.put, List.getElem_toArray, List.getElem_cons_zero, List.getElem_cons_succ, List.setIfInBounds_toArray, List.set_cons_zero, List.set_cons_succ]
  refine wpAnyH_take (i := 3) (v := ?_) rfl (by kernel_rfl) (by kernel_rfl) (by kernel_rfl) (fun _ _ _ h => h) (Or.inl ⟨by kernel_rfl, ?_⟩) (by assumption) ?_
  rotate_left
  · intro w hSw
    try dsimp only at hSw
    go_simp
    try with_reducible rfl
  try simp only [Act.put, List.getElem_toArray, List.getElem_cons_zero, List.getElem_cons_succ, List.setIfInBounds_toArray, List.set_cons_zero, List.set_cons_succ]
  refine wpAnyH_take (i := 5) (v := ?_) rfl (by kernel_rfl) (by kernel_rfl) (by kernel_rfl) (fun _ _ _ h => h) (Or.inl ⟨by kernel_rfl, ?_⟩) (by assumption) ?_
  rotate_left
  · intro w hSw
    try dsimp only at hSw
    go_simp
    try with_reducible rfl
  try simp only [Act.put, List.getElem_toArray, List.getElem_cons_zero, List.getElem_cons_succ, List.setIfInBounds_toArray, List.set_cons_zero, List.set_cons_succ]
  refine wpAnyH_take (i := 6) (v := ?_) rfl (by kernel_rfl) (by kernel_rfl) (by kernel_rfl) (fun _ _ _ h => h) (Or.inl ⟨by kernel_rfl, ?_⟩) (by assumption) ?_
  rotate_left
  · intro w hSw
    try dsimp only at hSw
    go_simp
    try with_reducible rfl
  try simp only [Act.put, List.getElem_toArray, List.getElem_cons_zero, List.getElem_cons_succ, List.setIfInBounds_toArray, List.set_cons_zero, List.set_cons_succ]
  refine wpAnyH_take (i := 7) (v := ?_) rfl (by kernel_rfl) (by kernel_rfl) (by kernel_rfl) (fun _ _ _ h => h) (Or.inl ⟨by kernel_rfl, ?_⟩) (by assumption) ?_
  rotate_left
  · intro w hSw
    try dsimp only at hSw
    go_simp
    try with_reducible rfl
  try simp only [Act.put, List.getElem_toArray, List.getElem_cons_zero, List.getElem_cons_succ, List.setIfInBounds_toArray, List.set_cons_zero, List.set_cons_succ]
  refine wpAnyH_take (i := 8) (v := ?_) rfl (by kernel_rfl) (by kernel_rfl) (by kernel_rfl) (fun _ _ _ h => h) (Or.inl ⟨by kernel_rfl, ?_⟩) (by assumption) ?_
  rotate_left
  · intro w hSw
    try dsimp only at hSw
    go_simp
    try with_reducible rfl
  try simp only [Act.put, List.getElem_toArray, List.getElem_cons_zero, List.getElem_cons_succ, List.setIfInBounds_toArray, List.set_cons_zero, List.set_cons_succ]
  refine wpAnyH_ready (rs := [4, 11]) (by kernel_rfl) (by simp) ?_
  refine AllReadyH.cons rfl (fun K hK => ?_) (AllReadyH.cons rfl (fun K hK => ?_) AllReadyH.nil)
  · go_simp
    refine (HC1.out _ (HAW.out _ hz3)).mono ?_
    rintro e w4 ⟨rfl, hb4⟩
    have hz4 := bel_chain hz3 hb4
    go_wp2_with fail
    refine hK.out _ _ (HSS.out _ hz4) (fun hHeld => ?_)
    clear hK K hS
    have hS := hHeld
    clear hHeld
    try simp only [Act.put, List.getElem_toArray, List.getElem_cons_zero, List.getElem_cons_succ, List.setIfInBounds_toArray, List.set_cons_zero, List.set_cons_succ]
    refine wpAnyH_ready (rs := [9, 11]) (by kernel_rfl) (by simp) ?_
    refine AllReadyH.cons rfl (fun K hK => ?_) (AllReadyH.cons rfl (fun K hK => ?_) AllReadyH.nil)
    · go_simp
      refine (HC2.out _ (HAW.out _ hz4)).mono ?_
      rintro e w5 ⟨rfl, hb5⟩
      have hz5 := bel_chain hz4 hb5
      go_wp2_with fail
      refine hK.out _ _ (HSS.out _ hz5) (fun hHeld => ?_)
      clear hK K hS
      have hS := hHeld
      clear hHeld
      try simp only [Act.put, List.getElem_toArray, List.getElem_cons_zero, List.getElem_cons_succ, List.setIfInBounds_toArray, List.set_cons_zero, List.set_cons_succ]
      refine wpAnyH_ready (rs := [10, 11]) (by kernel_rfl) (by simp) ?_
      refine AllReadyH.cons rfl (fun K hK => ?_) (AllReadyH.cons rfl (fun K hK => ?_) AllReadyH.nil)
      · go_simp
        refine (HC3.out _ (HAW.out _ hz5)).mono ?_
        rintro e w6 ⟨rfl, hb6⟩
        have hz6 := bel_chain hz5 hb6
        go_wp2_with fail
        refine hK.out _ _ (HSS.out _ hz6) (fun hHeld => ?_)
        clear hK K hS
        have hS := hHeld
        clear hHeld
        try simp only [Act.put, List.getElem_toArray, List.getElem_cons_zero, List.getElem_cons_succ, List.setIfInBounds_toArray, List.set_cons_zero, List.set_cons_succ]
        refine wpAnyH_ready (rs := [11]) (by kernel_rfl) (by simp) ?_
        refine AllReadyH.cons rfl (fun K hK => ?_) AllReadyH.nil
        obtain ⟨w7, hw7⟩ : ∃ W, w6.alloc (.cells #[.string ⟨#[]⟩, .string ⟨#[]⟩] 24) = W := ⟨_, rfl⟩
        obtain ⟨hn7, hb7⟩ := B1.of hw7
        have HN7 := Lib.hid hn7
        have hz7 := bel_chain hz6 hb7
        have HGS := Lib.hid (show W.heap.size ≤ w6.heap.size from hz6.size)
        go_wp2_with fail
        try rw [hw7]
        refine hK.out _ _ (HSS.out _ hz7) (fun hHeld => ?_)
        clear hK K hS hn7
        have hS := hHeld
        clear hHeld
        try simp only [Act.put, List.getElem_toArray, List.getElem_cons_zero, List.getElem_cons_succ, List.setIfInBounds_toArray, List.set_cons_zero, List.set_cons_succ]
        refine wpAnyH_ready (rs := [12]) (by kernel_rfl) (by simp) ?_
        refine AllReadyH.cons rfl (fun K hK => ?_) AllReadyH.nil
        obtain ⟨_, n0, n1, nf0, nf1⟩ := HN7.out
        go_wp2_with fail
        obtain ⟨v9, hv9⟩ : ∃ x, (w7.setCell ⟨w6.heap.size, 0, none⟩ (.string (itx M.num))).setCell ⟨w6.heap.size, 1, none⟩ (.string (itx (M.den : Int))) = x := ⟨_, rfl⟩
        try rw [hv9]
        have HNB := Lib.hid (show B1 w6.heap.size (.string (itx M.num)) (.string (itx (M.den : Int))) v9 from hv9 ▸ HN7.out.store0 _ _)
        have hz9 : Below W.heap.size W v9 := hv9 ▸ (hz7.setCell (p := ⟨w6.heap.size, 0, none⟩) HGS.out _).setCell (p := ⟨w6.heap.size, 1, none⟩) HGS.out _
        refine hK.out _ _ (HSS.out _ hz9) (fun _ => ?_)
        clear hK K hS n0 n1 nf0 nf1 hv9
        try simp only [Act.put, List.getElem_toArray, List.getElem_cons_zero, List.getElem_cons_succ, List.setIfInBounds_toArray, List.set_cons_zero, List.set_cons_succ]
        refine wpAnyH_done (by kernel_rfl) ?_ _
        obtain ⟨_, n0, n1, _, _⟩ := HNB.out
        go_wp2_with fail
        refine (HW3.out _ (HAW.out _ hz9)).mono ?_
        rintro e v10 ⟨rfl, hc10⟩
        have hz10 := bel_chain hz9 hc10
        clear n0 n1
        obtain ⟨_, n0, n1, _, _⟩ := HNB.out.later hc10
        obtain ⟨_, _, ⟨_, c0, c1, f0, f1⟩⟩ := HX.out _ hz10
        go_wp2_with fail
        refine ret_cell_tmp rfl rfl (load_rat (g := w.heap.size + 1 + 1) ((HX.out _ hz10).store2 _ _).2.2) rfl ?_
        exact ⟨rfl, ((bel_chain HB.out hz10).setCell (by simp <;> omega) _).setCell (by simp <;> omega) _⟩
      · obtain ⟨w6, hw6⟩ : ∃ W, w5.alloc (.cells #[.string ⟨#[]⟩, .string ⟨#[]⟩] 24) = W := ⟨_, rfl⟩
        obtain ⟨hn6, hb6⟩ := B1.of hw6
        have HN6 := Lib.hid hn6
        have hz6 := bel_chain hz5 hb6
        have HGS := Lib.hid (show W.heap.size ≤ w5.heap.size from hz5.size)
        go_wp2_with fail
        try rw [hw6]
        refine hK.out _ _ (HSS.out _ hz6) (fun hHeld => ?_)
        clear hK K hS hn6
        have hS := hHeld
        clear hHeld
        try simp only [Act.put, List.getElem_toArray, List.getElem_cons_zero, List.getElem_cons_succ, List.setIfInBounds_toArray, List.set_cons_zero, List.set_cons_succ]
        refine wpAnyH_ready (rs := [10]) (by kernel_rfl) (by simp) ?_
        refine AllReadyH.cons rfl (fun K hK => ?_) AllReadyH.nil
        go_simp
        refine (HC3.out _ (HAW.out _ hz6)).mono ?_
        rintro e w7 ⟨rfl, hb7⟩
        have hz7 := bel_chain hz6 hb7
        have HN7 := Lib.hid (HN6.out.later hb7)
        go_wp2_with fail
        refine hK.out _ _ (HSS.out _ hz7) (fun hHeld => ?_)
        clear hK K hS
        have hS := hHeld
        clear hHeld
        try simp only [Act.put, List.getElem_toArray, List.getElem_cons_zero, List.getElem_cons_succ, List.setIfInBounds_toArray, List.set_cons_zero, List.set_cons_succ]
        refine wpAnyH_ready (rs := [12]) (by kernel_rfl) (by simp) ?_
        refine AllReadyH.cons rfl (fun K hK => ?_) AllReadyH.nil
        obtain ⟨_, n0, n1, nf0, nf1⟩ := HN7.out
        go_wp2_with fail
        obtain ⟨v9, hv9⟩ : ∃ x, (w7.setCell ⟨w5.heap.size, 0, none⟩ (.string (itx M.num))).setCell ⟨w5.heap.size, 1, none⟩ (.string (itx (M.den : Int))) = x := ⟨_, rfl⟩
        try rw [hv9]
        have HNB := Lib.hid (show B1 w5.heap.size (.string (itx M.num)) (.string (itx (M.den : Int))) v9 from hv9 ▸ HN7.out.store0 _ _)
        have hz9 : Below W.heap.size W v9 := hv9 ▸ (hz7.setCell (p := ⟨w5.heap.size, 0, none⟩) HGS.out _).setCell (p := ⟨w5.heap.size, 1, none⟩) HGS.out _
        refine hK.out _ _ (HSS.out _ hz9) (fun _ => ?_)
        clear hK K hS n0 n1 nf0 nf1 hv9
        try simp only [Act.put, List.getElem_toArray, List.getElem_cons_zero, List.getElem_cons_succ, List.setIfInBounds_toArray, List.set_cons_zero, List.set_cons_succ]
        refine wpAnyH_done (by kernel_rfl) ?_ _
        obtain ⟨_, n0, n1, _, _⟩ := HNB.out
        go_wp2_with fail
        refine (HW3.out _ (HAW.out _ hz9)).mono ?_
        rintro e v10 ⟨rfl, hc10⟩
        have hz10 := bel_chain hz9 hc10
        clear n0 n1
        obtain ⟨_, n0, n1, _, _⟩ := HNB.out.later hc10
        obtain ⟨_, _, ⟨_, c0, c1, f0, f1⟩⟩ := HX.out _ hz10
        go_wp2_with fail
        refine ret_cell_tmp rfl rfl (load_rat (g := w.heap.size + 1 + 1) ((HX.out _ hz10).store2 _ _).2.2) rfl ?_
        exact ⟨rfl, ((bel_chain HB.out hz10).setCell (by simp <;> omega) _).setCell (by simp <;> omega) _⟩
    · obtain ⟨w5, hw5⟩ : ∃ W, w4.alloc (.cells #[.string ⟨#[]⟩, .string ⟨#[]⟩] 24) = W := ⟨_, rfl⟩
      obtain ⟨hn5, hb5⟩ := B1.of hw5
      have HN5 := Lib.hid hn5
      have hz5 := bel_chain hz4 hb5
      have HGS := Lib.hid (show W.heap.size ≤ w4.heap.size from hz4.size)
      go_wp2_with fail
      try rw [hw5]
      refine hK.out _ _ (HSS.out _ hz5) (fun hHeld => ?_)
      clear hK K hS hn5
      have hS := hHeld
      clear hHeld
      try simp only [Act.put, List.getElem_toArray, List.getElem_cons_zero, List.getElem_cons_succ, List.setIfInBounds_toArray, List.set_cons_zero, List.set_cons_succ]
      refine wpAnyH_ready (rs := [9]) (by kernel_rfl) (by simp) ?_
      refine AllReadyH.cons rfl (fun K hK => ?_) AllReadyH.nil
      go_simp
      refine (HC2.out _ (HAW.out _ hz5)).mono ?_
      rintro e w6 ⟨rfl, hb6⟩
      have hz6 := bel_chain hz5 hb6
      have HN6 := Lib.hid (HN5.out.later hb6)
      go_wp2_with fail
      refine hK.out _ _ (HSS.out _ hz6) (fun hHeld => ?_)
      clear hK K hS
      have hS := hHeld
      clear hHeld
      try simp only [Act.put, List.getElem_toArray, List.getElem_cons_zero, List.getElem_cons_succ, List.setIfInBounds_toArray, List.set_cons_zero, List.set_cons_succ]
      refine wpAnyH_ready (rs := [10]) (by kernel_rfl) (by simp) ?_
      refine AllReadyH.cons rfl (fun K hK => ?_) AllReadyH.nil
      go_simp
      refine (HC3.out _ (HAW.out _ hz6)).mono ?_
      rintro e w7 ⟨rfl, hb7⟩
      have hz7 := bel_chain hz6 hb7
      have HN7 := Lib.hid (HN6.out.later hb7)
      go_wp2_with fail
      refine hK.out _ _ (HSS.out _ hz7) (fun hHeld => ?_)
      clear hK K hS
      have hS := hHeld
      clear hHeld
      try simp only [Act.put, List.getElem_toArray, List.getElem_cons_zero, List.getElem_cons_succ, List.setIfInBounds_toArray, List.set_cons_zero, List.set_cons_succ]
      refine wpAnyH_ready (rs := [12]) (by kernel_rfl) (by simp) ?_
      refine AllReadyH.cons rfl (fun K hK => ?_) AllReadyH.nil
      obtain ⟨_, n0, n1, nf0, nf1⟩ := HN7.out
      go_wp2_with fail
      obtain ⟨v9, hv9⟩ : ∃ x, (w7.setCell ⟨w4.heap.size, 0, none⟩ (.string (itx M.num))).setCell ⟨w4.heap.size, 1, none⟩ (.string (itx (M.den : Int))) = x := ⟨_, rfl⟩
      try rw [hv9]
      have HNB := Lib.hid (show B1 w4.heap.size (.string (itx M.num)) (.string (itx (M.den : Int))) v9 from hv9 ▸ HN7.out.store0 _ _)
      have hz9 : Below W.heap.size W v9 := hv9 ▸ (hz7.setCell (p := ⟨w4.heap.size, 0, none⟩) HGS.out _).setCell (p := ⟨w4.heap.size, 1, none⟩) HGS.out _
      refine hK.out _ _ (HSS.out _ hz9) (fun _ => ?_)
      clear hK K hS n0 n1 nf0 nf1 hv9
      try simp only [Act.put, List.getElem_toArray, List.getElem_cons_zero, List.getElem_cons_succ, List.setIfInBounds_toArray, List.set_cons_zero, List.set_cons_succ]
      refine wpAnyH_done (by kernel_rfl) ?_ _
      obtain ⟨_, n0, n1, _, _⟩ := HNB.out
      go_wp2_with fail
      refine (HW3.out _ (HAW.out _ hz9)).mono ?_
      rintro e v10 ⟨rfl, hc10⟩
      have hz10 := bel_chain hz9 hc10
      clear n0 n1
      obtain ⟨_, n0, n1, _, _⟩ := HNB.out.later hc10
      obtain ⟨_, _, ⟨_, c0, c1, f0, f1⟩⟩ := HX.out _ hz10
      go_wp2_with fail
      refine ret_cell_tmp rfl rfl (load_rat (g := w.heap.size + 1 + 1) ((HX.out _ hz10).store2 _ _).2.2) rfl ?_
      exact ⟨rfl, ((bel_chain HB.out hz10).setCell (by simp <;> omega) _).setCell (by simp <;> omega) _⟩
  · obtain ⟨w4, hw4⟩ : ∃ W, w3.alloc (.cells #[.string ⟨#[]⟩, .string ⟨#[]⟩] 24) = W := ⟨_, rfl⟩
    obtain ⟨hn4, hb4⟩ := B1.of hw4
    have HN4 := Lib.hid hn4
    have hz4 := bel_chain hz3 hb4
    have HGS := Lib.hid (show W.heap.size ≤ w3.heap.size from hz3.size)
    go_wp2_with fail
    try rw [hw4]
    refine hK.out _ _ (HSS.out _ hz4) (fun hHeld => ?_)
    clear hK K hS hn4
    have hS := hHeld
    clear hHeld
    try simp only [Act.put, List.getElem_toArray, List.getElem_cons_zero, List.getElem_cons_succ, List.setIfInBounds_toArray, List.set_cons_zero, List.set_cons_succ]
    refine wpAnyH_ready (rs := [4]) (by kernel_rfl) (by simp) ?_
    refine AllReadyH.cons rfl (fun K hK => ?_) AllReadyH.nil
    go_simp
    refine (HC1.out _ (HAW.out _ hz4)).mono ?_
    rintro e w5 ⟨rfl, hb5⟩
    have hz5 := bel_chain hz4 hb5
    have HN5 := Lib.hid (HN4.out.later hb5)
    go_wp2_with fail
    refine hK.out _ _ (HSS.out _ hz5) (fun hHeld => ?_)
    clear hK K hS
    have hS := hHeld
    clear hHeld
    try simp only [Act.put, List.getElem_toArray, List.getElem_cons_zero, List.getElem_cons_succ, List.setIfInBounds_toArray, List.set_cons_zero, List.set_cons_succ]
    refine wpAnyH_ready (rs := [9]) (by kernel_rfl) (by simp) ?_
    refine AllReadyH.cons rfl (fun K hK => ?_) AllReadyH.nil
    go_simp
    refine (HC2.out _ (HAW.out _ hz5)).mono ?_
    rintro e w6 ⟨rfl, hb6⟩
    have hz6 := bel_chain hz5 hb6
    have HN6 := Lib.hid (HN5.out.later hb6)
    go_wp2_with fail
    refine hK.out _ _ (HSS.out _ hz6) (fun hHeld => ?_)
    clear hK K hS
    have hS := hHeld
    clear hHeld
    try simp only [Act.put, List.getElem_toArray, List.getElem_cons_zero, List.getElem_cons_succ, List.setIfInBounds_toArray, List.set_cons_zero, List.set_cons_succ]
    refine wpAnyH_ready (rs := [10]) (by kernel_rfl) (by simp) ?_
    refine AllReadyH.cons rfl (fun K hK => ?_) AllReadyH.nil
    go_simp
    refine (HC3.out _ (HAW.out _ hz6)).mono ?_
    rintro e w7 ⟨rfl, hb7⟩
    have hz7 := bel_chain hz6 hb7
    have HN7 := Lib.hid (HN6.out.later hb7)
    go_wp2_with fail
    refine hK.out _ _ (HSS.out _ hz7) (fun hHeld => ?_)
    clear hK K hS
    have hS := hHeld
    clear hHeld
    try simp only [Act.put, List.getElem_toArray, List.getElem_cons_zero, List.getElem_cons_succ, List.setIfInBounds_toArray, List.set_cons_zero, List.set_cons_succ]
    refine wpAnyH_ready (rs := [12]) (by kernel_rfl) (by simp) ?_
    refine AllReadyH.cons rfl (fun K hK => ?_) AllReadyH.nil
    obtain ⟨_, n0, n1, nf0, nf1⟩ := HN7.out
    go_wp2_with fail
    obtain ⟨v9, hv9⟩ : ∃ x, (w7.setCell ⟨w3.heap.size, 0, none⟩ (.string (itx M.num))).setCell ⟨w3.heap.size, 1, none⟩ (.string (itx (M.den : Int))) = x := ⟨_, rfl⟩
    try rw [hv9]
    have HNB := Lib.hid (show B1 w3.heap.size (.string (itx M.num)) (.string (itx (M.den : Int))) v9 from hv9 ▸ HN7.out.store0 _ _)
    have hz9 : Below W.heap.size W v9 := hv9 ▸ (hz7.setCell (p := ⟨w3.heap.size, 0, none⟩) HGS.out _).setCell (p := ⟨w3.heap.size, 1, none⟩) HGS.out _
    refine hK.out _ _ (HSS.out _ hz9) (fun _ => ?_)
    clear hK K hS n0 n1 nf0 nf1 hv9
    try simp only [Act.put, List.getElem_toArray, List.getElem_cons_zero, List.getElem_cons_succ, List.setIfInBounds_toArray, List.set_cons_zero, List.set_cons_succ]
    refine wpAnyH_done (by kernel_rfl) ?_ _
    obtain ⟨_, n0, n1, _, _⟩ := HNB.out
    go_wp2_with fail
    refine (HW3.out _ (HAW.out _ hz9)).mono ?_
    rintro e v10 ⟨rfl, hc10⟩
    have hz10 := bel_chain hz9 hc10
    clear n0 n1
    obtain ⟨_, n0, n1, _, _⟩ := HNB.out.later hc10
    obtain ⟨_, _, ⟨_, c0, c1, f0, f1⟩⟩ := HX.out _ hz10
    go_wp2_with fail
    refine ret_cell_tmp rfl rfl (load_rat (g := w.heap.size + 1 + 1) ((HX.out _ hz10).store2 _ _).2.2) rfl ?_
    exact ⟨rfl, ((bel_chain HB.out hz10).setCell (by simp <;> omega) _).setCell (by simp <;> omega) _⟩
end Go.Proofs.YtfokdhpccajmbaaGreatDoor
