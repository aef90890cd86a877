/- Greater text, out of: K32. -/
import Derived.Test.YtpafocfpofnkpaaGreatDoorK30
import Derived.Test.YtpafocfpofnkpaaGreatDoorKa
import Derived.Test.YtpafocfpofnkpaaGreatDoorGu
namespace Go.Proofs.YtpafocfpofnkpaaGreatDoor
open Go.RowKit Go.PlainAid
attribute [local go_sem] field_rat0 field_rat1
/-- A pair, as a value. -/
def pvs (c : P4) : Array Value := #[.string (itx c.p), .string (itx c.q), .string (itx c.b), .string (itx c.u)]
abbrev pv (c : P4) : Value := .agg #[.string (itx c.p), .string (itx c.q), .string (itx c.b), .string (itx c.u)]
/-- Block g holds four cells that can be written. -/
def Box4 (w : World) (g : Nat) (v0 v1 v2 v3 : Value) : Prop := w.heap[g]? = some (.cells #[v0, v1, v2, v3] 99 (0, 0))
section
variable {w w' : World} {g : Nat} {v0 v1 v2 v3 : Value}
theorem Box4.new (w : World) (v0 v1 v2 v3 : Value) : Box4 (w.alloc (.cells #[v0, v1, v2, v3] 99)) w.heap.size v0 v1 v2 v3 := heap_alloc_new w _
theorem Box4.lt (h : Box4 w g v0 v1 v2 v3) : g < w.heap.size := (Array.getElem?_eq_some_iff.1 h).1
theorem Box4.below (h : Box4 w g v0 v1 v2 v3) {B : Nat} (hb : Below B w w') (hB : g < B) : Box4 w' g v0 v1 v2 v3 := (hb.block g hB).trans h
theorem Box4.later (h : Box4 w g v0 v1 v2 v3) (hb : Below w.heap.size w w') : Box4 w' g v0 v1 v2 v3 := h.below hb h.lt
theorem Box4.cells (h : Box4 w g v0 v1 v2 v3) : w.cell? ⟨g, 0, none⟩ = some v0 ∧ w.cell? ⟨g, 1, none⟩ = some v1 ∧ w.cell? ⟨g, 2, none⟩ = some v2 ∧ w.cell? ⟨g, 3, none⟩ = some v3 := by
  have h' : w.heap[g]? = some (.cells #[v0, v1, v2, v3] 99 (0, 0)) := h
  refine ⟨?_, ?_, ?_, ?_⟩ <;> simp [World.cell?, h']
theorem Box4.free (h : Box4 w g v0 v1 v2 v3) : w.frozen? ⟨g, 0, none⟩ = false ∧ w.frozen? ⟨g, 1, none⟩ = false ∧ w.frozen? ⟨g, 2, none⟩ = false ∧ w.frozen? ⟨g, 3, none⟩ = false := by
  have h' : w.heap[g]? = some (.cells #[v0, v1, v2, v3] 99 (0, 0)) := h
  refine ⟨?_, ?_, ?_, ?_⟩ <;> simp [World.frozen?, h']
theorem Box4.store (h : Box4 w g v0 v1 v2 v3) (u0 u1 u2 u3 : Value) : Box4 ((((w.setCell ⟨g, 0, none⟩ u0).setCell ⟨g, 1, none⟩ u1).setCell ⟨g, 2, none⟩ u2).setCell ⟨g, 3, none⟩ u3) g u0 u1 u2 u3 := by
  have h' : w.heap[g]? = some (.cells #[v0, v1, v2, v3] 99 (0, 0)) := h
  simp [Box4, World.setCell, Array.getElem?_modify, h']
end
theorem load_pair {w : World} {g : Nat} {v0 v1 v2 v3 : Value} (h : Box4 w g v0 v1 v2 v3) : (loadVar 99 ⟨g, 0, none⟩).run Tryz.prog w = .ok (.agg #[v0, v1, v2, v3]) w := by
  obtain ⟨h0, h1, h2, h3⟩ := h.cells
  simp [loadVar, go_sem, h0, h1, h2, h3]
/-- whole.DivMod by a positive number. -/
theorem wdiv_pos (a b : Int) (w : World) (hamb : Amb w) (hb0 : 0 < b) (ha : nz a ≤ 900000) (hb : nz b ≤ 900000) :
    Calls Tryz.prog 34 #[.string (itx a), .string (itx b)] w (SmallRes (.tuple #[.string (itx (a / b)), .string (itx (a % b)), .int .i64 0]) w) := by
  have h := wdivmod_any a b w hamb (by omega) ha hb
  unfold fq fr at h
  rw [if_pos (by omega), if_pos (by omega)] at h
  exact h
/-- How many digits a pair's numbers have. -/
structure P4.Sz (c : P4) (k : Nat) : Prop where
  p : nz c.p ≤ k
  q : nz c.q ≤ k
  b : nz c.b ≤ k
  u : nz c.u ≤ k
theorem P4.Sz.mono {c : P4} {k m : Nat} (h : c.Sz k) (hm : k ≤ m) : c.Sz m := ⟨Nat.le_trans h.p hm, Nat.le_trans h.q hm, Nat.le_trans h.b hm, Nat.le_trans h.u hm⟩
theorem P4.Sz.num {c : P4} {k m : Nat} (h : c.Sz k) {j : Int} (hj : nz j ≤ m) : nz (c.num j) ≤ k + m + 1 := by
  unfold P4.num
  exact nz_add_le (Nat.le_trans h.b (by omega)) (Nat.le_trans (nz_mul_le hj h.p) (by omega))
theorem P4.Sz.den {c : P4} {k m : Nat} (h : c.Sz k) {j : Int} (hj : nz j ≤ m) : nz (c.den j) ≤ k + m + 1 := by
  unfold P4.den
  exact nz_add_le (Nat.le_trans h.u (by omega)) (Nat.le_trans (nz_mul_le hj h.q) (by omega))
theorem P4.Sz.nx {c : P4} {k m : Nat} (h : c.Sz k) {a : Int} (ha : nz a ≤ m) : (c.nx a).Sz (k + m + 1) := ⟨h.num ha, h.den ha, Nat.le_trans h.p (by omega), Nat.le_trans h.q (by omega)⟩
theorem beg_sz : beg.Sz 1 := by
  have h1 : nz 1 ≤ 1 := (nz_le_iff 1 0).2 (by decide)
  have h0 : nz 0 ≤ 1 := (nz_le_iff 0 0).2 (by decide)
  exact ⟨h1, h0, h0, h1⟩

set_option maxHeartbeats 1000000 in
/-- convergent.begin. -/
theorem begin_any (w : World) : Calls Tryz.prog 67 #[] w (SmallRes (pv beg) w) := by
  go_enter Tryz.func67, Tryz.ntmps67
  go_wp2_with fail
  refine ret_cell rfl rfl (load_pair (Box4.new w _ _ _ _)) rfl ?_
  exact ⟨by rw [show pv beg = .agg #[.string (itx 1), .string (itx 0), .string (itx 0), .string (itx 1)] from rfl, itx_lit_one, itx_lit_zero], (Below.refl _ _).alloc (Nat.le_refl _) _⟩
set_option maxRecDepth 100000 in
set_option maxHeartbeats 2000000 in
/-- pair.step. -/
theorem step_any (c : P4) (j : Int) (w : World) (hamb : Amb w) (hc : c.Sz 20000) (hj : nz j ≤ 20000) :
    Calls Tryz.prog 70 #[pv c, .string (itx j)] w (SmallRes (.tuple #[.string (itx (c.num j)), .string (itx (c.den j))]) w) := by
  obtain ⟨x, hx⟩ : ∃ x, j * c.p = x := ⟨_, rfl⟩
  obtain ⟨y, hy⟩ : ∃ y, j * c.q = y := ⟨_, rfl⟩
  have HN := Lib.hid (show c.num j = c.b + x by rw [← hx]; rfl)
  have HD := Lib.hid (show c.den j = c.u + y by rw [← hy]; rfl)
  have HX1 := Lib.hid (show nz x ≤ 40000 by rw [← hx]; exact Nat.le_trans (nz_mul_le hj hc.p) (by omega))
  have HY1 := Lib.hid (show nz y ≤ 40000 by rw [← hy]; exact Nat.le_trans (nz_mul_le hj hc.q) (by omega))
  have HM1 := Lib.hid (fun w (h : Amb w) => show Calls Tryz.prog 73 #[.string (itx j), .string (itx c.p)] w (SmallRes (.string (itx x)) w) from hx ▸ wmul_any j c.p w h (by omega) (by have := hc.p; omega))
  have HM2 := Lib.hid (fun w (h : Amb w) => show Calls Tryz.prog 73 #[.string (itx j), .string (itx c.q)] w (SmallRes (.string (itx y)) w) from hy ▸ wmul_any j c.q w h (by omega) (by have := hc.q; omega))
  have HA1 := Lib.hid (fun w (h : Amb w) => wadd_any c.b x w h (by have := hc.b; omega) (by have := HX1.out; omega))
  have HA2 := Lib.hid (fun w (h : Amb w) => wadd_any c.u y w h (by have := hc.u; omega) (by have := HY1.out; omega))
  rw [HN.out, HD.out]
  have HAMB := Lib.hid hamb
  clear hamb hc hj hx hy
  obtain ⟨p, q, b, u⟩ := c
  dsimp only at *
  go_enter Tryz.func70, Tryz.ntmps70
  go_wp2_with fail
  obtain ⟨W, hW⟩ : ∃ W, (w.alloc (.cells #[.string (itx p), .string (itx q), .string (itx b), .string (itx u)] 99)) = W := ⟨_, rfl⟩
  rw [hW]
  have HB := Lib.hid (show Below w.heap.size w W from hW ▸ (Below.refl _ _).alloc (Nat.le_refl _) _)
  have HX := Lib.hid (fun wz (hb : Below W.heap.size W wz) => (show Box4 W w.heap.size (.string (itx p)) (.string (itx q)) (.string (itx b)) (.string (itx u)) from hW ▸ Box4.new w _ _ _ _).later hb)
  clear hW
  have HA := Lib.hid (fun wz (hb : Below W.heap.size W wz) => HAMB.out.below (bel_chain HB.out hb))
  have hz0 : Below W.heap.size W W := Below.refl _ _
  obtain ⟨c00, c01, c02, c03⟩ := (HX.out _ hz0).cells
  have hzd := hz0.drew
  have HC1 := Lib.hid (HM1.out W.drew (HA.out _ hzd))
  go_region_held3 (fun w' => w'.cell? ⟨w.heap.size, 0, none⟩ = some (.string (itx p)) ∧ w'.cell? ⟨w.heap.size, 1, none⟩ = some (.string (itx q)) ∧ w'.cell? ⟨w.heap.size, 2, none⟩ = some (.string (itx b)) ∧ w'.cell? ⟨w.heap.size, 3, none⟩ = some (.string (itx u))) (go_keep)
    (first
      | ((with_reducible refine HC4.out.mono ?_); rintro e w4 ⟨rfl, hb4⟩; have hz4 := bel_chain hz3 hb4; obtain ⟨c40, c41, c42, c43⟩ := (HX.out _ hz4).cells)
      | ((with_reducible refine HC3.out.mono ?_); rintro e w3 ⟨rfl, hb3⟩; have hz3 := bel_chain hz2 hb3; obtain ⟨c30, c31, c32, c33⟩ := (HX.out _ hz3).cells; have HC4 := Lib.hid (HA2.out w3 (HA.out _ hz3)))
      | ((with_reducible refine HC2.out.mono ?_); rintro e w2 ⟨rfl, hb2⟩; have hz2 := bel_chain hz1 hb2; obtain ⟨c20, c21, c22, c23⟩ := (HX.out _ hz2).cells; have HC3 := Lib.hid (HM2.out w2 (HA.out _ hz2)))
      | ((with_reducible refine HC1.out.mono ?_); rintro e w1 ⟨rfl, hb1⟩; have hz1 := bel_chain hzd hb1; obtain ⟨c10, c11, c12, c13⟩ := (HX.out _ hz1).cells; have HC2 := Lib.hid (HA1.out w1 (HA.out _ hz1))))
  go_wp2_with fail
  go_ret2
  exact ⟨rfl, bel_chain HB.out hz4⟩
set_option maxRecDepth 100000 in
set_option maxHeartbeats 2000000 in
/-- pair.next. -/
theorem next_any (c : P4) (a : Int) (w : World) (hamb : Amb w) (hc : c.Sz 20000) (ha : nz a ≤ 20000) :
    Calls Tryz.prog 71 #[pv c, .string (itx a)] w (SmallRes (pv (c.nx a)) w) := by
  have HC := Lib.hid (fun w h => step_any c a w h hc ha)
  have HE := Lib.hid (show pv (c.nx a) = .agg #[.string (itx (c.num a)), .string (itx (c.den a)), .string (itx c.p), .string (itx c.q)] from rfl)
  rw [HE.out]
  have HAMB := Lib.hid hamb
  clear hamb hc ha
  obtain ⟨x, hx⟩ : ∃ x, c.num a = x := ⟨_, rfl⟩
  obtain ⟨y, hy⟩ : ∃ y, c.den a = y := ⟨_, rfl⟩
  rw [hx, hy] at HC ⊢
  clear hx hy
  obtain ⟨p, q, b, u⟩ := c
  dsimp only at *
  clear HE
  go_enter Tryz.func71, Tryz.ntmps71
  go_wp2_with fail
  obtain ⟨W0, hW0⟩ : ∃ W, (w.alloc (.cells #[.string (itx p), .string (itx q), .string (itx b), .string (itx u)] 99)) = W := ⟨_, rfl⟩
  have hsz : w.heap.size + 1 = W0.heap.size := by rw [← hW0]; simp
  have hb0 : Below w.heap.size w W0 := hW0 ▸ (Below.refl _ _).alloc (Nat.le_refl _) _
  have hx0 : Box4 W0 w.heap.size (.string (itx p)) (.string (itx q)) (.string (itx b)) (.string (itx u)) := hW0 ▸ Box4.new w _ _ _ _
  rw [hW0, hsz]
  clear hW0
  obtain ⟨W, hW⟩ : ∃ W, (W0.alloc (.cells #[.string ⟨#[]⟩, .string ⟨#[]⟩, .string ⟨#[]⟩, .string ⟨#[]⟩] 99)) = W := ⟨_, rfl⟩
  have hb1 : Below W0.heap.size W0 W := hW ▸ (Below.refl _ _).alloc (Nat.le_refl _) _
  have hx1 := hx0.later hb1
  have hy1 : Box4 W W0.heap.size (.string ⟨#[]⟩) (.string ⟨#[]⟩) (.string ⟨#[]⟩) (.string ⟨#[]⟩) := hW ▸ Box4.new W0 _ _ _ _
  rw [hW]
  clear hW
  have HB := Lib.hid (bel_chain hb0 hb1)
  have HAW := HAMB.out.below HB.out
  refine (HC.out W HAW).mono ?_
  rintro e w1 ⟨rfl, hb2⟩
  have hx2 := hx1.later hb2
  have hy2 := hy1.later hb2
  have HB2 := Lib.hid (bel_chain HB.out hb2)
  have HY := Lib.hid hy2
  have hne : ¬ w.heap.size = W0.heap.size := by omega
  have hle : w.heap.size ≤ W0.heap.size := by omega
  obtain ⟨c0, c1, c2, c3⟩ := hx2.cells
  obtain ⟨d0, d1, d2, d3⟩ := hy2.cells
  obtain ⟨f0, f1, f2, f3⟩ := hy2.free
  clear hsz hb0 hx0 hb1 hx1 hy1 HAW hb2 hx2 hy2
  go_wp2_with fail
  refine ret_cell rfl rfl (load_pair (HY.out.store _ _ _ _)) rfl ?_
  exact ⟨rfl, (((HB2.out.setCell hle _).setCell hle _).setCell hle _).setCell hle _⟩
set_option maxRecDepth 100000 in
set_option maxHeartbeats 2000000 in
/-- pair.most. -/
theorem most_any (c : P4) (a bound : Int) (w : World) (hamb : Amb w) (hc : c.Sz 20000) (ha : nz a ≤ 20000) (h0 : 0 ≤ bound) (h1 : bound ≤ 1000000) (hq0 : 0 ≤ c.q) :
    Calls Tryz.prog 68 #[pv c, .string (itx a), .int .i64 bound] w (SmallRes (.string (itx (c.most a bound))) w) := by
  obtain ⟨V, hV⟩ : ∃ V, c.most a bound = V := ⟨_, rfl⟩
  rw [hV]
  have HV := Lib.hid (show V = if c.q = 0 then a else if (bound - c.u) / c.q < a then (bound - c.u) / c.q else a by rw [← hV]; rfl)
  have HAMB := Lib.hid hamb
  have HCS := Lib.hid hc
  clear hamb hV hc
  by_cases hq : c.q = 0
  · have HF := Lib.hid (show V = a by rw [HV.out, if_pos hq])
    have ht : ((itx c.q).toList == [48]) = true := by rw [hq]; exact itx_zero_same
    clear hq HV
    obtain ⟨p, q, b, u⟩ := c
    dsimp only at *
    rw [HF.out]
    go_enter Tryz.func68, Tryz.ntmps68
    go_wp2_with fail
    go_ret
    exact ⟨rfl, (Below.refl _ _).alloc (Nat.le_refl _) _⟩
  · have ht : ((itx c.q).toList == [48]) = false := itx_zero_test hq
    have HV2 := Lib.hid (show V = if (bound - c.u) / c.q < a then (bound - c.u) / c.q else a by rw [HV.out, if_neg hq])
    have hnb : nz bound ≤ 7 := (nz_le_iff bound 6).2 (by omega)
    obtain ⟨x, hx⟩ : ∃ x, bound - c.u = x := ⟨_, rfl⟩
    have hnx : nz x ≤ 20001 := by rw [← hx]; exact nz_sub_le (Nat.le_trans hnb (by omega)) HCS.out.u
    obtain ⟨j, hj⟩ : ∃ j, x / c.q = j := ⟨_, rfl⟩
    have hnj : nz j ≤ 20001 := by
      rw [← hj]
      exact Nat.le_trans (nz_mono (natAbs_ediv_le _ _ hq0)) hnx
    have HO := Lib.hid (fun w h => wof_any bound w h (by omega) (by omega))
    have HS := Lib.hid (fun w (h : Amb w) => show Calls Tryz.prog 51 #[.string (itx bound), .string (itx c.u)] w (SmallRes (.string (itx x)) w) from hx ▸ wsub_any bound c.u w h (by omega) (by have := HCS.out.u; omega))
    have HD := Lib.hid (fun w (h : Amb w) => show Calls Tryz.prog 34 #[.string (itx x), .string (itx c.q)] w (SmallRes (.tuple #[.string (itx j), .string (itx (x % c.q)), .int .i64 0]) w) from hj ▸ wdiv_pos x c.q w h (by omega) (by omega) (by have := HCS.out.q; omega))
    have HC := Lib.hid (fun w => wcompare_any j a w (by omega) (by omega))
    rw [hx, hj] at HV2
    obtain ⟨r, hr⟩ : ∃ r, x % c.q = r := ⟨_, rfl⟩
    rw [hr] at HD
    clear hq HV hx hj hr hnx hnj hnb
    obtain ⟨p, q, b, u⟩ := c
    dsimp only at *
    clear HCS
    go_enter Tryz.func68, Tryz.ntmps68
    go_wp2_with fail
    obtain ⟨W, hW⟩ : ∃ W, (w.alloc (.cells #[.string (itx p), .string (itx q), .string (itx b), .string (itx u)] 99)) = W := ⟨_, rfl⟩
    rw [hW]
    have HB := Lib.hid (show Below w.heap.size w W from hW ▸ (Below.refl _ _).alloc (Nat.le_refl _) _)
    have HX := Lib.hid (fun wz (hb : Below W.heap.size W wz) => (show Box4 W w.heap.size (.string (itx p)) (.string (itx q)) (.string (itx b)) (.string (itx u)) from hW ▸ Box4.new w _ _ _ _).later hb)
    clear hW
    have HA := Lib.hid (fun wz (hb : Below W.heap.size W wz) => HAMB.out.below (bel_chain HB.out hb))
    have hz0 : Below W.heap.size W W := Below.refl _ _
    obtain ⟨c00, c01, c02, c03⟩ := (HX.out _ hz0).cells
    go_upto_region 3 with fail
    have hzd := hz0.drew
    have HC1 := Lib.hid (HO.out W.drew (HA.out _ hzd))
    go_region_held3 (fun w' => w'.cell? ⟨w.heap.size, 0, none⟩ = some (.string (itx p)) ∧ w'.cell? ⟨w.heap.size, 1, none⟩ = some (.string (itx q)) ∧ w'.cell? ⟨w.heap.size, 2, none⟩ = some (.string (itx b)) ∧ w'.cell? ⟨w.heap.size, 3, none⟩ = some (.string (itx u))) (go_keep)
      (first
        | ((with_reducible refine HC3.out.mono ?_); rintro e w3 ⟨rfl, hb3⟩; have hz3 := bel_chain hz2 hb3; obtain ⟨c30, c31, c32, c33⟩ := (HX.out _ hz3).cells)
        | ((with_reducible refine HC2.out.mono ?_); rintro e w2 ⟨rfl, hb2⟩; have hz2 := bel_chain hz1 hb2; obtain ⟨c20, c21, c22, c23⟩ := (HX.out _ hz2).cells; have HC3 := Lib.hid (HD.out w2 (HA.out _ hz2)))
        | ((with_reducible refine HC1.out.mono ?_); rintro e w1 ⟨rfl, hb1⟩; have hz1 := bel_chain hzd hb1; obtain ⟨c10, c11, c12, c13⟩ := (HX.out _ hz1).cells; have HC2 := Lib.hid (HS.out w1 (HA.out _ hz1))))
    go_wp2_with fail
    refine (HC.out _).mono ?_
    rintro e w4 ⟨rfl, hb4⟩
    have hz4 := bel_chain hz3 hb4
    by_cases hlt : j < a
    · have HF := Lib.hid (show V = j by rw [HV2.out, if_pos hlt])
      have hcz : cmpZ j a = -1 := by unfold cmpZ; rw [if_pos hlt]
      rw [hcz]
      clear hlt hcz
      go_wp2_with fail
      go_ret
      exact ⟨by rw [HF.out]; rfl, bel_chain HB.out hz4⟩
    · have HF := Lib.hid (show V = a by rw [HV2.out, if_neg hlt])
      have hcz : ¬ cmpZ j a < 0 := by unfold cmpZ; rw [if_neg hlt]; split <;> omega
      clear hlt
      obtain ⟨z, hz⟩ : ∃ z, cmpZ j a = z := ⟨_, rfl⟩
      rw [hz] at hcz ⊢
      clear hz
      go_wp2_with fail
      go_ret
      exact ⟨by rw [HF.out]; rfl, bel_chain HB.out hz4⟩
set_option maxRecDepth 100000 in
set_option maxHeartbeats 2000000 in
/-- convergent.over. -/
theorem over_eq (n d : Int) (Q : Rat) (w : World) (hamb : Amb w) (h0 : d ≠ 0) (hn : nz n ≤ 90000) (hd : nz d ≤ 90000) (hQ : Rat.divInt n d = Q) :
    Calls Tryz.prog 47 #[.string (itx n), .string (itx d)] w (SmallRes (rv Q) w) := by
  have HC := Lib.hid (fun w h => fnew_eq n d Q w h h0 hn hd hQ)
  have HAMB := Lib.hid hamb
  clear hamb h0 hn hd hQ
  obtain ⟨x, hx⟩ : ∃ x, itx Q.num = x := ⟨_, rfl⟩
  obtain ⟨y, hy⟩ : ∃ y, itx (Q.den : Int) = y := ⟨_, rfl⟩
  unfold rv at HC ⊢
  rw [hx, hy] at HC ⊢
  clear hx hy
  go_enter Tryz.func47, Tryz.ntmps47
  go_wp2_with fail
  obtain ⟨W, hW⟩ : ∃ W, (w.alloc (.cells #[.string ⟨#[]⟩, .string ⟨#[]⟩] 24)) = W := ⟨_, rfl⟩
  rw [hW]
  obtain ⟨hX, hBW⟩ := B1.of hW
  clear hW
  refine (HC.out W (HAMB.out.below hBW)).mono ?_
  rintro e w1 ⟨rfl, hb1⟩
  have hX1 := hX.later hb1
  have HB1 := Lib.hid (bel_chain hBW hb1)
  have HX1 := Lib.hid hX1
  have hsz : w.heap.size < w1.heap.size := hX1.1
  obtain ⟨_, c0, c1, f0, f1⟩ := hX1
  clear hX hBW hb1
  go_upto_region 2 with fail
  obtain ⟨W3, hW3⟩ : ∃ W, (w1.alloc (.cells #[.string x, .string y] 24)) = W := ⟨_, rfl⟩
  rw [hW3]
  obtain ⟨hY, hBY⟩ := B1.of hW3
  have HX3 := Lib.hid (HX1.out.later hBY)
  have HB3 := Lib.hid (bel_chain HB1.out hBY)
  obtain ⟨_, d0, d1, _, _⟩ := hY
  obtain ⟨_, c0, c1, f0, f1⟩ := HX3.out
  clear hW3 hBY
  go_wp2_with fail
  refine ret_cell rfl rfl (load_rat (HX3.out.store0 _ _)) rfl ?_
  exact ⟨rfl, (HB3.out.setCell (Nat.le_refl _) _).setCell (Nat.le_refl _) _⟩
theorem over_any (n d : Int) (w : World) (hamb : Amb w) (h0 : d ≠ 0) (hn : nz n ≤ 90000) (hd : nz d ≤ 90000) :
    Calls Tryz.prog 47 #[.string (itx n), .string (itx d)] w (SmallRes (rv (Rat.divInt n d)) w) := over_eq n d _ w hamb h0 hn hd rfl
end Go.Proofs.YtpafocfpofnkpaaGreatDoor
