/- Greater text, out of: K63. -/
import Derived.Test.YtpafocfpofnkpaaGreatDoorK57
import Derived.Deep.DeepCutAuto
namespace Go.Proofs.YtpafocfpofnkpaaGreatDoor
open Go.RowKit Go.PlainAid
attribute [local go_sem] field_rat0 field_rat1
theorem Box4.far {w : World} {g : Nat} {v0 v1 v2 v3 : Value} (h : Box4 w g v0 v1 v2 v3) {p : Addr} (hp : g ≠ p.block) (u : Value) : Box4 (w.setCell p u) g v0 v1 v2 v3 := (Below.heap_setCell w p u g hp).trans h
theorem floor_num (p : Rat) : p.floor = p.num / (p.den : Int) := by rw [Rat.floor_def]
theorem ceil_num (p : Rat) : -(-p).floor = ceilD p.num (p.den : Int) := by rw [floor_num, Rat.neg_num, Rat.neg_den]; rfl
/-- A store of a fraction into its box. -/
theorem run_store_rat {w : World} {g : Nat} {x0 x1 : Value} {u0 u1 : ByteArray} (h : Box2 w g x0 x1) :
    (Instr.storeAt 24 (.pointer (some ⟨g, 0, none⟩)) (.agg #[.string u0, .string u1])).run Tryz.prog w = .ok () ((w.setCell ⟨g, 0, none⟩ (.string u0)).setCell ⟨g, 1, none⟩ (.string u1)) := by
  have h1 := (h.set0 (.string u0)).2.2.1
  have h2 := (h.set0 (.string u0)).2.2.2.2
  obtain ⟨_, n0, _, nf0, _⟩ := h
  simp [Instr.storeAt, Instr.sureAddr, storeVar, storeCells, go_sem, n0, nf0, h1, h2]
theorem exec_store_rat {w : World} {g : Nat} {x0 x1 : Value} {u0 u1 : ByteArray} {i j : Tmp} {a : Act} {o : Oper} (ho : o.op = .store 24 (.tmp i) (.tmp j)) (hi : a.eval (.tmp i) = .pointer (some ⟨g, 0, none⟩)) (hj : a.eval (.tmp j) = .agg #[.string u0, .string u1]) (h : Box2 w g x0 x1) :
    (execOp a.eval o).run Tryz.prog w = .ok .skip ((w.setCell ⟨g, 0, none⟩ (.string u0)).setCell ⟨g, 1, none⟩ (.string u1)) := by
  have hr := run_store_rat (u0 := u0) (u1 := u1) h
  unfold execOp
  rw [ho]
  dsimp only
  rw [hi, hj]
  obtain ⟨S, hS⟩ : ∃ S, Instr.storeAt 24 (.pointer (some ⟨g, 0, none⟩)) (.agg #[.string u0, .string u1]) = S := ⟨_, rfl⟩
  rw [hS] at hr ⊢
  simp [go_sem, hr]
theorem wp_store_rat {w : World} {g : Nat} {x0 x1 : Value} {u0 u1 : ByteArray} {i j : Tmp} {a : Act} {o : Oper} {next : Act → World → Prop} {Q : Exit → Act → World → Prop} (ho : o.op = .store 24 (.tmp i) (.tmp j)) (hd : o.dst = none) (hi : a.eval (.tmp i) = .pointer (some ⟨g, 0, none⟩)) (hj : a.eval (.tmp j) = .agg #[.string u0, .string u1]) (h : Box2 w g x0 x1)
    (hn : next (a.put none undef) ((w.setCell ⟨g, 0, none⟩ (.string u0)).setCell ⟨g, 1, none⟩ (.string u1))) : o.wp Tryz.prog a w next Q := by
  unfold Oper.wp
  rw [exec_store_rat ho hi hj h, Oper.upon_skip, hd]
  exact hn
/-- What is left of the range, behind i steps. -/
structure SmI (p q lo hi : Rat) (c : P4) (i : Nat) : Prop where
  turns : Turns c lo.num (lo.den : Int) hi.num (hi.den : Int) p.num (p.den : Int) q.num (q.den : Int)
  pos : 0 < lo.num
  le : lo.num * (hi.den : Int) ≤ hi.num * (lo.den : Int)
  b1 : lo.num ≤ 10000000
  b2 : hi.num ≤ 10000000
  b3 : lo.den ≤ 10000000
  b4 : hi.den ≤ 10000000
  sum : lo.den + hi.den + i ≤ 400
  sz : c.Sz (1 + 9 * i)
theorem SmI.hpos {p q lo hi : Rat} {c : P4} {i : Nat} (h : SmI p q lo hi c i) : 0 < hi.num := by
  have h1 := rden_pos lo
  have h2 := rden_pos hi
  have k1 := Int.mul_pos h.pos h2
  have k2 := h.le
  refine Decidable.by_contra fun hc => ?_
  have := Int.mul_le_mul_of_nonneg_right (show hi.num ≤ 0 by omega) (show 0 ≤ (lo.den : Int) by omega)
  omega
theorem SmI.nq {p q lo hi : Rat} {c : P4} {i : Nat} (h : SmI p q lo hi c i) : NQ lo 8 ∧ NQ hi 8 := by
  have h1 := h.hpos
  have h2 := h.pos
  have := h.b1; have := h.b2; have := h.b3; have := h.b4
  exact ⟨⟨(nz_le_iff _ 7).2 (by omega), (nz_le_iff _ 7).2 (by omega)⟩, ⟨(nz_le_iff _ 7).2 (by omega), (nz_le_iff _ 7).2 (by omega)⟩⟩
theorem SmI.step {p q lo hi : Rat} {c : P4} {i : Nat} {a : Int} (h : SmI p q lo hi c i) (ha : lo.num / (lo.den : Int) = a) (hc : ¬ ceilD lo.num (lo.den : Int) ≤ hi.num / (hi.den : Int)) :
    SmI p q (Rat.divInt 1 1 / (hi - Rat.divInt a 1)) (Rat.divInt 1 1 / (lo - Rat.divInt a 1)) (c.nx a) (i + 1) ∧ (Rat.divInt 1 1 / (hi - Rat.divInt a 1)).den + (Rat.divInt 1 1 / (lo - Rat.divInt a 1)).den < lo.den + hi.den ∧
    NQ (Rat.divInt a 1) 8 ∧ NQ (lo - Rat.divInt a 1) 20 ∧ NQ (hi - Rat.divInt a 1) 20 ∧ (lo - Rat.divInt a 1).num ≠ 0 ∧ (hi - Rat.divInt a 1).num ≠ 0 ∧ nz a ≤ 8 := by
  have hl2 := rden_pos lo
  have hh2 := rden_pos hi
  obtain ⟨g1, g2, g3, g4⟩ := gap hl2 hh2 h.le hc
  have ht := h.turns.step h.pos hl2 hh2 h.le hc
  rw [ha] at g1 g2 g3 g4 ht
  have ha0 : 0 ≤ a := by rw [← ha]; exact Int.ediv_nonneg (by have := h.pos; omega) (by omega)
  have ha1 : a ≤ 10000000 := by
    have := natAbs_ediv_le lo.num (lo.den : Int) (by omega)
    have := h.b1
    have := h.pos
    omega
  have hna : nz a ≤ 8 := (nz_le_iff _ 7).2 (by omega)
  obtain ⟨e1, o1⟩ := one_over lo a
  obtain ⟨e2, o2⟩ := one_over hi a
  obtain ⟨u1, u2⟩ := rat_of_right (n := (lo.den : Int)) (d := lo.num - a * (lo.den : Int)) (by omega) o1
  obtain ⟨v1, v2⟩ := rat_of_right (n := (hi.den : Int)) (d := hi.num - a * (hi.den : Int)) (by omega) o2
  rw [← e1] at u1 u2
  rw [← e2] at v1 v2
  obtain ⟨q1, q2⟩ := h.nq
  have n1 : NQ (Rat.divInt a 1) 8 := by
    obtain ⟨x1, x2⟩ := rat_one (n := a)
    exact ⟨by rw [x1]; exact hna, by rw [x2]; exact (nz_le_iff _ 7).2 (by omega)⟩
  have s1 : (lo - Rat.divInt a 1).num ≠ 0 := fun hz => by
    have hz2 : lo - Rat.divInt a 1 = 0 := Rat.num_eq_zero.1 hz
    rw [hz2, Rat.div_def, Rat.inv_zero, Rat.mul_zero] at u1
    have : (0 : Rat).num = 0 := rfl
    omega
  have s2 : (hi - Rat.divInt a 1).num ≠ 0 := fun hz => by
    have hz2 : hi - Rat.divInt a 1 = 0 := Rat.num_eq_zero.1 hz
    rw [hz2, Rat.div_def, Rat.inv_zero, Rat.mul_zero] at v1
    have : (0 : Rat).num = 0 := rfl
    omega
  have hsum := h.sum
  have b1 := h.b1; have b2 := h.b2; have b3 := h.b3; have b4 := h.b4
  refine ⟨⟨?_, ?_, ?_, ?_, ?_, ?_, ?_, ?_, ?_⟩, by omega, n1, (q1.sub n1).mono (by omega), (q2.sub n1).mono (by omega), s1, s2, hna⟩
  · rw [u1, u2, v1, v2]; exact ht
  · rw [v1]; exact hh2
  · rw [u1, u2, v1, v2, Int.mul_sub, Int.mul_comm (lo.den : Int), Int.sub_mul]
    have hle := h.le
    have k1 : (hi.den : Int) * lo.num = lo.num * (hi.den : Int) := Int.mul_comm _ _
    have k2 : (hi.den : Int) * (a * (lo.den : Int)) = a * (hi.den : Int) * (lo.den : Int) := by rw [← Int.mul_assoc, Int.mul_comm (hi.den : Int) a]
    omega
  · omega
  · omega
  · omega
  · omega
  · omega
  · have := h.sz.nx hna
    exact this.mono (by omega)
set_option maxRecDepth 100000 in
set_option maxHeartbeats 16000000 in
/-- convergent.simplest. -/
theorem simplest_any (p q : Rat) (w : World) (hamb : Amb w) (hp0 : 0 < p.num) (hle : p.num * (q.den : Int) ≤ q.num * (p.den : Int)) (hp1 : p.num ≤ 10000000) (hq1 : q.num ≤ 10000000) (hp2 : p.den ≤ 200) (hq2 : q.den ≤ 200) :
    Calls Tryz.prog 49 #[rv p, rv q] w (fun e w' => ∃ P Q, IsS p.num (p.den : Int) q.num (q.den : Int) P Q ∧ e = .returned (rv (Rat.divInt P Q)) ∧ Below w.heap.size w w') := by
  have HST := Lib.hid (show SmI p q p q beg 0 from ⟨Turns.beg _ _ _ _, hp0, hle, hp1, hq1, by omega, by omega, by omega, beg_sz⟩)
  have HAMB := Lib.hid hamb
  clear hamb hp0 hle hp1 hq1 hp2 hq2
  unfold rv
  go_enter Tryz.func49, Tryz.ntmps49
  go_wp2_with fail
  obtain ⟨W, hW⟩ : ∃ W, ((w.alloc (.cells #[.string (itx p.num), .string (itx (p.den : Int))] 24)).alloc (.cells #[.string (itx q.num), .string (itx (q.den : Int))] 24)).alloc (.cells #[.string ⟨#[]⟩, .string ⟨#[]⟩] 24) = W := ⟨_, rfl⟩
  rw [hW]
  obtain ⟨hX, hBW⟩ := B3.of hW
  clear hW
  refine (begin_any W).mono ?_
  rintro e w1 ⟨rfl, hb1⟩
  go_wp2_with fail
  obtain ⟨w2, hw2⟩ : ∃ x, w1.alloc (.cells #[.string (itx beg.p), .string (itx beg.q), .string (itx beg.b), .string (itx beg.u)] 99) = x := ⟨_, rfl⟩
  try rw [hw2]
  have hx2 : Box4 w2 w1.heap.size (.string (itx beg.p)) (.string (itx beg.q)) (.string (itx beg.b)) (.string (itx beg.u)) := hw2 ▸ Box4.new w1 _ _ _ _
  have hb2 : Below w1.heap.size w1 w2 := hw2 ▸ (Below.refl _ _).alloc (Nat.le_refl _) _
  have HX2 := Lib.hid ((hX.later hb1).later hb2)
  have HP2 := Lib.hid hx2
  have HB2 := Lib.hid (bel_chain (bel_chain hBW hb1) hb2)
  have HGC := Lib.hid (show w.heap.size + 1 + 1 < w1.heap.size from (hX.later hb1).2.2.1)
  clear hw2 hx2 hb1 hb2 hX hBW
  obtain ⟨gc, hgc⟩ : ∃ gc, w1.heap.size = gc := ⟨_, rfl⟩
  rw [hgc] at HP2 HGC ⊢
  clear hgc
  go_loopg [6] (p.den + q.den) (fun gk v6 wr => v6 = v6 ∧ ∃ (lo hi : Rat) (c : P4) (i : Nat), gk = lo.den + hi.den ∧ SmI p q lo hi c i ∧ B3 w.heap.size (.string (itx lo.num)) (.string (itx (lo.den : Int))) (.string (itx hi.num)) (.string (itx (hi.den : Int))) (.string ⟨#[]⟩) (.string ⟨#[]⟩) wr ∧ Box4 wr gc (.string (itx c.p)) (.string (itx c.q)) (.string (itx c.b)) (.string (itx c.u)) ∧ Below w.heap.size w wr)
  case atStart => exact ⟨rfl, p, q, beg, 0, rfl, HST.out, HX2.out, HP2.out, HB2.out⟩
  case round =>
    obtain ⟨_, lo, hi, c, i, hgk, hsi, hX, hP, hB⟩ := hrel
    obtain ⟨hn1, hn2⟩ := hsi.nq
    have hi400 : i ≤ 400 := by have := hsi.sum; omega
    have HSI := Lib.hid hsi
    have HX := Lib.hid (fun wz (hb : Below wr.heap.size wr wz) => hX.later hb)
    have HP := Lib.hid (fun wz (hb : Below wr.heap.size wr wz) => hP.later hb)
    have HBR := Lib.hid hB
    have HGK := Lib.hid hgk
    have HA := Lib.hid (fun wz (hb : Below wr.heap.size wr wz) => HAMB.out.below (bel_chain HBR.out hb))
    have hnf : nz (hi.num / (hi.den : Int)) ≤ 8 := by rw [← floor_num]; exact nz_floor hi hn2.1
    have hnc : nz (ceilD lo.num (lo.den : Int)) ≤ 8 := by
      rw [← ceil_num, nz_neg]
      exact nz_floor (-lo) (by rw [Rat.neg_num, nz_neg]; exact hn1.1)
    have HCE := Lib.hid (fun w h => show Calls Tryz.prog 83 #[.agg #[.string (itx lo.num), .string (itx (lo.den : Int))]] w (SmallRes (.string (itx (ceilD lo.num (lo.den : Int)))) w) from by
      rw [← ceil_num]; exact fceil_any lo w h (hn1.mono (by omega)))
    have HFH := Lib.hid (fun w h => show Calls Tryz.prog 79 #[.agg #[.string (itx hi.num), .string (itx (hi.den : Int))]] w (SmallRes (.string (itx (hi.num / (hi.den : Int)))) w) from by
      rw [← floor_num]; exact ffloor_any hi w h (hn2.mono (by omega)))
    have HFL := Lib.hid (fun w h => show Calls Tryz.prog 79 #[.agg #[.string (itx lo.num), .string (itx (lo.den : Int))]] w (SmallRes (.string (itx (lo.num / (lo.den : Int)))) w) from by
      rw [← floor_num]; exact ffloor_any lo w h (hn1.mono (by omega)))
    have HCM := Lib.hid (fun w => wcompare_any (ceilD lo.num (lo.den : Int)) (hi.num / (hi.den : Int)) w (by omega) (by omega))
    have hC := @cmpZ_le (ceilD lo.num (lo.den : Int)) (hi.num / (hi.den : Int))
    have HDN := Lib.hid (fun (h : ceilD lo.num (lo.den : Int) ≤ hi.num / (hi.den : Int)) => hsi.turns.done hsi.pos (rden_pos lo) (rden_pos hi) h)
    have HSP := Lib.hid (fun w h => step_any c (ceilD lo.num (lo.den : Int)) w h (hsi.sz.mono (by omega)) (by omega))
    have HOV := Lib.hid (fun (hne : c.den (ceilD lo.num (lo.den : Int)) ≠ 0) w h => over_any (c.num (ceilD lo.num (lo.den : Int))) (c.den (ceilD lo.num (lo.den : Int))) w h hne (Nat.le_trans (hsi.sz.num hnc) (by omega)) (Nat.le_trans (hsi.sz.den hnc) (by omega)))
    obtain ⟨a, ha⟩ : ∃ a, lo.num / (lo.den : Int) = a := ⟨_, rfl⟩
    have HSTEP := Lib.hid (fun hc => hsi.step ha hc)
    rw [ha] at HFL
    obtain ⟨x, hx⟩ : ∃ x, ceilD lo.num (lo.den : Int) = x := ⟨_, rfl⟩
    obtain ⟨y, hy⟩ : ∃ y, hi.num / (hi.den : Int) = y := ⟨_, rfl⟩
    rw [hx] at HCE HDN HSP HOV HCM hC HSTEP
    rw [hy] at HFH HDN HCM hC HSTEP
    obtain ⟨C0, hCC⟩ : ∃ C, cmpZ x y = C := ⟨_, rfl⟩
    rw [hCC] at HCM hC
    have HCI := Lib.hid hC
    have HNX := Lib.hid (fun (hna : nz a ≤ 8) w h => next_any c a w h (hsi.sz.mono (by omega)) (by omega))
    have HGL := Lib.hid (show w.heap.size + 1 + 1 < wr.heap.size ∧ gc < wr.heap.size ∧ w.heap.size ≤ wr.heap.size from ⟨hX.2.2.1, hP.lt, hB.size⟩)
    obtain ⟨⟨_, c0, c1, _, _⟩, _, _⟩ := hX
    clear hsi hP hB hgk hn1 hn2 hnf hnc ha hx hy hCC hC hi400
    go_wp2_with fail
    refine (HCE.out wr (HA.out _ (Below.refl _ _))).mono ?_
    rintro e w3 ⟨rfl, hz3⟩
    clear c0 c1
    obtain ⟨_, ⟨_, c0, c1, _, _⟩, _⟩ := HX.out _ hz3
    go_wp2_with fail
    refine (HFH.out w3 (HA.out _ hz3)).mono ?_
    rintro e w4 ⟨rfl, hb4⟩
    have hz4 := bel_chain hz3 hb4
    clear c0 c1 hb4 hz3
    go_wp2_with fail
    refine (HCM.out w4).mono ?_
    rintro e w5 ⟨rfl, hb5⟩
    have hz5 := bel_chain hz4 hb5
    clear hb5 hz4
    by_cases hC0 : C0 ≤ 0
    · have HIS := Lib.hid (HDN.out (HCI.out.1 hC0))
      have HOV2 := Lib.hid (HOV.out (by have := HIS.out.mem.1; omega))
      obtain ⟨p0, p1, p2, p3⟩ := (HP.out _ hz5).cells
      clear HOV HDN HSTEP HNX HFL HCI
      go_wp2_with fail
      refine (HSP.out w5 (HA.out _ hz5)).mono ?_
      rintro e w6 ⟨rfl, hb6⟩
      have hz6 := bel_chain hz5 hb6
      clear hb6 hz5 p0 p1 p2 p3
      go_wp2_with fail
      refine (HOV2.out w6 (HA.out _ hz6)).mono ?_
      rintro e w7 ⟨rfl, hb7⟩
      have hz7 := bel_chain hz6 hb7
      clear hb7 hz6
      have HX7 := Lib.hid (HX.out _ hz7)
      obtain ⟨_, _, ⟨_, d0, d1, f0, f1⟩⟩ := HX.out _ hz7
      go_wp2_with fail
      refine ret_cell rfl rfl (load_rat (g := w.heap.size + 1 + 1) (HX7.out.store2 _ _).2.2) rfl ?_
      exact ⟨_, _, HIS.out, rfl, ((bel_chain HBR.out hz7).setCell (by simp <;> omega) _).setCell (by simp <;> omega) _⟩
    · obtain ⟨hs1, hs2, hs3, hs4, hs5, hs6, hs7, hs8⟩ := HSTEP.out (by have := mt HCI.out.2 hC0; omega)
      have HSI2 := Lib.hid hs1
      have HLT := Lib.hid hs2
      have HNX2 := Lib.hid (HNX.out hs8)
      have HO1 := Lib.hid (fun w h => over_any a 1 w h (by decide) (by omega) (Nat.le_trans ((nz_le_iff 1 0).2 (by decide)) (by omega)))
      have HO2 := Lib.hid (fun w h => over_any 1 1 w h (by decide) (Nat.le_trans ((nz_le_iff 1 0).2 (by decide)) (by omega)) (Nat.le_trans ((nz_le_iff 1 0).2 (by decide)) (by omega)))
      rw [itx_lit_one] at HO1 HO2
      obtain ⟨hn1, hn2⟩ := HSI.out.nq
      have n11 : NQ (Rat.divInt 1 1) 20000 := NQ.of_divInt (by decide) (Nat.le_trans ((nz_le_iff 1 0).2 (by decide)) (by omega)) (Nat.le_trans ((nz_le_iff 1 0).2 (by decide)) (by omega))
      have HSL := Lib.hid (fun w h => fsub_any lo (Rat.divInt a 1) w h (hn1.mono (by omega)) (hs3.mono (by omega)))
      have HSH := Lib.hid (fun w h => fsub_any hi (Rat.divInt a 1) w h (hn2.mono (by omega)) (hs3.mono (by omega)))
      have HDL := Lib.hid (fun w h => fdiv_any (Rat.divInt 1 1) (lo - Rat.divInt a 1) w h n11 (hs4.mono (by omega)) hs6)
      have HDH := Lib.hid (fun w h => fdiv_any (Rat.divInt 1 1) (hi - Rat.divInt a 1) w h n11 (hs5.mono (by omega)) hs7)
      clear hs1 hs2 hs3 hs4 hs5 hs6 hs7 hs8 hn1 hn2 n11 HSTEP HNX HOV HDN HCI HSP
      obtain ⟨n, hn⟩ : ∃ n, Rat.divInt a 1 = n := ⟨_, rfl⟩
      obtain ⟨one, hone⟩ : ∃ x, Rat.divInt 1 1 = x := ⟨_, rfl⟩
      rw [hn, hone] at HSI2 HLT HDL HDH
      rw [hn] at HSL HSH HO1
      rw [hone] at HO2
      obtain ⟨sl, hsl⟩ : ∃ x, lo - n = x := ⟨_, rfl⟩
      obtain ⟨sh, hsh⟩ : ∃ x, hi - n = x := ⟨_, rfl⟩
      rw [hsl, hsh] at HSI2 HLT
      rw [hsl] at HDL HSL
      rw [hsh] at HDH HSH
      obtain ⟨up, hup⟩ : ∃ x, one / sl = x := ⟨_, rfl⟩
      obtain ⟨dn, hdn⟩ : ∃ x, one / sh = x := ⟨_, rfl⟩
      rw [hup, hdn] at HSI2 HLT
      rw [hup] at HDL
      rw [hdn] at HDH
      unfold rv at HSL HSH HDL HDH HO1 HO2
      clear hn hone hsl hsh hup hdn
      obtain ⟨⟨_, c0, c1, _, _⟩, _, _⟩ := HX.out _ hz5
      go_wp2_with fail
      refine (HFL.out w5 (HA.out _ hz5)).mono ?_
      rintro e w6 ⟨rfl, hb6⟩
      have hz6 := bel_chain hz5 hb6
      clear hb6 hz5 c0 c1
      obtain ⟨p0, p1, p2, p3⟩ := (HP.out _ hz6).cells
      go_wp2_with fail
      refine (HNX2.out w6 (HA.out _ hz6)).mono ?_
      rintro e w7 ⟨rfl, hb7⟩
      have hz7 := bel_chain hz6 hb7
      clear hb7 hz6 p0 p1 p2 p3
      have HP7 := Lib.hid (HP.out _ hz7)
      have HX7 := Lib.hid (HX.out _ hz7)
      obtain ⟨p0, p1, p2, p3⟩ := HP7.out.cells
      obtain ⟨f0, f1, f2, f3⟩ := HP7.out.free
      obtain ⟨c', hc'⟩ : ∃ x, c.nx a = x := ⟨_, rfl⟩
      rw [hc'] at HSI2 ⊢
      try unfold pv
      clear hc'
      go_wp2_with fail
      obtain ⟨w8, hw8⟩ : ∃ x, (((w7.setCell ⟨gc, 0, none⟩ (.string (itx c'.p))).setCell ⟨gc, 1, none⟩ (.string (itx c'.q))).setCell ⟨gc, 2, none⟩ (.string (itx c'.b))).setCell ⟨gc, 3, none⟩ (.string (itx c'.u)) = x := ⟨_, rfl⟩
      try rw [hw8]
      have hP8 : Box4 w8 gc (.string (itx c'.p)) (.string (itx c'.q)) (.string (itx c'.b)) (.string (itx c'.u)) := hw8 ▸ HP7.out.store _ _ _ _
      have hX8 : B3 w.heap.size (.string (itx lo.num)) (.string (itx (lo.den : Int))) (.string (itx hi.num)) (.string (itx (hi.den : Int))) (.string ⟨#[]⟩) (.string ⟨#[]⟩) w8 := by
        have hg := HGC.out
        obtain ⟨h1, h2, h3⟩ := HX7.out
        rw [← hw8]
        exact ⟨(((h1.far (by simp <;> omega) _).far (by simp <;> omega) _).far (by simp <;> omega) _).far (by simp <;> omega) _, (((h2.far (by simp <;> omega) _).far (by simp <;> omega) _).far (by simp <;> omega) _).far (by simp <;> omega) _, (((h3.far (by simp <;> omega) _).far (by simp <;> omega) _).far (by simp <;> omega) _).far (by simp <;> omega) _⟩
      have hB8 : Below w.heap.size w w8 := by
        have hg := HGC.out
        rw [← hw8]
        exact ((((bel_chain HBR.out hz7).setCell (by simp <;> omega) _).setCell (by simp <;> omega) _).setCell (by simp <;> omega) _).setCell (by simp <;> omega) _
      have HX8 := Lib.hid (fun wz (hb : Below w8.heap.size w8 wz) => hX8.later hb)
      have HP8 := Lib.hid (fun wz (hb : Below w8.heap.size w8 wz) => hP8.later hb)
      have HB8 := Lib.hid hB8
      have HA8 := Lib.hid (fun wz (hb : Below w8.heap.size w8 wz) => HAMB.out.below (bel_chain HB8.out hb))
      clear hw8 hP8 hX8 hB8 p0 p1 p2 p3 f0 f1 f2 f3 HP7 HX7 hz7 HX HP HA HFL HNX2 HCE HFH HCM HBR
      try go_wp2_with fail
      refine (HO1.out w8 (HA8.out _ (Below.refl _ _))).mono ?_
      rintro e w9 ⟨rfl, hb9⟩
      go_wp2_with fail
      obtain ⟨w10, hw10⟩ : ∃ x, w9.alloc (.cells #[.string (itx n.num), .string (itx (n.den : Int))] 24) = x := ⟨_, rfl⟩
      try rw [hw10]
      obtain ⟨hn10, hb10⟩ := B1.of hw10
      have hz10 := bel_chain hb9 hb10
      have HN := Lib.hid (fun wz (hb : Below w10.heap.size w10 wz) => hn10.later hb)
      have HGN := Lib.hid (show w8.heap.size ≤ w9.heap.size from hb9.size)
      obtain ⟨gn, hgn⟩ : ∃ x, w9.heap.size = x := ⟨_, rfl⟩
      rw [hgn] at HN HGN ⊢
      have HW10 := Lib.hid hz10
      clear hw10 hn10 hb9 hb10 hgn
      go_upto_region 8 with fail
      go_cut [9] (fun s9 wx => ∃ g9, s9 = .pointer (some ⟨g9, 0, none⟩) ∧ w10.heap.size ≤ g9 ∧ B1 g9 (.string (itx up.num)) (.string (itx (up.den : Int))) wx ∧ Below w10.heap.size w10 wx)
      case first =>
        as_aux_lemma =>
          have HSS := Lib.hid (fun wz (hb : Below w10.heap.size w10 wz) => show wz.cell? ⟨w.heap.size, 0, none⟩ = some (.string (itx lo.num)) ∧ wz.cell? ⟨w.heap.size, 1, none⟩ = some (.string (itx (lo.den : Int))) ∧ wz.cell? ⟨gn, 0, none⟩ = some (.string (itx n.num)) ∧ wz.cell? ⟨gn, 1, none⟩ = some (.string (itx (n.den : Int))) from ⟨(HX8.out _ (bel_chain HW10.out hb)).1.2.1, (HX8.out _ (bel_chain HW10.out hb)).1.2.2.1, (HN.out _ hb).2.1, (HN.out _ hb).2.2.1⟩)
          refine wp_region_held_drew (S := fun w' => w'.cell? ⟨w.heap.size, 0, none⟩ = some (.string (itx lo.num)) ∧ w'.cell? ⟨w.heap.size, 1, none⟩ = some (.string (itx (lo.den : Int))) ∧ w'.cell? ⟨gn, 0, none⟩ = some (.string (itx n.num)) ∧ w'.cell? ⟨gn, 1, none⟩ = some (.string (itx (n.den : Int)))) (by kernel_rfl) (HSS.out _ (Below.refl _ _).drew) (fun hS => ?_)
          obtain ⟨v0, hv0⟩ : ∃ x, w10.drew = x := ⟨_, rfl⟩
          have hz0 : Below w10.heap.size w10 v0 := hv0 ▸ (Below.refl _ _).drew
          rw [hv0] at hS ⊢
          clear hv0
          refine wpAnyH_take (i := 1) (v := ?_) rfl (by kernel_rfl) (by kernel_rfl) (by kernel_rfl) (fun _ _ _ h => h) (Or.inl ⟨by kernel_rfl, ?_⟩) (by assumption) ?_
          rotate_left
          · intro w hSw
            try dsimp only at hSw
            go_simp
            try with_reducible rfl
          try simp only [Act.put, List.getElem_toArray, List.getElem_cons_zero, List.getElem_cons_succ, List.setIfInBounds_toArray, List.set_cons_zero, List.set_cons_succ]
          refine wpAnyH_take (i := 2) (v := ?_) rfl (by kernel_rfl) (by kernel_rfl) (by kernel_rfl) (fun _ _ _ h => h) (Or.inl ⟨by kernel_rfl, ?_⟩) (by assumption) ?_
          rotate_left
          · intro w hSw
            try dsimp only at hSw
            go_simp
            try with_reducible rfl
          try simp only [Act.put, List.getElem_toArray, List.getElem_cons_zero, List.getElem_cons_succ, List.setIfInBounds_toArray, List.set_cons_zero, List.set_cons_succ]
          refine wpAnyH_ready (rs := [0, 8]) (by kernel_rfl) (by simp) ?_
          refine AllReadyH.cons rfl (fun K hK => ?_) (AllReadyH.cons rfl (fun K hK => ?_) AllReadyH.nil)
          · go_simp
            refine (HO2.out _ (HA8.out _ (bel_chain HW10.out hz0))).mono ?_
            rintro e v1 ⟨rfl, hb1⟩
            have hz1 := bel_chain hz0 hb1
            go_wp2_with fail
            refine hK.out _ _ (HSS.out _ hz1) (fun hHeld => ?_)
            clear hK K hS
            have hS := hHeld
            clear hHeld
            try simp only [Act.put, List.getElem_toArray, List.getElem_cons_zero, List.getElem_cons_succ, List.setIfInBounds_toArray, List.set_cons_zero, List.set_cons_succ]
            refine wpAnyH_ready (rs := [3, 8]) (by kernel_rfl) (by simp) ?_
            refine AllReadyH.cons rfl (fun K hK => ?_) (AllReadyH.cons rfl (fun K hK => ?_) AllReadyH.nil)
            · go_simp
              refine (HSL.out _ (HA8.out _ (bel_chain HW10.out hz1))).mono ?_
              rintro e v2 ⟨rfl, hb2⟩
              have hz2 := bel_chain hz1 hb2
              go_wp2_with fail
              refine hK.out _ _ (HSS.out _ hz2) (fun hHeld => ?_)
              clear hK K hS
              have hS := hHeld
              clear hHeld
              try simp only [Act.put, List.getElem_toArray, List.getElem_cons_zero, List.getElem_cons_succ, List.setIfInBounds_toArray, List.set_cons_zero, List.set_cons_succ]
              refine wpAnyH_ready (rs := [4, 8]) (by kernel_rfl) (by simp) ?_
              refine AllReadyH.cons rfl (fun K hK => ?_) (AllReadyH.cons rfl (fun K hK => ?_) AllReadyH.nil)
              · go_simp
                refine (HDL.out _ (HA8.out _ (bel_chain HW10.out hz2))).mono ?_
                rintro e v3 ⟨rfl, hb3⟩
                have hz3 := bel_chain hz2 hb3
                go_wp2_with fail
                refine hK.out _ _ (HSS.out _ hz3) (fun hHeld => ?_)
                clear hK K hS
                have hS := hHeld
                clear hHeld
                try simp only [Act.put, List.getElem_toArray, List.getElem_cons_zero, List.getElem_cons_succ, List.setIfInBounds_toArray, List.set_cons_zero, List.set_cons_succ]
                refine wpAnyH_take (i := 5) (v := ?_) rfl (by kernel_rfl) (by kernel_rfl) (by kernel_rfl) (fun _ _ _ h => h) (Or.inl ⟨by kernel_rfl, ?_⟩) (by assumption) ?_
                rotate_left
                · intro w hSw
                  try dsimp only at hSw
                  go_simp
                  try with_reducible rfl
                try simp only [Act.put, List.getElem_toArray, List.getElem_cons_zero, List.getElem_cons_succ, List.setIfInBounds_toArray, List.set_cons_zero, List.set_cons_succ]
                refine wpAnyH_take (i := 6) (v := ?_) rfl (by kernel_rfl) (by kernel_rfl) (by kernel_rfl) (fun _ _ _ h => h) (Or.inl ⟨by kernel_rfl, ?_⟩) (by assumption) ?_
                rotate_left
                · intro w hSw
                  try dsimp only at hSw
                  go_simp
                  try with_reducible rfl
                try simp only [Act.put, List.getElem_toArray, List.getElem_cons_zero, List.getElem_cons_succ, List.setIfInBounds_toArray, List.set_cons_zero, List.set_cons_succ]
                refine wpAnyH_take (i := 7) (v := ?_) rfl (by kernel_rfl) (by kernel_rfl) (by kernel_rfl) (fun _ _ _ h => h) (Or.inl ⟨by kernel_rfl, ?_⟩) (by assumption) ?_
                rotate_left
                · intro w hSw
                  try dsimp only at hSw
                  go_simp
                  try with_reducible rfl
                try simp only [Act.put, List.getElem_toArray, List.getElem_cons_zero, List.getElem_cons_succ, List.setIfInBounds_toArray, List.set_cons_zero, List.set_cons_succ]
                refine wpAnyH_ready (rs := [8]) (by kernel_rfl) (by simp) ?_
                refine AllReadyH.cons rfl (fun K hK => ?_) AllReadyH.nil
                obtain ⟨v4, hv4⟩ : ∃ X, v3.alloc (.cells #[.string ⟨#[]⟩, .string ⟨#[]⟩] 24) = X := ⟨_, rfl⟩
                obtain ⟨hn4, hb4⟩ := B1.of hv4
                have HN4 := Lib.hid hn4
                have hz4 := bel_chain hz3 hb4
                have HGS := Lib.hid (show w10.heap.size ≤ v3.heap.size from hz3.size)
                go_wp2_with fail
                try rw [hv4]
                refine hK.out _ _ (HSS.out _ hz4) (fun hHeld => ?_)
                clear hK K hS hn4
                have hS := hHeld
                clear hHeld
                try simp only [Act.put, List.getElem_toArray, List.getElem_cons_zero, List.getElem_cons_succ, List.setIfInBounds_toArray, List.set_cons_zero, List.set_cons_succ]
                refine wpAnyH_ready (rs := [9]) (by kernel_rfl) (by simp) ?_
                refine AllReadyH.cons rfl (fun K hK => ?_) AllReadyH.nil
                rw [if_pos (by kernel_rfl)]
                refine wp_store_rat (i := 9) (j := 40) rfl rfl rfl rfl HN4.out ?_
                obtain ⟨v9, hv9⟩ : ∃ x, (v4.setCell ⟨v3.heap.size, 0, none⟩ (.string (itx up.num))).setCell ⟨v3.heap.size, 1, none⟩ (.string (itx (up.den : Int))) = x := ⟨_, rfl⟩
                try rw [hv9]
                have HNB := Lib.hid (show B1 v3.heap.size (.string (itx up.num)) (.string (itx (up.den : Int))) v9 from hv9 ▸ HN4.out.store0 _ _)
                have hz9 : Below w10.heap.size w10 v9 := hv9 ▸ (hz4.setCell (p := ⟨v3.heap.size, 0, none⟩) HGS.out _).setCell (p := ⟨v3.heap.size, 1, none⟩) HGS.out _
                refine hK.out _ _ (HSS.out _ hz9) (fun hHeld => ?_)
                clear hK K hS hv9
                have hS := hHeld
                clear hHeld
                try simp only [Act.put]
                refine wpAnyH_take (i := 10) (v := ?_) rfl (by kernel_rfl) (by kernel_rfl) (by kernel_rfl) (fun _ _ _ h => h) (Or.inl ⟨by kernel_rfl, ?_⟩) (by assumption) ?_
                rotate_left
                · intro w hSw
                  try dsimp only at hSw
                  go_simp
                  try with_reducible rfl
                try simp only [Act.put, List.getElem_toArray, List.getElem_cons_zero, List.getElem_cons_succ, List.setIfInBounds_toArray, List.set_cons_zero, List.set_cons_succ]
                refine wpAnyH_done (by kernel_rfl) ?_ _
                go_wp2_with fail
                go_meet
                case rel => exact ⟨_, rfl, HGS.out, HNB.out, hz9⟩
              · obtain ⟨v3, hv3⟩ : ∃ X, v2.alloc (.cells #[.string ⟨#[]⟩, .string ⟨#[]⟩] 24) = X := ⟨_, rfl⟩
                obtain ⟨hn3, hb3⟩ := B1.of hv3
                have HN3 := Lib.hid hn3
                have hz3 := bel_chain hz2 hb3
                have HGS := Lib.hid (show w10.heap.size ≤ v2.heap.size from hz2.size)
                go_wp2_with fail
                try rw [hv3]
                refine hK.out _ _ (HSS.out _ hz3) (fun hHeld => ?_)
                clear hK K hS hn3
                have hS := hHeld
                clear hHeld
                try simp only [Act.put, List.getElem_toArray, List.getElem_cons_zero, List.getElem_cons_succ, List.setIfInBounds_toArray, List.set_cons_zero, List.set_cons_succ]
                refine wpAnyH_ready (rs := [4]) (by kernel_rfl) (by simp) ?_
                refine AllReadyH.cons rfl (fun K hK => ?_) AllReadyH.nil
                go_simp
                refine (HDL.out _ (HA8.out _ (bel_chain HW10.out hz3))).mono ?_
                rintro e v4 ⟨rfl, hb4⟩
                have hz4 := bel_chain hz3 hb4
                have HN4 := Lib.hid (HN3.out.later hb4)
                go_wp2_with fail
                refine hK.out _ _ (HSS.out _ hz4) (fun hHeld => ?_)
                clear hK K hS
                have hS := hHeld
                clear hHeld
                try simp only [Act.put, List.getElem_toArray, List.getElem_cons_zero, List.getElem_cons_succ, List.setIfInBounds_toArray, List.set_cons_zero, List.set_cons_succ]
                refine wpAnyH_take (i := 5) (v := ?_) rfl (by kernel_rfl) (by kernel_rfl) (by kernel_rfl) (fun _ _ _ h => h) (Or.inl ⟨by kernel_rfl, ?_⟩) (by assumption) ?_
                rotate_left
                · intro w hSw
                  try dsimp only at hSw
                  go_simp
                  try with_reducible rfl
                try simp only [Act.put, List.getElem_toArray, List.getElem_cons_zero, List.getElem_cons_succ, List.setIfInBounds_toArray, List.set_cons_zero, List.set_cons_succ]
                refine wpAnyH_take (i := 6) (v := ?_) rfl (by kernel_rfl) (by kernel_rfl) (by kernel_rfl) (fun _ _ _ h => h) (Or.inl ⟨by kernel_rfl, ?_⟩) (by assumption) ?_
                rotate_left
                · intro w hSw
                  try dsimp only at hSw
                  go_simp
                  try with_reducible rfl
                try simp only [Act.put, List.getElem_toArray, List.getElem_cons_zero, List.getElem_cons_succ, List.setIfInBounds_toArray, List.set_cons_zero, List.set_cons_succ]
                refine wpAnyH_take (i := 7) (v := ?_) rfl (by kernel_rfl) (by kernel_rfl) (by kernel_rfl) (fun _ _ _ h => h) (Or.inl ⟨by kernel_rfl, ?_⟩) (by assumption) ?_
                rotate_left
                · intro w hSw
                  try dsimp only at hSw
                  go_simp
                  try with_reducible rfl
                try simp only [Act.put, List.getElem_toArray, List.getElem_cons_zero, List.getElem_cons_succ, List.setIfInBounds_toArray, List.set_cons_zero, List.set_cons_succ]
                refine wpAnyH_ready (rs := [9]) (by kernel_rfl) (by simp) ?_
                refine AllReadyH.cons rfl (fun K hK => ?_) AllReadyH.nil
                rw [if_pos (by kernel_rfl)]
                refine wp_store_rat (i := 9) (j := 40) rfl rfl rfl rfl HN4.out ?_
                obtain ⟨v9, hv9⟩ : ∃ x, (v4.setCell ⟨v2.heap.size, 0, none⟩ (.string (itx up.num))).setCell ⟨v2.heap.size, 1, none⟩ (.string (itx (up.den : Int))) = x := ⟨_, rfl⟩
                try rw [hv9]
                have HNB := Lib.hid (show B1 v2.heap.size (.string (itx up.num)) (.string (itx (up.den : Int))) v9 from hv9 ▸ HN4.out.store0 _ _)
                have hz9 : Below w10.heap.size w10 v9 := hv9 ▸ (hz4.setCell (p := ⟨v2.heap.size, 0, none⟩) HGS.out _).setCell (p := ⟨v2.heap.size, 1, none⟩) HGS.out _
                refine hK.out _ _ (HSS.out _ hz9) (fun hHeld => ?_)
                clear hK K hS hv9
                have hS := hHeld
                clear hHeld
                try simp only [Act.put]
                refine wpAnyH_take (i := 10) (v := ?_) rfl (by kernel_rfl) (by kernel_rfl) (by kernel_rfl) (fun _ _ _ h => h) (Or.inl ⟨by kernel_rfl, ?_⟩) (by assumption) ?_
                rotate_left
                · intro w hSw
                  try dsimp only at hSw
                  go_simp
                  try with_reducible rfl
                try simp only [Act.put, List.getElem_toArray, List.getElem_cons_zero, List.getElem_cons_succ, List.setIfInBounds_toArray, List.set_cons_zero, List.set_cons_succ]
                refine wpAnyH_done (by kernel_rfl) ?_ _
                go_wp2_with fail
                go_meet
                case rel => exact ⟨_, rfl, HGS.out, HNB.out, hz9⟩
            · obtain ⟨v2, hv2⟩ : ∃ X, v1.alloc (.cells #[.string ⟨#[]⟩, .string ⟨#[]⟩] 24) = X := ⟨_, rfl⟩
              obtain ⟨hn2, hb2⟩ := B1.of hv2
              have HN2 := Lib.hid hn2
              have hz2 := bel_chain hz1 hb2
              have HGS := Lib.hid (show w10.heap.size ≤ v1.heap.size from hz1.size)
              go_wp2_with fail
              try rw [hv2]
              refine hK.out _ _ (HSS.out _ hz2) (fun hHeld => ?_)
              clear hK K hS hn2
              have hS := hHeld
              clear hHeld
              try simp only [Act.put, List.getElem_toArray, List.getElem_cons_zero, List.getElem_cons_succ, List.setIfInBounds_toArray, List.set_cons_zero, List.set_cons_succ]
              refine wpAnyH_ready (rs := [3]) (by kernel_rfl) (by simp) ?_
              refine AllReadyH.cons rfl (fun K hK => ?_) AllReadyH.nil
              go_simp
              refine (HSL.out _ (HA8.out _ (bel_chain HW10.out hz2))).mono ?_
              rintro e v3 ⟨rfl, hb3⟩
              have hz3 := bel_chain hz2 hb3
              have HN3 := Lib.hid (HN2.out.later hb3)
              go_wp2_with fail
              refine hK.out _ _ (HSS.out _ hz3) (fun hHeld => ?_)
              clear hK K hS
              have hS := hHeld
              clear hHeld
              try simp only [Act.put, List.getElem_toArray, List.getElem_cons_zero, List.getElem_cons_succ, List.setIfInBounds_toArray, List.set_cons_zero, List.set_cons_succ]
              refine wpAnyH_ready (rs := [4]) (by kernel_rfl) (by simp) ?_
              refine AllReadyH.cons rfl (fun K hK => ?_) AllReadyH.nil
              go_simp
              refine (HDL.out _ (HA8.out _ (bel_chain HW10.out hz3))).mono ?_
              rintro e v4 ⟨rfl, hb4⟩
              have hz4 := bel_chain hz3 hb4
              have HN4 := Lib.hid (HN3.out.later hb4)
              go_wp2_with fail
              refine hK.out _ _ (HSS.out _ hz4) (fun hHeld => ?_)
              clear hK K hS
              have hS := hHeld
              clear hHeld
              try simp only [Act.put, List.getElem_toArray, List.getElem_cons_zero, List.getElem_cons_succ, List.setIfInBounds_toArray, List.set_cons_zero, List.set_cons_succ]
              refine wpAnyH_take (i := 5) (v := ?_) rfl (by kernel_rfl) (by kernel_rfl) (by kernel_rfl) (fun _ _ _ h => h) (Or.inl ⟨by kernel_rfl, ?_⟩) (by assumption) ?_
              rotate_left
              · intro w hSw
                try dsimp only at hSw
                go_simp
                try with_reducible rfl
              try simp only [Act.put, List.getElem_toArray, List.getElem_cons_zero, List.getElem_cons_succ, List.setIfInBounds_toArray, List.set_cons_zero, List.set_cons_succ]
              refine wpAnyH_take (i := 6) (v := ?_) rfl (by kernel_rfl) (by kernel_rfl) (by kernel_rfl) (fun _ _ _ h => h) (Or.inl ⟨by kernel_rfl, ?_⟩) (by assumption) ?_
              rotate_left
              · intro w hSw
                try dsimp only at hSw
                go_simp
                try with_reducible rfl
              try simp only [Act.put, List.getElem_toArray, List.getElem_cons_zero, List.getElem_cons_succ, List.setIfInBounds_toArray, List.set_cons_zero, List.set_cons_succ]
              refine wpAnyH_take (i := 7) (v := ?_) rfl (by kernel_rfl) (by kernel_rfl) (by kernel_rfl) (fun _ _ _ h => h) (Or.inl ⟨by kernel_rfl, ?_⟩) (by assumption) ?_
              rotate_left
              · intro w hSw
                try dsimp only at hSw
                go_simp
                try with_reducible rfl
              try simp only [Act.put, List.getElem_toArray, List.getElem_cons_zero, List.getElem_cons_succ, List.setIfInBounds_toArray, List.set_cons_zero, List.set_cons_succ]
              refine wpAnyH_ready (rs := [9]) (by kernel_rfl) (by simp) ?_
              refine AllReadyH.cons rfl (fun K hK => ?_) AllReadyH.nil
              rw [if_pos (by kernel_rfl)]
              refine wp_store_rat (i := 9) (j := 40) rfl rfl rfl rfl HN4.out ?_
              obtain ⟨v9, hv9⟩ : ∃ x, (v4.setCell ⟨v1.heap.size, 0, none⟩ (.string (itx up.num))).setCell ⟨v1.heap.size, 1, none⟩ (.string (itx (up.den : Int))) = x := ⟨_, rfl⟩
              try rw [hv9]
              have HNB := Lib.hid (show B1 v1.heap.size (.string (itx up.num)) (.string (itx (up.den : Int))) v9 from hv9 ▸ HN4.out.store0 _ _)
              have hz9 : Below w10.heap.size w10 v9 := hv9 ▸ (hz4.setCell (p := ⟨v1.heap.size, 0, none⟩) HGS.out _).setCell (p := ⟨v1.heap.size, 1, none⟩) HGS.out _
              refine hK.out _ _ (HSS.out _ hz9) (fun hHeld => ?_)
              clear hK K hS hv9
              have hS := hHeld
              clear hHeld
              try simp only [Act.put]
              refine wpAnyH_take (i := 10) (v := ?_) rfl (by kernel_rfl) (by kernel_rfl) (by kernel_rfl) (fun _ _ _ h => h) (Or.inl ⟨by kernel_rfl, ?_⟩) (by assumption) ?_
              rotate_left
              · intro w hSw
                try dsimp only at hSw
                go_simp
                try with_reducible rfl
              try simp only [Act.put, List.getElem_toArray, List.getElem_cons_zero, List.getElem_cons_succ, List.setIfInBounds_toArray, List.set_cons_zero, List.set_cons_succ]
              refine wpAnyH_done (by kernel_rfl) ?_ _
              go_wp2_with fail
              go_meet
              case rel => exact ⟨_, rfl, HGS.out, HNB.out, hz9⟩
          · obtain ⟨v1, hv1⟩ : ∃ X, v0.alloc (.cells #[.string ⟨#[]⟩, .string ⟨#[]⟩] 24) = X := ⟨_, rfl⟩
            obtain ⟨hn1, hb1⟩ := B1.of hv1
            have HN1 := Lib.hid hn1
            have hz1 := bel_chain hz0 hb1
            have HGS := Lib.hid (show w10.heap.size ≤ v0.heap.size from hz0.size)
            go_wp2_with fail
            try rw [hv1]
            refine hK.out _ _ (HSS.out _ hz1) (fun hHeld => ?_)
            clear hK K hS hn1
            have hS := hHeld
            clear hHeld
            try simp only [Act.put, List.getElem_toArray, List.getElem_cons_zero, List.getElem_cons_succ, List.setIfInBounds_toArray, List.set_cons_zero, List.set_cons_succ]
            refine wpAnyH_ready (rs := [0]) (by kernel_rfl) (by simp) ?_
            refine AllReadyH.cons rfl (fun K hK => ?_) AllReadyH.nil
            go_simp
            refine (HO2.out _ (HA8.out _ (bel_chain HW10.out hz1))).mono ?_
            rintro e v2 ⟨rfl, hb2⟩
            have hz2 := bel_chain hz1 hb2
            have HN2 := Lib.hid (HN1.out.later hb2)
            go_wp2_with fail
            refine hK.out _ _ (HSS.out _ hz2) (fun hHeld => ?_)
            clear hK K hS
            have hS := hHeld
            clear hHeld
            try simp only [Act.put, List.getElem_toArray, List.getElem_cons_zero, List.getElem_cons_succ, List.setIfInBounds_toArray, List.set_cons_zero, List.set_cons_succ]
            refine wpAnyH_ready (rs := [3]) (by kernel_rfl) (by simp) ?_
            refine AllReadyH.cons rfl (fun K hK => ?_) AllReadyH.nil
            go_simp
            refine (HSL.out _ (HA8.out _ (bel_chain HW10.out hz2))).mono ?_
            rintro e v3 ⟨rfl, hb3⟩
            have hz3 := bel_chain hz2 hb3
            have HN3 := Lib.hid (HN2.out.later hb3)
            go_wp2_with fail
            refine hK.out _ _ (HSS.out _ hz3) (fun hHeld => ?_)
            clear hK K hS
            have hS := hHeld
            clear hHeld
            try simp only [Act.put, List.getElem_toArray, List.getElem_cons_zero, List.getElem_cons_succ, List.setIfInBounds_toArray, List.set_cons_zero, List.set_cons_succ]
            refine wpAnyH_ready (rs := [4]) (by kernel_rfl) (by simp) ?_
            refine AllReadyH.cons rfl (fun K hK => ?_) AllReadyH.nil
            go_simp
            refine (HDL.out _ (HA8.out _ (bel_chain HW10.out hz3))).mono ?_
            rintro e v4 ⟨rfl, hb4⟩
            have hz4 := bel_chain hz3 hb4
            have HN4 := Lib.hid (HN3.out.later hb4)
            go_wp2_with fail
            refine hK.out _ _ (HSS.out _ hz4) (fun hHeld => ?_)
            clear hK K hS
            have hS := hHeld
            clear hHeld
            try simp only [Act.put, List.getElem_toArray, List.getElem_cons_zero, List.getElem_cons_succ, List.setIfInBounds_toArray, List.set_cons_zero, List.set_cons_succ]
            refine wpAnyH_take (i := 5) (v := ?_) rfl (by kernel_rfl) (by kernel_rfl) (by kernel_rfl) (fun _ _ _ h => h) (Or.inl ⟨by kernel_rfl, ?_⟩) (by assumption) ?_
            rotate_left
            · intro w hSw
              try dsimp only at hSw
              go_simp
              try with_reducible rfl
            try simp only [Act.put, List.getElem_toArray, List.getElem_cons_zero, List.getElem_cons_succ, List.setIfInBounds_toArray, List.set_cons_zero, List.set_cons_succ]
            refine wpAnyH_take (i := 6) (v := ?_) rfl (by kernel_rfl) (by kernel_rfl) (by kernel_rfl) (fun _ _ _ h => h) (Or.inl ⟨by kernel_rfl, ?_⟩) (by assumption) ?_
            rotate_left
            · intro w hSw
              try dsimp only at hSw
              go_simp
              try with_reducible rfl
            try simp only [Act.put, List.getElem_toArray, List.getElem_cons_zero, List.getElem_cons_succ, List.setIfInBounds_toArray, List.set_cons_zero, List.set_cons_succ]
            refine wpAnyH_take (i := 7) (v := ?_) rfl (by kernel_rfl) (by kernel_rfl) (by kernel_rfl) (fun _ _ _ h => h) (Or.inl ⟨by kernel_rfl, ?_⟩) (by assumption) ?_
            rotate_left
            · intro w hSw
              try dsimp only at hSw
              go_simp
              try with_reducible rfl
            try simp only [Act.put, List.getElem_toArray, List.getElem_cons_zero, List.getElem_cons_succ, List.setIfInBounds_toArray, List.set_cons_zero, List.set_cons_succ]
            refine wpAnyH_ready (rs := [9]) (by kernel_rfl) (by simp) ?_
            refine AllReadyH.cons rfl (fun K hK => ?_) AllReadyH.nil
            rw [if_pos (by kernel_rfl)]
            refine wp_store_rat (i := 9) (j := 40) rfl rfl rfl rfl HN4.out ?_
            obtain ⟨v9, hv9⟩ : ∃ x, (v4.setCell ⟨v0.heap.size, 0, none⟩ (.string (itx up.num))).setCell ⟨v0.heap.size, 1, none⟩ (.string (itx (up.den : Int))) = x := ⟨_, rfl⟩
            try rw [hv9]
            have HNB := Lib.hid (show B1 v0.heap.size (.string (itx up.num)) (.string (itx (up.den : Int))) v9 from hv9 ▸ HN4.out.store0 _ _)
            have hz9 : Below w10.heap.size w10 v9 := hv9 ▸ (hz4.setCell (p := ⟨v0.heap.size, 0, none⟩) HGS.out _).setCell (p := ⟨v0.heap.size, 1, none⟩) HGS.out _
            refine hK.out _ _ (HSS.out _ hz9) (fun hHeld => ?_)
            clear hK K hS hv9
            have hS := hHeld
            clear hHeld
            try simp only [Act.put]
            refine wpAnyH_take (i := 10) (v := ?_) rfl (by kernel_rfl) (by kernel_rfl) (by kernel_rfl) (fun _ _ _ h => h) (Or.inl ⟨by kernel_rfl, ?_⟩) (by assumption) ?_
            rotate_left
            · intro w hSw
              try dsimp only at hSw
              go_simp
              try with_reducible rfl
            try simp only [Act.put, List.getElem_toArray, List.getElem_cons_zero, List.getElem_cons_succ, List.setIfInBounds_toArray, List.set_cons_zero, List.set_cons_succ]
            refine wpAnyH_done (by kernel_rfl) ?_ _
            go_wp2_with fail
            go_meet
            case rel => exact ⟨_, rfl, HGS.out, HNB.out, hz9⟩
      case rest =>
        obtain ⟨g9, rfl, hg9, hu, hzc⟩ := hcut
        have HU := Lib.hid (fun wz (hb : Below wc.heap.size wc wz) => hu.later hb)
        have HWC := Lib.hid (bel_chain HW10.out hzc)
        have HG9 := Lib.hid (And.intro hg9 hzc.size)
        have HNC := Lib.hid (fun wz (hb : Below wc.heap.size wc wz) => HN.out _ (bel_chain hzc hb))
        clear hu hzc hg9 HN HSL HDL
        go_upto_region 9 with fail
        go_cut [11] (fun s11 wx => ∃ g11, s11 = .pointer (some ⟨g11, 0, none⟩) ∧ wc.heap.size ≤ g11 ∧ B1 g11 (.string (itx dn.num)) (.string (itx (dn.den : Int))) wx ∧ Below wc.heap.size wc wx)
        case first =>
          as_aux_lemma =>
            have HSS := Lib.hid (fun wz (hb : Below wc.heap.size wc wz) => show wz.cell? ⟨w.heap.size + 1, 0, none⟩ = some (.string (itx hi.num)) ∧ wz.cell? ⟨w.heap.size + 1, 1, none⟩ = some (.string (itx (hi.den : Int))) ∧ wz.cell? ⟨gn, 0, none⟩ = some (.string (itx n.num)) ∧ wz.cell? ⟨gn, 1, none⟩ = some (.string (itx (n.den : Int))) from ⟨(HX8.out _ (bel_chain HWC.out hb)).2.1.2.1, (HX8.out _ (bel_chain HWC.out hb)).2.1.2.2.1, (HNC.out _ hb).2.1, (HNC.out _ hb).2.2.1⟩)
            refine wp_region_held_drew (S := fun w' => w'.cell? ⟨w.heap.size + 1, 0, none⟩ = some (.string (itx hi.num)) ∧ w'.cell? ⟨w.heap.size + 1, 1, none⟩ = some (.string (itx (hi.den : Int))) ∧ w'.cell? ⟨gn, 0, none⟩ = some (.string (itx n.num)) ∧ w'.cell? ⟨gn, 1, none⟩ = some (.string (itx (n.den : Int)))) (by kernel_rfl) (HSS.out _ (Below.refl _ _).drew) (fun hS => ?_)
            obtain ⟨v0, hv0⟩ : ∃ x, wc.drew = x := ⟨_, rfl⟩
            have hz0 : Below wc.heap.size wc v0 := hv0 ▸ (Below.refl _ _).drew
            rw [hv0] at hS ⊢
            clear hv0
            refine wpAnyH_take (i := 1) (v := ?_) rfl (by kernel_rfl) (by kernel_rfl) (by kernel_rfl) (fun _ _ _ h => h) (Or.inl ⟨by kernel_rfl, ?_⟩) (by assumption) ?_
            rotate_left
            · intro w hSw
              try dsimp only at hSw
              go_simp
              try with_reducible rfl
            try simp only [Act.put, List.getElem_toArray, List.getElem_cons_zero, List.getElem_cons_succ, List.setIfInBounds_toArray, List.set_cons_zero, List.set_cons_succ]
            refine wpAnyH_take (i := 2) (v := ?_) rfl (by kernel_rfl) (by kernel_rfl) (by kernel_rfl) (fun _ _ _ h => h) (Or.inl ⟨by kernel_rfl, ?_⟩) (by assumption) ?_
            rotate_left
            · intro w hSw
              try dsimp only at hSw
              go_simp
              try with_reducible rfl
            try simp only [Act.put, List.getElem_toArray, List.getElem_cons_zero, List.getElem_cons_succ, List.setIfInBounds_toArray, List.set_cons_zero, List.set_cons_succ]
            refine wpAnyH_ready (rs := [0, 8]) (by kernel_rfl) (by simp) ?_
            refine AllReadyH.cons rfl (fun K hK => ?_) (AllReadyH.cons rfl (fun K hK => ?_) AllReadyH.nil)
            · go_simp
              refine (HO2.out _ (HA8.out _ (bel_chain HWC.out hz0))).mono ?_
              rintro e v1 ⟨rfl, hb1⟩
              have hz1 := bel_chain hz0 hb1
              go_wp2_with fail
              refine hK.out _ _ (HSS.out _ hz1) (fun hHeld => ?_)
              clear hK K hS
              have hS := hHeld
              clear hHeld
              try simp only [Act.put, List.getElem_toArray, List.getElem_cons_zero, List.getElem_cons_succ, List.setIfInBounds_toArray, List.set_cons_zero, List.set_cons_succ]
              refine wpAnyH_ready (rs := [3, 8]) (by kernel_rfl) (by simp) ?_
              refine AllReadyH.cons rfl (fun K hK => ?_) (AllReadyH.cons rfl (fun K hK => ?_) AllReadyH.nil)
              · go_simp
                refine (HSH.out _ (HA8.out _ (bel_chain HWC.out hz1))).mono ?_
                rintro e v2 ⟨rfl, hb2⟩
                have hz2 := bel_chain hz1 hb2
                go_wp2_with fail
                refine hK.out _ _ (HSS.out _ hz2) (fun hHeld => ?_)
                clear hK K hS
                have hS := hHeld
                clear hHeld
                try simp only [Act.put, List.getElem_toArray, List.getElem_cons_zero, List.getElem_cons_succ, List.setIfInBounds_toArray, List.set_cons_zero, List.set_cons_succ]
                refine wpAnyH_ready (rs := [4, 8]) (by kernel_rfl) (by simp) ?_
                refine AllReadyH.cons rfl (fun K hK => ?_) (AllReadyH.cons rfl (fun K hK => ?_) AllReadyH.nil)
                · go_simp
                  refine (HDH.out _ (HA8.out _ (bel_chain HWC.out hz2))).mono ?_
                  rintro e v3 ⟨rfl, hb3⟩
                  have hz3 := bel_chain hz2 hb3
                  go_wp2_with fail
                  refine hK.out _ _ (HSS.out _ hz3) (fun hHeld => ?_)
                  clear hK K hS
                  have hS := hHeld
                  clear hHeld
                  try simp only [Act.put, List.getElem_toArray, List.getElem_cons_zero, List.getElem_cons_succ, List.setIfInBounds_toArray, List.set_cons_zero, List.set_cons_succ]
                  refine wpAnyH_take (i := 5) (v := ?_) rfl (by kernel_rfl) (by kernel_rfl) (by kernel_rfl) (fun _ _ _ h => h) (Or.inl ⟨by kernel_rfl, ?_⟩) (by assumption) ?_
                  rotate_left
                  · intro w hSw
                    try dsimp only at hSw
                    go_simp
                    try with_reducible rfl
                  try simp only [Act.put, List.getElem_toArray, List.getElem_cons_zero, List.getElem_cons_succ, List.setIfInBounds_toArray, List.set_cons_zero, List.set_cons_succ]
                  refine wpAnyH_take (i := 6) (v := ?_) rfl (by kernel_rfl) (by kernel_rfl) (by kernel_rfl) (fun _ _ _ h => h) (Or.inl ⟨by kernel_rfl, ?_⟩) (by assumption) ?_
                  rotate_left
                  · intro w hSw
                    try dsimp only at hSw
                    go_simp
                    try with_reducible rfl
                  try simp only [Act.put, List.getElem_toArray, List.getElem_cons_zero, List.getElem_cons_succ, List.setIfInBounds_toArray, List.set_cons_zero, List.set_cons_succ]
                  refine wpAnyH_take (i := 7) (v := ?_) rfl (by kernel_rfl) (by kernel_rfl) (by kernel_rfl) (fun _ _ _ h => h) (Or.inl ⟨by kernel_rfl, ?_⟩) (by assumption) ?_
                  rotate_left
                  · intro w hSw
                    try dsimp only at hSw
                    go_simp
                    try with_reducible rfl
                  try simp only [Act.put, List.getElem_toArray, List.getElem_cons_zero, List.getElem_cons_succ, List.setIfInBounds_toArray, List.set_cons_zero, List.set_cons_succ]
                  refine wpAnyH_ready (rs := [8]) (by kernel_rfl) (by simp) ?_
                  refine AllReadyH.cons rfl (fun K hK => ?_) AllReadyH.nil
                  obtain ⟨v4, hv4⟩ : ∃ X, v3.alloc (.cells #[.string ⟨#[]⟩, .string ⟨#[]⟩] 24) = X := ⟨_, rfl⟩
                  obtain ⟨hn4, hb4⟩ := B1.of hv4
                  have HN4 := Lib.hid hn4
                  have hz4 := bel_chain hz3 hb4
                  have HGS := Lib.hid (show wc.heap.size ≤ v3.heap.size from hz3.size)
                  go_wp2_with fail
                  try rw [hv4]
                  refine hK.out _ _ (HSS.out _ hz4) (fun hHeld => ?_)
                  clear hK K hS hn4
                  have hS := hHeld
                  clear hHeld
                  try simp only [Act.put, List.getElem_toArray, List.getElem_cons_zero, List.getElem_cons_succ, List.setIfInBounds_toArray, List.set_cons_zero, List.set_cons_succ]
                  refine wpAnyH_ready (rs := [9]) (by kernel_rfl) (by simp) ?_
                  refine AllReadyH.cons rfl (fun K hK => ?_) AllReadyH.nil
                  rw [if_pos (by kernel_rfl)]
                  refine wp_store_rat (i := 11) (j := 48) rfl rfl rfl rfl HN4.out ?_
                  obtain ⟨v9, hv9⟩ : ∃ x, (v4.setCell ⟨v3.heap.size, 0, none⟩ (.string (itx dn.num))).setCell ⟨v3.heap.size, 1, none⟩ (.string (itx (dn.den : Int))) = x := ⟨_, rfl⟩
                  try rw [hv9]
                  have HNB := Lib.hid (show B1 v3.heap.size (.string (itx dn.num)) (.string (itx (dn.den : Int))) v9 from hv9 ▸ HN4.out.store0 _ _)
                  have hz9 : Below wc.heap.size wc v9 := hv9 ▸ (hz4.setCell (p := ⟨v3.heap.size, 0, none⟩) HGS.out _).setCell (p := ⟨v3.heap.size, 1, none⟩) HGS.out _
                  refine hK.out _ _ (HSS.out _ hz9) (fun hHeld => ?_)
                  clear hK K hS hv9
                  have hS := hHeld
                  clear hHeld
                  try simp only [Act.put]
                  refine wpAnyH_take (i := 10) (v := ?_) rfl (by kernel_rfl) (by kernel_rfl) (by kernel_rfl) (fun _ _ _ h => h) (Or.inl ⟨by kernel_rfl, ?_⟩) (by assumption) ?_
                  rotate_left
                  · intro w hSw
                    try dsimp only at hSw
                    go_simp
                    try with_reducible rfl
                  try simp only [Act.put, List.getElem_toArray, List.getElem_cons_zero, List.getElem_cons_succ, List.setIfInBounds_toArray, List.set_cons_zero, List.set_cons_succ]
                  refine wpAnyH_done (by kernel_rfl) ?_ _
                  go_wp2_with fail
                  go_meet
                  case rel => exact ⟨_, rfl, HGS.out, HNB.out, hz9⟩
                · obtain ⟨v3, hv3⟩ : ∃ X, v2.alloc (.cells #[.string ⟨#[]⟩, .string ⟨#[]⟩] 24) = X := ⟨_, rfl⟩
                  obtain ⟨hn3, hb3⟩ := B1.of hv3
                  have HN3 := Lib.hid hn3
                  have hz3 := bel_chain hz2 hb3
                  have HGS := Lib.hid (show wc.heap.size ≤ v2.heap.size from hz2.size)
                  go_wp2_with fail
                  try rw [hv3]
                  refine hK.out _ _ (HSS.out _ hz3) (fun hHeld => ?_)
                  clear hK K hS hn3
                  have hS := hHeld
                  clear hHeld
                  try simp only [Act.put, List.getElem_toArray, List.getElem_cons_zero, List.getElem_cons_succ, List.setIfInBounds_toArray, List.set_cons_zero, List.set_cons_succ]
                  refine wpAnyH_ready (rs := [4]) (by kernel_rfl) (by simp) ?_
                  refine AllReadyH.cons rfl (fun K hK => ?_) AllReadyH.nil
                  go_simp
                  refine (HDH.out _ (HA8.out _ (bel_chain HWC.out hz3))).mono ?_
                  rintro e v4 ⟨rfl, hb4⟩
                  have hz4 := bel_chain hz3 hb4
                  have HN4 := Lib.hid (HN3.out.later hb4)
                  go_wp2_with fail
                  refine hK.out _ _ (HSS.out _ hz4) (fun hHeld => ?_)
                  clear hK K hS
                  have hS := hHeld
                  clear hHeld
                  try simp only [Act.put, List.getElem_toArray, List.getElem_cons_zero, List.getElem_cons_succ, List.setIfInBounds_toArray, List.set_cons_zero, List.set_cons_succ]
                  refine wpAnyH_take (i := 5) (v := ?_) rfl (by kernel_rfl) (by kernel_rfl) (by kernel_rfl) (fun _ _ _ h => h) (Or.inl ⟨by kernel_rfl, ?_⟩) (by assumption) ?_
                  rotate_left
                  · intro w hSw
                    try dsimp only at hSw
                    go_simp
                    try with_reducible rfl
                  try simp only [Act.put, List.getElem_toArray, List.getElem_cons_zero, List.getElem_cons_succ, List.setIfInBounds_toArray, List.set_cons_zero, List.set_cons_succ]
                  refine wpAnyH_take (i := 6) (v := ?_) rfl (by kernel_rfl) (by kernel_rfl) (by kernel_rfl) (fun _ _ _ h => h) (Or.inl ⟨by kernel_rfl, ?_⟩) (by assumption) ?_
                  rotate_left
                  · intro w hSw
                    try dsimp only at hSw
                    go_simp
                    try with_reducible rfl
                  try simp only [Act.put, List.getElem_toArray, List.getElem_cons_zero, List.getElem_cons_succ, List.setIfInBounds_toArray, List.set_cons_zero, List.set_cons_succ]
                  refine wpAnyH_take (i := 7) (v := ?_) rfl (by kernel_rfl) (by kernel_rfl) (by kernel_rfl) (fun _ _ _ h => h) (Or.inl ⟨by kernel_rfl, ?_⟩) (by assumption) ?_
                  rotate_left
                  · intro w hSw
                    try dsimp only at hSw
                    go_simp
                    try with_reducible rfl
                  try simp only [Act.put, List.getElem_toArray, List.getElem_cons_zero, List.getElem_cons_succ, List.setIfInBounds_toArray, List.set_cons_zero, List.set_cons_succ]
                  refine wpAnyH_ready (rs := [9]) (by kernel_rfl) (by simp) ?_
                  refine AllReadyH.cons rfl (fun K hK => ?_) AllReadyH.nil
                  rw [if_pos (by kernel_rfl)]
                  refine wp_store_rat (i := 11) (j := 48) rfl rfl rfl rfl HN4.out ?_
                  obtain ⟨v9, hv9⟩ : ∃ x, (v4.setCell ⟨v2.heap.size, 0, none⟩ (.string (itx dn.num))).setCell ⟨v2.heap.size, 1, none⟩ (.string (itx (dn.den : Int))) = x := ⟨_, rfl⟩
                  try rw [hv9]
                  have HNB := Lib.hid (show B1 v2.heap.size (.string (itx dn.num)) (.string (itx (dn.den : Int))) v9 from hv9 ▸ HN4.out.store0 _ _)
                  have hz9 : Below wc.heap.size wc v9 := hv9 ▸ (hz4.setCell (p := ⟨v2.heap.size, 0, none⟩) HGS.out _).setCell (p := ⟨v2.heap.size, 1, none⟩) HGS.out _
                  refine hK.out _ _ (HSS.out _ hz9) (fun hHeld => ?_)
                  clear hK K hS hv9
                  have hS := hHeld
                  clear hHeld
                  try simp only [Act.put]
                  refine wpAnyH_take (i := 10) (v := ?_) rfl (by kernel_rfl) (by kernel_rfl) (by kernel_rfl) (fun _ _ _ h => h) (Or.inl ⟨by kernel_rfl, ?_⟩) (by assumption) ?_
                  rotate_left
                  · intro w hSw
                    try dsimp only at hSw
                    go_simp
                    try with_reducible rfl
                  try simp only [Act.put, List.getElem_toArray, List.getElem_cons_zero, List.getElem_cons_succ, List.setIfInBounds_toArray, List.set_cons_zero, List.set_cons_succ]
                  refine wpAnyH_done (by kernel_rfl) ?_ _
                  go_wp2_with fail
                  go_meet
                  case rel => exact ⟨_, rfl, HGS.out, HNB.out, hz9⟩
              · obtain ⟨v2, hv2⟩ : ∃ X, v1.alloc (.cells #[.string ⟨#[]⟩, .string ⟨#[]⟩] 24) = X := ⟨_, rfl⟩
                obtain ⟨hn2, hb2⟩ := B1.of hv2
                have HN2 := Lib.hid hn2
                have hz2 := bel_chain hz1 hb2
                have HGS := Lib.hid (show wc.heap.size ≤ v1.heap.size from hz1.size)
                go_wp2_with fail
                try rw [hv2]
                refine hK.out _ _ (HSS.out _ hz2) (fun hHeld => ?_)
                clear hK K hS hn2
                have hS := hHeld
                clear hHeld
                try simp only [Act.put, List.getElem_toArray, List.getElem_cons_zero, List.getElem_cons_succ, List.setIfInBounds_toArray, List.set_cons_zero, List.set_cons_succ]
                refine wpAnyH_ready (rs := [3]) (by kernel_rfl) (by simp) ?_
                refine AllReadyH.cons rfl (fun K hK => ?_) AllReadyH.nil
                go_simp
                refine (HSH.out _ (HA8.out _ (bel_chain HWC.out hz2))).mono ?_
                rintro e v3 ⟨rfl, hb3⟩
                have hz3 := bel_chain hz2 hb3
                have HN3 := Lib.hid (HN2.out.later hb3)
                go_wp2_with fail
                refine hK.out _ _ (HSS.out _ hz3) (fun hHeld => ?_)
                clear hK K hS
                have hS := hHeld
                clear hHeld
                try simp only [Act.put, List.getElem_toArray, List.getElem_cons_zero, List.getElem_cons_succ, List.setIfInBounds_toArray, List.set_cons_zero, List.set_cons_succ]
                refine wpAnyH_ready (rs := [4]) (by kernel_rfl) (by simp) ?_
                refine AllReadyH.cons rfl (fun K hK => ?_) AllReadyH.nil
                go_simp
                refine (HDH.out _ (HA8.out _ (bel_chain HWC.out hz3))).mono ?_
                rintro e v4 ⟨rfl, hb4⟩
                have hz4 := bel_chain hz3 hb4
                have HN4 := Lib.hid (HN3.out.later hb4)
                go_wp2_with fail
                refine hK.out _ _ (HSS.out _ hz4) (fun hHeld => ?_)
                clear hK K hS
                have hS := hHeld
                clear hHeld
                try simp only [Act.put, List.getElem_toArray, List.getElem_cons_zero, List.getElem_cons_succ, List.setIfInBounds_toArray, List.set_cons_zero, List.set_cons_succ]
                refine wpAnyH_take (i := 5) (v := ?_) rfl (by kernel_rfl) (by kernel_rfl) (by kernel_rfl) (fun _ _ _ h => h) (Or.inl ⟨by kernel_rfl, ?_⟩) (by assumption) ?_
                rotate_left
                · intro w hSw
                  try dsimp only at hSw
                  go_simp
                  try with_reducible rfl
                try simp only [Act.put, List.getElem_toArray, List.getElem_cons_zero, List.getElem_cons_succ, List.setIfInBounds_toArray, List.set_cons_zero, List.set_cons_succ]
                refine wpAnyH_take (i := 6) (v := ?_) rfl (by kernel_rfl) (by kernel_rfl) (by kernel_rfl) (fun _ _ _ h => h) (Or.inl ⟨by kernel_rfl, ?_⟩) (by assumption) ?_
                rotate_left
                · intro w hSw
                  try dsimp only at hSw
                  go_simp
                  try with_reducible rfl
                try simp only [Act.put, List.getElem_toArray, List.getElem_cons_zero, List.getElem_cons_succ, List.setIfInBounds_toArray, List.set_cons_zero, List.set_cons_succ]
                refine wpAnyH_take (i := 7) (v := ?_) rfl (by kernel_rfl) (by kernel_rfl) (by kernel_rfl) (fun _ _ _ h => h) (Or.inl ⟨by kernel_rfl, ?_⟩) (by assumption) ?_
                rotate_left
                · intro w hSw
                  try dsimp only at hSw
                  go_simp
                  try with_reducible rfl
                try simp only [Act.put, List.getElem_toArray, List.getElem_cons_zero, List.getElem_cons_succ, List.setIfInBounds_toArray, List.set_cons_zero, List.set_cons_succ]
                refine wpAnyH_ready (rs := [9]) (by kernel_rfl) (by simp) ?_
                refine AllReadyH.cons rfl (fun K hK => ?_) AllReadyH.nil
                rw [if_pos (by kernel_rfl)]
                refine wp_store_rat (i := 11) (j := 48) rfl rfl rfl rfl HN4.out ?_
                obtain ⟨v9, hv9⟩ : ∃ x, (v4.setCell ⟨v1.heap.size, 0, none⟩ (.string (itx dn.num))).setCell ⟨v1.heap.size, 1, none⟩ (.string (itx (dn.den : Int))) = x := ⟨_, rfl⟩
                try rw [hv9]
                have HNB := Lib.hid (show B1 v1.heap.size (.string (itx dn.num)) (.string (itx (dn.den : Int))) v9 from hv9 ▸ HN4.out.store0 _ _)
                have hz9 : Below wc.heap.size wc v9 := hv9 ▸ (hz4.setCell (p := ⟨v1.heap.size, 0, none⟩) HGS.out _).setCell (p := ⟨v1.heap.size, 1, none⟩) HGS.out _
                refine hK.out _ _ (HSS.out _ hz9) (fun hHeld => ?_)
                clear hK K hS hv9
                have hS := hHeld
                clear hHeld
                try simp only [Act.put]
                refine wpAnyH_take (i := 10) (v := ?_) rfl (by kernel_rfl) (by kernel_rfl) (by kernel_rfl) (fun _ _ _ h => h) (Or.inl ⟨by kernel_rfl, ?_⟩) (by assumption) ?_
                rotate_left
                · intro w hSw
                  try dsimp only at hSw
                  go_simp
                  try with_reducible rfl
                try simp only [Act.put, List.getElem_toArray, List.getElem_cons_zero, List.getElem_cons_succ, List.setIfInBounds_toArray, List.set_cons_zero, List.set_cons_succ]
                refine wpAnyH_done (by kernel_rfl) ?_ _
                go_wp2_with fail
                go_meet
                case rel => exact ⟨_, rfl, HGS.out, HNB.out, hz9⟩
            · obtain ⟨v1, hv1⟩ : ∃ X, v0.alloc (.cells #[.string ⟨#[]⟩, .string ⟨#[]⟩] 24) = X := ⟨_, rfl⟩
              obtain ⟨hn1, hb1⟩ := B1.of hv1
              have HN1 := Lib.hid hn1
              have hz1 := bel_chain hz0 hb1
              have HGS := Lib.hid (show wc.heap.size ≤ v0.heap.size from hz0.size)
              go_wp2_with fail
              try rw [hv1]
              refine hK.out _ _ (HSS.out _ hz1) (fun hHeld => ?_)
              clear hK K hS hn1
              have hS := hHeld
              clear hHeld
              try simp only [Act.put, List.getElem_toArray, List.getElem_cons_zero, List.getElem_cons_succ, List.setIfInBounds_toArray, List.set_cons_zero, List.set_cons_succ]
              refine wpAnyH_ready (rs := [0]) (by kernel_rfl) (by simp) ?_
              refine AllReadyH.cons rfl (fun K hK => ?_) AllReadyH.nil
              go_simp
              refine (HO2.out _ (HA8.out _ (bel_chain HWC.out hz1))).mono ?_
              rintro e v2 ⟨rfl, hb2⟩
              have hz2 := bel_chain hz1 hb2
              have HN2 := Lib.hid (HN1.out.later hb2)
              go_wp2_with fail
              refine hK.out _ _ (HSS.out _ hz2) (fun hHeld => ?_)
              clear hK K hS
              have hS := hHeld
              clear hHeld
              try simp only [Act.put, List.getElem_toArray, List.getElem_cons_zero, List.getElem_cons_succ, List.setIfInBounds_toArray, List.set_cons_zero, List.set_cons_succ]
              refine wpAnyH_ready (rs := [3]) (by kernel_rfl) (by simp) ?_
              refine AllReadyH.cons rfl (fun K hK => ?_) AllReadyH.nil
              go_simp
              refine (HSH.out _ (HA8.out _ (bel_chain HWC.out hz2))).mono ?_
              rintro e v3 ⟨rfl, hb3⟩
              have hz3 := bel_chain hz2 hb3
              have HN3 := Lib.hid (HN2.out.later hb3)
              go_wp2_with fail
              refine hK.out _ _ (HSS.out _ hz3) (fun hHeld => ?_)
              clear hK K hS
              have hS := hHeld
              clear hHeld
              try simp only [Act.put, List.getElem_toArray, List.getElem_cons_zero, List.getElem_cons_succ, List.setIfInBounds_toArray, List.set_cons_zero, List.set_cons_succ]
              refine wpAnyH_ready (rs := [4]) (by kernel_rfl) (by simp) ?_
              refine AllReadyH.cons rfl (fun K hK => ?_) AllReadyH.nil
              go_simp
              refine (HDH.out _ (HA8.out _ (bel_chain HWC.out hz3))).mono ?_
              rintro e v4 ⟨rfl, hb4⟩
              have hz4 := bel_chain hz3 hb4
              have HN4 := Lib.hid (HN3.out.later hb4)
              go_wp2_with fail
              refine hK.out _ _ (HSS.out _ hz4) (fun hHeld => ?_)
              clear hK K hS
              have hS := hHeld
              clear hHeld
              try simp only [Act.put, List.getElem_toArray, List.getElem_cons_zero, List.getElem_cons_succ, List.setIfInBounds_toArray, List.set_cons_zero, List.set_cons_succ]
              refine wpAnyH_take (i := 5) (v := ?_) rfl (by kernel_rfl) (by kernel_rfl) (by kernel_rfl) (fun _ _ _ h => h) (Or.inl ⟨by kernel_rfl, ?_⟩) (by assumption) ?_
              rotate_left
              · intro w hSw
                try dsimp only at hSw
                go_simp
                try with_reducible rfl
              try simp only [Act.put, List.getElem_toArray, List.getElem_cons_zero, List.getElem_cons_succ, List.setIfInBounds_toArray, List.set_cons_zero, List.set_cons_succ]
              refine wpAnyH_take (i := 6) (v := ?_) rfl (by kernel_rfl) (by kernel_rfl) (by kernel_rfl) (fun _ _ _ h => h) (Or.inl ⟨by kernel_rfl, ?_⟩) (by assumption) ?_
              rotate_left
              · intro w hSw
                try dsimp only at hSw
                go_simp
                try with_reducible rfl
              try simp only [Act.put, List.getElem_toArray, List.getElem_cons_zero, List.getElem_cons_succ, List.setIfInBounds_toArray, List.set_cons_zero, List.set_cons_succ]
              refine wpAnyH_take (i := 7) (v := ?_) rfl (by kernel_rfl) (by kernel_rfl) (by kernel_rfl) (fun _ _ _ h => h) (Or.inl ⟨by kernel_rfl, ?_⟩) (by assumption) ?_
              rotate_left
              · intro w hSw
                try dsimp only at hSw
                go_simp
                try with_reducible rfl
              try simp only [Act.put, List.getElem_toArray, List.getElem_cons_zero, List.getElem_cons_succ, List.setIfInBounds_toArray, List.set_cons_zero, List.set_cons_succ]
              refine wpAnyH_ready (rs := [9]) (by kernel_rfl) (by simp) ?_
              refine AllReadyH.cons rfl (fun K hK => ?_) AllReadyH.nil
              rw [if_pos (by kernel_rfl)]
              refine wp_store_rat (i := 11) (j := 48) rfl rfl rfl rfl HN4.out ?_
              obtain ⟨v9, hv9⟩ : ∃ x, (v4.setCell ⟨v0.heap.size, 0, none⟩ (.string (itx dn.num))).setCell ⟨v0.heap.size, 1, none⟩ (.string (itx (dn.den : Int))) = x := ⟨_, rfl⟩
              try rw [hv9]
              have HNB := Lib.hid (show B1 v0.heap.size (.string (itx dn.num)) (.string (itx (dn.den : Int))) v9 from hv9 ▸ HN4.out.store0 _ _)
              have hz9 : Below wc.heap.size wc v9 := hv9 ▸ (hz4.setCell (p := ⟨v0.heap.size, 0, none⟩) HGS.out _).setCell (p := ⟨v0.heap.size, 1, none⟩) HGS.out _
              refine hK.out _ _ (HSS.out _ hz9) (fun hHeld => ?_)
              clear hK K hS hv9
              have hS := hHeld
              clear hHeld
              try simp only [Act.put]
              refine wpAnyH_take (i := 10) (v := ?_) rfl (by kernel_rfl) (by kernel_rfl) (by kernel_rfl) (fun _ _ _ h => h) (Or.inl ⟨by kernel_rfl, ?_⟩) (by assumption) ?_
              rotate_left
              · intro w hSw
                try dsimp only at hSw
                go_simp
                try with_reducible rfl
              try simp only [Act.put, List.getElem_toArray, List.getElem_cons_zero, List.getElem_cons_succ, List.setIfInBounds_toArray, List.set_cons_zero, List.set_cons_succ]
              refine wpAnyH_done (by kernel_rfl) ?_ _
              go_wp2_with fail
              go_meet
              case rel => exact ⟨_, rfl, HGS.out, HNB.out, hz9⟩
        case rest =>
          obtain ⟨g11, rfl, hg11, hd, hzd⟩ := hcut
          rename_i wd
          have HUD := Lib.hid (HU.out _ hzd)
          have HXD := Lib.hid (HX8.out _ (bel_chain HWC.out hzd))
          have HPD := Lib.hid (HP8.out _ (bel_chain HWC.out hzd))
          have HBD := Lib.hid (bel_chain HB8.out (bel_chain HWC.out hzd))
          have HD := Lib.hid hd
          have hgl : w.heap.size + 1 + 1 < w10.heap.size := Nat.lt_of_lt_of_le (HX8.out _ (Below.refl _ _)).2.2.1 HW10.out.size
          have hn1 : ¬ g9 = w.heap.size := by have := HG9.out.1; omega
          have hn2 : ¬ g9 = w.heap.size + 1 := by have := HG9.out.1; omega
          have hn3 : ¬ g11 = w.heap.size := by have := HG9.out.2; omega
          have hn4 : ¬ g11 = w.heap.size + 1 := by have := HG9.out.2; omega
          have hm1 : ¬ w.heap.size = g9 := fun h => hn1 h.symm
          have hm2 : ¬ w.heap.size + 1 = g9 := fun h => hn2 h.symm
          have hm3 : ¬ w.heap.size = g11 := fun h => hn3 h.symm
          have hm4 : ¬ w.heap.size + 1 = g11 := fun h => hn4 h.symm
          obtain ⟨_, u0, u1, _, _⟩ := HUD.out
          obtain ⟨_, e0, e1, _, _⟩ := hd
          obtain ⟨⟨_, l0, l1, lf0, lf1⟩, ⟨_, h0, h1, hf0, hf1⟩, _⟩ := HXD.out
          clear hzd hgl hg11 HNC HU
          go_upto_region 10 with fail
          go_region_with fail
          all_goals
            go_wp2_with fail
            go_roundg (dn.den + up.den)
            case measure => have := HGK.out; have := HLT.out; omega
            case rel =>
              have hg := HGC.out
              refine ⟨trivial, dn, up, c', i + 1, rfl, HSI2.out, ((HXD.out.store0 (.string (itx dn.num)) (.string (itx (dn.den : Int)))).store1 (.string (itx up.num)) (.string (itx (up.den : Int)))).later (Below.refl _ _).drew, ?_, ?_⟩
              · exact ((((HPD.out.far (p := ⟨w.heap.size, 0, none⟩) (show gc ≠ w.heap.size by omega) _).far (p := ⟨w.heap.size, 1, none⟩) (show gc ≠ w.heap.size by omega) _).far (p := ⟨w.heap.size + 1, 0, none⟩) (show gc ≠ w.heap.size + 1 by omega) _).far (p := ⟨w.heap.size + 1, 1, none⟩) (show gc ≠ w.heap.size + 1 by omega) _).later (Below.refl _ _).drew
              · exact ((((HBD.out.setCell (p := ⟨w.heap.size, 0, none⟩) (Nat.le_refl _) _).setCell (p := ⟨w.heap.size, 1, none⟩) (Nat.le_refl _) _).setCell (p := ⟨w.heap.size + 1, 0, none⟩) (Nat.le_succ _) _).setCell (p := ⟨w.heap.size + 1, 1, none⟩) (Nat.le_succ _) _).drew
end Go.Proofs.YtpafocfpofnkpaaGreatDoor
