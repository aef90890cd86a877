/- Greater text, out of: QV7. -/
import Derived.Test.YtdpcmhdmdompnaaGreatDoorQ24
import Derived.Test.YtdpcmhdmdompnaaGreatDoorQ23
import Derived.Test.YtdpcmhdmdompnaaGreatDoorQ13
namespace Go.Proofs.YtdpcmhdmdompnaaGreatDoor
open Go.RowKit Go.PlainAid
attribute [local go_sem] field_rat0 field_rat1
set_option maxHeartbeats 800000 in
/-- schismalaw03.Right. -/
theorem l3right_any (n d : ByteArray) (w : World) (hamb : Amb w) :
    Calls Tryz.prog 8 #[.agg #[.string n, .string d]] w (SmallRes (.bool (rightB n.data.toList d.data.toList)) w) := by
  have HC := Lib.hid (fun w h => t3right_any n d w h)
  obtain ⟨r, hr⟩ : ∃ r, rightB n.data.toList d.data.toList = r := ⟨_, rfl⟩
  rw [hr] at HC ⊢
  have HAMB := Lib.hid hamb
  clear hamb hr
  go_enter Tryz.func8, Tryz.ntmps8
  go_wp2_with fail
  obtain ⟨W, hW⟩ : ∃ W, w.alloc (.cells #[.string n, .string d] 27) = W := ⟨_, rfl⟩
  rw [hW]
  obtain ⟨_, hBW⟩ := B1.of hW
  clear hW
  refine (HC.out W (HAMB.out.below hBW)).mono ?_
  rintro e w1 ⟨rfl, hb1⟩
  go_wp2_with fail
  go_ret
  exact ⟨rfl, bel_chain hBW hb1⟩
set_option maxRecDepth 100000 in
set_option maxHeartbeats 8000000 in
theorem lawFactors_long (a b : Int) (n0 d0 : ByteArray) (w : World) (hamb : Amb11 w) (h : ¬ (n0.size ≤ 40 ∧ d0.size ≤ 40)) :
    Calls Tryz.prog 3 #[.agg #[.int .u16 a, .int .u16 b], .agg #[.string n0, .string d0]] w (SmallRes (.bool true) w) := by
  have HAMB := Lib.hid hamb
  have hcs : (40 : Int) < (n0.size : Int) ∨ (¬ (40 : Int) < (n0.size : Int) ∧ (40 : Int) < (d0.size : Int)) := by omega
  clear hamb h
  rcases hcs with hc | ⟨hc, hc2⟩
  all_goals
    go_enter Tryz.func3, Tryz.ntmps3
    go_wp2_with fail
    obtain ⟨W, hW⟩ : ∃ W, (w.alloc (.cells #[.int .u16 a, .int .u16 b] 24)).alloc (.cells #[.string n0, .string d0] 27) = W := ⟨_, rfl⟩
    rw [hW]
    obtain ⟨hX, hBW⟩ := B2.of hW
    clear hW
    have HX := Lib.hid (fun wz (hb : Below W.heap.size W wz) => hX.later hb)
    have HB := Lib.hid hBW
    have HA := Lib.hid (fun wz (hb : Below W.heap.size W wz) => HAMB.out.below (bel_chain HB.out hb))
    clear hX hBW
    refine (known11_any W (HA.out _ (Below.refl _ _))).mono ?_
    rintro e w1 ⟨rfl, hz1⟩
    obtain ⟨⟨_, y0, y1, _, _⟩, ⟨_, x0, x1, _, _⟩⟩ := HX.out _ hz1
    go_wp2_with fail
    refine (known11_any w1 (HA.out _ hz1)).mono ?_
    rintro e w3 ⟨rfl, hb3⟩
    have hz3 := bel_chain hz1 hb3
    go_wp2_with fail
    go_ret
    exact ⟨rfl, bel_chain HB.out hz3⟩
set_option maxRecDepth 100000 in
set_option maxHeartbeats 8000000 in
/-- not right. -/
theorem lawFactors_no (a b : Int) (n0 d0 : ByteArray) (w : World) (hamb : Amb11 w) (h0 : n0.size ≤ 40) (h1 : d0.size ≤ 40) (hr : rightB n0.data.toList d0.data.toList = false) :
    Calls Tryz.prog 3 #[.agg #[.int .u16 a, .int .u16 b], .agg #[.string n0, .string d0]] w (SmallRes (.bool true) w) := by
  have HAMB := Lib.hid hamb
  have l0 : ¬ (40 : Int) < (n0.size : Int) := by omega
  have l1 : ¬ (40 : Int) < (d0.size : Int) := by omega
  have HRT := Lib.hid (fun w h => show Calls Tryz.prog 8 #[.agg #[.string n0, .string d0]] w (SmallRes (.bool false) w) from by rw [← hr]; exact l3right_any n0 d0 w h)
  clear hamb
  go_enter Tryz.func3, Tryz.ntmps3
  go_wp2_with fail
  obtain ⟨W, hW⟩ : ∃ W, (w.alloc (.cells #[.int .u16 a, .int .u16 b] 24)).alloc (.cells #[.string n0, .string d0] 27) = W := ⟨_, rfl⟩
  rw [hW]
  obtain ⟨hX, hBW⟩ := B2.of hW
  clear hW
  have HX := Lib.hid (fun wz (hb : Below W.heap.size W wz) => hX.later hb)
  have HB := Lib.hid hBW
  have HA := Lib.hid (fun wz (hb : Below W.heap.size W wz) => HAMB.out.below (bel_chain HB.out hb))
  clear hX hBW
  refine (known11_any W (HA.out _ (Below.refl _ _))).mono ?_
  rintro e w1 ⟨rfl, hz1⟩
  obtain ⟨⟨_, y0, y1, _, _⟩, ⟨_, x0, x1, _, _⟩⟩ := HX.out _ hz1
  go_wp2_with fail
  refine (make11_any a w1).mono ?_
  rintro e w2 ⟨v, ps, rfl, hmk, hown, hb2⟩
  have hz2 := bel_chain hz1 hb2
  obtain ⟨A, cap, rfl, hin⟩ := hown.ins
  clear hown hb2 hz1 y0 y1 x0 x1
  have hck := hmk.1.chk
  have HIN := Lib.hid (fun wz (hb : Below w2.heap.size w2 wz) => hin.below hb)
  have HX2 := Lib.hid (fun wz (hb : Below w2.heap.size w2 wz) => HX.out _ (bel_chain hz2 hb))
  have HA2 := Lib.hid (fun wz (hb : Below w2.heap.size w2 wz) => (HA.out _ (bel_chain hz2 hb)).a)
  have HB2 := Lib.hid (fun wz (hb : Below w2.heap.size w2 wz) => bel_chain HB.out (bel_chain hz2 hb))
  have hr0 := Below.refl w2.heap.size w2
  have hop : opn ps n0 d0 = 2 := by unfold opn; rw [if_pos hck, if_neg (by rw [hr]; decide)]
  have HFA := Lib.hid (fun wz (hb : Below w2.heap.size w2 wz) => factor_bad A ps.length cap ps n0 d0 2 wz (HA2.out _ hb) (HIN.out _ hb) (by omega) (by omega) hop (by decide))
  have HSM := Lib.hid (fun wz (hb : Below w2.heap.size w2 wz) => smooth_bad A ps.length cap ps n0 d0 2 wz (HA2.out _ hb) (HIN.out _ hb) (by omega) (by omega) hop (by decide))
  clear hop hr h0 h1
  obtain ⟨m, hm⟩ : ∃ m, ps.length = m := ⟨_, rfl⟩
  rw [hm] at HFA HSM ⊢
  have HIN2 := Lib.hid (hm ▸ HIN.out)
  have HML := Lib.hid hm
  clear hin hz2 hck hm HIN
  obtain ⟨_, ⟨_, x0, x1, _, _⟩⟩ := HX2.out _ hr0
  go_wp2_with fail
  refine (HFA.out _ hr0).mono ?_
  rintro e w3 ⟨rfl, hz3⟩
  clear x0 x1
  obtain ⟨_, ⟨_, x0, x1, _, _⟩⟩ := HX2.out _ hz3
  go_wp2_with fail
  refine (HSM.out _ hz3).mono ?_
  rintro e w4 ⟨rfl, hb4⟩
  have hz4 := bel_chain hz3 hb4
  clear x0 x1 hb4 hz3
  obtain ⟨_, ⟨_, x0, x1, _, _⟩⟩ := HX2.out _ hz4
  go_wp2_with fail
  refine (HRT.out w4 (HA2.out _ hz4)).mono ?_
  rintro e w5 ⟨rfl, hb5⟩
  have hz5 := bel_chain hz4 hb5
  clear x0 x1 hb5 hz4
  go_wp2_with fail
  go_ret
  exact ⟨rfl, HB2.out _ hz5⟩
set_option maxRecDepth 100000 in
set_option maxHeartbeats 8000000 in
/-- right, not greater than 0. -/
theorem lawFactors_neg (a b : Int) (p : Rat) (w : World) (hamb : Amb11 w) (h0 : (itx p.num).size ≤ 40) (h1 : (itx (p.den : Int)).size ≤ 40) (hr : rightB (itx p.num).data.toList (itx (p.den : Int)).data.toList = true) (hn : p.num ≤ 0) :
    Calls Tryz.prog 3 #[.agg #[.int .u16 a, .int .u16 b], .agg #[.string (itx p.num), .string (itx (p.den : Int))]] w (SmallRes (.bool true) w) := by
  have hq : NQ p 40 := ⟨Nat.le_trans (itx_size_ge _) h0, Nat.le_trans (itx_size_ge _) h1⟩
  have HAMB := Lib.hid hamb
  have l0 : ¬ (40 : Int) < ((itx p.num).size : Int) := by omega
  have l1 : ¬ (40 : Int) < ((itx (p.den : Int)).size : Int) := by omega
  have HRT := Lib.hid (fun w h => show Calls Tryz.prog 8 #[.agg #[.string (itx p.num), .string (itx (p.den : Int))]] w (SmallRes (.bool true) w) from by rw [← hr]; exact l3right_any _ _ w h)
  have HSG := Lib.hid (fun w => t3rsign_any p w (hq.mono (by omega)))
  have hs : p.num.sign ≤ 0 := sign_le hn
  obtain ⟨sg, hsg⟩ : ∃ x, p.num.sign = x := ⟨_, rfl⟩
  rw [hsg] at HSG hs
  unfold rv at HSG
  clear hamb hsg
  go_enter Tryz.func3, Tryz.ntmps3
  go_wp2_with fail
  obtain ⟨W, hW⟩ : ∃ W, (w.alloc (.cells #[.int .u16 a, .int .u16 b] 24)).alloc (.cells #[.string (itx p.num), .string (itx (p.den : Int))] 27) = W := ⟨_, rfl⟩
  rw [hW]
  obtain ⟨hX, hBW⟩ := B2.of hW
  clear hW
  have HX := Lib.hid (fun wz (hb : Below W.heap.size W wz) => hX.later hb)
  have HB := Lib.hid hBW
  have HA := Lib.hid (fun wz (hb : Below W.heap.size W wz) => HAMB.out.below (bel_chain HB.out hb))
  clear hX hBW
  refine (known11_any W (HA.out _ (Below.refl _ _))).mono ?_
  rintro e w1 ⟨rfl, hz1⟩
  obtain ⟨⟨_, y0, y1, _, _⟩, ⟨_, x0, x1, _, _⟩⟩ := HX.out _ hz1
  go_wp2_with fail
  refine (make11_any a w1).mono ?_
  rintro e w2 ⟨v, ps, rfl, hmk, hown, hb2⟩
  have hz2 := bel_chain hz1 hb2
  obtain ⟨A, cap, rfl, hin⟩ := hown.ins
  clear hown hb2 hz1 y0 y1 x0 x1
  have hck := hmk.1.chk
  have HIN := Lib.hid (fun wz (hb : Below w2.heap.size w2 wz) => hin.below hb)
  have HX2 := Lib.hid (fun wz (hb : Below w2.heap.size w2 wz) => HX.out _ (bel_chain hz2 hb))
  have HA2 := Lib.hid (fun wz (hb : Below w2.heap.size w2 wz) => (HA.out _ (bel_chain hz2 hb)).a)
  have HB2 := Lib.hid (fun wz (hb : Below w2.heap.size w2 wz) => bel_chain HB.out (bel_chain hz2 hb))
  have hr0 := Below.refl w2.heap.size w2
  have HFA := Lib.hid (fun wz (hb : Below w2.heap.size w2 wz) => Factor_neg A ps.length cap ps p wz (HA2.out _ hb) (HIN.out _ hb) hck hr (hq.mono (by omega)) hn)
  have HSM := Lib.hid (fun wz (hb : Below w2.heap.size w2 wz) => Smooth_neg A ps.length cap ps p wz (HA2.out _ hb) (HIN.out _ hb) hck hr (hq.mono (by omega)) hn)
  unfold rv at HFA HSM
  clear hr h0 h1 hn hq
  obtain ⟨m, hm⟩ : ∃ m, ps.length = m := ⟨_, rfl⟩
  rw [hm] at HFA HSM ⊢
  have HIN2 := Lib.hid (hm ▸ HIN.out)
  have HML := Lib.hid hm
  clear hin hz2 hck hm HIN
  obtain ⟨_, ⟨_, x0, x1, _, _⟩⟩ := HX2.out _ hr0
  go_wp2_with fail
  refine (HFA.out _ hr0).mono ?_
  rintro e w3 ⟨rfl, hz3⟩
  clear x0 x1
  obtain ⟨_, ⟨_, x0, x1, _, _⟩⟩ := HX2.out _ hz3
  go_wp2_with fail
  refine (HSM.out _ hz3).mono ?_
  rintro e w4 ⟨rfl, hb4⟩
  have hz4 := bel_chain hz3 hb4
  clear x0 x1 hb4 hz3
  obtain ⟨_, ⟨_, x0, x1, _, _⟩⟩ := HX2.out _ hz4
  go_wp2_with fail
  refine (HRT.out w4 (HA2.out _ hz4)).mono ?_
  rintro e w5 ⟨rfl, hb5⟩
  have hz5 := bel_chain hz4 hb5
  clear x0 x1 hb5 hz4
  obtain ⟨_, ⟨_, x0, x1, _, _⟩⟩ := HX2.out _ hz5
  go_wp2_with fail
  refine (HSG.out w5).mono ?_
  rintro e w6 ⟨rfl, hb6⟩
  have hz6 := bel_chain hz5 hb6
  clear x0 x1 hb6 hz5
  go_wp2_with fail
  go_ret
  exact ⟨rfl, HB2.out _ hz6⟩
/-- A row on its way to another. -/
def mixR (xs ys : List Int) (i : Nat) : List Int := ys.take i ++ xs.drop i
theorem mixR_zero (xs ys : List Int) : mixR xs ys 0 = xs := by simp [mixR]
theorem mixR_all {xs ys : List Int} (h : xs.length = ys.length) : mixR xs ys ys.length = ys := by
  unfold mixR
  rw [List.take_length, List.drop_eq_nil_of_le (by omega), List.append_nil]
theorem mixR_get {xs ys : List Int} {i : Nat} (h : xs.length = ys.length) (hi : i < xs.length) : (mixR xs ys i).getD i 0 = xs.getD i 0 := by
  unfold mixR
  rw [List.getD_eq_getElem?_getD, List.getElem?_append_right (by rw [List.length_take]; omega), List.length_take, Nat.min_eq_left (by omega), Nat.sub_self, List.getElem?_drop, Nat.add_zero, List.getD_eq_getElem?_getD]
theorem mixR_set {xs ys : List Int} {i : Nat} (h : xs.length = ys.length) (hi : i < xs.length) : (mixR xs ys i).set i (ys.getD i 0) = mixR xs ys (i + 1) := by
  unfold mixR
  rw [List.set_append, if_neg (by rw [List.length_take]; omega), List.length_take, Nat.min_eq_left (by omega), Nat.sub_self, List.drop_eq_getElem_cons hi, List.set_cons_zero, List.take_succ_eq_append_getElem (by omega), List.append_assoc, List.getD_eq_getElem?_getD, List.getElem?_eq_getElem (by omega)]
  rfl
theorem far_short {ps : List Int} {N D : Nat} (hps : ∀ i, i < ps.length → 2 ≤ ps.getD i 0) (h0 : 0 < N) (hd : 0 < D) (hN : nz (N : Int) ≤ 40) (hD : nz (D : Int) ≤ 40) : farB (dif (stp ps N).1 (stp ps D).1) = false := by
  have key : ∀ M : Nat, 0 < M → nz (M : Int) ≤ 40 → ∀ i, i < ps.length → (stp ps M).1.getD i 0 ≤ 160 := fun M hM hM4 i hi => by
    rw [stp_get ps M i hi]
    have hl := lft_pos (ps := ps) (N := M) hps hM i (by omega)
    have h2 := hps i hi
    exact tk_bound (by omega) hl.1 (nz_le_nat hl.2 hM4)
  unfold farB
  rw [List.any_eq_false]
  intro x hx
  obtain ⟨i, hi, rfl⟩ := List.getElem_of_mem hx
  have hlen : (dif (stp ps N).1 (stp ps D).1).length = ps.length := by rw [dif_len _ _ (by rw [stp_len, stp_len]), stp_len]
  have hg := dif_get (stp ps N).1 (stp ps D).1 i (by rw [stp_len]; omega) (by rw [stp_len]; omega)
  rw [List.getD_eq_getElem?_getD, List.getElem?_eq_getElem hi] at hg
  have hg2 : (dif (stp ps N).1 (stp ps D).1)[i] = ((stp ps N).1.getD i 0 : Int) - ((stp ps D).1.getD i 0 : Int) := hg
  have k1 := key N h0 hN i (by omega)
  have k2 := key D hd hD i (by omega)
  obtain ⟨u, hu⟩ : ∃ u, (stp ps N).1.getD i 0 = u := ⟨_, rfl⟩
  obtain ⟨v, hv⟩ : ∃ v, (stp ps D).1.getD i 0 = v := ⟨_, rfl⟩
  rw [hu] at hg2 k1
  rw [hv] at hg2 k2
  rw [hg2]
  simp
  omega
theorem exp_short {ps : List Int} {N : Nat} (hps : ∀ i, i < ps.length → 2 ≤ ps.getD i 0) (h0 : 0 < N) (hN : nz (N : Int) ≤ 40) (i : Nat) (hi : i < ps.length) :
    ((stp ps N).1.map fun (k : Nat) => (k : Int)).getD i 0 = ((stp ps N).1.getD i 0 : Int) ∧ (stp ps N).1.getD i 0 ≤ 160 := by
  refine ⟨?_, ?_⟩
  · rw [List.getD_eq_getElem?_getD, List.getElem?_map, List.getD_eq_getElem?_getD, List.getElem?_eq_getElem (by rw [stp_len]; exact hi)]
    rfl
  · rw [stp_get ps N i hi]
    have hl := lft_pos (ps := ps) (N := N) hps h0 i (by omega)
    have h2 := hps i hi
    exact tk_bound (by omega) hl.1 (nz_le_nat hl.2 hN)
set_option maxRecDepth 100000 in
set_option maxHeartbeats 8000000 in
/-- right, greater than 0. -/
theorem lawFactors_yes (a b : Int) (p : Rat) (w : World) (hamb : Amb11 w) (h0 : (itx p.num).size ≤ 40) (h1 : (itx (p.den : Int)).size ≤ 40) (hr : rightB (itx p.num).data.toList (itx (p.den : Int)).data.toList = true) (hn : 0 < p.num) :
    Calls Tryz.prog 3 #[.agg #[.int .u16 a, .int .u16 b], .agg #[.string (itx p.num), .string (itx (p.den : Int))]] w (SmallRes (.bool true) w) := by
  have hq : NQ p 40 := ⟨Nat.le_trans (itx_size_ge _) h0, Nat.le_trans (itx_size_ge _) h1⟩
  have HAMB := Lib.hid hamb
  have l0 : ¬ (40 : Int) < ((itx p.num).size : Int) := by omega
  have l1 : ¬ (40 : Int) < ((itx (p.den : Int)).size : Int) := by omega
  have HRT := Lib.hid (fun w h => show Calls Tryz.prog 8 #[.agg #[.string (itx p.num), .string (itx (p.den : Int))]] w (SmallRes (.bool true) w) from by rw [← hr]; exact l3right_any _ _ w h)
  have HSG := Lib.hid (fun w => t3rsign_any p w (hq.mono (by omega)))
  have hs : ¬ p.num.sign ≤ 0 := by rw [Int.sign_eq_one_of_pos hn]; decide
  obtain ⟨sg, hsg⟩ : ∃ x, p.num.sign = x := ⟨_, rfl⟩
  rw [hsg] at HSG hs
  obtain ⟨N, hN⟩ : ∃ N : Nat, p.num = (N : Int) := ⟨p.num.toNat, by omega⟩
  have hN0 : 0 < N := by omega
  have hD0 : 0 < p.den := p.den_pos
  have hN4 : nz (N : Int) ≤ 40 := hN ▸ hq.1
  have hD4 : nz (p.den : Int) ≤ 40 := hq.2
  unfold rv at HSG
  have HNN := Lib.hid hN
  clear hamb hsg hn hN
  go_enter Tryz.func3, Tryz.ntmps3
  go_wp2_with fail
  obtain ⟨W, hW⟩ : ∃ W, (w.alloc (.cells #[.int .u16 a, .int .u16 b] 24)).alloc (.cells #[.string (itx p.num), .string (itx (p.den : Int))] 27) = W := ⟨_, rfl⟩
  rw [hW]
  obtain ⟨hX, hBW⟩ := B2.of hW
  clear hW
  have HX := Lib.hid (fun wz (hb : Below W.heap.size W wz) => hX.later hb)
  have HB := Lib.hid hBW
  have HA := Lib.hid (fun wz (hb : Below W.heap.size W wz) => HAMB.out.below (bel_chain HB.out hb))
  clear hX hBW
  refine (known11_any W (HA.out _ (Below.refl _ _))).mono ?_
  rintro e w1 ⟨rfl, hz1⟩
  obtain ⟨⟨_, y0, y1, _, _⟩, ⟨_, x0, x1, _, _⟩⟩ := HX.out _ hz1
  go_wp2_with fail
  refine (make11_any a w1).mono ?_
  rintro e w2 ⟨v, ps, rfl, hmk, hown, hb2⟩
  have hz2 := bel_chain hz1 hb2
  obtain ⟨A, cap, rfl, hin⟩ := hown.ins
  clear hown hb2 hz1 y0 y1 x0 x1
  have hck := hmk.1.chk
  have HIN := Lib.hid (fun wz (hb : Below w2.heap.size w2 wz) => hin.below hb)
  have HX2 := Lib.hid (fun wz (hb : Below w2.heap.size w2 wz) => HX.out _ (bel_chain hz2 hb))
  have HA2 := Lib.hid (fun wz (hb : Below w2.heap.size w2 wz) => (HA.out _ (bel_chain hz2 hb)).a)
  have HB2 := Lib.hid (fun wz (hb : Below w2.heap.size w2 wz) => bel_chain HB.out (bel_chain hz2 hb))
  have hr0 := Below.refl w2.heap.size w2
  have hok := hmk.1
  have hN := HNN.out
  have HFA1 := Lib.hid (fun wz (hb : Below w2.heap.size w2 wz) => Factor_pos A ps.length cap ps p N p.den wz (HA2.out _ hb) (HIN.out _ hb) hck hr (hq.mono (by omega)) hN rfl hN0 _ _ rfl rfl)
  have HSM := Lib.hid (fun wz (hb : Below w2.heap.size w2 wz) => Smooth_pos A ps.length cap ps p N p.den wz (HA2.out _ hb) (HIN.out _ hb) hck hr (hq.mono (by omega)) hN rfl hN0 _ _ rfl rfl)
  have HTN := Lib.hid (fun w => t3to_any p.num w (by have := hq.1; omega))
  have HTD := Lib.hid (fun w => t3to_any (p.den : Int) w (by have := hq.2; omega))
  have HLN := Lib.hid (fun v wz (hb : Below w2.heap.size w2 wz) (hv : W3 wz v p.num) => lfactor_any A ps.length cap ps v N wz (HA2.out _ hb) (HIN.out _ hb) hok.le (fun i hi => hok.two i hi) (hN ▸ hv) hN0 (by omega))
  have HLD := Lib.hid (fun v wz (hb : Below w2.heap.size w2 wz) (hv : W3 wz v (p.den : Int)) => lfactor_any A ps.length cap ps v p.den wz (HA2.out _ hb) (HIN.out _ hb) hok.le (fun i hi => hok.two i hi) hv hD0 (by omega))
  have hfar := far_short (ps := ps) (fun i hi => (hok.two i hi).1) hN0 hD0 hN4 hD4
  have HE1 := Lib.hid (fun i (hi : i < ps.length) => exp_short (ps := ps) (N := N) (fun i hi => (hok.two i hi).1) hN0 hN4 i hi)
  have HE2 := Lib.hid (fun i (hi : i < ps.length) => exp_short (ps := ps) (N := p.den) (fun i hi => (hok.two i hi).1) hD0 hD4 i hi)
  have HDG := Lib.hid (fun i (hi : i < ps.length) => dif_get (stp ps N).1 (stp ps p.den).1 i (by rw [stp_len]; exact hi) (by rw [stp_len]; exact hi))
  have HDL := Lib.hid (show (dif (stp ps N).1 (stp ps p.den).1).length = ps.length by rw [dif_len _ _ (by rw [stp_len, stp_len]), stp_len])
  have HLL := Lib.hid (show ((stp ps N).1.map fun (k : Nat) => (k : Int)).length = ps.length by rw [List.length_map, stp_len])
  have hm6 : ps.length ≤ 6 := hok.le
  obtain ⟨SN, hSN⟩ : ∃ x, stp ps N = x := ⟨_, rfl⟩
  obtain ⟨SD, hSD⟩ : ∃ x, stp ps p.den = x := ⟨_, rfl⟩
  rw [hSN, hSD] at HFA1 HSM HDG HDL hfar
  rw [hSN] at HLN HE1 HLL
  rw [hSD] at HLD HE2
  unfold rv at HFA1 HSM
  clear hSN hSD hr h0 h1 hN hN0 hD0 hN4 hD4 hok hmk hq
  by_cases hgood : SN.2 = 1 ∧ SD.2 = 1
  · have HFA := Lib.hid (fun wz (hb : Below w2.heap.size w2 wz) => (HFA1.out wz hb).1 hgood hfar)
    rw [hgood.1, hgood.2] at HSM
    rw [hgood.1] at HLN
    rw [hgood.2] at HLD
    rw [decide_eq_true rfl] at HSM HLN HLD
    rw [Bool.and_self] at HSM
    obtain ⟨L1, hL1⟩ : ∃ x, SN.1.map (fun (k : Nat) => (k : Int)) = x := ⟨_, rfl⟩
    obtain ⟨L2, hL2⟩ : ∃ x, SD.1.map (fun (k : Nat) => (k : Int)) = x := ⟨_, rfl⟩
    obtain ⟨M, hM⟩ : ∃ x, dif SN.1 SD.1 = x := ⟨_, rfl⟩
    rw [hL1] at HLN HE1 HLL
    rw [hL2] at HLD HE2
    rw [hM] at HFA HDG HDL
    clear hL1 hL2 hM HFA1 hgood hfar
    obtain ⟨m, hm⟩ : ∃ m, ps.length = m := ⟨_, rfl⟩
    rw [hm] at HFA HSM HLN HLD HDG HDL HE1 HE2 HLL hm6 ⊢
    clear hin hz2 hck hm HIN
    obtain ⟨_, ⟨_, x0, x1, _, _⟩⟩ := HX2.out _ hr0
    go_wp2_with fail
    refine (HFA.out _ hr0).mono ?_
    rintro e w3 ⟨g0, c0, rfl, hz0, hz3⟩
    have HR0 := Lib.hid hz0
    clear x0 x1 hz0
    obtain ⟨_, ⟨_, x0, x1, _, _⟩⟩ := HX2.out _ hz3
    go_wp2_with fail
    refine (HSM.out _ hz3).mono ?_
    rintro e w4 ⟨rfl, hb4⟩
    have hz4 := bel_chain hz3 hb4
    clear x0 x1
    obtain ⟨_, ⟨_, x0, x1, _, _⟩⟩ := HX2.out _ hz4
    go_wp2_with fail
    refine (HRT.out w4 (HA2.out _ hz4)).mono ?_
    rintro e w5 ⟨rfl, hb5⟩
    have hz5 := bel_chain hz4 hb5
    clear x0 x1
    obtain ⟨_, ⟨_, x0, x1, _, _⟩⟩ := HX2.out _ hz5
    go_wp2_with fail
    refine (HSG.out w5).mono ?_
    rintro e w6 ⟨rfl, hb6⟩
    have hz6 := bel_chain hz5 hb6
    clear x0 x1
    obtain ⟨_, ⟨_, x0, x1, _, _⟩⟩ := HX2.out _ hz6
    go_wp2_with fail
    refine (HTN.out w6).mono ?_
    rintro e w7 ⟨v7, rfl, hv7, hb7⟩
    have hz7 := bel_chain hz6 hb7
    clear x0 x1
    go_wp2_with fail
    refine (HLN.out _ _ hz7 hv7).mono ?_
    rintro e w8 ⟨g1, c1, rfl, hzz1, hg1, hb8⟩
    have hz8 := bel_chain hz7 hb8
    have HR1 := Lib.hid hzz1
    have HG1 := Lib.hid (And.intro hg1 hz7.size)
    obtain ⟨_, ⟨_, x0, x1, _, _⟩⟩ := HX2.out _ hz8
    go_wp2_with fail
    refine (HTD.out w8).mono ?_
    rintro e w9 ⟨v9, rfl, hv9, hb9⟩
    have hz9 := bel_chain hz8 hb9
    clear x0 x1
    go_wp2_with fail
    refine (HLD.out _ _ hz9 hv9).mono ?_
    rintro e w10 ⟨g2, c2, rfl, hzz2, hg2, hb10⟩
    have hz10 := bel_chain hz9 hb10
    have HR2 := Lib.hid hzz2
    have r0 := HR0.out.below (bel_chain (bel_chain (bel_chain (bel_chain (bel_chain (bel_chain hb4 hb5) hb6) hb7) hb8) hb9) hb10) HR0.out.lt
    have r1 := HR1.out.below (bel_chain hb9 hb10) HR1.out.lt
    have hn01 : g0 ≠ g1 := by
      have h1 := HR0.out.lt
      have h2 := (bel_chain (bel_chain (bel_chain hb4 hb5) hb6) hb7).size
      omega
    have hn12 : g2 ≠ g1 := by
      have h1 := HR1.out.lt
      have h2 := hb9.size
      omega
    have hle1 : w2.heap.size ≤ g1 := by have := HG1.out; omega
    have HST := Lib.hid (show Zc w10 g1 m c1 (mixR L1 M 0) ∧ Zc w10 g2 m c2 L2 ∧ Zc w10 g0 m c0 M ∧ Below w2.heap.size w2 w10 from ⟨by rw [mixR_zero]; exact r1, hzz2, r0, hz10⟩)
    have HLM := Lib.hid (show L1.length = M.length by rw [HLL.out, HDL.out])
    clear r0 r1 hzz1 hzz2 hz3 hz4 hz5 hz6 hz7 hz8 hz9 hz10 hb4 hb5 hb6 hb7 hb8 hb9 hb10 hv7 hv9 hg1 hg2 HR0 HR1 HR2 HFA HSM HLN HLD HTN HTD HRT HSG
    go_wp2_with fail
    go_loopw [119] (fun vi wr => ∃ i : Nat, i ≤ m ∧ vi = .int .i64 (i : Int) ∧ Hid (Zc wr g1 m c1 (mixR L1 M i)) ∧ Hid (Zc wr g2 m c2 L2) ∧ Hid (Zc wr g0 m c0 M) ∧ Below w2.heap.size w2 wr) (fun vi _ => m - (intOf vi).toNat)
    case atStart => exact ⟨0, Nat.zero_le _, rfl, Lib.hid HST.out.1, Lib.hid HST.out.2.1, Lib.hid HST.out.2.2.1, HST.out.2.2.2⟩
    case round =>
      obtain ⟨i, hi, rfl, H1, H2, H0, hB⟩ := hrel
      by_cases hie : i = m
      · have hlt : ¬ (i : Int) < (m : Int) := by omega
        have hall : mixR L1 M i = M := by rw [hie, ← HDL.out]; exact mixR_all HLM.out
        have h1 := H1.out
        rw [hall] at h1
        have HEQ := Lib.hid (equalR_any _ _ _ _ _ _ M M wr H0.out.ins h1.ins)
        rw [beq_self_eq_true] at HEQ
        clear hie hall h1
        go_wp2_with fail
        refine HEQ.out.mono ?_
        rintro e w11 ⟨rfl, hb11⟩
        have hz11 := bel_chain hB hb11
        go_wp2_with fail
        go_ret
        exact ⟨rfl, HB2.out _ hz11⟩
      · have hlt : (i : Int) < (m : Int) := by omega
        have e1 := HE1.out i (by omega)
        have e2 := HE2.out i (by omega)
        have HMI := Lib.hid (HDG.out i (by omega))
        have hc1 := H1.out.cell i (by omega)
        have hf1 := H1.out.free i
        have hc2 := H2.out.cell i (by omega)
        rw [mixR_get HLM.out (by rw [HLL.out]; omega), e1.1] at hc1
        rw [e2.1] at hc2
        have HSET := Lib.hid (mixR_set (i := i) HLM.out (by rw [HLL.out]; omega))
        obtain ⟨x, hx⟩ : ∃ x, SN.1.getD i 0 = x := ⟨_, rfl⟩
        obtain ⟨y, hy⟩ : ∃ y, SD.1.getD i 0 = y := ⟨_, rfl⟩
        rw [hx] at hc1 e1 HMI
        rw [hy] at hc2 e2 HMI
        have hw : IntKind.i64.wrap ((x : Int) - (y : Int)) = (x : Int) - (y : Int) := IntWalk.i64_in _ (by omega)
        have HBR := Lib.hid hB
        clear hx hy e1 e2 hB
        go_wp2_with fail
        go_region_with fail
        all_goals
          go_wp2_with fail
          go_roundw
          case rel =>
            refine ⟨i + 1, by omega, by go_num, Lib.hid ?_, Lib.hid ?_, Lib.hid ?_, ?_⟩
            · have h1 := H1.out.set i ((x : Int) - (y : Int))
              rw [← HMI.out, HSET.out] at h1
              rw [← HMI.out]
              exact h1
            · exact H2.out.far (p := ⟨g1, i, none⟩) hn12 _
            · exact H0.out.far (p := ⟨g1, i, none⟩) hn01 _
            · exact (HBR.out.setCell (p := ⟨g1, i, none⟩) hle1 _).drew
          case measure => simp [intOf]; omega
  · have HFA := Lib.hid (fun wz (hb : Below w2.heap.size w2 wz) => (HFA1.out wz hb).2.2 hgood)
    have hsm : (decide (SN.2 = 1) && decide (SD.2 = 1)) = false := by
      rw [Bool.and_eq_false_iff, decide_eq_false_iff_not, decide_eq_false_iff_not]
      omega
    rw [hsm] at HSM
    obtain ⟨o1, ho1⟩ : ∃ x, decide (SN.2 = 1) = x := ⟨_, rfl⟩
    obtain ⟨o2, ho2⟩ : ∃ x, decide (SD.2 = 1) = x := ⟨_, rfl⟩
    rw [ho1] at HLN hsm
    rw [ho2] at HLD hsm
    clear ho1 ho2 HFA1 hgood hfar
    obtain ⟨m, hm⟩ : ∃ m, ps.length = m := ⟨_, rfl⟩
    rw [hm] at HFA HSM HLN HLD ⊢
    clear hin hz2 hck hm HIN
    obtain ⟨_, ⟨_, x0, x1, _, _⟩⟩ := HX2.out _ hr0
    go_wp2_with fail
    refine (HFA.out _ hr0).mono ?_
    rintro e w3 ⟨rfl, hz3⟩
    clear x0 x1
    obtain ⟨_, ⟨_, x0, x1, _, _⟩⟩ := HX2.out _ hz3
    go_wp2_with fail
    refine (HSM.out _ hz3).mono ?_
    rintro e w4 ⟨rfl, hb4⟩
    have hz4 := bel_chain hz3 hb4
    clear x0 x1
    obtain ⟨_, ⟨_, x0, x1, _, _⟩⟩ := HX2.out _ hz4
    go_wp2_with fail
    refine (HRT.out w4 (HA2.out _ hz4)).mono ?_
    rintro e w5 ⟨rfl, hb5⟩
    have hz5 := bel_chain hz4 hb5
    clear x0 x1
    obtain ⟨_, ⟨_, x0, x1, _, _⟩⟩ := HX2.out _ hz5
    go_wp2_with fail
    refine (HSG.out w5).mono ?_
    rintro e w6 ⟨rfl, hb6⟩
    have hz6 := bel_chain hz5 hb6
    clear x0 x1
    obtain ⟨_, ⟨_, x0, x1, _, _⟩⟩ := HX2.out _ hz6
    go_wp2_with fail
    refine (HTN.out w6).mono ?_
    rintro e w7 ⟨v7, rfl, hv7, hb7⟩
    have hz7 := bel_chain hz6 hb7
    clear x0 x1
    go_wp2_with fail
    refine (HLN.out _ _ hz7 hv7).mono ?_
    rintro e w8 ⟨g1, c1, rfl, _, _, hb8⟩
    have hz8 := bel_chain hz7 hb8
    obtain ⟨_, ⟨_, x0, x1, _, _⟩⟩ := HX2.out _ hz8
    go_wp2_with fail
    refine (HTD.out w8).mono ?_
    rintro e w9 ⟨v9, rfl, hv9, hb9⟩
    have hz9 := bel_chain hz8 hb9
    clear x0 x1
    go_wp2_with fail
    refine (HLD.out _ _ hz9 hv9).mono ?_
    rintro e w10 ⟨g2, c2, rfl, _, _, hb10⟩
    have hz10 := bel_chain hz9 hb10
    cases o1
    · go_wp2_with fail
      go_ret
      exact ⟨rfl, HB2.out _ hz10⟩
    · obtain rfl : o2 = false := hsm
      go_wp2_with fail
      go_ret
      exact ⟨rfl, HB2.out _ hz10⟩
theorem lawFactors_walk (a b : Int) (_ha : 0 ≤ a ∧ a ≤ 65535) (_hb : 0 ≤ b ∧ b ≤ 65535) (n0 d0 : ByteArray) (w : World) (hamb : Amb11 w) :
    Calls Tryz.prog 3 #[.agg #[.int .u16 a, .int .u16 b], .agg #[.string n0, .string d0]] w (SmallRes (.bool true) w) := by
  by_cases h : n0.size ≤ 40 ∧ d0.size ≤ 40
  · obtain ⟨h0, h1⟩ := h
    cases hr : rightB n0.data.toList d0.data.toList with
    | false => exact lawFactors_no a b n0 d0 w hamb h0 h1 hr
    | true =>
      obtain ⟨q, rfl, rfl, _⟩ := rightB_rat hr
      by_cases hn : q.num ≤ 0
      · exact lawFactors_neg a b q w hamb h0 h1 hr hn
      · exact lawFactors_yes a b q w hamb h0 h1 hr (by omega)
  · exact lawFactors_long a b n0 d0 w hamb h
end Go.Proofs.YtdpcmhdmdompnaaGreatDoor
