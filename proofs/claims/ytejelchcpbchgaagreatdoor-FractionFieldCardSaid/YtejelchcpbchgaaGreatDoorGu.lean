/- Greater text, out of: U12, U13. -/
import Derived.Test.YtejelchcpbchgaaGreatDoorGj
import Derived.Test.YtejelchcpbchgaaGreatDoorGk
import Derived.Test.YtejelchcpbchgaaGreatDoorGm
namespace Go.Proofs.YtejelchcpbchgaaGreatDoor
section
open Go.RowKit Go.PlainAid
attribute [local go_sem] field_rat0 field_rat1

theorem wcheck_canon (s : ByteArray) (w : World) (hs : s.size ≤ 1000000000) :
    Calls Tryz.prog 81 #[.string s] w (SmallRes (.int .i64 (if canonR s.data.toList = true then 0 else 2)) w) := by
  have h := wcheck_any s w hs
  have e : (if canonT s.data.toList = true ∧ (magT s.data.toList).length ≤ 400 then (0 : Int) else 2) = if canonR s.data.toList = true then 0 else 2 := by
    unfold canonR
    simp only [Bool.and_eq_true, decide_eq_true_eq]
  rw [e] at h
  exact h
set_option maxRecDepth 100000 in
set_option maxHeartbeats 2000000 in
theorem fcheck_bad (n d : ByteArray) (w : World) (hn : n.size ≤ 1000000000) (hd : d.size ≤ 1000000000) (h : ¬ (canonR n.data.toList = true ∧ canonR d.data.toList = true)) :
    Calls Tryz.prog 40 #[.agg #[.string n, .string d]] w (SmallRes (.int .i64 2) w) := by
  have hc1 := fun w => wcheck_canon n w hn
  have hc2 := fun w => wcheck_canon d w hd
  generalize canonR n.data.toList = cn at *
  generalize canonR d.data.toList = cd at *
  cases cn
  · rw [if_neg (by decide)] at hc1
    have HC1 := Lib.hid hc1
    clear hc1 hc2 h
    go_enter Tryz.func40, Tryz.ntmps40
    go_wp2_with fail
    refine (HC1.out _).mono ?_
    rintro e w1 ⟨rfl, hb1⟩
    go_wp2_with fail
    go_ret
    exact ⟨rfl, bel_chain ((Below.refl _ _).alloc (Nat.le_refl _) _) hb1⟩
  · obtain rfl : cd = false := by cases cd <;> simp_all
    rw [if_pos rfl] at hc1
    rw [if_neg (by decide)] at hc2
    have HC1 := Lib.hid hc1
    have HC2 := Lib.hid hc2
    clear hc1 hc2 h
    go_enter Tryz.func40, Tryz.ntmps40
    go_wp2_with fail
    obtain ⟨W, hW⟩ : ∃ W, (w.alloc (.cells #[.string n, .string d] 27)) = W := ⟨_, rfl⟩
    rw [hW]
    obtain ⟨hX, hBW⟩ := B1.of hW
    clear hW
    refine (HC1.out _).mono ?_
    rintro e w1 ⟨rfl, hb1⟩
    obtain ⟨_, a10, a11, _, _⟩ := hX.later hb1
    have hB1 := bel_chain hBW hb1
    clear hX hb1 hBW
    go_wp2_with fail
    refine (HC2.out _).mono ?_
    rintro e w2 ⟨rfl, hb2⟩
    have hB2 := bel_chain hB1 hb2
    go_wp2_with fail
    go_ret
    exact ⟨rfl, hB2⟩
set_option maxRecDepth 100000 in
set_option maxHeartbeats 4000000 in
theorem fcheck_canon (a b : Int) (V : Int) (w : World) (hamb : Amb w) (h1 : canonR (itx a).data.toList = true) (h2 : canonR (itx b).data.toList = true) (ha : nz a ≤ 400) (hb : nz b ≤ 400)
    (hV : V = if (decide (0 < b) && decide (Int.gcd a b = 1)) = true then 0 else 2) :
    Calls Tryz.prog 40 #[.agg #[.string (itx a), .string (itx b)]] w (SmallRes (.int .i64 V) w) := by
  have hc1 := fun w => wcheck_canon (itx a) w (by have := itx_size_le a; omega)
  have hc2 := fun w => wcheck_canon (itx b) w (by have := itx_size_le b; omega)
  rw [h1, if_pos rfl] at hc1
  rw [h2, if_pos rfl] at hc2
  have HC1 := Lib.hid hc1
  have HC2 := Lib.hid hc2
  have HAMB := Lib.hid hamb
  obtain ⟨g, hg⟩ : ∃ g, Int.gcd a b = g := ⟨_, rfl⟩
  have HC3 := Lib.hid (fun w h => show Calls Tryz.prog 82 #[.string (itx a), .string (itx b)] w (SmallRes (.string (itx (g : Int))) w) from by
    have h := wgcd_any a b w h (by omega) (by omega)
    rw [hg, ← itx_nat] at h
    exact h)
  rw [hg] at hV
  have HV := Lib.hid hV
  clear h1 h2 hamb hc1 hc2 hg hV
  by_cases hb0 : 0 < b
  · have hsg : b.sign = 1 := Int.sign_eq_one_of_pos hb0
    have HS := Lib.hid (fun w => show Calls Tryz.prog 75 #[.string (itx b)] w (SmallRes (.int .i64 1) w) from hsg ▸ sign_any b w (by omega))
    have HB0 := Lib.hid hb0
    clear hsg hb0
    by_cases hg1 : g = 1
    all_goals
      first
        | (have hgt2 : ((itx (g : Int)).toList == [49]) = true := by rw [hg1]; exact itx_one_same)
        | (have hgt2 : ((itx (g : Int)).toList == [49]) = false := itx_one_test (by omega))
      have HG1 := Lib.hid hg1
      clear hg1
      go_enter Tryz.func40, Tryz.ntmps40
      go_wp2_with fail
      obtain ⟨W, hW⟩ : ∃ W, (w.alloc (.cells #[.string (itx a), .string (itx b)] 27)) = W := ⟨_, rfl⟩
      rw [hW]
      obtain ⟨hX, hBW⟩ := B1.of hW
      clear hW
      have HX := Lib.hid (fun wz (hb : Below W.heap.size W wz) => hX.later hb)
      have HB := Lib.hid hBW
      clear hX hBW
      refine (HC1.out _).mono ?_
      rintro e w1 ⟨rfl, hz1⟩
      obtain ⟨_, a10, a11, _, _⟩ := HX.out _ hz1
      go_wp2_with fail
      refine (HC2.out _).mono ?_
      rintro e w2 ⟨rfl, hb2⟩
      have hz2 := bel_chain hz1 hb2
      obtain ⟨_, a20, a21, _, _⟩ := HX.out _ hz2
      go_wp2_with fail
      refine (HS.out _).mono ?_
      rintro e w3 ⟨rfl, hb3⟩
      have hz3 := bel_chain hz2 hb3
      obtain ⟨_, a30, a31, _, _⟩ := HX.out _ hz3
      go_wp2_with fail
      refine (HC3.out _ (HAMB.out.below (bel_chain HB.out hz3))).mono ?_
      rintro e w4 ⟨rfl, hb4⟩
      have hz4 := bel_chain hz3 hb4
      go_wp2_with fail
      go_ret
      exact ⟨by first | (rw [HV.out, HG1.out, decide_eq_true HB0.out]; rfl) | (rw [HV.out, decide_eq_false HG1.out, decide_eq_true HB0.out]; rfl), bel_chain HB.out hz4⟩
  · have HF := Lib.hid (show V = 2 by rw [HV.out, decide_eq_false hb0]; rfl)
    have hcase : b.sign = -1 ∨ b.sign = 0 := by
      rcases Int.lt_trichotomy b 0 with h | h | h
      · exact .inl (Int.sign_eq_neg_one_of_neg h)
      · exact .inr (by rw [h]; rfl)
      · exact absurd h hb0
    clear hb0
    rcases hcase with hsg | hsg
    all_goals
      have hs := fun w => sign_any b w (by omega)
      rw [hsg] at hs
      have HS := Lib.hid hs
      clear hsg hs
      go_enter Tryz.func40, Tryz.ntmps40
      go_wp2_with fail
      obtain ⟨W, hW⟩ : ∃ W, (w.alloc (.cells #[.string (itx a), .string (itx b)] 27)) = W := ⟨_, rfl⟩
      rw [hW]
      obtain ⟨hX, hBW⟩ := B1.of hW
      clear hW
      have HX := Lib.hid (fun wz (hb : Below W.heap.size W wz) => hX.later hb)
      have HB := Lib.hid hBW
      clear hX hBW
      refine (HC1.out _).mono ?_
      rintro e w1 ⟨rfl, hz1⟩
      obtain ⟨_, a10, a11, _, _⟩ := HX.out _ hz1
      go_wp2_with fail
      refine (HC2.out _).mono ?_
      rintro e w2 ⟨rfl, hb2⟩
      have hz2 := bel_chain hz1 hb2
      obtain ⟨_, a20, a21, _, _⟩ := HX.out _ hz2
      go_wp2_with fail
      refine (HS.out _).mono ?_
      rintro e w3 ⟨rfl, hb3⟩
      have hz3 := bel_chain hz2 hb3
      go_wp2_with fail
      go_ret
      exact ⟨by rw [HF.out]; rfl, bel_chain HB.out hz3⟩
/-- fraction.Check, of any two texts. -/
theorem fcheck_any (n d : ByteArray) (w : World) (hamb : Amb w) (hn : n.size ≤ 1000000000) (hd : d.size ≤ 1000000000) :
    Calls Tryz.prog 40 #[.agg #[.string n, .string d]] w (SmallRes (.int .i64 (if rightB n.data.toList d.data.toList = true then 0 else 2)) w) := by
  by_cases h : canonR n.data.toList = true ∧ canonR d.data.toList = true
  · obtain ⟨h1, h2⟩ := h
    obtain ⟨e1, n1⟩ := canonR_itx h1
    obtain ⟨e2, n2⟩ := canonR_itx h2
    have hc := fcheck_canon _ _ _ w hamb (by rw [← e1]; exact h1) (by rw [← e2]; exact h2) n1 n2 rfl
    rw [← e1, ← e2] at hc
    unfold rightB
    rw [h1, h2, Bool.true_and, Bool.true_and]
    exact hc
  · have hf : ¬ rightB n.data.toList d.data.toList = true := by
      unfold rightB
      intro k
      simp only [Bool.and_eq_true] at k
      exact h ⟨k.1, k.2.1⟩
    rw [if_neg hf]
    exact fcheck_bad n d w hn hd h
end
section
open Go.RowKit Go.PlainAid
attribute [local go_sem] field_rat0 field_rat1

theorem nz_grid {g : Nat} (h : g ≤ 1000000) : nz (g : Int) ≤ 7 := (nz_le_iff (g : Int) 6).2 (by
  have e : (10 : Nat) ^ (6 + 1) = 10000000 := by decide
  omega)
theorem fmul_nat (p : Rat) (g : Nat) (hg : g ≤ 1000000) (w : World) (hamb : Amb w) (hp : NQ p 20000) :
    Calls Tryz.prog 31 #[rv p, .agg #[.string (dec g), .string ⟨#[49]⟩]] w (SmallRes (rv (p * ((g : Int) : Rat))) w) := by
  have h := fmul_any p ((g : Int) : Rat) w hamb hp (NQ.int (Nat.le_trans (nz_grid hg) (by omega)) (by omega))
  rw [rv_int (g : Int), itx_nat] at h
  exact h
theorem nz_near {p : Rat} {k : Nat} (h : NQ p k) : nz (nearZ p) ≤ k + 2 := by
  unfold nearZ
  exact nz_floor _ (h.add (NQ_half 1 (by omega))).1
set_option maxRecDepth 100000 in
set_option maxHeartbeats 4000000 in
/-- fraction.Round. -/
theorem fround_bad0 (p : Rat) (g : Int) (w : World) (h : g < 1) :
    Calls Tryz.prog 24 #[rv p, .int .i64 g] w (SmallRes (.tuple #[noRat, .int .i64 3]) w) := by
  go_enter Tryz.func24, Tryz.ntmps24
  go_wp2_with fail
  obtain ⟨W, hW⟩ : ∃ W, ((w.alloc (.cells #[.string (itx p.num), .string (itx (p.den : Int))] 27)).alloc (.cells #[.string ⟨#[]⟩, .string ⟨#[]⟩] 27)) = W := ⟨_, rfl⟩
  rw [hW]
  obtain ⟨hX, hBW⟩ := B2.of hW
  clear hW
  have HX := Lib.hid (fun wz (hb : Below W.heap.size W wz) => hX.later hb)
  have HB := Lib.hid hBW
  have hz0 : Below W.heap.size W W := Below.refl _ _
  clear hBW
  obtain ⟨⟨_, c000, c001, f000, f001⟩, ⟨_, c010, c011, f010, f011⟩⟩ := hX
  refine ret_cell_tmp rfl rfl (load_rat (g := w.heap.size + 1) (HX.out _ hz0).2) rfl ?_
  exact ⟨rfl, bel_chain HB.out hz0⟩

set_option maxRecDepth 100000 in
set_option maxHeartbeats 4000000 in
/-- fraction.Round. -/
theorem fround_bad1 (p : Rat) (g : Int) (w : World) (h1 : ¬ g < 1) (h : 1000000 < g) :
    Calls Tryz.prog 24 #[rv p, .int .i64 g] w (SmallRes (.tuple #[noRat, .int .i64 3]) w) := by
  go_enter Tryz.func24, Tryz.ntmps24
  go_wp2_with fail
  obtain ⟨W, hW⟩ : ∃ W, ((w.alloc (.cells #[.string (itx p.num), .string (itx (p.den : Int))] 27)).alloc (.cells #[.string ⟨#[]⟩, .string ⟨#[]⟩] 27)) = W := ⟨_, rfl⟩
  rw [hW]
  obtain ⟨hX, hBW⟩ := B2.of hW
  clear hW
  have HX := Lib.hid (fun wz (hb : Below W.heap.size W wz) => hX.later hb)
  have HB := Lib.hid hBW
  have hz0 : Below W.heap.size W W := Below.refl _ _
  clear hBW
  obtain ⟨⟨_, c000, c001, f000, f001⟩, ⟨_, c010, c011, f010, f011⟩⟩ := hX
  refine ret_cell_tmp rfl rfl (load_rat (g := w.heap.size + 1) (HX.out _ hz0).2) rfl ?_
  exact ⟨rfl, bel_chain HB.out hz0⟩

set_option maxRecDepth 100000 in
set_option maxHeartbeats 4000000 in
/-- fraction.Round. -/
theorem fround_any (p : Rat) (g : Nat) (w : World) (hamb : Amb w) (hp : NQ p 10000) (hg1 : 1 ≤ g) (hg2 : g ≤ 1000000) :
    Calls Tryz.prog 24 #[rv p, .int .i64 (g : Int)] w (SmallRes (.tuple #[rv (roundQ p (g : Int)), .int .i64 0]) w) := by
  have hg1i : ¬ (g : Int) < 1 := by omega
  have hg2i : ¬ (1000000 : Int) < (g : Int) := by omega
  have HP := Lib.hid (hp.mono (show 10000 ≤ 20000 by omega))
  have HPG := Lib.hid (hp.mul (NQ.int (k := 7) (nz_grid hg2) (by omega)))
  obtain ⟨Q, hQ⟩ : ∃ Q, roundQ p (g : Int) = Q := ⟨_, rfl⟩
  have HQ := Lib.hid (show Rat.divInt (nearZ (p * ((g : Int) : Rat))) (g : Int) = Q from hQ)
  have HG := Lib.hid (And.intro hg1 hg2)
  rw [hQ]
  have HL := Lib.hid (fun w h => show Calls Tryz.prog 55 #[.string (itx (nearZ (p * ((g : Int) : Rat)))), .string (dec g)] w (SmallRes (rv Q) w) from by
    have h := flowest_eq (nearZ (p * ((g : Int) : Rat))) (g : Int) Q w h (by have := HG.out; omega) (Nat.le_trans (nz_near HPG.out) (by omega)) (Nat.le_trans (nz_grid HG.out.2) (by omega)) HQ.out
    rw [itx_nat] at h
    exact h)
  clear hQ hp
  have HAMB := Lib.hid hamb
  clear hamb
  go_enter Tryz.func24, Tryz.ntmps24
  go_wp2_with fail
  obtain ⟨W, hW⟩ : ∃ W, ((w.alloc (.cells #[.string (itx p.num), .string (itx (p.den : Int))] 27)).alloc (.cells #[.string ⟨#[]⟩, .string ⟨#[]⟩] 27)) = W := ⟨_, rfl⟩
  rw [hW]
  obtain ⟨hX, hBW⟩ := B2.of hW
  clear hW
  have HX := Lib.hid (fun wz (hb : Below W.heap.size W wz) => hX.later hb)
  have HB := Lib.hid hBW
  have HA := Lib.hid (fun wz (hb : Below W.heap.size W wz) => HAMB.out.below (bel_chain HB.out hb))
  have hz0 : Below W.heap.size W W := Below.refl _ _
  clear hBW
  obtain ⟨⟨_, c000, c001, f000, f001⟩, ⟨_, c010, c011, f010, f011⟩⟩ := hX
  go_wp2_with fail
  refine (of_any g (by omega) _ (HA.out _ hz0)).mono ?_
  rintro e w1 ⟨rfl, hb1⟩
  have hz1 := bel_chain hz0 hb1
  obtain ⟨⟨_, c100, c101, f100, f101⟩, ⟨_, c110, c111, f110, f111⟩⟩ := HX.out _ hz1
  go_wp2_with fail
  refine (fmul_nat p g HG.out.2 _ (HA.out _ hz1) HP.out).mono ?_
  rintro e w2 ⟨rfl, hb2⟩
  have hz2 := bel_chain hz1 hb2
  obtain ⟨⟨_, c200, c201, f200, f201⟩, ⟨_, c210, c211, f210, f211⟩⟩ := HX.out _ hz2
  go_wp2_with fail
  refine (fnearest_any (p * ((g : Int) : Rat)) _ (HA.out _ hz2) (HPG.out.mono (by omega))).mono ?_
  rintro e w3 ⟨rfl, hb3⟩
  have hz3 := bel_chain hz2 hb3
  obtain ⟨⟨_, c300, c301, f300, f301⟩, ⟨_, c310, c311, f310, f311⟩⟩ := HX.out _ hz3
  go_wp2_with fail
  refine (HL.out _ (HA.out _ hz3)).mono ?_
  rintro e w4 ⟨rfl, hb4⟩
  have hz4 := bel_chain hz3 hb4
  obtain ⟨⟨_, c400, c401, f400, f401⟩, ⟨_, c410, c411, f410, f411⟩⟩ := HX.out _ hz4
  go_wp2_with fail
  refine ret_cell_tmp rfl rfl (load_rat (g := w.heap.size + 1) ((HX.out _ hz4).store1 _ _).2) rfl ?_
  exact ⟨rfl, ((bel_chain HB.out hz4).setCell (by simp <;> omega) _).setCell (by simp <;> omega) _⟩
end
end Go.Proofs.YtejelchcpbchgaaGreatDoor
