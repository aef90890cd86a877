/- Greater text, out of: U12, U13. -/
import Derived.Test.YtolnojkdalbppaaGreatDoorGj
import Derived.Test.YtolnojkdalbppaaGreatDoorGk
import Derived.Test.YtolnojkdalbppaaGreatDoorGm
namespace Go.Proofs.YtolnojkdalbppaaGreatDoor
section
open Go.RowKit Go.PlainAid
attribute [local go_sem] field_rat0 field_rat1
theorem wcheck_canon (s : ByteArray) (w : World) (hs : s.size ≤ 1000000000) :
    Calls Tryz.prog 66 #[.string s] w (SmallRes (.int .i64 (if canonR s.data.toList = true then 0 else 2)) w) := by
  have h := wcheck_any s w hs
  have e : (if canonT s.data.toList = true ∧ (magT s.data.toList).length ≤ 400 then (0 : Int) else 2) = if canonR s.data.toList = true then 0 else 2 := by
    unfold canonR
    simp only [Bool.and_eq_true, decide_eq_true_eq]
  rw [e] at h
  exact h
set_option maxRecDepth 100000 in
set_option maxHeartbeats 2000000 in
theorem fcheck_bad (n d : ByteArray) (w : World) (hn : n.size ≤ 1000000000) (hd : d.size ≤ 1000000000) (h : ¬ (canonR n.data.toList = true ∧ canonR d.data.toList = true)) :
    Calls Tryz.prog 50 #[.agg #[.string n, .string d]] w (SmallRes (.int .i64 2) w) := by
  have hc1 := fun w => wcheck_canon n w hn
  have hc2 := fun w => wcheck_canon d w hd
  generalize canonR n.data.toList = cn at *
  generalize canonR d.data.toList = cd at *
  cases cn
  · rw [if_neg (by decide)] at hc1
    have HC1 := Lib.hid hc1
    clear hc1 hc2 h
    go_enter Tryz.func50, Tryz.ntmps50
    go_wp2_with fail
    refine (HC1.out _).mono ?_
    rintro e w1 ⟨rfl, hb1⟩
    go_wp2_with fail
    go_ret
    exact ⟨rfl, bel_chain ((Below.refl _ _).alloc (Nat.le_refl _) _) hb1⟩
  · obtain rfl : cd = false := by cases cd <;> simp_all
    rw [if_pos rfl] at hc1
    rw [if_neg (by decide)] at hc2
    have HC1 := Lib.hid hc1
    have HC2 := Lib.hid hc2
    clear hc1 hc2 h
    go_enter Tryz.func50, Tryz.ntmps50
    go_wp2_with fail
    obtain ⟨W, hW⟩ : ∃ W, (w.alloc (.cells #[.string n, .string d] 48)) = W := ⟨_, rfl⟩
    rw [hW]
    obtain ⟨hX, hBW⟩ := B1.of hW
    clear hW
    refine (HC1.out _).mono ?_
    rintro e w1 ⟨rfl, hb1⟩
    obtain ⟨_, a10, a11, _, _⟩ := hX.later hb1
    have hB1 := bel_chain hBW hb1
    clear hX hb1 hBW
    go_wp2_with fail
    refine (HC2.out _).mono ?_
    rintro e w2 ⟨rfl, hb2⟩
    have hB2 := bel_chain hB1 hb2
    go_wp2_with fail
    go_ret
    exact ⟨rfl, hB2⟩
set_option maxRecDepth 100000 in
set_option maxHeartbeats 4000000 in
theorem fcheck_canon (a b : Int) (V : Int) (w : World) (hamb : Amb w) (h1 : canonR (itx a).data.toList = true) (h2 : canonR (itx b).data.toList = true) (ha : nz a ≤ 400) (hb : nz b ≤ 400)
    (hV : V = if (decide (0 < b) && decide (Int.gcd a b = 1)) = true then 0 else 2) :
    Calls Tryz.prog 50 #[.agg #[.string (itx a), .string (itx b)]] w (SmallRes (.int .i64 V) w) := by
  have hc1 := fun w => wcheck_canon (itx a) w (by have := itx_size_le a; omega)
  have hc2 := fun w => wcheck_canon (itx b) w (by have := itx_size_le b; omega)
  rw [h1, if_pos rfl] at hc1
  rw [h2, if_pos rfl] at hc2
  have HC1 := Lib.hid hc1
  have HC2 := Lib.hid hc2
  have HAMB := Lib.hid hamb
  obtain ⟨g, hg⟩ : ∃ g, Int.gcd a b = g := ⟨_, rfl⟩
  have HC3 := Lib.hid (fun w h => show Calls Tryz.prog 67 #[.string (itx a), .string (itx b)] w (SmallRes (.string (itx (g : Int))) w) from by
    have h := wgcd_any a b w h (by omega) (by omega)
    rw [hg, ← itx_nat] at h
    exact h)
  rw [hg] at hV
  have HV := Lib.hid hV
  clear h1 h2 hamb hc1 hc2 hg hV
  by_cases hb0 : 0 < b
  · have hsg : b.sign = 1 := Int.sign_eq_one_of_pos hb0
    have HS := Lib.hid (fun w => show Calls Tryz.prog 51 #[.string (itx b)] w (SmallRes (.int .i64 1) w) from hsg ▸ sign_any b w (by omega))
    have HB0 := Lib.hid hb0
    clear hsg hb0
    by_cases hg1 : g = 1
    all_goals
      first
        | (have hgt2 : ((itx (g : Int)).toList == [49]) = true := by rw [hg1]; exact itx_one_same)
        | (have hgt2 : ((itx (g : Int)).toList == [49]) = false := itx_one_test (by omega))
      have HG1 := Lib.hid hg1
      clear hg1
      go_enter Tryz.func50, Tryz.ntmps50
      go_wp2_with fail
      obtain ⟨W, hW⟩ : ∃ W, (w.alloc (.cells #[.string (itx a), .string (itx b)] 48)) = W := ⟨_, rfl⟩
      rw [hW]
      obtain ⟨hX, hBW⟩ := B1.of hW
      clear hW
      have HX := Lib.hid (fun wz (hb : Below W.heap.size W wz) => hX.later hb)
      have HB := Lib.hid hBW
      clear hX hBW
      refine (HC1.out _).mono ?_
      rintro e w1 ⟨rfl, hz1⟩
      obtain ⟨_, a10, a11, _, _⟩ := HX.out _ hz1
      go_wp2_with fail
      refine (HC2.out _).mono ?_
      rintro e w2 ⟨rfl, hb2⟩
      have hz2 := bel_chain hz1 hb2
      obtain ⟨_, a20, a21, _, _⟩ := HX.out _ hz2
      go_wp2_with fail
      refine (HS.out _).mono ?_
      rintro e w3 ⟨rfl, hb3⟩
      have hz3 := bel_chain hz2 hb3
      obtain ⟨_, a30, a31, _, _⟩ := HX.out _ hz3
      go_wp2_with fail
      refine (HC3.out _ (HAMB.out.below (bel_chain HB.out hz3))).mono ?_
      rintro e w4 ⟨rfl, hb4⟩
      have hz4 := bel_chain hz3 hb4
      go_wp2_with fail
      go_ret
      exact ⟨by first | (rw [HV.out, HG1.out, decide_eq_true HB0.out]; rfl) | (rw [HV.out, decide_eq_false HG1.out, decide_eq_true HB0.out]; rfl), bel_chain HB.out hz4⟩
  · have HF := Lib.hid (show V = 2 by rw [HV.out, decide_eq_false hb0]; rfl)
    have hcase : b.sign = -1 ∨ b.sign = 0 := by
      rcases Int.lt_trichotomy b 0 with h | h | h
      · exact .inl (Int.sign_eq_neg_one_of_neg h)
      · exact .inr (by rw [h]; rfl)
      · exact absurd h hb0
    clear hb0
    rcases hcase with hsg | hsg
    all_goals
      have hs := fun w => sign_any b w (by omega)
      rw [hsg] at hs
      have HS := Lib.hid hs
      clear hsg hs
      go_enter Tryz.func50, Tryz.ntmps50
      go_wp2_with fail
      obtain ⟨W, hW⟩ : ∃ W, (w.alloc (.cells #[.string (itx a), .string (itx b)] 48)) = W := ⟨_, rfl⟩
      rw [hW]
      obtain ⟨hX, hBW⟩ := B1.of hW
      clear hW
      have HX := Lib.hid (fun wz (hb : Below W.heap.size W wz) => hX.later hb)
      have HB := Lib.hid hBW
      clear hX hBW
      refine (HC1.out _).mono ?_
      rintro e w1 ⟨rfl, hz1⟩
      obtain ⟨_, a10, a11, _, _⟩ := HX.out _ hz1
      go_wp2_with fail
      refine (HC2.out _).mono ?_
      rintro e w2 ⟨rfl, hb2⟩
      have hz2 := bel_chain hz1 hb2
      obtain ⟨_, a20, a21, _, _⟩ := HX.out _ hz2
      go_wp2_with fail
      refine (HS.out _).mono ?_
      rintro e w3 ⟨rfl, hb3⟩
      have hz3 := bel_chain hz2 hb3
      go_wp2_with fail
      go_ret
      exact ⟨by rw [HF.out]; rfl, bel_chain HB.out hz3⟩
/-- fraction.Check, of any two texts. -/
theorem fcheck_any (n d : ByteArray) (w : World) (hamb : Amb w) (hn : n.size ≤ 1000000000) (hd : d.size ≤ 1000000000) :
    Calls Tryz.prog 50 #[.agg #[.string n, .string d]] w (SmallRes (.int .i64 (if rightB n.data.toList d.data.toList = true then 0 else 2)) w) := by
  by_cases h : canonR n.data.toList = true ∧ canonR d.data.toList = true
  · obtain ⟨h1, h2⟩ := h
    obtain ⟨e1, n1⟩ := canonR_itx h1
    obtain ⟨e2, n2⟩ := canonR_itx h2
    have hc := fcheck_canon _ _ _ w hamb (by rw [← e1]; exact h1) (by rw [← e2]; exact h2) n1 n2 rfl
    rw [← e1, ← e2] at hc
    unfold rightB
    rw [h1, h2, Bool.true_and, Bool.true_and]
    exact hc
  · have hf : ¬ rightB n.data.toList d.data.toList = true := by
      unfold rightB
      intro k
      simp only [Bool.and_eq_true] at k
      exact h ⟨k.1, k.2.1⟩
    rw [if_neg hf]
    exact fcheck_bad n d w hn hd h
end
section
open Go.RowKit Go.PlainAid
attribute [local go_sem] field_rat0 field_rat1
theorem nz_grid {g : Nat} (h : g ≤ 1000000) : nz (g : Int) ≤ 7 := (nz_le_iff (g : Int) 6).2 (by
  have e : (10 : Nat) ^ (6 + 1) = 10000000 := by decide
  omega)
theorem nz_near {p : Rat} {k : Nat} (h : NQ p k) : nz (nearZ p) ≤ k + 2 := by
  unfold nearZ
  exact nz_floor _ (h.add (NQ_half 1 (by omega))).1
end
end Go.Proofs.YtolnojkdalbppaaGreatDoor
