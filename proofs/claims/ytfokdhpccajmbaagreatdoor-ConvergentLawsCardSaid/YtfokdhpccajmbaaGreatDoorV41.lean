/- Greater text, out of: V41. -/
import Derived.Test.YtfokdhpccajmbaaGreatDoorV40
import Derived.Test.YtfokdhpccajmbaaGreatDoorK44
import Derived.Test.YtfokdhpccajmbaaGreatDoorK45
namespace Go.Proofs.YtfokdhpccajmbaaGreatDoor
open Go.RowKit Go.PlainAid
attribute [local go_sem] field_rat0 field_rat1
set_option maxHeartbeats 800000 in
/-- short. -/
theorem short4_all (s t : ByteArray) (w : World) :
    Calls Tryz.prog 18 #[.agg #[.string s, .string t]] w (SmallRes (.bool (decide (s.size ≤ 13) && decide (t.size ≤ 13))) w) := by
  by_cases h1 : s.size ≤ 13
  · by_cases h2 : t.size ≤ 13
    all_goals
      simp only [h1, h2, decide_true, decide_false, Bool.and_false, Bool.and_self]
      have h1' : (s.size : Int) ≤ 13 := by omega
      first | have h2' : (t.size : Int) ≤ 13 := by omega
            | have h2' : ¬ (t.size : Int) ≤ 13 := by omega
      go_enter Tryz.func18, Tryz.ntmps18
      go_wp2_with fail
      go_ret
      exact ⟨rfl, (Below.refl _ _).alloc (Nat.le_refl _) _⟩
  · simp only [h1, decide_false, Bool.false_and]
    have h1' : ¬ (s.size : Int) ≤ 13 := by omega
    go_enter Tryz.func18, Tryz.ntmps18
    go_wp2_with fail
    go_ret
    exact ⟨rfl, (Below.refl _ _).alloc (Nat.le_refl _) _⟩
set_option maxRecDepth 100000 in
set_option maxHeartbeats 4000000 in
/-- too long. -/
theorem lawSemis_long (n0 d0 : ByteArray) (b : Int) (w : World) (hamb : Amb w) (h : ¬ (n0.size ≤ 13 ∧ d0.size ≤ 13)) :
    Calls Tryz.prog 5 #[.agg #[.string n0, .string d0], .int .i64 b] w (SmallRes (.bool true) w) := by
  have HSH := Lib.hid (fun w => show Calls Tryz.prog 18 #[.agg #[.string n0, .string d0]] w (SmallRes (.bool false) w) from by
    have := short4_all n0 d0 w
    rw [show (decide (n0.size ≤ 13) && decide (d0.size ≤ 13)) = false by rw [Bool.and_eq_false_iff, decide_eq_false_iff_not, decide_eq_false_iff_not]; omega] at this
    exact this)
  have HAMB := Lib.hid hamb
  clear hamb h
  go_enter Tryz.func5, Tryz.ntmps5
  go_wp2_with fail
  obtain ⟨W, hW⟩ : ∃ W, w.alloc (.cells #[.string n0, .string d0] 24) = W := ⟨_, rfl⟩
  rw [hW]
  obtain ⟨hX, hBW⟩ := B1.of hW
  clear hW
  have HX := Lib.hid (fun wz (hb : Below W.heap.size W wz) => hX.later hb)
  have HB := Lib.hid hBW
  have HA := Lib.hid (fun wz (hb : Below W.heap.size W wz) => HAMB.out.below (bel_chain HB.out hb))
  clear hX hBW
  refine (known04_any W (HA.out _ (Below.refl _ _))).mono ?_
  rintro e w1 ⟨rfl, hb1⟩
  obtain ⟨_, x0, x1, _, _⟩ := HX.out _ hb1
  go_wp2_with fail
  refine (HSH.out w1).mono ?_
  rintro e w2 ⟨rfl, hb2⟩
  have hz2 := bel_chain hb1 hb2
  clear x0 x1 hb1 hb2
  go_wp2_with fail
  refine (known04_any w2 (HA.out _ hz2)).mono ?_
  rintro e w3 ⟨rfl, hb3⟩
  have hz3 := bel_chain hz2 hb3
  go_wp2_with fail
  go_ret
  exact ⟨rfl, bel_chain HB.out hz3⟩
set_option maxRecDepth 100000 in
set_option maxHeartbeats 4000000 in
/-- short, but not right, or the bound is not. -/
theorem lawSemis_err (n0 d0 : ByteArray) (b : Int) (w : World) (hamb : Amb w) (h0 : n0.size ≤ 13) (h1 : d0.size ≤ 13) (hb0 : -9223372036854775808 ≤ b) (hb1 : b ≤ 9223372036854775807) (r : Bool) (hr : RB n0 d0 = r) (hE : r = false ∨ b < 1 ∨ 1000000 < b) :
    Calls Tryz.prog 5 #[.agg #[.string n0, .string d0], .int .i64 b] w (SmallRes (.bool true) w) := by
  have HSH := Lib.hid (fun w => show Calls Tryz.prog 18 #[.agg #[.string n0, .string d0]] w (SmallRes (.bool true) w) from by
    have := short4_all n0 d0 w
    rw [decide_eq_true h0, decide_eq_true h1] at this
    exact this)
  obtain ⟨i1, i2, hp1⟩ := r4parts_len n0 d0 (by omega) (by omega) r hr
  have HP1 := Lib.hid hp1
  obtain ⟨E, hEE⟩ : ∃ E, bndE r b = E := ⟨_, rfl⟩
  have hEv : E = if r = false then 2 else 3 := by
    rw [← hEE]; unfold bndE
    rcases hE with h | h
    · rw [if_pos h, if_pos h]
    · by_cases hrr : r = false
      · rw [if_pos hrr, if_pos hrr]
      · rw [if_neg hrr, if_neg hrr, if_pos h]
  have HSE := Lib.hid (fun w h => Semi_err n0 d0 b E w h (by omega) (by omega) r hr hb0 hb1 hEE (by rw [hEv]; split <;> decide))
  have HAMB := Lib.hid hamb
  have HEB := Lib.hid hE
  clear hamb hp1 hEE hb0 hb1 h0 h1 hr hE
  have hcase : b < 1 ∨ (1 ≤ b ∧ b ≤ 1000000) ∨ (1 ≤ b ∧ 1000000 < b) := by omega
  rcases hcase with hc | ⟨hc, hc2⟩ | ⟨hc, hc2⟩
  all_goals
    go_enter Tryz.func5, Tryz.ntmps5
    go_wp2_with fail
    obtain ⟨W, hW⟩ : ∃ W, w.alloc (.cells #[.string n0, .string d0] 24) = W := ⟨_, rfl⟩
    rw [hW]
    obtain ⟨hX, hBW⟩ := B1.of hW
    clear hW
    have HX := Lib.hid (fun wz (hb : Below W.heap.size W wz) => hX.later hb)
    have HB := Lib.hid hBW
    have HA := Lib.hid (fun wz (hb : Below W.heap.size W wz) => HAMB.out.below (bel_chain HB.out hb))
    clear hX hBW
    refine (known04_any W (HA.out _ (Below.refl _ _))).mono ?_
    rintro e w1 ⟨rfl, hb1⟩
    obtain ⟨_, x0, x1, _, _⟩ := HX.out _ hb1
    go_wp2_with fail
    refine (HSH.out w1).mono ?_
    rintro e w2 ⟨rfl, hb2⟩
    have hz2 := bel_chain hb1 hb2
    clear x0 x1 hb1 hb2
    obtain ⟨_, x0, x1, _, _⟩ := HX.out _ hz2
    go_wp2_with fail
    refine (HP1.out w2).mono ?_
    rintro e w3 ⟨rfl, hb3⟩
    have hz3 := bel_chain hz2 hb3
    clear x0 x1 hz2 hb3
    obtain ⟨_, x0, x1, _, _⟩ := HX.out _ hz3
    cases r
    · obtain rfl : E = 2 := hEv
      go_wp2_with fail
      refine (HSE.out w3 (HA.out _ hz3)).mono ?_
      rintro e w4 ⟨rfl, hb4⟩
      have hz4 := bel_chain hz3 hb4
      go_wp2_with fail
      go_ret
      exact ⟨rfl, bel_chain HB.out hz4⟩
    · obtain rfl : E = 3 := hEv
      by_cases hin : 1 ≤ b ∧ b ≤ 1000000
      · exfalso
        rcases HEB.out with h | h | h
        · cases h
        · omega
        · omega
      · first
          | exact absurd (show 1 ≤ b ∧ b ≤ 1000000 by omega) hin
          | (go_wp2_with fail
             refine (HSE.out w3 (HA.out _ hz3)).mono ?_
             rintro e w4 ⟨rfl, hb4⟩
             have hz4 := bel_chain hz3 hb4
             go_wp2_with fail
             go_ret
             exact ⟨rfl, bel_chain HB.out hz4⟩)
set_option maxRecDepth 100000 in
set_option maxHeartbeats 4000000 in
/-- right, with a right bound. -/
theorem lawSemis_yes (q : Rat) (b : Int) (w : World) (hamb : Amb w) (h0 : (itx q.num).size ≤ 13) (h1 : (itx (q.den : Int)).size ≤ 13) (hb0 : 1 ≤ b) (hb1 : b ≤ 1000000) :
    Calls Tryz.prog 5 #[.agg #[.string (itx q.num), .string (itx (q.den : Int))], .int .i64 b] w (SmallRes (.bool true) w) := by
  have hq : NQ q 13 := ⟨Nat.le_trans (itx_size_ge _) h0, Nat.le_trans (itx_size_ge _) h1⟩
  have hd := rden_pos q
  have hg := rat_gcd q
  have p1 := (nz_le_iff q.num 12).1 hq.1
  have p2 := (nz_le_iff (q.den : Int) 12).1 hq.2
  have HSH := Lib.hid (fun w => show Calls Tryz.prog 18 #[.agg #[.string (itx q.num), .string (itx (q.den : Int))]] w (SmallRes (.bool true) w) from by
    have := short4_all (itx q.num) (itx (q.den : Int)) w
    rw [decide_eq_true h0, decide_eq_true h1] at this
    exact this)
  have HP1 := Lib.hid (fun w => r4parts_yes q w (hq.mono (by omega)))
  have hl1 := tms_short14 (n := q.num) (d := (q.den : Int)) (by have := hq.2; omega)
  have HSE := Lib.hid (fun (hb2 : b ≤ 200) w h => Semi_any q.num (q.den : Int) b w h hd (by have := hq.1; omega) (by have := hq.2; omega) (RB_q q (hq.mono (by omega))) hb0 (by omega))
  have HT := Lib.hid (fun w => r4terms_any q.num (q.den : Int) w hd (by omega) (by omega) (by omega))
  have htp : ∀ a ∈ (tms q.num (q.den : Int)).tail, 1 ≤ a := tms_tail (n := q.num) hd
  have hts : ∃ a0 l, tms q.num (q.den : Int) = a0 :: l ∧ I62 a0 := by
    refine ⟨_, _, tms_step hd, ?_⟩
    have := natAbs_ediv_le q.num (q.den : Int) (by omega)
    exact ⟨by omega, by omega⟩
  have hbd := bd4_tms (n := q.num) (d := (q.den : Int)) hd hg (by omega) (by omega)
  obtain ⟨T, hT⟩ : ∃ T, tms q.num (q.den : Int) = T := ⟨_, rfl⟩
  rw [hT] at hl1 HSE HT htp hts hbd
  obtain ⟨a0, l, hTe, ha0⟩ := hts
  have hpos : ∀ a ∈ l, 1 ≤ a := by rw [hTe] at htp; exact htp
  have HSL := Lib.hid (fun (hb2 : b ≤ 200) => show (semiL oneF b T).length ≤ 100000 from by
    have := semiL_len hb0 oneF a0 l hpos
    rw [← hTe] at this
    omega)
  have HRS := Lib.hid (fun (hb2 : b ≤ 200) A n cap w (hin : InZ w A n cap T) => r4semis_any A n cap T b w hin hb0 (by omega) a0 l hTe ha0 hbd hpos (by rw [← hin.1]; omega) (HSL.out hb2))
  have HAMB := Lib.hid hamb
  clear hamb h0 h1 hq hd hg p1 p2 hl1 htp hbd hT hTe ha0 hpos HSL
  go_enter Tryz.func5, Tryz.ntmps5
  go_wp2_with fail
  obtain ⟨W, hW⟩ : ∃ W, w.alloc (.cells #[.string (itx q.num), .string (itx (q.den : Int))] 24) = W := ⟨_, rfl⟩
  rw [hW]
  obtain ⟨hX, hBW⟩ := B1.of hW
  clear hW
  have HX := Lib.hid (fun wz (hb : Below W.heap.size W wz) => hX.later hb)
  have HB := Lib.hid hBW
  have HA := Lib.hid (fun wz (hb : Below W.heap.size W wz) => HAMB.out.below (bel_chain HB.out hb))
  clear hX hBW
  refine (known04_any W (HA.out _ (Below.refl _ _))).mono ?_
  rintro e w1 ⟨rfl, hb1⟩
  obtain ⟨_, x0, x1, _, _⟩ := HX.out _ hb1
  go_wp2_with fail
  refine (HSH.out w1).mono ?_
  rintro e w2 ⟨rfl, hb2⟩
  have hz2 := bel_chain hb1 hb2
  clear x0 x1 hb1 hb2
  obtain ⟨_, x0, x1, _, _⟩ := HX.out _ hz2
  go_wp2_with fail
  refine (HP1.out w2).mono ?_
  rintro e w3 ⟨rfl, hb3⟩
  have hz3 := bel_chain hz2 hb3
  clear x0 x1 hz2 hb3
  obtain ⟨_, x0, x1, _, _⟩ := HX.out _ hz3
  by_cases hbig : 200 < b
  · go_wp2_with fail
    go_ret
    exact ⟨rfl, bel_chain HB.out hz3⟩
  · have hb2 : b ≤ 200 := by omega
    have HSE2 := Lib.hid (HSE.out hb2)
    have HRS2 := Lib.hid (HRS.out hb2)
    clear hb2 HSE HRS
    go_wp2_with fail
    refine (HSE2.out w3 (HA.out _ hz3)).mono ?_
    rintro e w4 ⟨A, n, cap, rfl, hin4, hb4⟩
    have hz4 := bel_chain hz3 hb4
    clear hz3 hb4 x0 x1
    go_wp2_with fail
    refine (HT.out w4).mono ?_
    rintro e w5 ⟨v5, rfl, hown, hb5⟩
    have hin5 := hin4.below hb5
    have hz5 := bel_chain hz4 hb5
    obtain ⟨A5, c5, rfl, hz⟩ := hown.ins
    have HIN5 := Lib.hid hin5
    clear hown hin4 hin5 hz4 hb5
    go_wp2_with fail
    refine (HRS2.out A5 _ c5 w5 hz).mono ?_
    rintro e w6 ⟨A6, n6, c6, rfl, hin6, hb6⟩
    have hin7 := HIN5.out.below hb6
    have hz6 := bel_chain hz5 hb6
    have hnn : n = n6 := by rw [← hin6.1, ← hin7.1]; rfl
    subst hnn
    have HS6 := Lib.hid (same4_eq A A6 n cap c6 _ w6 hin7 hin6)
    clear hin6 hin7 hz hb6 hz5
    go_wp2_with fail
    refine HS6.out.mono ?_
    rintro e w7 ⟨rfl, hb7⟩
    have hz7 := bel_chain hz6 hb7
    go_wp2_with fail
    go_ret
    exact ⟨rfl, bel_chain HB.out hz7⟩
theorem lawSemis_walk (n0 d0 : ByteArray) (b : Int) (w : World) (hamb : Amb w) (hb : -9223372036854775808 ≤ b ∧ b ≤ 9223372036854775807) :
    Calls Tryz.prog 5 #[.agg #[.string n0, .string d0], .int .i64 b] w (SmallRes (.bool true) w) := by
  by_cases h : n0.size ≤ 13 ∧ d0.size ≤ 13
  · obtain ⟨h0, h1⟩ := h
    by_cases hE : RB n0 d0 = false ∨ b < 1 ∨ 1000000 < b
    · exact lawSemis_err n0 d0 b w hamb h0 h1 hb.1 hb.2 _ rfl hE
    · have hr : RB n0 d0 = true := by
        cases hr : RB n0 d0 with
        | true => rfl
        | false => exact absurd (.inl hr) hE
      obtain ⟨q, rfl, rfl, _⟩ := rightB_rat hr
      exact lawSemis_yes q b w hamb h0 h1 (by omega) (by omega)
  · exact lawSemis_long n0 d0 b w hamb h
end Go.Proofs.YtfokdhpccajmbaaGreatDoor
