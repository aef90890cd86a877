/- Greater text, out of: V45. -/
import Derived.Test.YtpafocfpofnkpaaGreatDoorV42
import Derived.Test.YtpafocfpofnkpaaGreatDoorK55
namespace Go.Proofs.YtpafocfpofnkpaaGreatDoor
open Go.RowKit Go.PlainAid
attribute [local go_sem] field_rat0 field_rat1
theorem sum_take_bd (l : List Int) (B : Nat) (h : ∀ a ∈ l, a.natAbs ≤ B) : ∀ i, (l.take i).sum.natAbs ≤ l.length * B := by
  induction l with
  | nil => intro i; simp
  | cons a l ih =>
    intro i
    cases i with
    | zero => simp
    | succ i =>
      have h1 := ih (fun x hx => h x (List.mem_cons_of_mem _ hx)) i
      have h2 := h a List.mem_cons_self
      rw [List.take_succ_cons, List.sum_cons, List.length_cons, Nat.succ_mul]
      omega
set_option maxRecDepth 100000 in
set_option maxHeartbeats 4000000 in
/-- too long. -/
theorem lawPaths_long (n0 d0 : ByteArray) (w : World) (hamb : Amb w) (h : ¬ (n0.size ≤ 9 ∧ d0.size ≤ 9)) :
    Calls Tryz.prog 7 #[.agg #[.string n0, .string d0]] w (SmallRes (.bool true) w) := by
  have HAMB := Lib.hid hamb
  have hcs : (9 : Int) < (n0.size : Int) ∨ (¬ (9 : Int) < (n0.size : Int) ∧ (9 : Int) < (d0.size : Int)) := by omega
  clear hamb h
  rcases hcs with hc | ⟨hc, hc2⟩
  all_goals
    go_enter Tryz.func7, Tryz.ntmps7
    go_wp2_with fail
    obtain ⟨W, hW⟩ : ∃ W, w.alloc (.cells #[.string n0, .string d0] 24) = W := ⟨_, rfl⟩
    rw [hW]
    obtain ⟨hX, hBW⟩ := B1.of hW
    clear hW
    have HX := Lib.hid (fun wz (hb : Below W.heap.size W wz) => hX.later hb)
    have HB := Lib.hid hBW
    have HA := Lib.hid (fun wz (hb : Below W.heap.size W wz) => HAMB.out.below (bel_chain HB.out hb))
    clear hX hBW
    refine (known04_any W (HA.out _ (Below.refl _ _))).mono ?_
    rintro e w1 ⟨rfl, hb1⟩
    have hz1 := hb1
    obtain ⟨_, x0, x1, _, _⟩ := HX.out _ hz1
    go_wp2_with fail
    refine (known04_any w1 (HA.out _ hz1)).mono ?_
    rintro e w3 ⟨rfl, hb3⟩
    have hz3 := bel_chain hz1 hb3
    go_wp2_with fail
    go_ret
    exact ⟨rfl, bel_chain HB.out hz3⟩
set_option maxRecDepth 100000 in
set_option maxHeartbeats 4000000 in
/-- not right. -/
theorem lawPaths_err (n0 d0 : ByteArray) (w : World) (hamb : Amb w) (h0 : n0.size ≤ 9) (h1 : d0.size ≤ 9) (hr : RB n0 d0 = false) :
    Calls Tryz.prog 7 #[.agg #[.string n0, .string d0]] w (SmallRes (.bool true) w) := by
  have HP1 := Lib.hid (fun w => r4parts_no n0 d0 w (by omega) (by omega) hr)
  have HPT := Lib.hid (fun w h => Path_no n0 d0 w h (by omega) (by omega) hr)
  have HAMB := Lib.hid hamb
  have l0 : ¬ (9 : Int) < (n0.size : Int) := by omega
  have l1 : ¬ (9 : Int) < (d0.size : Int) := by omega
  clear hamb h0 h1 hr
  go_enter Tryz.func7, Tryz.ntmps7
  go_wp2_with fail
  obtain ⟨W, hW⟩ : ∃ W, w.alloc (.cells #[.string n0, .string d0] 24) = W := ⟨_, rfl⟩
  rw [hW]
  obtain ⟨hX, hBW⟩ := B1.of hW
  clear hW
  have HX := Lib.hid (fun wz (hb : Below W.heap.size W wz) => hX.later hb)
  have HB := Lib.hid hBW
  have HA := Lib.hid (fun wz (hb : Below W.heap.size W wz) => HAMB.out.below (bel_chain HB.out hb))
  clear hX hBW
  refine (known04_any W (HA.out _ (Below.refl _ _))).mono ?_
  rintro e w1 ⟨rfl, hb1⟩
  have hz1 := hb1
  obtain ⟨_, x0, x1, _, _⟩ := HX.out _ hz1
  go_wp2_with fail
  refine (HPT.out w1 (HA.out _ hz1)).mono ?_
  rintro e w2 ⟨rfl, hb2⟩
  have hz2 := bel_chain hz1 hb2
  clear x0 x1
  obtain ⟨_, x0, x1, _, _⟩ := HX.out _ hz2
  go_wp2_with fail
  refine (HP1.out w2).mono ?_
  rintro e w3 ⟨rfl, hb3⟩
  have hz3 := bel_chain hz2 hb3
  go_wp2_with fail
  go_ret
  exact ⟨rfl, bel_chain HB.out hz3⟩
set_option maxRecDepth 100000 in
set_option maxHeartbeats 4000000 in
/-- not above nought. -/
theorem lawPaths_low (q : Rat) (w : World) (hamb : Amb w) (h0 : (itx q.num).size ≤ 9) (h1 : (itx (q.den : Int)).size ≤ 9) (hpos : q.num ≤ 0) :
    Calls Tryz.prog 7 #[.agg #[.string (itx q.num), .string (itx (q.den : Int))]] w (SmallRes (.bool true) w) := by
  have hq : NQ q 9 := ⟨Nat.le_trans (itx_size_ge _) h0, Nat.le_trans (itx_size_ge _) h1⟩
  have HP1 := Lib.hid (fun w => r4parts_yes q w (hq.mono (by omega)))
  have HPT := Lib.hid (fun w h => Path_low q w h (hq.mono (by omega)) (RB_q q (hq.mono (by omega))) hpos)
  have HAMB := Lib.hid hamb
  have l0 : ¬ (9 : Int) < ((itx q.num).size : Int) := by omega
  have l1 : ¬ (9 : Int) < ((itx (q.den : Int)).size : Int) := by omega
  clear hamb h0 h1 hq
  go_enter Tryz.func7, Tryz.ntmps7
  go_wp2_with fail
  obtain ⟨W, hW⟩ : ∃ W, w.alloc (.cells #[.string (itx q.num), .string (itx (q.den : Int))] 24) = W := ⟨_, rfl⟩
  rw [hW]
  obtain ⟨hX, hBW⟩ := B1.of hW
  clear hW
  have HX := Lib.hid (fun wz (hb : Below W.heap.size W wz) => hX.later hb)
  have HB := Lib.hid hBW
  have HA := Lib.hid (fun wz (hb : Below W.heap.size W wz) => HAMB.out.below (bel_chain HB.out hb))
  clear hX hBW
  refine (known04_any W (HA.out _ (Below.refl _ _))).mono ?_
  rintro e w1 ⟨rfl, hb1⟩
  have hz1 := hb1
  obtain ⟨_, x0, x1, _, _⟩ := HX.out _ hz1
  go_wp2_with fail
  refine (HPT.out w1 (HA.out _ hz1)).mono ?_
  rintro e w2 ⟨rfl, hb2⟩
  have hz2 := bel_chain hz1 hb2
  clear x0 x1
  obtain ⟨_, x0, x1, _, _⟩ := HX.out _ hz2
  go_wp2_with fail
  refine (HP1.out w2).mono ?_
  rintro e w3 ⟨rfl, hb3⟩
  have hz3 := bel_chain hz2 hb3
  go_wp2_with fail
  go_ret
  exact ⟨rfl, bel_chain HB.out hz3⟩
set_option maxRecDepth 100000 in
set_option maxHeartbeats 8000000 in
/-- right, and above nought. -/
theorem lawPaths_yes (q : Rat) (w : World) (hamb : Amb w) (h0 : (itx q.num).size ≤ 9) (h1 : (itx (q.den : Int)).size ≤ 9) (hpos : 0 < q.num) :
    Calls Tryz.prog 7 #[.agg #[.string (itx q.num), .string (itx (q.den : Int))]] w (SmallRes (.bool true) w) := by
  have hq : NQ q 9 := ⟨Nat.le_trans (itx_size_ge _) h0, Nat.le_trans (itx_size_ge _) h1⟩
  have hd := rden_pos q
  have hg := rat_gcd q
  have p1 := (nz_le_iff q.num 8).1 hq.1
  have p2 := (nz_le_iff (q.den : Int) 8).1 hq.2
  have l0 : ¬ (9 : Int) < ((itx q.num).size : Int) := by omega
  have l1 : ¬ (9 : Int) < ((itx (q.den : Int)).size : Int) := by omega
  have hnp : ¬ q.num ≤ 0 := by omega
  have HP1 := Lib.hid (fun w => r4parts_yes q w (hq.mono (by omega)))
  have hpt := fun w h => Path_any q w h (hq.mono (by omega)) (RB_q q (hq.mono (by omega))) hpos
  have HT := Lib.hid (fun w => r4terms_any q.num (q.den : Int) w hd (by omega) (by omega) (by have := tms_short14 (n := q.num) (d := (q.den : Int)) (by have := hq.2; omega); omega))
  have hl1 := tms_short14 (n := q.num) (d := (q.den : Int)) (by have := hq.2; omega)
  have htb := tms_bd 1000000000 q.num (q.den : Int) (by omega) (by omega)
  have hge := tms_ge0 q.num (q.den : Int) hd hpos
  have hsb := sb_tms q.num (q.den : Int) hd hpos hg true
  have hab := at_back hpos hd hg
  have hne : tms q.num (q.den : Int) ≠ [] := tms_ne hd
  have hrp := fun w h => r4path_any q.num (q.den : Int) w hpos hd (by omega) (by omega) h
  have hls := less_sum (tms q.num (q.den : Int)) hne
  obtain ⟨T, hT⟩ : ∃ T, tms q.num (q.den : Int) = T := ⟨_, rfl⟩
  rw [hT] at hpt HT hl1 htb hge hsb hne hls
  have HSB := Lib.hid (fun i => show (T.take i).sum.natAbs ≤ 100000000000 from Nat.le_trans (sum_take_bd T 1000000000 htb i) (Nat.le_trans (Nat.mul_le_mul_right 1000000000 hl1) (by decide)))
  obtain ⟨m, hm⟩ : ∃ m, T.length = m + 1 := ⟨T.length - 1, by have := List.length_pos_iff.2 hne; omega⟩
  have HM := Lib.hid hm
  rw [hsb] at hrp hab
  have hlen := rp_length (less T) hge true
  obtain ⟨l, hl⟩ : ∃ l, rp true (less T) = l := ⟨_, rfl⟩
  rw [hl] at hrp hab hlen
  have HAMB := Lib.hid hamb
  have HTG := Lib.hid (fun i (hi : i < m + 1) => show T[i]? = some (T.getD i 0) by rw [List.getD_eq_getElem?_getD, List.getElem?_eq_getElem (by omega)]; rfl)
  have HTS := Lib.hid (show (T.take (m + 1)).sum = T.sum by rw [List.take_of_length_le (by omega)])
  have HPV := Lib.hid (show (¬ T.sum - 1 > 1000 → (∀ w, Amb w → Calls Tryz.prog 22 #[.agg #[.string (itx q.num), .string (itx (q.den : Int))]] w (SmallRes (.tuple #[.string (way l), .int .i64 0]) w)) ∧ (∀ w, Amb w → Calls Tryz.prog 24 #[.string (way l)] w (SmallRes (.tuple #[.agg #[.string (itx q.num), .string (itx (q.den : Int))], .int .i64 0]) w)) ∧ (∀ w, Calls Tryz.prog 25 #[.int .i64 q.num, .int .i64 (q.den : Int)] w (SmallRes (.string (way l)) w))) ∧ (T.sum - 1 > 1000 → ∀ w, Amb w → Calls Tryz.prog 22 #[.agg #[.string (itx q.num), .string (itx (q.den : Int))]] w (SmallRes (.tuple #[.string ⟨#[]⟩, .int .i64 16]) w)) from by
    refine ⟨fun h => ⟨fun w hw => ?_, fun w hw => ?_, fun w => ?_⟩, fun h w hw => ?_⟩
    · have := hpt w hw
      unfold PathV at this
      rw [if_pos (by omega), hl] at this
      exact this
    · have := At_any l w hw (by omega)
      rw [hab.1, hab.2, Rat.num_divInt_den] at this
      exact this
    · exact hrp w (by omega)
    · have := hpt w hw
      unfold PathV at this
      rw [if_neg (by omega)] at this
      exact this)
  clear hamb h0 h1 hq hd hg p1 p2 hl1 hne hT hpt htb hge hsb hab hrp hls hm hlen hl
  obtain ⟨P, E, HPT, HE⟩ : ∃ (P : ByteArray) (E : Int), Hid (∀ w, Amb w → Calls Tryz.prog 22 #[.agg #[.string (itx q.num), .string (itx (q.den : Int))]] w (SmallRes (.tuple #[.string P, .int .i64 E]) w)) ∧ Hid ((T.sum - 1 > 1000 ∧ P = ⟨#[]⟩ ∧ E = 16) ∨ (¬ T.sum - 1 > 1000 ∧ P = way l ∧ E = 0)) := by
    by_cases h : T.sum - 1 > 1000
    · exact ⟨_, _, Lib.hid (HPV.out.2 h), Lib.hid (.inl ⟨h, rfl, rfl⟩)⟩
    · exact ⟨_, _, Lib.hid (HPV.out.1 h).1, Lib.hid (.inr ⟨h, rfl, rfl⟩)⟩
  go_enter Tryz.func7, Tryz.ntmps7
  go_wp2_with fail
  obtain ⟨W, hW⟩ : ∃ W, w.alloc (.cells #[.string (itx q.num), .string (itx (q.den : Int))] 24) = W := ⟨_, rfl⟩
  rw [hW]
  obtain ⟨hX, hBW⟩ := B1.of hW
  clear hW
  have HX := Lib.hid (fun wz (hb : Below W.heap.size W wz) => hX.later hb)
  have HB := Lib.hid hBW
  have HA := Lib.hid (fun wz (hb : Below W.heap.size W wz) => HAMB.out.below (bel_chain HB.out hb))
  clear hX hBW
  refine (known04_any W (HA.out _ (Below.refl _ _))).mono ?_
  rintro e w1 ⟨rfl, hb1⟩
  have hz1 := hb1
  obtain ⟨_, x0, x1, _, _⟩ := HX.out _ hz1
  go_wp2_with fail
  refine (HPT.out w1 (HA.out _ hz1)).mono ?_
  rintro e w2 ⟨rfl, hb2⟩
  have hz2 := bel_chain hz1 hb2
  clear x0 x1
  obtain ⟨_, x0, x1, _, _⟩ := HX.out _ hz2
  go_wp2_with fail
  refine (HP1.out w2).mono ?_
  rintro e w3 ⟨rfl, hb3⟩
  have hz3 := bel_chain hz2 hb3
  clear x0 x1 hb1 hb2 hb3
  go_wp2_with fail
  refine (HT.out w3).mono ?_
  rintro e w4 ⟨v4, rfl, hown, hb4⟩
  obtain ⟨A4, c4, rfl, hin4⟩ := hown.ins
  rw [HM.out] at hin4
  have hmm := HM.out
  rw [hmm]
  have HZ4 := Lib.hid (bel_chain hz3 hb4)
  have hle := hin4.2.1
  have hcap := hin4.2.2.1
  obtain ⟨b, off, hbe, hbl, hc⟩ := hin4.2.2.2 (by omega)
  subst hbe
  have HC4 := Lib.hid (fun i (hi : i < m + 1) wz (hb : Below w4.heap.size w4 wz) => (hb.cell (p := ⟨b, off + i, none⟩) hbl).trans (hc i hi))
  have HTL := Lib.hid (show T.length = m + 1 from hin4.1)
  clear hmm hown hin4 hz2 hz3 hb4 hc hbl
  go_wp2_with fail
  go_loopw [8, 10] (fun vs vi wr => ∃ i : Nat, i ≤ m + 1 ∧ vi = .int .i64 (i : Int) ∧ vs = .int .i64 (T.take i).sum ∧ Below w4.heap.size w4 wr) (fun _ vi _ => m + 1 - (intOf vi).toNat)
  case atStart => exact ⟨0, Nat.zero_le _, by first | rfl | (simp; done), by first | rfl | (simp; done), Below.refl _ _⟩
  case round =>
    obtain ⟨i, hi, rfl, rfl, hB4⟩ := hrel
    have HBR := Lib.hid hB4
    have hsb := HSB.out i
    clear hB4
    by_cases hie : i = m + 1
    · subst hie
      rw [HTS.out] at hsb ⊢
      have hlt : ¬ ((m + 1 : Nat) : Int) < (m : Int) + 1 := by omega
      obtain ⟨S, hS⟩ : ∃ S, T.sum = S := ⟨_, rfl⟩
      rw [hS] at hsb HE HPV ⊢
      have hw : IntKind.i64.wrap (S - 1) = S - 1 := IntWalk.i64_in _ (by omega)
      clear hS hsb
      rcases HE.out with ⟨hbig, rfl, rfl⟩ | ⟨hbig, rfl, rfl⟩
      · have hgt : (1000 : Int) < S - 1 := by omega
        go_wp2_with fail
        go_ret
        exact ⟨rfl, bel_chain HB.out (bel_chain HZ4.out HBR.out)⟩
      · have hgt : ¬ (1000 : Int) < S - 1 := by omega
        have HQ := Lib.hid (HPV.out.1 hbig)
        obtain ⟨s, hs⟩ : ∃ s, way l = s := ⟨_, rfl⟩
        rw [hs] at HQ ⊢
        have hzr := bel_chain HZ4.out HBR.out
        clear hs HE HPV HPT
        go_wp2_with fail
        refine (HQ.out.2.1 wr (HA.out _ hzr)).mono ?_
        rintro e w5 ⟨rfl, hb5⟩
        have hz5 := bel_chain hzr hb5
        clear hb5
        go_wp2_with fail
        obtain ⟨v5, hv5⟩ : ∃ v, w5.alloc (.cells #[.string (itx q.num), .string (itx (q.den : Int))] 24) = v := ⟨_, rfl⟩
        try rw [hv5]
        obtain ⟨hY, hBY⟩ := B1.of hv5
        have HY := Lib.hid (fun wz (hb : Below v5.heap.size v5 wz) => hY.later hb)
        have hz6 := bel_chain hz5 hBY
        clear hv5 hY hBY hz5 hzr
        refine (HQ.out.2.2 v5).mono ?_
        rintro e w7 ⟨rfl, hb7⟩
        have hz7 := bel_chain hz6 hb7
        obtain ⟨_, y0, y1, _, _⟩ := HY.out _ hb7
        obtain ⟨_, x0, x1, _, _⟩ := HX.out _ hz7
        clear hb7 hz6
        go_wp2_with fail
        go_ret
        exact ⟨rfl, bel_chain HB.out hz7⟩
    · have hlt : (i : Int) < (m : Int) + 1 := by omega
      have hc := HC4.out i (by omega) _ HBR.out
      have hsb2 := HSB.out (i + 1)
      have hnx : (T.take (i + 1)).sum = (T.take i).sum + T.getD i 0 := by
        rw [List.take_add_one, HTG.out i (by omega)]
        show (T.take i ++ [T.getD i 0]).sum = _
        rw [List.sum_append]; simp
      rw [hnx] at hsb2
      have HNX := Lib.hid hnx
      obtain ⟨a, ha⟩ : ∃ a, T.getD i 0 = a := ⟨_, rfl⟩
      rw [ha] at hc hsb2 HNX
      obtain ⟨S, hS⟩ : ∃ S, (T.take i).sum = S := ⟨_, rfl⟩
      rw [hS] at hsb2 HNX ⊢
      have hw : IntKind.i64.wrap (S + a) = S + a := IntWalk.i64_in _ (by omega)
      clear ha hS hnx hsb hsb2
      go_wp2_with fail
      go_roundw
      case rel => exact ⟨i + 1, by omega, by go_num, by rw [HNX.out], HBR.out⟩
      case measure => simp [intOf]; omega
theorem lawPaths_walk (n0 d0 : ByteArray) (w : World) (hamb : Amb w) :
    Calls Tryz.prog 7 #[.agg #[.string n0, .string d0]] w (SmallRes (.bool true) w) := by
  by_cases h : n0.size ≤ 9 ∧ d0.size ≤ 9
  · obtain ⟨h0, h1⟩ := h
    cases hr : RB n0 d0 with
    | false => exact lawPaths_err n0 d0 w hamb h0 h1 hr
    | true =>
      obtain ⟨q, rfl, rfl, _⟩ := rightB_rat hr
      by_cases hpos : 0 < q.num
      · exact lawPaths_yes q w hamb h0 h1 hpos
      · exact lawPaths_low q w hamb h0 h1 (by omega)
  · exact lawPaths_long n0 d0 w hamb h
end Go.Proofs.YtpafocfpofnkpaaGreatDoor
