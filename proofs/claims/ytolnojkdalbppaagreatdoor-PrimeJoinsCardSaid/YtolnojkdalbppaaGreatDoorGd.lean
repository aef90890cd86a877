/- Greater text, out of: W1, W2, W3, W4, Parse, RParse, R1, R1S, WC, WC2. -/
import Derived.Test.YtolnojkdalbppaaGreatDoorGb
import Derived.Test.YtolnojkdalbppaaGreatDoorGc
import Derived.PlainAid
import Derived.Deep.DeepCutAuto
import Derived.RegionCalls
namespace Go.Proofs.YtolnojkdalbppaaGreatDoor
section
open Go.RowKit Go.PlainAid

theorem bt_first (s : ByteArray) {c : UInt8} {r : List UInt8} (h : s.data.toList = c :: r) : bt s 0 = (c.toNat : Int) := by
  have hs : 0 < s.size := by
    show 0 < s.data.size
    rw [← Array.length_toList, h]; simp
  have e : (s[0]'hs) = c := by
    have h1 : s.data.toList[0]? = some c := by rw [h]; rfl
    have h2 : s.data.toList[0]? = some (s[0]'hs) := by rw [List.getElem?_eq_getElem (by rw [Array.length_toList]; exact hs)]; rfl
    rw [h1] at h2
    exact (Option.some.inj h2).symm
  unfold bt
  rw [dif_pos hs, e]
theorem bt_itx_neg {z : Int} (h : z < 0) : bt (itx z) 0 = 45 := by
  rw [bt_first (itx z) (c := 45) (r := Lib.decDigits z.natAbs) (by rw [itx_data, itoa_neg h])]; rfl
theorem bt_itx_pos {z : Int} (h : 0 ≤ z) : 48 ≤ bt (itx z) 0 ∧ bt (itx z) 0 ≤ 57 := by
  obtain ⟨c, r, hc, h1, h2⟩ := dd_head_ge z.natAbs
  rw [bt_first (itx z) (c := c) (r := r) (by rw [itx_data, itoa_pos h, hc])]
  omega
theorem itx_tail {z : Int} (h : z < 0) : (itx z).extract 1 (itx z).size = dec z.natAbs := by
  apply ba_ext
  rw [dec_data, ByteArray.data_extract, Array.toList_extract, itx_data, itoa_neg h]
  have : (itx z).size = (Lib.decDigits z.natAbs).length + 1 := by rw [itx_size, if_pos h, nz, Lib.decDigits_length]
  rw [this, List.extract_eq_take_drop]; simp
theorem neg_append {m : Nat} (h : m ≠ 0) : (⟨#[45]⟩ : ByteArray) ++ dec m = itx (-(m : Int)) := by
  apply ba_ext
  rw [itx_data, itoa_neg (by omega), ByteArray.data_append, Array.toList_append, dec_data, Int.natAbs_neg, Int.natAbs_natCast]; rfl

/-- whole.split. -/
theorem split_any (z : Int) (w : World) (hz : nz z ≤ 1000000000) :
    Calls Tryz.prog 71 #[.string (itx z)] w (SmallRes (.tuple #[.bool (decide (z < 0)), .string (dec z.natAbs)]) w) := by
  have h0 := itx_size_pos z
  have hsz : (itx z).size ≤ 1000000001 := Nat.le_trans (itx_size_le z) (by omega)
  have hbt := get_bt (itx z)
  by_cases h : z < 0
  · rw [decide_eq_true h]
    have hb := bt_itx_neg h
    have hx := itx_tail h
    go_enter Tryz.func71, Tryz.ntmps71
    go_wp2
    go_quiet (fail)
    go_wp2
    go_ret2
    exact ⟨rfl, bel_drewN (Below.refl _ _) _⟩
  · rw [decide_eq_false h]
    have hb := bt_itx_pos (show 0 ≤ z by omega)
    have hb2 : (bt (itx z) 0 == 45) = false := by rw [beq_eq_false_iff_ne]; omega
    have hx := itx_of_pos (show 0 ≤ z by omega)
    have HX := Lib.hid hx
    clear hx
    go_enter Tryz.func71, Tryz.ntmps71
    go_wp2
    go_ret2
    exact ⟨by rw [HX.out]; rfl, Below.refl _ _⟩

/-- whole.join. -/
theorem join_any (b : Bool) (m : Nat) (w : World) (hm : Lib.nDigits m ≤ 1000000000) :
    Calls Tryz.prog 72 #[.bool b, .string (dec m)] w (SmallRes (.string (itx (if b then -(m : Int) else m))) w) := by
  have hs : (dec m).size ≤ 1000000000 := by rw [dec_size]; exact hm
  cases b with
  | false =>
    simp only [Bool.false_eq_true, if_false]
    rw [itx_nat]
    go_enter Tryz.func72, Tryz.ntmps72
    go_wp2
    go_ret
    exact ⟨rfl, Below.refl _ _⟩
  | true =>
    simp only [if_true]
    by_cases h0 : m = 0
    · subst h0
      have h1 := dec_zero_same
      have h2 : (!(dec 0).toList == [48]) = false := by rw [h1]; rfl
      have HZ := Lib.hid (itx_nat 0)
      go_enter Tryz.func72, Tryz.ntmps72
      go_wp2
      go_ret
      exact ⟨ret_str (by rw [show (-((0 : Nat) : Int)) = ((0 : Nat) : Int) by omega]; exact HZ.out.symm), Below.refl _ _⟩
    · have h1 := dec_zero_test h0
      have h2 : (!(dec m).toList == [48]) = true := by rw [h1]; rfl
      have hx := neg_append h0
      go_enter Tryz.func72, Tryz.ntmps72
      go_wp2
      go_ret
      exact ⟨rfl, Below.refl _ _⟩

/-- whole.Sign. -/
theorem sign_any (z : Int) (w : World) (hz : nz z ≤ 1000000000) :
    Calls Tryz.prog 51 #[.string (itx z)] w (SmallRes (.int .i64 z.sign) w) := by
  have h0 := itx_size_pos z
  have hsz : (itx z).size ≤ 1000000001 := Nat.le_trans (itx_size_le z) (by omega)
  have hbt := get_bt (itx z)
  by_cases hz0 : z = 0
  · subst hz0
    have h1 := itx_zero_same
    go_enter Tryz.func51, Tryz.ntmps51
    go_wp2
    go_ret
    exact ⟨rfl, Below.refl _ _⟩
  · have h1 := itx_zero_test hz0
    by_cases h : z < 0
    · rw [Int.sign_eq_neg_one_of_neg h]
      have hb := bt_itx_neg h
      go_enter Tryz.func51, Tryz.ntmps51
      go_wp2
      go_ret
      exact ⟨rfl, Below.refl _ _⟩
    · rw [Int.sign_eq_one_of_pos (by omega)]
      have hb := bt_itx_pos (show 0 ≤ z by omega)
      have hb2 : (bt (itx z) 0 == 45) = false := by rw [beq_eq_false_iff_ne]; omega
      go_enter Tryz.func51, Tryz.ntmps51
      go_wp2
      go_ret
      exact ⟨rfl, Below.refl _ _⟩

/-- whole.Abs. -/
theorem abs_any (z : Int) (w : World) (hz : nz z ≤ 1000000000) :
    Calls Tryz.prog 85 #[.string (itx z)] w (SmallRes (.string (dec z.natAbs)) w) := by
  go_enter Tryz.func85, Tryz.ntmps85
  go_wp2_with fail
  refine (split_any z _ hz).mono ?_
  rintro e w1 ⟨rfl, hb1⟩
  go_wp2_with fail
  go_ret
  exact ⟨rfl, hb1⟩

/-- whole.little. -/
theorem little_yes (z : Int) (m : Int) (w : World) (h : ((itx z).size : Int) ≤ m) (hm : m ≤ 18) :
    Calls Tryz.prog 70 #[.string (itx z), .int .i64 m] w (SmallRes (.tuple #[.int .i64 z, .bool true]) w) := by
  have HA := Lib.hid (show Lib.atoi (itx z).data.toList = some z by rw [itx_data]; exact atoi_itoa z)
  have hs : (itx z).size ≤ 18 := by omega
  go_enter Tryz.func70, Tryz.ntmps70
  go_wp2_with fail
  refine (Tryz.strconv_Atoi (itx z) z hs HA.out _).mono ?_
  rintro e w1 ⟨rfl, t, hw⟩
  have hb := bytes_below w 5 t
  rw [← hw] at hb
  clear hw
  go_wp2_with fail
  go_quiet (fail)
  go_wp2
  go_ret2
  exact ⟨rfl, bel_drewN hb _⟩
theorem little_no (z : Int) (m : Int) (w : World) (h : m < ((itx z).size : Int)) :
    Calls Tryz.prog 70 #[.string (itx z), .int .i64 m] w (SmallRes (.tuple #[.int .i64 0, .bool false]) w) := by
  go_enter Tryz.func70, Tryz.ntmps70
  go_wp2_with fail
  go_ret2
  exact ⟨rfl, Below.refl _ _⟩

theorem grow_below (w : World) (k : Nat) (os : Array Obj) : Below w.heap.size w (Sort.grow (w.drewN k) os) :=
  ⟨rfl, rfl, rfl, by simp [Sort.grow, World.drewN], fun i hi => by simp [Sort.grow, World.drewN, Array.getElem?_append, hi]⟩
/-- strconv.Itoa. -/
theorem itoa_any (z : Int) (w : World) (hamb : Amb w) (h0 : -9223372036854775808 ≤ z) (h1 : z ≤ 9223372036854775807) :
    Calls Tryz.prog 74 #[.int .i64 z] w (SmallRes (.string (itx z)) w) :=
  (Tryz.strconv_Itoa z h0 h1 w hamb.tab).mono fun e w' ⟨he, k, os, hw⟩ => ⟨he, by rw [hw]; exact grow_below w k os⟩
/-- whole.Of. -/
theorem wof_any (z : Int) (w : World) (hamb : Amb w) (h0 : -9223372036854775808 ≤ z) (h1 : z ≤ 9223372036854775807) :
    Calls Tryz.prog 56 #[.int .i64 z] w (SmallRes (.string (itx z)) w) := by
  have HC := Lib.hid (fun w1 (h : Amb w1) => itoa_any z w1 h h0 h1)
  clear h0 h1
  go_enter Tryz.func56, Tryz.ntmps56
  go_wp2_with fail
  refine (HC.out _ hamb).mono ?_
  rintro e w1 ⟨rfl, hb1⟩
  go_wp2_with fail
  go_ret
  exact ⟨rfl, hb1⟩
end
section
open Go.RowKit Go.PlainAid

theorem short_bd {z : Int} {m : Nat} (h : (itx z).size ≤ m + 1) : -(10 ^ (m + 1) : Int) < z ∧ z < 10 ^ (m + 1) := by
  have h1 := (nz_le_iff z m).1 (Nat.le_trans (itx_size_ge z) h)
  have h2 : ((z.natAbs : Nat) : Int) < ((10 ^ (m + 1) : Nat) : Int) := by omega
  rw [Int.natCast_pow] at h2
  have h3 : ((10 : Nat) : Int) = 10 := rfl
  rw [h3] at h2
  omega
theorem short18 {z : Int} (h : (itx z).size ≤ 18) : -1000000000000000000 < z ∧ z < 1000000000000000000 := by
  have h1 := (nz_le_iff z 17).1 (Nat.le_trans (itx_size_ge z) h)
  have : (10 : Nat) ^ (17 + 1) = 1000000000000000000 := by decide
  omega
theorem short9 {z : Int} (h : (itx z).size ≤ 9) : -1000000000 < z ∧ z < 1000000000 := by
  have h1 := (nz_le_iff z 8).1 (Nat.le_trans (itx_size_ge z) h)
  have : (10 : Nat) ^ (8 + 1) = 1000000000 := by decide
  omega
/-- What little says of two integers that are not both short. -/
theorem little_two (a b : Int) (m : Int) (hm : m ≤ 18) (h : ¬ (((itx a).size : Int) ≤ m ∧ ((itx b).size : Int) ≤ m)) :
    ∃ (va : Int) (fa : Bool), (∀ w1, Calls Tryz.prog 70 #[.string (itx a), .int .i64 m] w1 (SmallRes (.tuple #[.int .i64 va, .bool fa]) w1)) ∧ (fa = true → m < ((itx b).size : Int)) := by
  by_cases ha : ((itx a).size : Int) ≤ m
  · exact ⟨a, true, fun w1 => little_yes a m w1 ha hm, fun _ => by
      rcases Int.lt_or_le m ((itx b).size : Int) with h1 | h1
      · exact h1
      · exact absurd ⟨ha, h1⟩ h⟩
  · exact ⟨0, false, fun w1 => little_no a m w1 (by omega), fun h => by cases h⟩
theorem sum_same {a b : Int} (h : decide (a < 0) = decide (b < 0)) : (if decide (a < 0) = true then -((a.natAbs + b.natAbs : Nat) : Int) else ((a.natAbs + b.natAbs : Nat) : Int)) = a + b := by
  rw [decide_eq_decide] at h
  by_cases ha : a < 0
  · have := h.1 ha; simp [ha]; omega
  · have : ¬ b < 0 := fun h' => ha (h.2 h'); simp [ha]; omega
theorem sum_diff {a b : Int} (h : ¬ decide (a < 0) = decide (b < 0)) (hlt : b.natAbs ≤ a.natAbs) : (if decide (a < 0) = true then -((a.natAbs - b.natAbs : Nat) : Int) else ((a.natAbs - b.natAbs : Nat) : Int)) = a + b := by
  by_cases ha : a < 0 <;> by_cases hb : b < 0
  · simp [ha, hb] at h
  · simp [ha]; omega
  · simp [ha]; omega
  · simp [ha, hb] at h

theorem mul_sign (a b : Int) : (if (!(decide (a < 0) == decide (b < 0))) = true then -((a.natAbs * b.natAbs : Nat) : Int) else ((a.natAbs * b.natAbs : Nat) : Int)) = a * b := by
  rw [Int.natCast_mul]
  by_cases ha : a < 0 <;> by_cases hb : b < 0
  · have e1 : (a.natAbs : Int) = -a := by omega
    have e2 : (b.natAbs : Int) = -b := by omega
    simp [ha, hb]; rw [e1, e2, Int.neg_mul_neg]
  · have e1 : (a.natAbs : Int) = -a := by omega
    have e2 : (b.natAbs : Int) = b := by omega
    simp [ha, hb]; rw [e1, e2, Int.neg_mul, Int.neg_neg]
  · have e1 : (a.natAbs : Int) = a := by omega
    have e2 : (b.natAbs : Int) = -b := by omega
    simp [ha, hb]; rw [e1, e2, Int.mul_neg, Int.neg_neg]
  · have e1 : (a.natAbs : Int) = a := by omega
    have e2 : (b.natAbs : Int) = b := by omega
    simp [ha, hb]; rw [e1, e2]
set_option maxRecDepth 100000 in
set_option maxHeartbeats 1000000 in
/-- whole.Mul. -/
theorem wmul_any (a b : Int) (w : World) (hamb : Amb w) (ha : nz a ≤ 1000000) (hb : nz b ≤ 1000000) :
    Calls Tryz.prog 55 #[.string (itx a), .string (itx b)] w (SmallRes (.string (itx (a * b))) w) := by
  by_cases hs : ((itx a).size : Int) ≤ 9 ∧ ((itx b).size : Int) ≤ 9
  · obtain ⟨hsa, hsb⟩ := hs
    have h1 := short9 (z := a) (by omega)
    have h2 := short9 (z := b) (by omega)
    have h3 : (a * b).natAbs ≤ 999999999 * 999999999 := by rw [Int.natAbs_mul]; exact Nat.mul_le_mul (by omega) (by omega)
    have h4 : -999999998000000001 ≤ a * b := by omega
    have h5 : a * b ≤ 999999998000000001 := by omega
    have HOF := Lib.hid (fun w1 (h : Amb w1) => wof_any (a * b) w1 h (by omega) (by omega))
    clear h3
    go_enter Tryz.func55, Tryz.ntmps55
    go_wp2_with fail
    refine (little_yes a 9 _ hsa (by omega)).mono ?_
    rintro e w1 ⟨rfl, hb1⟩
    go_wp2_with fail
    refine (little_yes b 9 _ hsb (by omega)).mono ?_
    rintro e w2 ⟨rfl, hb2⟩
    have hB2 := bel_chain hb1 hb2
    go_wp2_with fail
    refine (HOF.out _ (hamb.below hB2)).mono ?_
    rintro e w3 ⟨rfl, hb3⟩
    go_wp2_with fail
    go_ret
    exact ⟨rfl, bel_chain hB2 hb3⟩
  · obtain ⟨va, fa, hla, hfl⟩ := little_two a b 9 (by omega) hs
    have HLA := Lib.hid hla
    have HFL := Lib.hid hfl
    have hA : Lib.nDigits a.natAbs ≤ 1000000 := ha
    have hB : Lib.nDigits b.natAbs ≤ 1000000 := hb
    have hsm : Lib.nDigits (a.natAbs * b.natAbs) ≤ 1000000000 := by
      have := nz_mul a b
      unfold nz at this
      rw [Int.natAbs_mul] at this
      omega
    have HR := Lib.hid (mul_sign a b)
    clear hla hfl hs
    go_enter Tryz.func55, Tryz.ntmps55
    go_wp2_with fail
    refine (HLA.out _).mono ?_
    rintro e w1 ⟨rfl, hb1⟩
    go_upto_if 18 with fail
    go_cut [4] (fun s4 wx => s4 = .string ⟨#[]⟩ ∧ Below w.heap.size w wx)
    case first =>
      cases fa with
      | true =>
        have hlt := HFL.out rfl
        go_wp2_with fail
        refine (little_no b 9 _ hlt).mono ?_
        rintro e w2 ⟨rfl, hb2⟩
        go_wp2_with fail
        go_meet
        exact ⟨rfl, bel_chain hb1 hb2⟩
      | false =>
        go_wp2_with fail
        go_meet
        exact ⟨rfl, hb1⟩
    case rest =>
      obtain ⟨rfl, hb0⟩ := hcut
      clear HLA HFL hb1
      go_wp2_with fail
      refine (split_any a _ (by omega)).mono ?_
      rintro e w2 ⟨rfl, hb2⟩
      go_wp2_with fail
      refine (split_any b _ (by omega)).mono ?_
      rintro e w3 ⟨rfl, hb3⟩
      have hB3 := bel_chain (bel_chain hb0 hb2) hb3
      have hA3 := hamb.below hB3
      clear hb2 hb3 hb0
      go_wp2_with fail
      refine (mul_any a.natAbs b.natAbs _ hA3 hA hB).mono ?_
      rintro e w4 ⟨rfl, hb4⟩
      go_wp2_with fail
      refine (join_any _ (a.natAbs * b.natAbs) _ hsm).mono ?_
      rintro e w5 ⟨rfl, hb5⟩
      rw [HR.out]
      go_wp2_with fail
      go_ret
      exact ⟨rfl, bel_chain (bel_chain hB3 hb4) hb5⟩
end
section
open Go.RowKit Go.PlainAid

theorem FD_le {a b q r : Int} (h : FD a b q r) (hb : b ≠ 0) : q.natAbs ≤ a.natAbs + 1 ∧ r.natAbs ≤ b.natAbs := by
  obtain ⟨h1, h2⟩ := h.eq
  rw [← h1, ← h2]
  exact ⟨fq_le a b, fr_le a hb⟩
theorem nz_succ {x y : Int} (h : y.natAbs ≤ x.natAbs + 1) : nz y ≤ nz x + 1 := by
  unfold nz
  refine Nat.le_trans (nd_mono h) ?_
  have h1 := Lib.lt_pow_nDigits x.natAbs
  rw [nd_le_iff, Nat.pow_succ]; omega
set_option maxRecDepth 100000 in
set_option maxHeartbeats 1000000 in
theorem wdivmod_zero (a : Int) (w : World) :
    Calls Tryz.prog 68 #[.string (itx a), .string (itx 0)] w (SmallRes (.tuple #[.string ⟨#[]⟩, .string ⟨#[]⟩, .int .i64 17]) w) := by
  have h0 := itx_zero_same
  go_enter Tryz.func68, Tryz.ntmps68
  go_wp2_with fail
  go_ret3
  exact ⟨rfl, Below.refl _ _⟩
set_option maxRecDepth 100000 in
set_option maxHeartbeats 2000000 in
theorem wdivmod_short (a b : Int) (w : World) (hamb : Amb w) (hb0 : b ≠ 0) (hsa : ((itx a).size : Int) ≤ 18) (hsb : ((itx b).size : Int) ≤ 18) :
    Calls Tryz.prog 68 #[.string (itx a), .string (itx b)] w (SmallRes (.tuple #[.string (itx (fq a b)), .string (itx (fr a b)), .int .i64 0]) w) := by
  have h0 := itx_zero_test hb0
  have h1 := short18 (z := a) (by omega)
  have h2 := short18 (z := b) (by omega)
  have hfd := FD_tdiv a hb0
  have hq : (a.tdiv b).natAbs ≤ a.natAbs := Int.natAbs_tdiv_le_natAbs a b
  have hr : (a.tmod b).natAbs < b.natAbs := by rw [Int.natAbs_tmod]; exact Nat.mod_lt _ (by omega)
  have hw1 : IntKind.i64.wrap (a.tdiv b) = a.tdiv b := IntWalk.i64_in _ (by omega)
  have HW1 := Lib.hid hw1
  have HB0 := Lib.hid hb0
  have HFD := Lib.hid hfd
  have hnz : (b == 0) = false := by rw [beq_eq_false_iff_ne]; exact hb0
  clear hw1 hfd hb0
  go_enter Tryz.func68, Tryz.ntmps68
  go_wp2_with fail
  refine (little_yes a 18 _ hsa (by omega)).mono ?_
  rintro e w1 ⟨rfl, hb1⟩
  go_wp2_with fail
  refine (little_yes b 18 _ hsb (by omega)).mono ?_
  rintro e w2 ⟨rfl, hb2⟩
  have hB2 := bel_chain hb1 hb2
  clear hb1 hb2
  go_wp2_with fail
  have hw1 := HW1.out
  go_quiet (fail)
  have hB3 := bel_drewN hB2 nq
  have hA3 := hamb.below hB3
  have hfd := HFD.out
  clear hw1 HW1 HFD hB2
  generalize a.tmod b = r at *
  generalize a.tdiv b = q at *
  by_cases hr0 : r = 0
  · have hb1 : (r == 0) = true := by rw [beq_iff_eq]; exact hr0
    have H := Lib.hid (hfd.1 (fun h => h.1 hr0)).eq
    clear hfd
    subst hr0
    go_wp2_with fail
    refine (wof_any q _ hA3 (by omega) (by omega)).mono ?_
    rintro e w3 ⟨rfl, hb3⟩
    have hB4 := bel_chain hB3 hb3
    go_wp2_with fail
    refine (wof_any 0 _ (hamb.below hB4) (by omega) (by omega)).mono ?_
    rintro e w4 ⟨rfl, hb4⟩
    go_wp2_with fail
    go_ret3
    exact ⟨by rw [H.out.1, H.out.2]; rfl, bel_chain hB4 hb4⟩
  · have hb1 : (r == 0) = false := by rw [beq_eq_false_iff_ne]; exact hr0
    by_cases hsg : decide (r < 0) = decide (b < 0)
    · have hb2 : (decide (r < 0) == decide (b < 0)) = true := by rw [beq_iff_eq]; exact hsg
      have H := Lib.hid (hfd.1 (fun h => h.2 hsg)).eq
      clear hfd hsg
      go_wp2_with fail
      refine (wof_any q _ hA3 (by omega) (by omega)).mono ?_
      rintro e w3 ⟨rfl, hb3⟩
      have hB4 := bel_chain hB3 hb3
      go_wp2_with fail
      refine (wof_any r _ (hamb.below hB4) (by omega) (by omega)).mono ?_
      rintro e w4 ⟨rfl, hb4⟩
      go_wp2_with fail
      go_ret3
      exact ⟨by rw [H.out.1, H.out.2]; rfl, bel_chain hB4 hb4⟩
    · have hb2 : (decide (r < 0) == decide (b < 0)) = false := by rw [beq_eq_false_iff_ne]; exact hsg
      have H := Lib.hid (hfd.2 ⟨hr0, hsg⟩).eq
      clear hfd hsg
      go_wp2_with fail
      refine (wof_any (q - 1) _ hA3 (by omega) (by omega)).mono ?_
      rintro e w3 ⟨rfl, hb3⟩
      have hB4 := bel_chain hB3 hb3
      go_wp2_with fail
      refine (wof_any (r + b) _ (hamb.below hB4) (by omega) (by omega)).mono ?_
      rintro e w4 ⟨rfl, hb4⟩
      go_wp2_with fail
      go_ret3
      exact ⟨by rw [H.out.1, H.out.2]; rfl, bel_chain hB4 hb4⟩
set_option maxRecDepth 100000 in
set_option maxHeartbeats 2000000 in
theorem wdivmod_long (a b : Int) (w : World) (hamb : Amb w) (hb0 : b ≠ 0) (ha : nz a ≤ 900000) (hb : nz b ≤ 900000) (hs : ¬ (((itx a).size : Int) ≤ 18 ∧ ((itx b).size : Int) ≤ 18)) :
    Calls Tryz.prog 68 #[.string (itx a), .string (itx b)] w (SmallRes (.tuple #[.string (itx (fq a b)), .string (itx (fr a b)), .int .i64 0]) w) := by
  have h0 := itx_zero_test hb0
  obtain ⟨va, fa, hla, hfl⟩ := little_two a b 18 (by omega) hs
  have HLA := Lib.hid hla
  have HFL := Lib.hid hfl
  have hA : Lib.nDigits a.natAbs ≤ 900000 := ha
  have hB : Lib.nDigits b.natAbs ≤ 900000 := hb
  have hbn : b.natAbs ≠ 0 := by omega
  have hqd : Lib.nDigits (a.natAbs / b.natAbs) ≤ 900000 := Nat.le_trans (nd_mono (Nat.div_le_self _ _)) hA
  have hq1d : Lib.nDigits (a.natAbs / b.natAbs + 1) ≤ 900001 := by
    have h1 := Lib.lt_pow_nDigits (a.natAbs / b.natAbs)
    generalize a.natAbs / b.natAbs = q at *
    exact Nat.le_trans ((nd_le_iff (q + 1) (Lib.nDigits q)).2 (by rw [Nat.pow_succ]; omega)) (by omega)
  have hrd : Lib.nDigits (a.natAbs % b.natAbs) ≤ 900000 := Nat.le_trans (nd_mono (Nat.le_of_lt (Nat.mod_lt _ (by omega)))) hB
  have hbrd : Lib.nDigits (b.natAbs - a.natAbs % b.natAbs) ≤ 900000 := Nat.le_trans (nd_mono (Nat.sub_le _ _)) hB
  have hrb : a.natAbs % b.natAbs ≤ b.natAbs := Nat.le_of_lt (Nat.mod_lt _ (by omega))
  have HB0 := Lib.hid hb0
  have hlit : (⟨#[49]⟩ : ByteArray) = dec 1 := by unfold dec; rw [dd_small (by omega)]; rfl
  have HAD := Lib.hid (fun w1 (h : Amb w1) => hlit ▸ add_any (a.natAbs / b.natAbs) 1 w1 h (by omega) (by rw [Lib.nDigits_small (by omega)]; omega))
  clear hla hfl hs hb0 hlit
  go_enter Tryz.func68, Tryz.ntmps68
  go_wp2_with fail
  refine (HLA.out _).mono ?_
  rintro e w1 ⟨rfl, hb1⟩
  go_upto_if 26 with fail
  go_cut [4] (fun s4 wx => s4 = .string ⟨#[]⟩ ∧ Below w.heap.size w wx)
  case first =>
    cases fa with
    | true =>
      have hlt := HFL.out rfl
      go_wp2_with fail
      refine (little_no b 18 _ hlt).mono ?_
      rintro e w2 ⟨rfl, hb2⟩
      go_wp2_with fail
      go_meet
      exact ⟨rfl, bel_chain hb1 hb2⟩
    | false =>
      go_wp2_with fail
      go_meet
      exact ⟨rfl, hb1⟩
  case rest =>
    obtain ⟨rfl, hb0⟩ := hcut
    clear HLA HFL hb1
    go_wp2_with fail
    refine (split_any a _ (by omega)).mono ?_
    rintro e w2 ⟨rfl, hb2⟩
    go_wp2_with fail
    refine (split_any b _ (by omega)).mono ?_
    rintro e w3 ⟨rfl, hb3⟩
    have hB3 := bel_chain (bel_chain hb0 hb2) hb3
    have hA3 := hamb.below hB3
    clear hb2 hb3 hb0
    go_wp2_with fail
    refine (divmod_any a.natAbs b.natAbs _ hA3 hbn (by omega) (by omega)).mono ?_
    rintro e w4 ⟨rfl, hb4⟩
    have hB4 := bel_chain hB3 hb4
    have hA4 := hA3.below hb4
    clear hb4 hB3 hA3
    by_cases hsg : (a < 0) ↔ (b < 0)
    · have H := Lib.hid (FD_nat_same HB0.out hsg).eq
      have hsd : decide (a < 0) = decide (b < 0) := by rw [decide_eq_decide]; exact hsg
      have hne : (decide (b < 0) == decide (b < 0)) = true := by simp
      rw [hsd]
      clear hsg hsd hne
      generalize a.natAbs / b.natAbs = q at *
      generalize a.natAbs % b.natAbs = r at *
      by_cases hbs : b < 0
      all_goals
        simp only [hbs, if_true, if_false] at H
        simp only [hbs, decide_true, decide_false]
        clear hbs
        go_wp2_with fail
        refine (join_any false q _ (by omega)).mono ?_
        rintro e w5 ⟨rfl, hb5⟩
        have hB5 := bel_chain hB4 hb5
        go_wp2_with fail
        refine (join_any _ r _ (by omega)).mono ?_
        rintro e w6 ⟨rfl, hb6⟩
        go_wp2_with fail
        go_ret3
        refine ⟨?_, bel_chain hB5 hb6⟩
        rw [H.out.1, H.out.2]; rfl
    · have hsd : (decide (a < 0) == decide (b < 0)) = false := by rw [beq_eq_false_iff_ne, Ne, decide_eq_decide]; exact hsg
      by_cases hr0 : a.natAbs % b.natAbs = 0
      · have H := Lib.hid (FD_nat_zero HB0.out hsg hr0).eq
        rw [hr0]
        have hz := dec_zero_same
        have hz1 : (!(dec 0).toList == [48]) = false := by rw [hz]; rfl
        clear hsg hr0 hrd hbrd hrb
        generalize a.natAbs / b.natAbs = q at *
        generalize decide (a < 0) = n at *
        generalize decide (b < 0) = m at *
        go_wp2_with fail
        refine (join_any true q _ (by omega)).mono ?_
        rintro e w5 ⟨rfl, hb5⟩
        have hB5 := bel_chain hB4 hb5
        go_wp2_with fail
        refine (join_any m 0 _ (by rw [Lib.nDigits_small (by omega)]; omega)).mono ?_
        rintro e w6 ⟨rfl, hb6⟩
        go_wp2_with fail
        go_ret3
        refine ⟨?_, bel_chain hB5 hb6⟩
        rw [H.out.1, H.out.2]
        simp
      · have H := Lib.hid (FD_nat_more HB0.out hsg hr0).eq
        have hz := dec_zero_test hr0
        have hz1 : (!(dec (a.natAbs % b.natAbs)).toList == [48]) = true := by rw [hz]; rfl
        clear hsg hr0
        generalize a.natAbs / b.natAbs = q at *
        generalize a.natAbs % b.natAbs = r at *
        generalize decide (a < 0) = n at *
        by_cases hbs : b < 0
        all_goals
         simp only [hbs, if_true, if_false] at H
         simp only [hbs, decide_true, decide_false] at hsd ⊢
         clear hbs
         go_wp2_with fail
         refine (HAD.out _ hA4).mono ?_
         rintro e w5 ⟨rfl, hb5⟩
         have hB5 := bel_chain hB4 hb5
         have hA5 := hA4.below hb5
         go_wp2_with fail
         refine (sub_any b.natAbs r _ hA5 hrb (by omega) (by omega)).mono ?_
         rintro e w6 ⟨rfl, hb6⟩
         have hB6 := bel_chain hB5 hb6
         go_wp2_with fail
         refine (join_any true (q + 1) _ (by omega)).mono ?_
         rintro e w7 ⟨rfl, hb7⟩
         have hB7 := bel_chain hB6 hb7
         go_wp2_with fail
         refine (join_any _ (b.natAbs - r) _ (by omega)).mono ?_
         rintro e w8 ⟨rfl, hb8⟩
         go_wp2_with fail
         go_ret3
         refine ⟨?_, bel_chain hB7 hb8⟩
         rw [H.out.1, H.out.2]; rfl
/-- whole.DivMod. -/
theorem wdivmod_any (a b : Int) (w : World) (hamb : Amb w) (hb0 : b ≠ 0) (ha : nz a ≤ 900000) (hb : nz b ≤ 900000) :
    Calls Tryz.prog 68 #[.string (itx a), .string (itx b)] w (SmallRes (.tuple #[.string (itx (fq a b)), .string (itx (fr a b)), .int .i64 0]) w) := by
  by_cases hs : ((itx a).size : Int) ≤ 18 ∧ ((itx b).size : Int) ≤ 18
  · exact wdivmod_short a b w hamb hb0 hs.1 hs.2
  · exact wdivmod_long a b w hamb hb0 ha hb hs
set_option maxRecDepth 100000 in
/-- whole.gcd. -/
theorem igcd_any (x y : Nat) (w : World) (hx : x < 1000000000000000000) (hy : y < 1000000000000000000) :
    Calls Tryz.prog 86 #[.int .i64 (x : Int), .int .i64 (y : Int)] w (SmallRes (.int .i64 ((Nat.gcd x y : Nat) : Int)) w) := by
  go_enter Tryz.func86, Tryz.ntmps86
  go_wp2_with fail
  go_loopw [0, 1] (fun vu vv wr => ∃ u v : Nat, vu = .int .i64 (u : Int) ∧ vv = .int .i64 (v : Int) ∧ u < 1000000000000000000 ∧ v < 1000000000000000000 ∧ Hid (Nat.gcd u v = Nat.gcd x y) ∧ Below w.heap.size w wr) (fun _ vv _ => (intOf vv).toNat)
  case atStart => exact ⟨x, y, rfl, rfl, hx, hy, Lib.hid rfl, Below.refl _ _⟩
  case round =>
    obtain ⟨u, v, rfl, rfl, hu, hv, HG2, hB2⟩ := hrel
    by_cases hv0 : v = 0
    · subst hv0
      go_wp2_with fail
      go_ret
      have := HG2.out
      rw [Nat.gcd_zero_right] at this
      exact ⟨by rw [← this]; rfl, hB2⟩
    · have hv1 : (1 : Int) ≤ (v : Int) := by omega
      have hvb : ((v : Int) == 0) = false := by rw [beq_eq_false_iff_ne]; omega
      have hm := Nat.mod_lt u (Nat.pos_of_ne_zero hv0)
      have hg2 : Nat.gcd v (u % v) = Nat.gcd x y := by rw [← HG2.out, Nat.gcd_comm u v, Nat.gcd_rec v u, Nat.gcd_comm]
      have hte : (u : Int).tmod (v : Int) = ((u % v : Nat) : Int) := by rw [Int.tmod_eq_emod_of_nonneg (by omega), Int.natCast_emod]
      have H1 := Lib.hid hm
      have H2 := Lib.hid hg2
      have HT := Lib.hid hte
      clear hm hg2 hte
      go_wp2
      go_quiet (fail)
      go_wp2
      go_roundw
      case rel => exact ⟨v, u % v, rfl, vint (by first | exact HT.out | omega), hv, by have := H1.out; omega, H2, bel_drewN hB2 _⟩
      case measure =>
        have := H1.out
        simp [intOf]
        omega
theorem little_nat_yes (n : Nat) (w : World) (h : Lib.nDigits n ≤ 18) :
    Calls Tryz.prog 70 #[.string (dec n), .int .i64 18] w (SmallRes (.tuple #[.int .i64 (n : Int), .bool true]) w) := by
  have := little_yes (n : Int) 18 w (by rw [itx_nat, dec_size]; omega) (by omega)
  rwa [itx_nat] at this
theorem little_nat_no (n : Nat) (w : World) (h : 18 < Lib.nDigits n) :
    Calls Tryz.prog 70 #[.string (dec n), .int .i64 18] w (SmallRes (.tuple #[.int .i64 0, .bool false]) w) := by
  have := little_no (n : Int) 18 w (by rw [itx_nat, dec_size]; omega)
  rwa [itx_nat] at this
set_option maxRecDepth 100000 in
set_option maxHeartbeats 1000000 in
/-- whole.Gcd. -/
theorem wgcd_any (a b : Int) (w : World) (hamb : Amb w) (ha : nz a ≤ 1000000) (hb : nz b ≤ 1000000) :
    Calls Tryz.prog 67 #[.string (itx a), .string (itx b)] w (SmallRes (.string (dec (Int.gcd a b))) w) := by
  have hA : Lib.nDigits a.natAbs ≤ 1000000 := ha
  have hB : Lib.nDigits b.natAbs ≤ 1000000 := hb
  have HG := Lib.hid (show Int.gcd a b = Nat.gcd a.natAbs b.natAbs from rfl)
  have hgb : a.natAbs < 1000000000000000000 → b.natAbs < 1000000000000000000 → Nat.gcd a.natAbs b.natAbs < 1000000000000000000 := fun h1 h2 => by
    by_cases h0 : a.natAbs = 0
    · rw [h0, Nat.gcd_zero_left]; exact h2
    · exact Nat.lt_of_le_of_lt (Nat.gcd_le_left _ (by omega)) h1
  have HGB := Lib.hid hgb
  clear hgb
  go_enter Tryz.func67, Tryz.ntmps67
  go_wp2_with fail
  refine (abs_any a _ (by omega)).mono ?_
  rintro e w1 ⟨rfl, hb1⟩
  go_wp2_with fail
  refine (abs_any b _ (by omega)).mono ?_
  rintro e w2 ⟨rfl, hb2⟩
  have hB2 := bel_chain hb1 hb2
  clear hb1 hb2
  generalize a.natAbs = x at *
  generalize b.natAbs = y at *
  by_cases h1 : Lib.nDigits x ≤ 18
  · by_cases h2 : Lib.nDigits y ≤ 18
    · have hx := (nd_le_iff x 17).1 h1
      have hy := (nd_le_iff y 17).1 h2
      rw [show (10 : Nat) ^ (17 + 1) = 1000000000000000000 by decide] at hx hy
      have hg := HGB.out hx hy
      go_wp2_with fail
      refine (little_nat_yes x _ h1).mono ?_
      rintro e w3 ⟨rfl, hb3⟩
      have hB3 := bel_chain hB2 hb3
      go_wp2_with fail
      refine (little_nat_yes y _ h2).mono ?_
      rintro e w4 ⟨rfl, hb4⟩
      have hB4 := bel_chain hB3 hb4
      go_wp2_with fail
      refine (igcd_any x y _ hx hy).mono ?_
      rintro e w5 ⟨rfl, hb5⟩
      have hB5 := bel_chain hB4 hb5
      go_wp2_with fail
      refine (wof_any ((Nat.gcd x y : Nat) : Int) _ (hamb.below hB5) (by omega) (by omega)).mono ?_
      rintro e w6 ⟨rfl, hb6⟩
      go_wp2_with fail
      go_ret
      exact ⟨by rw [HG.out, ← itx_nat]; rfl, bel_chain hB5 hb6⟩
    · go_wp2_with fail
      refine (little_nat_yes x _ h1).mono ?_
      rintro e w3 ⟨rfl, hb3⟩
      have hB3 := bel_chain hB2 hb3
      go_wp2_with fail
      refine (little_nat_no y _ (by omega)).mono ?_
      rintro e w4 ⟨rfl, hb4⟩
      have hB4 := bel_chain hB3 hb4
      go_wp2_with fail
      refine (gcd_any x y _ (hamb.below hB4) hA hB).mono ?_
      rintro e w5 ⟨rfl, hb5⟩
      go_wp2_with fail
      go_ret
      exact ⟨by rw [HG.out]; rfl, bel_chain hB4 hb5⟩
  · go_wp2_with fail
    refine (little_nat_no x _ (by omega)).mono ?_
    rintro e w3 ⟨rfl, hb3⟩
    have hB3 := bel_chain hB2 hb3
    go_wp2_with fail
    refine (gcd_any x y _ (hamb.below hB3) hA hB).mono ?_
    rintro e w5 ⟨rfl, hb5⟩
    go_wp2_with fail
    go_ret
    exact ⟨by rw [HG.out]; rfl, bel_chain hB3 hb5⟩
end
section
open Go.RowKit Go.PlainAid

theorem bezG_zero (a : Int) : bezG a 0 = (a.natAbs : Int) := by unfold bezG; rw [bezL_zero]
theorem nz_le_of {x y : Int} {n : Nat} (h : x.natAbs ≤ y.natAbs) (hy : nz y ≤ n) : nz x ≤ n := Nat.le_trans (nz_mono h) hy
theorem nz_max {x a b : Int} {n : Nat} (h : x.natAbs ≤ max a.natAbs b.natAbs) (ha : nz a ≤ n) (hb : nz b ≤ n) : nz x ≤ n := by
  rcases Nat.le_total a.natAbs b.natAbs with h1 | h1
  · exact nz_le_of (by omega) hb
  · exact nz_le_of (by omega) ha
theorem sign_bd (a : Int) : -1 ≤ a.sign ∧ a.sign ≤ 1 := by
  rcases Int.lt_trichotomy a 0 with h | h | h
  · rw [Int.sign_eq_neg_one_of_neg h]; decide
  · rw [h]; decide
  · rw [Int.sign_eq_one_of_pos h]; decide
end
section
open Go.RowKit Go.PlainAid

theorem bt_at (s : ByteArray) (j : Nat) (h : j < s.size) : bt s j = ((s.data.toList.getD j 0).toNat : Int) := by
  unfold bt
  rw [dif_pos h, List.getD_eq_getElem?_getD, List.getElem?_eq_getElem (by rw [Array.length_toList]; exact h)]; rfl
/-- The sign and the rest of a text. -/
def negT (l : List UInt8) : Bool := Lib.hasPrefix l [45]
def magT (l : List UInt8) : List UInt8 := Lib.trimPrefix l [45]
/-- What Parse answers. -/
def ParseRes (l : List UInt8) : Value :=
  if l = [] then .tuple #[.string ⟨#[]⟩, .int .i64 13]
  else if magT l = [] ∨ (magT l).all isDig = false then .tuple #[.string ⟨#[]⟩, .int .i64 15]
  else if 400 < Lib.nDigits (val (magT l)) then .tuple #[.string ⟨#[]⟩, .int .i64 4]
  else .tuple #[.string (itx (if negT l then -(val (magT l) : Int) else val (magT l))), .int .i64 0]
theorem trim_zeros (l : List UInt8) (h : l.all isDig = true) :
    (val l = 0 → l.dropWhile (· == 48) = []) ∧ (val l ≠ 0 → l.dropWhile (· == 48) = Lib.decDigits (val l)) := by
  induction l with
  | nil => exact ⟨fun _ => rfl, fun h => absurd val_nil h⟩
  | cons c r ih =>
    rw [List.all_cons, Bool.and_eq_true] at h
    by_cases hc : c = 48
    · subst hc
      have e : val (48 :: r) = val r := by rw [val_cons]; simp
      rw [e, List.dropWhile_cons_of_pos (by rfl)]
      exact ih h.2
    · have hd := (isDig_iff c).1 h.1
      have hc' : c.toNat ≠ 48 := fun e => hc (UInt8.toNat_inj.1 e)
      have hp := dd_val_pos (c :: r).length (c :: r) rfl (by rw [List.all_cons, h.1, h.2]; rfl) (by simp) (by simpa using hc)
      rw [List.dropWhile_cons_of_neg (by simpa using hc)]
      exact ⟨fun h0 => by omega, fun _ => hp.1.symm⟩
theorem str_empty {t : ByteArray} (h : t.data.toList = []) : (t.toList == []) = true := by rw [ByteArray.toList_eq, h]; rfl
theorem str_some {t : ByteArray} (h : t.data.toList ≠ []) : (t.toList == []) = false := by rw [ByteArray.toList_eq, beq_eq_false_iff_ne]; exact h
theorem str_isEmpty (t : ByteArray) : t.toList.isEmpty = (t.toList == []) := by cases t.toList <;> rfl
theorem mag_size (l : List UInt8) : (magT l).length ≤ l.length := by
  unfold magT Lib.trimPrefix
  split
  · rw [List.length_drop]; omega
  · exact Nat.le_refl _
end
section
open Go.RowKit Go.PlainAid

def strD (l : List UInt8) (k : Nat) : ByteArray := ⟨(l.drop k).toArray⟩
theorem strD_data (l : List UInt8) (k : Nat) : (strD l k).data.toList = l.drop k := by simp [strD]
theorem strD_size (l : List UInt8) (k : Nat) : (strD l k).size = l.length - k := by
  show (strD l k).data.size = _
  rw [← Array.length_toList, strD_data, List.length_drop]
theorem strD_next (l : List UInt8) (k : Nat) : (strD l k).extract 1 (strD l k).size = strD l (k + 1) := by
  apply ba_ext
  rw [strD_data, ByteArray.data_extract, Array.toList_extract, strD_data, strD_size, List.extract_eq_take_drop, List.drop_drop]
  rw [List.take_of_length_le (by rw [List.length_drop]; omega)]
theorem strD_bt (l : List UInt8) (k : Nat) (h : k < l.length) : bt (strD l k) 0 = ((l.getD k 0).toNat : Int) := by
  rw [bt_at _ _ (by rw [strD_size]; omega), strD_data, List.getD_eq_getElem?_getD, List.getElem?_drop, Nat.add_zero, List.getD_eq_getElem?_getD]
theorem strD_of {t : ByteArray} {l : List UInt8} (h : t.data.toList = l) : t = strD l 0 := ba_ext (by rw [strD_data, List.drop_zero, h])
theorem val_zero_head (l : List UInt8) (k : Nat) (hk : k < l.length) (h : (l.getD k 0).toNat = 48) : val (l.drop k) = val (l.drop (k + 1)) := by
  have e : l.getD k 0 = 48 := UInt8.toNat_inj.1 h
  rw [List.getD_eq_getElem?_getD, List.getElem?_eq_getElem hk] at e
  have e2 : l[k] = 48 := e
  rw [List.drop_eq_getElem_cons hk, e2, val_cons]; simp
theorem canon_at (l : List UInt8) (k : Nat) (hk : k < l.length) (ha : l.all isDig = true) (h : k + 1 = l.length ∨ (l.getD k 0).toNat ≠ 48) : strD l k = dec (val (l.drop k)) := by
  apply ba_ext
  have h1 : (l.drop k).all isDig = true := by
    rw [List.all_eq_true] at ha ⊢
    exact fun x hx => ha x (List.mem_of_mem_drop hx)
  have hc : canon (l.drop k) = true := by
    unfold canon
    rw [h1, List.length_drop, Bool.true_and]
    rcases h with h | h
    · rw [show l.length - k = 1 by omega]; rfl
    · by_cases h2 : l.length - k = 1
      · rw [h2]; rfl
      · have e : (l.drop k).getD 0 0 = l.getD k 0 := by rw [List.getD_eq_getElem?_getD, List.getElem?_drop, Nat.add_zero, List.getD_eq_getElem?_getD]
        rw [e, decide_eq_true (by omega : 1 < l.length - k)]
        have : (l.getD k 0 == 48) = false := by
          rw [beq_eq_false_iff_ne]; intro e2; rw [e2] at h; exact h rfl
        rw [this]; simp
  rw [strD_data, dec_data, dd_val _ hc]
theorem neg_cases (s : ByteArray) (h : s.data.toList ≠ []) :
    (negT s.data.toList = true ∧ bt s 0 = 45 ∧ s.extract 1 s.size = (⟨(magT s.data.toList).toArray⟩ : ByteArray)) ∨
    (negT s.data.toList = false ∧ (bt s 0 == 45) = false ∧ (⟨(magT s.data.toList).toArray⟩ : ByteArray) = s) := by
  cases hs : s.data.toList with
  | nil => exact absurd hs h
  | cons c r =>
    rw [bt_first s hs]
    have e : negT (c :: r) = (c == 45) := by
      unfold negT Lib.hasPrefix
      show ((45 : UInt8) == c && List.isPrefixOf [] r) = (c == 45)
      rw [List.isPrefixOf_nil_left, Bool.and_true, Bool.eq_iff_iff, beq_iff_eq, beq_iff_eq]
      exact eq_comm
    have em : magT (c :: r) = if negT (c :: r) = true then r else c :: r := by
      unfold magT Lib.trimPrefix negT
      split <;> rfl
    by_cases hc : c = 45
    · left
      subst hc
      rw [em, e]
      refine ⟨rfl, rfl, ?_⟩
      apply ba_ext
      rw [ByteArray.data_extract, Array.toList_extract, hs, List.extract_eq_take_drop]
      have hsz : s.size = r.length + 1 := by
        show s.data.size = _
        rw [← Array.length_toList, hs]; rfl
      rw [hsz]; simp
    · right
      have e1 : (c == 45) = false := by rw [beq_eq_false_iff_ne]; exact hc
      rw [em, e, e1]
      refine ⟨rfl, ?_, ?_⟩
      · rw [beq_eq_false_iff_ne]
        intro h2
        apply hc
        apply UInt8.toNat_inj.1
        have : (45 : UInt8).toNat = 45 := rfl
        omega
      · apply ba_ext
        simp [hs]
def strLen : Value → Nat | .string s => s.size | _ => 0
end
section
open Go.RowKit Go.PlainAid

theorem mag_nil : magT [] = [] := by decide
theorem neg_nil : negT [] = false := by decide
theorem mag_itoa (z : Int) : magT (Lib.itoa z) = Lib.decDigits z.natAbs ∧ negT (Lib.itoa z) = decide (z < 0) := by
  by_cases h : z < 0
  · rw [itoa_neg h, decide_eq_true h]
    have e : negT (45 :: Lib.decDigits z.natAbs) = true := by
      unfold negT Lib.hasPrefix
      show ((45 : UInt8) == 45 && List.isPrefixOf [] (Lib.decDigits z.natAbs)) = true
      rw [List.isPrefixOf_nil_left]; rfl
    refine ⟨?_, e⟩
    unfold magT Lib.trimPrefix
    rw [show Lib.hasPrefix (45 :: Lib.decDigits z.natAbs) [45] = true from e]; rfl
  · rw [itoa_pos (by omega), decide_eq_false h]
    obtain ⟨c, r, hc, h1, h2⟩ := dd_head_ge z.natAbs
    have e : negT (Lib.decDigits z.natAbs) = false := by
      rw [hc]
      unfold negT Lib.hasPrefix
      show ((45 : UInt8) == c && List.isPrefixOf [] r) = false
      have : ((45 : UInt8) == c) = false := by
        rw [beq_eq_false_iff_ne]; intro e; rw [← e] at h1; exact absurd h1 (by decide)
      rw [this]; rfl
    refine ⟨?_, e⟩
    unfold magT Lib.trimPrefix
    rw [show Lib.hasPrefix (Lib.decDigits z.natAbs) [45] = false from e]; rfl
/-- schismaref02.side. -/
def sideZ (z : Int) : Int := if z < 0 then -1 else 1
end
section
open Go.RowKit Go.PlainAid

def SmallV (z : Int) : Value := if -9223372036854775808 ≤ z ∧ z ≤ 9223372036854775807 then .tuple #[.int .i64 z, .bool true] else .tuple #[.int .i64 0, .bool false]
/-- Byte k of a text whose digits begin at place o. -/
theorem bt_digits {s : ByteArray} {p D : List UInt8} {o : Nat} (h : s.data.toList = p ++ D) (ho : p.length = o) (j : Nat) (hj : j < D.length) : bt s (o + j) = ((D.getD j 0).toNat : Int) := by
  have hs : o + j < s.size := by
    show o + j < s.data.size
    rw [← Array.length_toList, h, List.length_append, ho]; omega
  rw [bt_at s _ hs, h, List.getD_eq_getElem?_getD, List.getElem?_append_right (by omega), ho, Nat.add_sub_cancel_left, ← List.getD_eq_getElem?_getD]
theorem val_take_mono (D : List UInt8) (j : Nat) : val (D.take j) ≤ val D := by
  have h := val_append (D.take j) (D.drop j)
  rw [List.take_append_drop] at h
  have := Nat.le_mul_of_pos_right (val (D.take j)) (Nat.pow_pos (n := (D.drop j).length) (show 0 < 10 by decide))
  omega
theorem small_quot (d : Int) (h0 : 0 ≤ d) (h9 : d ≤ 9) : Int.tdiv (-9223372036854775808 + d) 10 = -((9223372036854775808 - d) / 10) := by
  rw [show -9223372036854775808 + d = -(9223372036854775808 - d) by omega, Int.neg_tdiv, Int.tdiv_eq_ediv_of_nonneg (by omega)]
end
section
open Go.RowKit Go.PlainAid

/-- A comparison of integers. -/
def cmpZ (a b : Int) : Int := if a < b then -1 else if b < a then 1 else 0
theorem cmpZ_same {a b : Int} (h : a.sign = b.sign) : cmpZ a b = if a < 0 then cmpI b.natAbs a.natAbs else cmpI a.natAbs b.natAbs := by
  have key : (a < 0 ↔ b < 0) := by
    have h1 := Int.sign_neg_iff (x := a)
    rw [h] at h1
    exact h1.symm.trans Int.sign_neg_iff
  unfold cmpZ cmpI
  by_cases ha : a < 0
  · have hb := key.1 ha
    rw [if_pos ha]
    repeat' split
    all_goals omega
  · have hb : ¬ b < 0 := fun h => ha (key.2 h)
    rw [if_neg ha]
    repeat' split
    all_goals omega
theorem cmpZ_lt {a b : Int} (h : a.sign < b.sign) : cmpZ a b = -1 := by
  have : a < b := by
    rcases Int.lt_or_le a b with h1 | h1
    · exact h1
    · exfalso
      rcases Int.lt_trichotomy a 0 with h2 | h2 | h2 <;> rcases Int.lt_trichotomy b 0 with h3 | h3 | h3
      all_goals first | omega | (simp_all [Int.sign_eq_neg_one_of_neg, Int.sign_eq_one_of_pos]; done) | skip
      all_goals (first | rw [Int.sign_eq_neg_one_of_neg h2] at h | rw [Int.sign_eq_one_of_pos h2] at h | skip)
      all_goals (first | rw [Int.sign_eq_neg_one_of_neg h3] at h | rw [Int.sign_eq_one_of_pos h3] at h | skip)
      all_goals omega
  unfold cmpZ; rw [if_pos this]
theorem cmpZ_gt {a b : Int} (h : b.sign < a.sign) : cmpZ a b = 1 := by
  have h1 := cmpZ_lt h
  unfold cmpZ at h1 ⊢
  split at h1
  · rw [if_neg (by omega), if_pos (by omega)]
  · split at h1 <;> omega
end
section
open Go.RowKit Go.PlainAid

theorem str_size (s : ByteArray) : s.data.toList.length = s.size := by rw [Array.length_toList]; rfl
/-- whole.split, of any text. -/
theorem split_gen (s : ByteArray) (w : World) (hs : s.size ≤ 1000000001) :
    Calls Tryz.prog 71 #[.string s] w (SmallRes (.tuple #[.bool (negT s.data.toList), .string ⟨(magT s.data.toList).toArray⟩]) w) := by
  by_cases h0 : s.data.toList = []
  · have hz : s.size = 0 := by rw [← str_size, h0]; rfl
    have HE := Lib.hid (show (⟨(magT s.data.toList).toArray⟩ : ByteArray) = s from ba_ext (by rw [h0, mag_nil]))
    have HN := Lib.hid (show negT s.data.toList = false by rw [h0, neg_nil])
    clear h0
    go_enter Tryz.func71, Tryz.ntmps71
    go_wp2
    go_ret2
    exact ⟨by rw [HE.out, HN.out]; rfl, Below.refl _ _⟩
  · have hs0 : 0 < s.size := by rw [← str_size]; exact List.length_pos_iff.2 h0
    have hbs := get_bt s
    rcases neg_cases s h0 with ⟨e1, e2, e3⟩ | ⟨e1, e2, e3⟩
    · have HN := Lib.hid e1
      clear e1 h0
      generalize (⟨(magT s.data.toList).toArray⟩ : ByteArray) = t at *
      go_enter Tryz.func71, Tryz.ntmps71
      go_wp2
      go_quiet (fail)
      go_wp2
      go_ret2
      exact ⟨by rw [HN.out]; rfl, bel_drewN (Below.refl _ _) _⟩
    · have HE := Lib.hid e3
      have HN := Lib.hid e1
      clear e1 e3 h0
      go_enter Tryz.func71, Tryz.ntmps71
      go_wp2
      go_ret2
      exact ⟨by rw [HE.out, HN.out]; rfl, Below.refl _ _⟩
/-- Whether a text is a canonical integer. -/
def canonT (l : List UInt8) : Bool := !(negT l && magT l == [48]) && canon (magT l)
theorem mag_len (l : List UInt8) : (magT l).length ≤ l.length := mag_size l
set_option maxRecDepth 100000 in
/-- whole.Check, of any text. -/
theorem wcheck_any (s : ByteArray) (w : World) (hs : s.size ≤ 1000000000) :
    Calls Tryz.prog 66 #[.string s] w (SmallRes (.int .i64 (if canonT s.data.toList = true ∧ (magT s.data.toList).length ≤ 400 then 0 else 2)) w) := by
  obtain ⟨t, ht⟩ : ∃ t : ByteArray, (⟨(magT s.data.toList).toArray⟩ : ByteArray) = t := ⟨_, rfl⟩
  have htl : t.data.toList = magT s.data.toList := by rw [← ht]
  have hts : t.size = (magT s.data.toList).length := by rw [← htl, str_size]
  have hml := mag_len s.data.toList
  rw [str_size] at hml
  have hck := fun w1 => check_any t w1 (by omega)
  have hsp := fun w1 => split_gen s w1 (by omega)
  rw [ht] at hsp
  rw [htl, hts] at hck
  have hc0 : (t.toList == [48]) = (magT s.data.toList == [48]) := by rw [ByteArray.toList_eq, htl]
  have HCD := Lib.hid (show canonT s.data.toList = (!(negT s.data.toList && magT s.data.toList == [48]) && canon (magT s.data.toList)) from rfl)
  generalize canonT s.data.toList = cn at *
  generalize negT s.data.toList = ng at *
  generalize (magT s.data.toList == [48]) = z0 at *
  generalize canon (magT s.data.toList) = cm at *
  generalize (magT s.data.toList).length = ml at *
  have HCK := Lib.hid hck
  have HSP := Lib.hid hsp
  clear hck hsp ht htl hts hml
  by_cases h1 : (ng && z0) = true
  · rw [Bool.and_eq_true] at h1
    obtain ⟨rfl, rfl⟩ := h1
    rw [show (if cn = true ∧ ml ≤ 400 then (0 : Int) else 2) = 2 by rw [HCD.out]; rfl]
    go_enter Tryz.func66, Tryz.ntmps66
    go_wp2_with fail
    refine (HSP.out _).mono ?_
    rintro e w1 ⟨rfl, hb1⟩
    go_wp2_with fail
    go_ret
    exact ⟨rfl, hb1⟩
  · have h2 : (ng && z0) = false := by simpa using h1
    rw [h2] at HCD
    have hcn : cn = cm := by rw [HCD.out]; rfl
    clear h1 HCD
    subst hcn
    by_cases hg : cn = true ∧ ml ≤ 400
    · rw [if_pos hg] at HCK ⊢
      cases ng
      · go_enter Tryz.func66, Tryz.ntmps66
        go_wp2_with fail
        refine (HSP.out _).mono ?_
        rintro e w1 ⟨rfl, hb1⟩
        go_wp2_with fail
        refine (HCK.out _).mono ?_
        rintro e w2 ⟨rfl, hb2⟩
        go_wp2_with fail
        go_ret
        exact ⟨rfl, bel_chain hb1 hb2⟩
      · have hz : z0 = false := by simpa using h2
        subst hz
        go_enter Tryz.func66, Tryz.ntmps66
        go_wp2_with fail
        refine (HSP.out _).mono ?_
        rintro e w1 ⟨rfl, hb1⟩
        go_wp2_with fail
        refine (HCK.out _).mono ?_
        rintro e w2 ⟨rfl, hb2⟩
        go_wp2_with fail
        go_ret
        exact ⟨rfl, bel_chain hb1 hb2⟩
    · rw [if_neg hg] at HCK ⊢
      cases ng
      · go_enter Tryz.func66, Tryz.ntmps66
        go_wp2_with fail
        refine (HSP.out _).mono ?_
        rintro e w1 ⟨rfl, hb1⟩
        go_wp2_with fail
        refine (HCK.out _).mono ?_
        rintro e w2 ⟨rfl, hb2⟩
        go_wp2_with fail
        go_ret
        exact ⟨rfl, bel_chain hb1 hb2⟩
      · have hz : z0 = false := by simpa using h2
        subst hz
        go_enter Tryz.func66, Tryz.ntmps66
        go_wp2_with fail
        refine (HSP.out _).mono ?_
        rintro e w1 ⟨rfl, hb1⟩
        go_wp2_with fail
        refine (HCK.out _).mono ?_
        rintro e w2 ⟨rfl, hb2⟩
        go_wp2_with fail
        go_ret
        exact ⟨rfl, bel_chain hb1 hb2⟩
theorem cmpZ_side {a b : Int} (h : a.sign = b.sign) : cmpI a.natAbs b.natAbs * sideZ a = cmpZ a b := by
  rw [cmpZ_same h]
  unfold sideZ cmpI
  by_cases ha : a < 0
  · rw [if_pos ha, if_pos ha]
    repeat' split
    all_goals omega
  · rw [if_neg ha, if_neg ha]
    repeat' split
    all_goals omega
end
end Go.Proofs.YtolnojkdalbppaaGreatDoor
