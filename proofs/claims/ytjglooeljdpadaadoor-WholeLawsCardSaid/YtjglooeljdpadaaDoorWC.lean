/- The walks of the program's Compare, Small and Check of integers, and the second chapter's reference Compare, Canonical and Right. -/
import Derived.Test.YtjglooeljdpadaaDoorR1S
import Derived.Test.YtjglooeljdpadaaDoorCan
namespace Go.Proofs.YtjglooeljdpadaaDoor
open Go.RowKit Go.PlainAid

/-- A comparison of integers. -/
def cmpZ (a b : Int) : Int := if a < b then -1 else if b < a then 1 else 0
theorem cmpZ_same {a b : Int} (h : a.sign = b.sign) : cmpZ a b = if a < 0 then cmpI b.natAbs a.natAbs else cmpI a.natAbs b.natAbs := by
  have key : (a < 0 ↔ b < 0) := by
    have h1 := Int.sign_neg_iff (x := a)
    rw [h] at h1
    exact h1.symm.trans Int.sign_neg_iff
  unfold cmpZ cmpI
  by_cases ha : a < 0
  · have hb := key.1 ha
    rw [if_pos ha]
    repeat' split
    all_goals omega
  · have hb : ¬ b < 0 := fun h => ha (key.2 h)
    rw [if_neg ha]
    repeat' split
    all_goals omega
theorem cmpZ_lt {a b : Int} (h : a.sign < b.sign) : cmpZ a b = -1 := by
  have : a < b := by
    rcases Int.lt_or_le a b with h1 | h1
    · exact h1
    · exfalso
      rcases Int.lt_trichotomy a 0 with h2 | h2 | h2 <;> rcases Int.lt_trichotomy b 0 with h3 | h3 | h3
      all_goals first | omega | (simp_all [Int.sign_eq_neg_one_of_neg, Int.sign_eq_one_of_pos]; done) | skip
      all_goals (first | rw [Int.sign_eq_neg_one_of_neg h2] at h | rw [Int.sign_eq_one_of_pos h2] at h | skip)
      all_goals (first | rw [Int.sign_eq_neg_one_of_neg h3] at h | rw [Int.sign_eq_one_of_pos h3] at h | skip)
      all_goals omega
  unfold cmpZ; rw [if_pos this]
theorem cmpZ_gt {a b : Int} (h : b.sign < a.sign) : cmpZ a b = 1 := by
  have h1 := cmpZ_lt h
  unfold cmpZ at h1 ⊢
  split at h1
  · rw [if_neg (by omega), if_pos (by omega)]
  · split at h1 <;> omega
set_option maxRecDepth 100000 in
/-- whole.Compare. -/
theorem wcompare_any (a b : Int) (w : World) (ha : nz a ≤ 1000000) (hb : nz b ≤ 1000000) :
    Calls Tryd.prog 17 #[.string (itx a), .string (itx b)] w (SmallRes (.int .i64 (cmpZ a b)) w) := by
  have hA : Lib.nDigits a.natAbs ≤ 1000000 := ha
  have hB : Lib.nDigits b.natAbs ≤ 1000000 := hb
  obtain ⟨s1, hs1⟩ : ∃ s, a.sign = s := ⟨_, rfl⟩
  obtain ⟨s2, hs2⟩ : ∃ s, b.sign = s := ⟨_, rfl⟩
  have HA := Lib.hid (fun w1 => hs1 ▸ sign_any a w1 (by omega))
  have HB := Lib.hid (fun w1 => hs2 ▸ sign_any b w1 (by omega))
  by_cases hs : s1 = s2
  · subst hs
    have hc := cmpZ_same (hs1.trans hs2.symm)
    have hbb : (s1 == s1) = true := by simp
    by_cases hneg : a < 0
    · rw [if_pos hneg] at hc
      have hd : decide (a < 0) = true := decide_eq_true hneg
      have HC := Lib.hid hc
      have HSP := Lib.hid (fun w1 => hd ▸ split_any a w1 (by omega))
      clear hc hs1 hs2 hneg hd
      go_enter Tryd.func17, Tryd.ntmps17
      go_wp2_with fail
      refine (HA.out _).mono ?_
      rintro e w1 ⟨rfl, hb1⟩
      go_wp2_with fail
      refine (HB.out _).mono ?_
      rintro e w2 ⟨rfl, hb2⟩
      have hB2 := bel_chain hb1 hb2
      go_wp2_with fail
      refine (HSP.out _).mono ?_
      rintro e w3 ⟨rfl, hb3⟩
      have hB3 := bel_chain hB2 hb3
      go_wp2_with fail
      refine (split_any b _ (by omega)).mono ?_
      rintro e w4 ⟨rfl, hb4⟩
      have hB4 := bel_chain hB3 hb4
      go_wp2_with fail
      refine (compare_any b.natAbs a.natAbs _ (by omega) (by omega)).mono ?_
      rintro e w5 ⟨rfl, rfl⟩
      go_wp2_with fail
      go_ret
      exact ⟨by rw [HC.out]; rfl, hB4⟩
    · rw [if_neg hneg] at hc
      have hd : decide (a < 0) = false := decide_eq_false hneg
      have HC := Lib.hid hc
      have HSP := Lib.hid (fun w1 => hd ▸ split_any a w1 (by omega))
      clear hc hs1 hs2 hneg hd
      go_enter Tryd.func17, Tryd.ntmps17
      go_wp2_with fail
      refine (HA.out _).mono ?_
      rintro e w1 ⟨rfl, hb1⟩
      go_wp2_with fail
      refine (HB.out _).mono ?_
      rintro e w2 ⟨rfl, hb2⟩
      have hB2 := bel_chain hb1 hb2
      go_wp2_with fail
      refine (HSP.out _).mono ?_
      rintro e w3 ⟨rfl, hb3⟩
      have hB3 := bel_chain hB2 hb3
      go_wp2_with fail
      refine (split_any b _ (by omega)).mono ?_
      rintro e w4 ⟨rfl, hb4⟩
      have hB4 := bel_chain hB3 hb4
      go_wp2_with fail
      refine (compare_any a.natAbs b.natAbs _ (by omega) (by omega)).mono ?_
      rintro e w5 ⟨rfl, rfl⟩
      go_wp2_with fail
      go_ret
      exact ⟨by rw [HC.out]; rfl, hB4⟩
  · have hbb : (s1 == s2) = false := by rw [beq_eq_false_iff_ne]; exact hs
    by_cases hlt : s1 < s2
    · have HC := Lib.hid (cmpZ_lt (a := a) (b := b) (by rw [hs1, hs2]; exact hlt))
      clear hs1 hs2 hs
      go_enter Tryd.func17, Tryd.ntmps17
      go_wp2_with fail
      refine (HA.out _).mono ?_
      rintro e w1 ⟨rfl, hb1⟩
      go_wp2_with fail
      refine (HB.out _).mono ?_
      rintro e w2 ⟨rfl, hb2⟩
      go_wp2_with fail
      go_ret
      exact ⟨by rw [HC.out]; rfl, bel_chain hb1 hb2⟩
    · have HC := Lib.hid (cmpZ_gt (a := a) (b := b) (by rw [hs1, hs2]; omega))
      clear hs1 hs2 hs
      go_enter Tryd.func17, Tryd.ntmps17
      go_wp2_with fail
      refine (HA.out _).mono ?_
      rintro e w1 ⟨rfl, hb1⟩
      go_wp2_with fail
      refine (HB.out _).mono ?_
      rintro e w2 ⟨rfl, hb2⟩
      go_wp2_with fail
      go_ret
      exact ⟨by rw [HC.out]; rfl, bel_chain hb1 hb2⟩
/-- whole.Small. -/
theorem wsmall_any (z : Int) (w : World) (hamb : Amb w) (hz : nz z ≤ 1000000) :
    Calls Tryd.prog 13 #[.string (itx z)] w (SmallRes (SmallV z) w) := by
  have hsz : (itx z).size ≤ 1000001 := Nat.le_trans (itx_size_le z) (by omega)
  have hp := parseI_itoa z
  rw [← itx_data] at hp
  by_cases h : -9223372036854775808 ≤ z ∧ z ≤ 9223372036854775807
  · rw [if_pos h] at hp
    have HP := Lib.hid hp
    have HS := Lib.hid (show SmallV z = .tuple #[.int .i64 z, .bool true] by unfold SmallV; rw [if_pos h])
    have HSZ := Lib.hid (show (itx z).size ≤ 9223372036854775806 by omega)
    clear hp h
    go_enter Tryd.func13, Tryd.ntmps13
    go_wp2_with fail
    refine (Tryd.strconv_ParseInt_10_at64_ok (itx z) HSZ.out z HP.out _).mono ?_
    rintro e w' ⟨rfl, hw⟩
    have hb : Below w.heap.size w w' := by
      rcases hw with rfl | ⟨t, rfl⟩
      · exact Below.refl _ _
      · exact bytes_below _ _ _
    clear hw
    go_wp2
    go_ret2
    exact ⟨by rw [HS.out]; rfl, hb⟩
  · rw [if_neg h] at hp
    have HP := Lib.hid hp
    have HS := Lib.hid (show SmallV z = .tuple #[.int .i64 0, .bool false] by unfold SmallV; rw [if_neg h])
    have HSZ := Lib.hid (show (itx z).size ≤ 281474976710656 by omega)
    obtain ⟨tp, p, hr⟩ := hamb.range
    have HR := Lib.hid hr
    clear hp h hr
    go_enter Tryd.func13, Tryd.ntmps13
    go_wp2_with fail
    refine (Tryd.strconv_ParseInt_10_at64_range_var (itx z) HSZ.out HP.out tp p _ HR.out).mono ?_
    rintro e w' ⟨N, rfl, hN, hcell, hb⟩
    have HC := Lib.hid hcell
    clear hcell
    go_wp2
    go_ret2
    exact ⟨by rw [HS.out]; rfl, hb⟩
end Go.Proofs.YtjglooeljdpadaaDoor
