/- The walks of the program's integers: Add, Sub, Mul. -/
import Derived.Test.YtebcmefbpfcgmaaGreatDoorW1
namespace Go.Proofs.YtebcmefbpfcgmaaGreatDoor
open Go.RowKit Go.PlainAid

theorem short_bd {z : Int} {m : Nat} (h : (itx z).size ≤ m + 1) : -(10 ^ (m + 1) : Int) < z ∧ z < 10 ^ (m + 1) := by
  have h1 := (nz_le_iff z m).1 (Nat.le_trans (itx_size_ge z) h)
  have h2 : ((z.natAbs : Nat) : Int) < ((10 ^ (m + 1) : Nat) : Int) := by omega
  rw [Int.natCast_pow] at h2
  have h3 : ((10 : Nat) : Int) = 10 := rfl
  rw [h3] at h2
  omega
theorem short18 {z : Int} (h : (itx z).size ≤ 18) : -1000000000000000000 < z ∧ z < 1000000000000000000 := by
  have h1 := (nz_le_iff z 17).1 (Nat.le_trans (itx_size_ge z) h)
  have : (10 : Nat) ^ (17 + 1) = 1000000000000000000 := by decide
  omega
theorem short9 {z : Int} (h : (itx z).size ≤ 9) : -1000000000 < z ∧ z < 1000000000 := by
  have h1 := (nz_le_iff z 8).1 (Nat.le_trans (itx_size_ge z) h)
  have : (10 : Nat) ^ (8 + 1) = 1000000000 := by decide
  omega
/-- What little says of two integers that are not both short. -/
theorem little_two (a b : Int) (m : Int) (hm : m ≤ 18) (h : ¬ (((itx a).size : Int) ≤ m ∧ ((itx b).size : Int) ≤ m)) :
    ∃ (va : Int) (fa : Bool), (∀ w1, Calls Tryz.prog 29 #[.string (itx a), .int .i64 m] w1 (SmallRes (.tuple #[.int .i64 va, .bool fa]) w1)) ∧ (fa = true → m < ((itx b).size : Int)) := by
  by_cases ha : ((itx a).size : Int) ≤ m
  · exact ⟨a, true, fun w1 => little_yes a m w1 ha hm, fun _ => by
      rcases Int.lt_or_le m ((itx b).size : Int) with h1 | h1
      · exact h1
      · exact absurd ⟨ha, h1⟩ h⟩
  · exact ⟨0, false, fun w1 => little_no a m w1 (by omega), fun h => by cases h⟩
theorem sum_same {a b : Int} (h : decide (a < 0) = decide (b < 0)) : (if decide (a < 0) = true then -((a.natAbs + b.natAbs : Nat) : Int) else ((a.natAbs + b.natAbs : Nat) : Int)) = a + b := by
  rw [decide_eq_decide] at h
  by_cases ha : a < 0
  · have := h.1 ha; simp [ha]; omega
  · have : ¬ b < 0 := fun h' => ha (h.2 h'); simp [ha]; omega
theorem sum_diff {a b : Int} (h : ¬ decide (a < 0) = decide (b < 0)) (hlt : b.natAbs ≤ a.natAbs) : (if decide (a < 0) = true then -((a.natAbs - b.natAbs : Nat) : Int) else ((a.natAbs - b.natAbs : Nat) : Int)) = a + b := by
  by_cases ha : a < 0 <;> by_cases hb : b < 0
  · simp [ha, hb] at h
  · simp [ha]; omega
  · simp [ha]; omega
  · simp [ha, hb] at h

set_option maxRecDepth 100000 in
set_option maxHeartbeats 1000000 in
/-- whole.Add. -/
theorem wadd_any (a b : Int) (w : World) (hamb : Amb w) (ha : nz a ≤ 1000000) (hb : nz b ≤ 1000000) :
    Calls Tryz.prog 8 #[.string (itx a), .string (itx b)] w (SmallRes (.string (itx (a + b))) w) := by
  by_cases hs : ((itx a).size : Int) ≤ 18 ∧ ((itx b).size : Int) ≤ 18
  · obtain ⟨hsa, hsb⟩ := hs
    have h1 := short18 (z := a) (by omega)
    have h2 := short18 (z := b) (by omega)
    go_enter Tryz.func8, Tryz.ntmps8
    go_wp2_with fail
    refine (little_yes a 18 _ hsa (by omega)).mono ?_
    rintro e w1 ⟨rfl, hb1⟩
    go_wp2_with fail
    refine (little_yes b 18 _ hsb (by omega)).mono ?_
    rintro e w2 ⟨rfl, hb2⟩
    have hB2 := bel_chain hb1 hb2
    go_wp2_with fail
    refine (wof_any (a + b) _ (hamb.below hB2) (by omega) (by omega)).mono ?_
    rintro e w3 ⟨rfl, hb3⟩
    go_wp2_with fail
    go_ret
    exact ⟨rfl, bel_chain hB2 hb3⟩
  · obtain ⟨va, fa, hla, hfl⟩ := little_two a b 18 (by omega) hs
    have HLA := Lib.hid hla
    have HFL := Lib.hid hfl
    have hnd := nd_mono (Nat.le_refl (a.natAbs + b.natAbs))
    have hsm : Lib.nDigits (a.natAbs + b.natAbs) ≤ 1000000000 := by
      have e1 := (nz_le_iff a 999999).1 ha
      have e2 := (nz_le_iff b 999999).1 hb
      refine Nat.le_trans ((nd_le_iff (a.natAbs + b.natAbs) 1000000).2 ?_) (by omega)
      obtain ⟨K, hK⟩ : ∃ K, 999999 + 1 = K := ⟨_, rfl⟩
      rw [hK] at e1 e2
      rw [show 1000000 + 1 = K + 1 by omega, Nat.pow_succ]
      omega
    have hA : Lib.nDigits a.natAbs ≤ 1000000 := ha
    have hB : Lib.nDigits b.natAbs ≤ 1000000 := hb
    clear hla hfl hs hnd
    go_enter Tryz.func8, Tryz.ntmps8
    go_wp2_with fail
    refine (HLA.out _).mono ?_
    rintro e w1 ⟨rfl, hb1⟩
    go_upto_if 20 with fail
    go_cut [4] (fun s4 wx => s4 = .string ⟨#[]⟩ ∧ Below w.heap.size w wx)
    case first =>
      cases fa with
      | true =>
        have hlt := HFL.out rfl
        go_wp2_with fail
        refine (little_no b 18 _ hlt).mono ?_
        rintro e w2 ⟨rfl, hb2⟩
        go_wp2_with fail
        go_meet
        exact ⟨rfl, bel_chain hb1 hb2⟩
      | false =>
        go_wp2_with fail
        go_meet
        exact ⟨rfl, hb1⟩
    case rest =>
      obtain ⟨rfl, hb0⟩ := hcut
      clear HLA HFL hb1
      go_wp2_with fail
      refine (split_any a _ (by omega)).mono ?_
      rintro e w2 ⟨rfl, hb2⟩
      go_wp2_with fail
      refine (split_any b _ (by omega)).mono ?_
      rintro e w3 ⟨rfl, hb3⟩
      have hB3 := bel_chain (bel_chain hb0 hb2) hb3
      have hA3 := hamb.below hB3
      clear hb2 hb3 hb0
      by_cases hsg : decide (a < 0) = decide (b < 0)
      · have HR := Lib.hid (sum_same hsg)
        rw [← hsg]
        clear hsg
        generalize decide (a < 0) = n at *
        go_wp2_with fail
        refine (add_any a.natAbs b.natAbs _ hA3 hA hB).mono ?_
        rintro e w4 ⟨rfl, hb4⟩
        go_wp2_with fail
        refine (join_any n (a.natAbs + b.natAbs) _ hsm).mono ?_
        rintro e w5 ⟨rfl, hb5⟩
        rw [HR.out]
        go_wp2_with fail
        go_ret
        exact ⟨rfl, bel_chain (bel_chain hB3 hb4) hb5⟩
      · have hne : (decide (a < 0) == decide (b < 0)) = false := by rw [beq_eq_false_iff_ne]; exact hsg
        by_cases hlt : a.natAbs < b.natAbs
        · have hcm := Lib.hid (cmpI_lt hlt)
          have HR := Lib.hid (sum_diff (a := b) (b := a) (fun h => hsg h.symm) (by omega))
          have hsd : Lib.nDigits (b.natAbs - a.natAbs) ≤ 1000000000 := Nat.le_trans (nd_mono (Nat.sub_le _ _)) (by omega)
          clear hsg
          generalize decide (a < 0) = n at *
          generalize decide (b < 0) = m at *
          go_wp2_with fail
          refine (compare_any a.natAbs b.natAbs _ (by omega) (by omega)).mono ?_
          rintro e w4 ⟨rfl, rfl⟩
          rw [hcm.out]
          go_wp2_with fail
          refine (sub_any b.natAbs a.natAbs _ hA3 (by omega) hB hA).mono ?_
          rintro e w5 ⟨rfl, hb5⟩
          go_wp2_with fail
          refine (join_any m (b.natAbs - a.natAbs) _ hsd).mono ?_
          rintro e w6 ⟨rfl, hb6⟩
          rw [HR.out, Int.add_comm b a]
          go_wp2_with fail
          go_ret
          exact ⟨rfl, bel_chain (bel_chain hB3 hb5) hb6⟩
        · have hcm := Lib.hid (show 0 ≤ cmpI a.natAbs b.natAbs by rcases Nat.lt_or_eq_of_le (Nat.le_of_not_lt hlt) with h | h; (rw [cmpI_gt h]; decide); (rw [h, cmpI_eq]; decide))
          have HR := Lib.hid (sum_diff hsg (Nat.le_of_not_lt hlt))
          have hsd : Lib.nDigits (a.natAbs - b.natAbs) ≤ 1000000000 := Nat.le_trans (nd_mono (Nat.sub_le _ _)) (by omega)
          have hge : b.natAbs ≤ a.natAbs := Nat.le_of_not_lt hlt
          clear hsg
          generalize decide (a < 0) = n at *
          generalize decide (b < 0) = m at *
          go_wp2_with fail
          refine (compare_any a.natAbs b.natAbs _ (by omega) (by omega)).mono ?_
          rintro e w4 ⟨rfl, rfl⟩
          have hcm2 := hcm.out
          generalize cmpI a.natAbs b.natAbs = cm at *
          go_wp2_with fail
          refine (sub_any a.natAbs b.natAbs _ hA3 hge hA hB).mono ?_
          rintro e w5 ⟨rfl, hb5⟩
          go_wp2_with fail
          refine (join_any n (a.natAbs - b.natAbs) _ hsd).mono ?_
          rintro e w6 ⟨rfl, hb6⟩
          rw [HR.out]
          go_wp2_with fail
          go_ret
          exact ⟨rfl, bel_chain (bel_chain hB3 hb5) hb6⟩

/-- whole.Sub. -/
theorem wsub_any (a b : Int) (w : World) (hamb : Amb w) (ha : nz a ≤ 1000000) (hb : nz b ≤ 1000000) :
    Calls Tryz.prog 9 #[.string (itx a), .string (itx b)] w (SmallRes (.string (itx (a - b))) w) := by
  go_enter Tryz.func9, Tryz.ntmps9
  go_wp2_with fail
  refine (neg_any b _ (by omega)).mono ?_
  rintro e w1 ⟨rfl, hb1⟩
  go_wp2_with fail
  refine (wadd_any a (-b) _ (hamb.below hb1) ha (by rw [nz_neg]; exact hb)).mono ?_
  rintro e w2 ⟨rfl, hb2⟩
  go_wp2_with fail
  go_ret
  exact ⟨by rw [Int.sub_eq_add_neg]; rfl, bel_chain hb1 hb2⟩

theorem mul_sign (a b : Int) : (if (!(decide (a < 0) == decide (b < 0))) = true then -((a.natAbs * b.natAbs : Nat) : Int) else ((a.natAbs * b.natAbs : Nat) : Int)) = a * b := by
  rw [Int.natCast_mul]
  by_cases ha : a < 0 <;> by_cases hb : b < 0
  · have e1 : (a.natAbs : Int) = -a := by omega
    have e2 : (b.natAbs : Int) = -b := by omega
    simp [ha, hb]; rw [e1, e2, Int.neg_mul_neg]
  · have e1 : (a.natAbs : Int) = -a := by omega
    have e2 : (b.natAbs : Int) = b := by omega
    simp [ha, hb]; rw [e1, e2, Int.neg_mul, Int.neg_neg]
  · have e1 : (a.natAbs : Int) = a := by omega
    have e2 : (b.natAbs : Int) = -b := by omega
    simp [ha, hb]; rw [e1, e2, Int.mul_neg, Int.neg_neg]
  · have e1 : (a.natAbs : Int) = a := by omega
    have e2 : (b.natAbs : Int) = b := by omega
    simp [ha, hb]; rw [e1, e2]
set_option maxRecDepth 100000 in
set_option maxHeartbeats 1000000 in
/-- whole.Mul. -/
theorem wmul_any (a b : Int) (w : World) (hamb : Amb w) (ha : nz a ≤ 1000000) (hb : nz b ≤ 1000000) :
    Calls Tryz.prog 43 #[.string (itx a), .string (itx b)] w (SmallRes (.string (itx (a * b))) w) := by
  by_cases hs : ((itx a).size : Int) ≤ 9 ∧ ((itx b).size : Int) ≤ 9
  · obtain ⟨hsa, hsb⟩ := hs
    have h1 := short9 (z := a) (by omega)
    have h2 := short9 (z := b) (by omega)
    have h3 : (a * b).natAbs ≤ 999999999 * 999999999 := by rw [Int.natAbs_mul]; exact Nat.mul_le_mul (by omega) (by omega)
    have h4 : -999999998000000001 ≤ a * b := by omega
    have h5 : a * b ≤ 999999998000000001 := by omega
    have HOF := Lib.hid (fun w1 (h : Amb w1) => wof_any (a * b) w1 h (by omega) (by omega))
    clear h3
    go_enter Tryz.func43, Tryz.ntmps43
    go_wp2_with fail
    refine (little_yes a 9 _ hsa (by omega)).mono ?_
    rintro e w1 ⟨rfl, hb1⟩
    go_wp2_with fail
    refine (little_yes b 9 _ hsb (by omega)).mono ?_
    rintro e w2 ⟨rfl, hb2⟩
    have hB2 := bel_chain hb1 hb2
    go_wp2_with fail
    refine (HOF.out _ (hamb.below hB2)).mono ?_
    rintro e w3 ⟨rfl, hb3⟩
    go_wp2_with fail
    go_ret
    exact ⟨rfl, bel_chain hB2 hb3⟩
  · obtain ⟨va, fa, hla, hfl⟩ := little_two a b 9 (by omega) hs
    have HLA := Lib.hid hla
    have HFL := Lib.hid hfl
    have hA : Lib.nDigits a.natAbs ≤ 1000000 := ha
    have hB : Lib.nDigits b.natAbs ≤ 1000000 := hb
    have hsm : Lib.nDigits (a.natAbs * b.natAbs) ≤ 1000000000 := by
      have := nz_mul a b
      unfold nz at this
      rw [Int.natAbs_mul] at this
      omega
    have HR := Lib.hid (mul_sign a b)
    clear hla hfl hs
    go_enter Tryz.func43, Tryz.ntmps43
    go_wp2_with fail
    refine (HLA.out _).mono ?_
    rintro e w1 ⟨rfl, hb1⟩
    go_upto_if 18 with fail
    go_cut [4] (fun s4 wx => s4 = .string ⟨#[]⟩ ∧ Below w.heap.size w wx)
    case first =>
      cases fa with
      | true =>
        have hlt := HFL.out rfl
        go_wp2_with fail
        refine (little_no b 9 _ hlt).mono ?_
        rintro e w2 ⟨rfl, hb2⟩
        go_wp2_with fail
        go_meet
        exact ⟨rfl, bel_chain hb1 hb2⟩
      | false =>
        go_wp2_with fail
        go_meet
        exact ⟨rfl, hb1⟩
    case rest =>
      obtain ⟨rfl, hb0⟩ := hcut
      clear HLA HFL hb1
      go_wp2_with fail
      refine (split_any a _ (by omega)).mono ?_
      rintro e w2 ⟨rfl, hb2⟩
      go_wp2_with fail
      refine (split_any b _ (by omega)).mono ?_
      rintro e w3 ⟨rfl, hb3⟩
      have hB3 := bel_chain (bel_chain hb0 hb2) hb3
      have hA3 := hamb.below hB3
      clear hb2 hb3 hb0
      go_wp2_with fail
      refine (mul_any a.natAbs b.natAbs _ hA3 hA hB).mono ?_
      rintro e w4 ⟨rfl, hb4⟩
      go_wp2_with fail
      refine (join_any _ (a.natAbs * b.natAbs) _ hsm).mono ?_
      rintro e w5 ⟨rfl, hb5⟩
      rw [HR.out]
      go_wp2_with fail
      go_ret
      exact ⟨rfl, bel_chain (bel_chain hB3 hb4) hb5⟩
end Go.Proofs.YtebcmefbpfcgmaaGreatDoor
