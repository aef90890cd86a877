/- The walk of DivMod: for any two numbers of at most 1000000 digits. -/
import Derived.Test.YtebcmefbpfcgmaaGreatDoorDec3
import Derived.RegionCalls
namespace Go.Proofs.YtebcmefbpfcgmaaGreatDoor
open Go.RowKit

theorem bel_chain {w a b : World} (h : Below w.heap.size w a) (k : Below a.heap.size a b) : Below w.heap.size w b := h.trans (k.mono h.size)
theorem dec_zero_test {b : Nat} (h : b ≠ 0) : ((dec b).toList == [48]) = false := by
  rw [dec_toList]
  rw [beq_eq_false_iff_ne]
  intro e
  have : Lib.decDigits b = Lib.decDigits 0 := by rw [e, dd_small (by omega)]; rfl
  exact h (dd_inj this)
theorem dec_zero_same : ((dec 0).toList == [48]) = true := by rw [dec_toList, dd_small (by omega)]; rfl

set_option maxRecDepth 100000 in
set_option maxHeartbeats 1000000 in
theorem divmod_zero (a : Nat) (w : World) :
    Calls Tryz.prog 40 #[.string (dec a), .string (dec 0)] w (SmallRes (.tuple #[.string ⟨#[]⟩, .string ⟨#[]⟩, .int .i64 17]) w) := by
  have h0 := dec_zero_same
  go_enter Tryz.func40, Tryz.ntmps40
  go_wp2_with fail
  go_ret3
  exact ⟨rfl, Below.refl _ _⟩
set_option maxRecDepth 100000 in
set_option maxHeartbeats 1000000 in
theorem divmod_any (a b : Nat) (w : World) (hamb : Amb w) (hb0 : b ≠ 0) (ha : Lib.nDigits a ≤ 1000000) (hb : Lib.nDigits b ≤ 1000000) :
    Calls Tryz.prog 40 #[.string (dec a), .string (dec b)] w (SmallRes (.tuple #[.string (dec (a / b)), .string (dec (a % b)), .int .i64 0]) w) := by
  have h0 := dec_zero_test hb0
  by_cases h18 : Lib.nDigits a ≤ 18 ∧ Lib.nDigits b ≤ 18
  · have h1 := (nd_le_iff a 17).1 h18.1
    have h2 := (nd_le_iff b 17).1 h18.2
    have hq1 : a / b ≤ a := Nat.div_le_self a b
    have hr1 : a % b ≤ a := Nat.mod_le a b
    obtain ⟨q, hq⟩ : ∃ q, a / b = q := ⟨_, rfl⟩
    obtain ⟨r, hr⟩ : ∃ r, a % b = r := ⟨_, rfl⟩
    rw [hq] at hq1
    rw [hr] at hr1
    have hw1 : IntKind.u64.wrap ((a : Int) / (b : Int)) = (q : Int) := by
      rw [IntKind.wrap_u64, ← Int.natCast_ediv, hq]; omega
    have hw2 : (a : Int).tmod (b : Int) = (r : Int) := by
      rw [Int.tmod_eq_emod_of_nonneg (by omega), ← Int.natCast_emod, hr]
    have HQ := Lib.hid (fun w1 (h : Amb w1) => of_any q (by omega) w1 h)
    have HR := Lib.hid (fun w1 (h : Amb w1) => of_any r (by omega) w1 h)
    have hbp : (1 : Int) ≤ (b : Int) := by omega
    rw [hq, hr]
    clear hq1 hr1 hq hr
    have HW1 := Lib.hid hw1
    have HW2 := Lib.hid hw2
    clear hw1 hw2
    go_enter Tryz.func40, Tryz.ntmps40
    go_wp2_with fail
    refine (both_yes a b _ h18.1 h18.2).mono ?_
    rintro e w1 ⟨rfl, hb1⟩
    have hA1 := hamb.below hb1
    go_wp2_with fail
    have hw1 := HW1.out
    have hw2 := HW2.out
    go_region_with (first
      | ((with_reducible refine Calls.mono (HQ.out _ ?_) ?_); (focus (first | exact hA1.drewN 1 | exact (hA1.drewN 1).below hb3)); rintro e w2 ⟨rfl, hb2⟩)
      | ((with_reducible refine Calls.mono (HR.out _ ?_) ?_); (focus (first | exact hA1.drewN 1 | exact (hA1.drewN 1).below hb2)); rintro e w3 ⟨rfl, hb3⟩))
    go_wp2
    go_ret3
    exact ⟨rfl, bel_chain (bel_chain (bel_drewN hb1 1) hb2) hb3⟩
  · have hla := lims_len_nd a 1000000 ha (by omega)
    have hlb := lims_len_nd b 1000000 hb (by omega)
    have hlb0 : 0 < (lims b).length := by
      rcases Nat.eq_zero_or_pos (lims b).length with h | h
      · exact absurd (lims_ne_nil.1 (List.eq_nil_of_length_eq_zero h)) hb0
      · exact h
    go_enter Tryz.func40, Tryz.ntmps40
    go_wp2_with fail
    refine (both_no a b _ h18).mono ?_
    rintro e w1 ⟨rfl, hb1⟩
    go_wp2_with fail
    refine (cut_dec a _ (by omega)).mono ?_
    rintro e w2 ⟨g1, cap1, rfl, hg1, hp1, hb2⟩
    go_wp2_with fail
    refine (cut_dec b _ (by omega)).mono ?_
    rintro e w3 ⟨g2, cap2, rfl, hg2, hp2, hb3⟩
    have hp3 := hp1.below hb3 hp1.lt
    have hB3 := bel_chain (bel_chain hb1 hb2) hb3
    have hA3 := hamb.below hB3
    clear hb1 hb2 hb3 hg1 hg2 hp1
    go_wp2_with fail
    refine (pcmp_any _ _ _ _ _ _ a b _ hp3 hp2).mono ?_
    rintro e w4 ⟨rfl, hb4⟩
    have hp4 := hp3.below hb4 hp3.lt
    have hq4 := hp2.below hb4 hp2.lt
    have hB4 := bel_chain hB3 hb4
    have hA4 := hA3.below hb4
    clear hp3 hp2 hb4 hB3 hA3
    by_cases hlt : a < b
    · have hq : a / b = 0 := Nat.div_eq_of_lt hlt
      have hr : a % b = a := Nat.mod_eq_of_lt hlt
      rw [cmpI_lt hlt]
      have HQ := Lib.hid hq
      have HR := Lib.hid hr
      clear hq hr hlt
      go_wp2
      go_ret3
      refine ⟨?_, hB4⟩
      rw [HQ.out, HR.out, dec0]; rfl
    · have hcm : cmpI a b = 1 ∨ cmpI a b = 0 := by
        rcases Nat.lt_or_eq_of_le (Nat.le_of_not_lt hlt) with h | h
        · exact .inl (cmpI_gt h)
        · exact .inr (by rw [h, cmpI_eq])
      have hll := lims_len_mono (Nat.le_of_not_lt hlt)
      have hlq : (lims (a / b)).length ≤ 1000000 := Nat.le_trans (lims_len_mono (Nat.div_le_self a b)) hla
      have hlr : (lims (a % b)).length ≤ 1000000 := Nat.le_trans (lims_len_mono (Nat.mod_le a b)) hla
      have hnn : (cmpI a b < 0) = False := by rcases hcm with h | h <;> rw [h] <;> simp
      have hnn2 : ¬ cmpI a b < 0 := by rw [hnn]; exact id
      have hnd : decide (cmpI a b < 0) = false := decide_eq_false hnn2
      clear hcm hlt hnn
      generalize cmpI a b = cm at *
      by_cases h1 : (lims b).length = 1
      · have hc := hq4.cell 0 (by omega)
        have hbv : (lims b).getD 0 0 = b := by
          have h2 := lv_lims b
          obtain ⟨y, hy⟩ := List.length_eq_one_iff.1 h1
          rw [hy, lv_one] at h2
          rw [hy]; exact h2
        rw [hbv] at hc
        have hb9 : b < 1000000000 := by have := (lims_len_le b 1).1 (by omega); omega
        have hr9 : a % b < 18446744073709551616 := Nat.lt_of_lt_of_le (Nat.mod_lt a (Nat.pos_of_ne_zero hb0)) (by omega)
        have HR9 := Lib.hid hr9
        have hone : (((lims b).length : Int) == 1) = true := by rw [h1]; rfl
        have H1 := Lib.hid h1
        clear h1 hbv hr9
        go_wp2_with fail
        refine (small_any _ _ _ (lims a) b _ hp4 (Lims_lims a) (by omega) (Nat.pos_of_ne_zero hb0) (by omega)).mono ?_
        rintro e w5 ⟨g5, cap5, rfl, hg5, hp5, hb5⟩
        rw [lv_lims] at hp5 ⊢
        have hB5 := bel_chain hB4 hb5
        have hA5 := hA4.below hb5
        obtain ⟨q, hq⟩ : ∃ q, a / b = q := ⟨_, rfl⟩
        obtain ⟨r, hr⟩ : ∃ r, a % b = r := ⟨_, rfl⟩
        rw [hq] at hp5 hlq ⊢
        rw [hr] at HR9 ⊢
        have HQ := Lib.hid hq
        have HR := Lib.hid hr
        clear hq hr
        generalize hnq : (lims q).length = nq at *
        clear hnq
        go_wp2_with fail
        refine (text_any _ _ _ q _ hp5 (by omega)).mono ?_
        rintro e w6 ⟨rfl, hb6⟩
        have hB6 := bel_chain hB5 hb6
        have hA6 := hA5.below hb6
        go_wp2_with fail
        refine (of_any r HR9.out _ hA6).mono ?_
        rintro e w7 ⟨rfl, hb7⟩
        go_wp2
        go_ret3
        refine ⟨?_, bel_chain hB6 hb7⟩
        rw [HQ.out, HR.out]; rfl
      · have hone : (((lims b).length : Int) == 1) = false := by simp; omega
        go_wp2_with fail
        refine (divide_any _ _ _ _ _ _ a b _ hp4 hq4 (by omega) hll (by omega)).mono ?_
        rintro e w5 ⟨g5, cap5, g6, cap6, rfl, hp5, hp6, hb5, hg5, hg6⟩
        have hB5 := bel_chain hB4 hb5
        obtain ⟨q, hq⟩ : ∃ q, a / b = q := ⟨_, rfl⟩
        obtain ⟨r, hr⟩ : ∃ r, a % b = r := ⟨_, rfl⟩
        rw [hq] at hp5 hlq ⊢
        rw [hr] at hp6 hlr ⊢
        have HQ := Lib.hid hq
        have HR := Lib.hid hr
        clear hq hr
        generalize hnq : (lims q).length = nq at *
        generalize hnr : (lims r).length = nr at *
        clear hnq hnr
        go_wp2_with fail
        refine (text_any _ _ _ q _ hp5 (by omega)).mono ?_
        rintro e w6 ⟨rfl, hb6⟩
        have hp7 := hp6.below hb6 hp6.lt
        go_wp2_with fail
        refine (text_any _ _ _ r _ hp7 (by omega)).mono ?_
        rintro e w7 ⟨rfl, hb7⟩
        go_wp2
        go_ret3
        refine ⟨?_, bel_chain (bel_chain hB5 hb6) hb7⟩
        rw [HQ.out, HR.out]; rfl
end Go.Proofs.YtebcmefbpfcgmaaGreatDoor
