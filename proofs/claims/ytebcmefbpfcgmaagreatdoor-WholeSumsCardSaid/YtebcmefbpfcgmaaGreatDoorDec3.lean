/- The walks of Sub and Mul: for any two numbers of at most 1000000 digits. -/
import Derived.Test.YtebcmefbpfcgmaaGreatDoorDec2
namespace Go.Proofs.YtebcmefbpfcgmaaGreatDoor
open Go.RowKit

theorem sub_plain {a b : Nat} (h : b ≤ a) {c bo : Nat} {zs : List Nat} (hb : TakeAt (lims a ++ [0]) (lims b ++ List.replicate ((lims a).length - (lims b).length) 0) 1 0 ((lims b ++ List.replicate ((lims a).length - (lims b).length) 0).length + 1) c bo zs) (hc : c = 0) :
    trimL zs = lims (a - b) := by
  have hf := hb.finish hc
  have hbl := hb.borrow
  have hll := lims_len_mono h
  have hl : (lims b ++ List.replicate ((lims a).length - (lims b).length) 0).length = (lims a).length := by rw [List.length_append, List.length_replicate]; omega
  have hz := hb.len
  rw [List.length_append, List.length_singleton] at hz
  have hzl := lv_lt zs hb.lims
  rw [hz] at hzl
  rw [hl, Nat.zero_add, List.take_of_length_le (by omega), List.take_of_length_le (by simp), lv_snoc, lv_append, lv_zeros, lv_lims, lv_lims] at hf
  simp only [Nat.mul_zero, Nat.add_zero, Nat.pow_zero, Nat.mul_one, Nat.one_mul] at hf
  have hc : bo = 0 := by
    rcases Nat.eq_zero_or_pos bo with h | h
    · exact h
    · have : bo = 1 := by omega
      subst this
      omega
  rw [hc] at hf
  rw [trimL_eq zs hb.lims]
  congr 1
  omega

theorem lims_mul_le (a b : Nat) : (lims (a * b)).length ≤ (lims a).length + (lims b).length := by
  rw [lims_len_le, Nat.pow_add]
  exact Nat.mul_lt_mul'' ((lims_len_le a _).1 (Nat.le_refl _)) ((lims_len_le b _).1 (Nat.le_refl _))
set_option maxRecDepth 100000 in
set_option maxHeartbeats 1000000 in
/-- decimal.Sub: a lesser minuend. -/
theorem sub_less (a b : Nat) (w : World) (hlt : a < b) (ha : Lib.nDigits a ≤ 1000000) (hb : Lib.nDigits b ≤ 1000000) :
    Calls Tryz.prog 35 #[.string (dec a), .string (dec b)] w (SmallRes (.tuple #[.string ⟨#[]⟩, .int .i64 3]) w) := by
  have HC := Lib.hid (cmpI_lt hlt)
  go_enter Tryz.func35, Tryz.ntmps35
  go_wp2_with fail
  refine (compare_any a b _ (by omega) (by omega)).mono ?_
  rintro e w1 ⟨rfl, rfl⟩
  rw [HC.out]
  go_wp2_with fail
  go_ret2
  exact ⟨rfl, Below.refl _ _⟩
set_option maxRecDepth 100000 in
set_option maxHeartbeats 1000000 in
theorem sub_any (a b : Nat) (w : World) (hamb : Amb w) (hge : b ≤ a) (ha : Lib.nDigits a ≤ 1000000) (hb : Lib.nDigits b ≤ 1000000) :
    Calls Tryz.prog 35 #[.string (dec a), .string (dec b)] w (SmallRes (.tuple #[.string (dec (a - b)), .int .i64 0]) w) := by
  have hcm : cmpI a b = 1 ∨ cmpI a b = 0 := by
    rcases Nat.lt_or_eq_of_le hge with h | h
    · exact .inl (cmpI_gt h)
    · exact .inr (by rw [h, cmpI_eq])
  have HCM := Lib.hid hcm
  clear hcm
  by_cases h18 : Lib.nDigits a ≤ 18 ∧ Lib.nDigits b ≤ 18
  · have h1 := (nd_le_iff a 17).1 h18.1
    have h2 := (nd_le_iff b 17).1 h18.2
    go_enter Tryz.func35, Tryz.ntmps35
    go_wp2_with fail
    refine (compare_any a b _ (by omega) (by omega)).mono ?_
    rintro e w1 ⟨rfl, rfl⟩
    rcases HCM.out with hc | hc
    all_goals
      rw [hc]
      clear hc
      go_wp2_with fail
      refine (both_yes a b _ h18.1 h18.2).mono ?_
      rintro e w1 ⟨rfl, hb1⟩
      have hof := of_any (a - b) (by omega) w1 (hamb.below hb1)
      rw [show ((a - b : Nat) : Int) = (a : Int) - (b : Int) by omega] at hof
      go_wp2_with fail
      refine hof.mono ?_
      rintro e w2 ⟨rfl, hb2⟩
      go_wp2
      go_ret2
      exact ⟨rfl, hb1.trans (hb2.mono hb1.size)⟩
  · have hll := lims_len_mono hge
    have hla := lims_len_nd a 1000000 ha (by omega)
    have hlb := lims_len_nd b 1000000 hb (by omega)
    obtain ⟨d, hd⟩ : ∃ d, (lims a).length - (lims b).length = d := ⟨_, rfl⟩
    have hd2 : ((lims a).length : Int) - ((lims b).length : Int) = (d : Int) := by omega
    have hpl : ∀ c bo zs, TakeAt (lims a ++ [0]) (lims b ++ List.replicate d 0) 1 0 ((lims b ++ List.replicate d 0).length + 1) c bo zs → c = 0 → trimL zs = lims (a - b) := by
      rw [← hd]; exact fun c bo zs h hc => sub_plain hge h hc
    have HPL := Lib.hid hpl
    have HD := Lib.hid hd
    have hx0 : Lims (lims a ++ [0]) := Lims_append.2 ⟨Lims_lims a, by intro x hx; rw [List.mem_singleton.1 hx]; omega⟩
    have hy0 : Lims (lims b ++ List.replicate d 0) := Lims_append.2 ⟨Lims_lims b, by intro x hx; rw [List.eq_of_mem_replicate hx]; omega⟩
    have HX := Lib.hid hx0
    have HY := Lib.hid hy0
    clear hd hx0 hy0 hpl
    go_enter Tryz.func35, Tryz.ntmps35
    go_wp2_with fail
    refine (compare_any a b _ (by omega) (by omega)).mono ?_
    rintro e w1 ⟨rfl, rfl⟩
    rcases HCM.out with hc | hc
    all_goals
      rw [hc]
      clear hc
      go_wp2_with fail
      refine (both_no a b _ h18).mono ?_
      rintro e w1 ⟨rfl, hb1⟩
      go_wp2_with fail
      refine (cut_dec a _ (by omega)).mono ?_
      rintro e w2 ⟨g1, cap1, rfl, hg1, hp1, hb2⟩
      have hs1 := hb1.size
      have hB2 := hb1.trans (hb2.mono hs1)
      have hs2 := hB2.size
      have hone := Pc.one w2 0
      have hal := hp1.alloc (.cells #[.int .u64 (0 : Int)] 70)
      go_wp2_with (at_builtin; refine append_Pc rfl _ _ 75 rfl Tryz.underlying75 g1 (lims a).length cap1 (lims a) rfl hal w2.heap.size 1 1 [0] rfl hone (by omega) ?_; intro g4 cap4 w4 hq4 hon4 hat4)
      have hs3' : (w2.alloc (.cells #[.int .u64 (0 : Int)] 70)).heap.size = w2.heap.size + 1 := by simp
      have hB4 : Below w.heap.size w w4 := bel_only (hB2.alloc hs2 _) hon4 (by omega) (by omega)
      have hs4 := hB4.size
      have hg4 : w.heap.size ≤ g4 := by rcases hat4 with h | h <;> omega
      clear hal hone hat4 hon4 hB2 hs2 hp1 hb1 hb2
      refine (cut_dec b _ (by omega)).mono ?_
      rintro e w5 ⟨g2, cap2, rfl, hg2, hp2, hb5⟩
      have hB5 := hB4.trans (hb5.mono hs4)
      have hs5 := hB5.size
      have hq5 := hq4.below hb5 hq4.lt
      have hne5 : g4 ≠ g2 := by have := hq4.lt; omega
      clear hq4 hb5
      go_wp2_with fail
      refine (cut_dec b _ (by omega)).mono ?_
      rintro e w6 ⟨g3, cap3, rfl, hg3, hp3, hb6⟩
      have hB6 := hB5.trans (hb6.mono hs5)
      have hs6 := hB6.size
      have hq6 := hq5.below hb6 hq5.lt
      have hp6 := hp2.below hb6 hp2.lt
      have hg2' : w.heap.size ≤ g2 := by omega
      clear hq5 hp2 hb6 hp3 hB5 hB4
      go_wp2_with (at_builtin; refine append_zeros rfl _ _ 75 3 .i64 rfl Tryz.underlying75 Tryz.underlying3 g2 (lims b).length cap2 (lims b) rfl hp6 .i64 d rfl (by omega) ?_; intro g7 cap7 w7 hq7 hon7 hat7)
      have hB7 : Below w.heap.size w w7 := bel_only hB6 hon7 hg2' hs6
      have hs7 := hB7.size
      have hr7 := hon7.Pc hq6 hne5
      have hlt4 := hq6.lt
      have hne7 : g7 ≠ g4 := by rcases hat7 with h | h <;> omega
      have hal2 : (lims a).length = (lims b).length + d := by have := HD.out; omega
      have HAL := Lib.hid hal2
      clear hq6 hp6 hon7 hat7 hB6 hal2
      refine (take_any g4 ((lims a).length + 1) cap4 (lims a ++ [0]) g7 ((lims b).length + d) cap7 (lims b ++ List.replicate d 0) 1 0 _ hr7 hq7 hne7 (by have := HAL.out; omega) HX.out HY.out (by omega)).mono ?_
      rintro e w8 ⟨hon8, c8, bo, zs, rfl, hTk, hc8, hPz⟩
      have hB8 : Below w.heap.size w w8 := bel_only hB7 hon8 hg4 hs7
      have htr := HPL.out c8 bo zs hTk hc8
      have HTR := Lib.hid htr
      clear htr hTk hc8
      go_wp2_with fail
      refine (trim_any _ _ _ zs _ hPz).mono ?_
      rintro e w' ⟨rfl, rfl⟩
      have hPt := hPz.take (trimL zs).length (by rw [trimL_take zs, List.length_take, hPz.len]; omega)
      rw [← trimL_take zs] at hPt
      have htl : (trimL zs).length ≤ (lims a).length + 1 := by rw [trimL_take zs, List.length_take, hPz.len]; omega
      rw [HTR.out] at hPt htl ⊢
      generalize hnr : (lims (a - b)).length = nr at *
      clear hnr
      go_wp2_with fail
      refine (text_any _ _ _ (a - b) _ hPt (by omega)).mono ?_
      rintro e w9 ⟨rfl, hB9⟩
      go_wp2
      go_ret2
      exact ⟨rfl, hB8.trans (hB9.mono hB8.size)⟩

set_option maxRecDepth 100000 in
set_option maxHeartbeats 1000000 in
/-- decimal.Mul. -/
theorem mul_any (a b : Nat) (w : World) (hamb : Amb w) (ha : Lib.nDigits a ≤ 1000000) (hb : Lib.nDigits b ≤ 1000000) :
    Calls Tryz.prog 66 #[.string (dec a), .string (dec b)] w (StrPost (dec (a * b)) w) := by
  have hsa : (dec a).size = Lib.nDigits a := dec_size a
  have hsb : (dec b).size = Lib.nDigits b := dec_size b
  have HSA := Lib.hid hsa
  have HSB := Lib.hid hsb
  by_cases h18 : (dec a).size + (dec b).size ≤ 18
  · have hpa := Lib.nDigits_pos a
    have hpb := Lib.nDigits_pos b
    have h1 := Lib.lt_pow_nDigits a
    have h2 := Lib.lt_pow_nDigits b
    have h3 : 10 ^ Lib.nDigits a * 10 ^ Lib.nDigits b ≤ 10 ^ 18 := by rw [← Nat.pow_add]; exact Nat.pow_le_pow_right (by decide) (by omega)
    have h4 : a * b < 10 ^ Lib.nDigits a * 10 ^ Lib.nDigits b := Nat.mul_lt_mul'' h1 h2
    have h5 : a * b < 1000000000000000000 := by have : (10 : Nat) ^ 18 = 1000000000000000000 := by decide
                                                omega
    have hnn : (0 : Int) ≤ (a : Int) * (b : Int) := Int.mul_nonneg (by omega) (by omega)
    have h6 : (a : Int) * (b : Int) ≤ 999999999999999999 := by
      have h2 : ((a * b : Nat) : Int) ≤ 999999999999999999 := by omega
      rwa [Int.natCast_mul] at h2
    have HOF := Lib.hid (fun w1 (h : Amb w1) => of_any (a * b) (by omega) w1 h)
    have h7 : Lib.nDigits a ≤ 18 := by omega
    have h8 : Lib.nDigits b ≤ 18 := by omega
    clear h1 h2 h3 h4 h5 hsa hsb
    go_enter Tryz.func66, Tryz.ntmps66
    go_wp2_with fail
    refine (both_yes a b _ h7 h8).mono ?_
    rintro e w1 ⟨rfl, hb1⟩
    have hof := HOF.out w1 (hamb.below hb1)
    rw [Int.natCast_mul] at hof
    go_wp2_with fail
    refine hof.mono ?_
    rintro e w2 ⟨rfl, hb2⟩
    go_wp2
    go_ret
    exact ⟨rfl, hb1.trans (hb2.mono hb1.size)⟩
  · have hla := lims_len_nd a 1000000 ha (by omega)
    have hlb := lims_len_nd b 1000000 hb (by omega)
    have hs1 : (dec a).size ≤ 1000000 := by omega
    have hs2 : (dec b).size ≤ 1000000 := by omega
    have hlr : (lims (a * b)).length ≤ 2000000 := by have := lims_mul_le a b; omega
    clear hsa hsb
    go_enter Tryz.func66, Tryz.ntmps66
    go_wp2_with fail
    refine (cut_dec a _ (by omega)).mono ?_
    rintro e w2 ⟨g1, cap1, rfl, hg1, hp1, hb2⟩
    go_wp2_with fail
    refine (cut_dec b _ (by omega)).mono ?_
    rintro e w3 ⟨g2, cap2, rfl, hg2, hp2, hb3⟩
    have hB3 := hb2.trans (hb3.mono hb2.size)
    have hp3 := hp1.below hb3 hp1.lt
    go_wp2_with fail
    refine (times_any _ _ _ _ _ _ _ _ _ hp3 hp2 (Lims_lims a) (Lims_lims b) (by omega)).mono ?_
    rintro e w4 ⟨g4, cap4, rfl, hg4, hp4, hb4⟩
    rw [lv_lims, lv_lims] at hp4 ⊢
    have hB4 := hB3.trans (hb4.mono hB3.size)
    generalize hnr : (lims (a * b)).length = nr at *
    clear hnr
    go_wp2_with fail
    refine (text_any _ _ _ (a * b) _ hp4 (by omega)).mono ?_
    rintro e w9 ⟨rfl, hB9⟩
    go_wp2
    go_ret
    exact ⟨rfl, hB4.trans (hB9.mono hB4.size)⟩
end Go.Proofs.YtebcmefbpfcgmaaGreatDoor
