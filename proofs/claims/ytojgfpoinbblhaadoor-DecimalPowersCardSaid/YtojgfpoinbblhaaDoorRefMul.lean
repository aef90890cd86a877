/- The walk of the first chapter's reference Mul. -/
import Derived.Test.YtojgfpoinbblhaaDoorRefLimbs
import Derived.Test.YtojgfpoinbblhaaDoorRefDiv
import Derived.Test.YtojgfpoinbblhaaDoorTimes
namespace Go.Proofs.YtojgfpoinbblhaaDoor
open Go.RowKit Go.PlainAid

def RMulRow (g m : Nat) (xs ys : List Nat) (i : Nat) (w wr : World) : Prop :=
  Below w.heap.size w wr ∧ ∃ o, Pc wr g m m o ∧ Lims o ∧ lv o = lv (xs.take i) * lv ys ∧ ∀ j, i + ys.length ≤ j → o.getD j 0 = 0
def RMulIn (g m : Nat) (ys : List Nat) (v0 i a k c : Nat) (w wr : World) : Prop := Below w.heap.size w wr ∧ ∃ o, Pc wr g m m o ∧ TimesAt v0 i a ys k c o
theorem rquick_one (a : Nat) : ∃ (va : Int) (fa : Bool), ∀ w1, Calls Tryd.prog 43 #[.string (dec a)] w1 fun e w' => e = .returned (.tuple #[.int .u64 va, .bool fa]) ∧ w1 = w' := by
  by_cases h18 : Lib.nDigits a ≤ 18
  · exact ⟨_, _, fun w1 => rquick_yes a w1 h18⟩
  · exact ⟨_, _, fun w1 => rquick_no a w1 (by omega)⟩
set_option maxRecDepth 100000 in
set_option maxHeartbeats 2000000 in
theorem rmul_big (a b : Nat) (w : World) (ha : Lib.nDigits a ≤ 100000) (hb : Lib.nDigits b ≤ 100000) (h : ¬ (Lib.nDigits a + Lib.nDigits b ≤ 18)) :
    Calls Tryd.prog 24 #[.string (dec a), .string (dec b)] w (StrPost (dec (a * b)) w) := by
  have hsa : (dec a).size ≤ 100000 := by rw [dec_size]; exact ha
  have hsb : (dec b).size ≤ 100000 := by rw [dec_size]; exact hb
  have hsum : ¬ ((dec a).size : Int) + ((dec b).size : Int) ≤ 18 := by rw [dec_size, dec_size]; omega
  obtain ⟨va, fa, hqa⟩ := rquick_one a
  obtain ⟨vb, fb, hqb⟩ := rquick_one b
  have HQA := Lib.hid hqa
  have HQB := Lib.hid hqb
  clear hqa hqb h
  go_enter Tryd.func24, Tryd.ntmps24
  go_wp2_with fail
  refine (HQA.out _).mono ?_
  rintro e w1 ⟨rfl, rfl⟩
  go_wp2_with fail
  refine (HQB.out _).mono ?_
  rintro e w1 ⟨rfl, rfl⟩
  go_upto_region 3 with fail
  go_cut [37] (fun s37 wx => s37 = .bool false ∧ w = wx)
  case first =>
    cases fa with
    | true =>
      cases fb with
      | true =>
        go_wp2_with fail
        go_meet
        exact ⟨by simp; omega, rfl⟩
      | false =>
        go_wp2_with fail
        go_meet
        exact ⟨rfl, rfl⟩
    | false =>
      go_wp2_with fail
      go_meet
      exact ⟨rfl, rfl⟩
  case rest =>
    obtain ⟨rfl, rfl⟩ := hcut
    clear HQA HQB hsum
    go_wp2_with fail
    refine (rlimbs_any a _ (by omega)).mono ?_
    rintro e w1 ⟨xs, n1, g1, cap1, rfl, hg1, hp, hx, hxv, hn1, hb1⟩
    have HX := Lib.hid hxv
    clear hxv
    go_wp2_with fail
    refine (rlimbs_any b _ (by omega)).mono ?_
    rintro e w2 ⟨ys, n2, g2, cap2, rfl, hg2, hq, hy, hyv, hn2, hb2⟩
    have HY := Lib.hid hyv
    have hp2 := hp.below hb2 hp.lt
    have hB := bel_chain hb1 hb2
    clear hyv hb1 hb2 hp hg1 hg2
    have hcap1 := hp2.cap_le
    have hle1 := hp2.le
    have hcap2 := hq.cap_le
    have hle2 := hq.le
    have hg1 := hp2.lt
    have hg2 := hq.lt
    have HL1 := Lib.hid hp2.len
    have HL2 := Lib.hid hq.len
    have hmk := make_Pc 61 Tryd.underlying61 (n1 + n2 + 1) (n1 + n2 + 1) (Nat.le_refl _) (by omega)
    simp only [Int.natCast_add, Int.cast_ofNat_Int] at hmk
    have HM := Lib.hid (Pc.made w2 (n1 + n2 + 1) (n1 + n2 + 1) (Nat.le_refl _) (by omega))
    go_wp2_with fail
    clear hmk
    go_loopw [12] (fun vi wr => ∃ i : Nat, i ≤ n1 ∧ vi = .int .i64 (i : Int) ∧ RMulRow w2.heap.size (n1 + n2 + 1) xs ys i w2 wr) (fun vi _ => n1 - (intOf vi).toNat)
    case atStart =>
      refine ⟨0, by omega, rfl, (Below.refl _ _).alloc (Nat.le_refl _) _, _, HM.out, fun x hx => ?_, ?_, fun j _ => ?_⟩
      · rw [List.eq_of_mem_replicate hx]; omega
      · rw [lv_zeros]; simp [lv]
      · rw [List.getD_eq_getElem?_getD, List.getElem?_replicate]; split <;> rfl
    case round =>
      obtain ⟨i, hi, rfl, hb, o, ho, hoL, hov, hoz⟩ := hrel
      have hGn := ho.lt
      obtain ⟨wo, rfl⟩ : ∃ wo : World, wo = wr := ⟨_, rfl⟩
      by_cases hin : i = n1
      · subst hin
        have hfin : lv o = a * b := by rw [hov, List.take_of_length_le (by rw [HL1.out]; omega), HX.out, HY.out]
        have hj := rjoin_any _ _ _ o wo ho hoL (by omega)
        rw [hfin] at hj
        have HJ := Lib.hid hj
        clear hj hfin hoL hov hoz
        go_wp2_with fail
        refine HJ.out.mono ?_
        rintro e w' ⟨rfl, hb9⟩
        go_wp2_with fail
        go_ret
        exact ⟨rfl, bel_chain (bel_chain hB hb) hb9⟩
      · have hin' : i < n1 := by omega
        have hc1 := (hp2.below hb hg1).cell i hin'
        have hstart := TimesAt.start (i := i) (a := xs.getD i 0) (q := ys) hoL hoz
        have HS := Lib.hid hstart
        have hrow := times_row (p := xs) (q := ys) (i := i)
        rw [← hov] at hrow
        have HR := Lib.hid hrow
        have hxb := Lims_getD hx i
        have HA := Lib.hid (fun wz (h : Below w2.heap.size w2 wz) => (hp2.below h hg1).cell i hin')
        clear hstart hrow hoL hov hoz hc1
        generalize xs.getD i 0 = x at *
        go_wp2
        go_loopw [13, 14] (fun vc vk wr => ∃ k c : Nat, k ≤ n2 ∧ c < 1000000000 ∧ vk = .int .i64 (k : Int) ∧ vc = .int .u64 (c : Int) ∧ RMulIn w2.heap.size (n1 + n2 + 1) ys (lv o) i x k c w2 wr) (fun _ vk _ => n2 - (intOf vk).toNat)
        case atStart => exact ⟨0, 0, by omega, by omega, rfl, rfl, hb, o, ho, HS.out⟩
        case round =>
          obtain ⟨k, c, hk, hcc, rfl, rfl, hb2, o2, ho2, hT⟩ := hrel
          by_cases hkn : k = n2
          · subst hkn
            have hlen2 := ho2.len
            have HT := Lib.hid hT
            have hz0 := hT.zero (i + k) (by rw [HL2.out]; omega)
            have hfr := ho2.free (i + k)
            have hcell := ho2.cell (i + k) (by omega)
            rw [hz0] at hcell
            have HP2 := Lib.hid ho2
            clear hT hlen2 ho2 hz0
            go_wp2
            go_roundw
            case rel =>
              have hT := HT.out
              have e1 := HL2.out
              subst e1
              have hf := hT.finish (by have := HP2.out.len; omega)
              refine ⟨i + 1, by omega, by go_num, hb2.setCell (by simp) _, o2.set (i + ys.length) c, ?_, hf.2.1, ?_, hf.2.2⟩
              · have := HP2.out.set (i + ys.length) c
                simpa using this
              · rw [hf.1, HR.out]
            case measure => simp [intOf]; omega
          · have hkn' : k < n2 := by omega
            have hc1 := HA.out _ hb2
            have hc2 := (hq.below hb2 hg2).cell k hkn'
            have hcell := ho2.cell (i + k) (by omega)
            have hfr := ho2.free (i + k)
            have hyL := Lims_getD hy k
            have hzL := Lims_getD hT.lims (i + k)
            have hstep := hT.step (by rw [HL2.out]; exact hkn') (by rw [ho2.len]; omega) hxb hy
            have hset := fun d v => (ho2.drewN d).set (i + k) v
            have hbd := times_bound hxb hyL hcc hzL
            have HS := Lib.hid hstep
            have HSet := Lib.hid hset
            clear hstep hset hT ho2
            generalize ys.getD k 0 = y at *
            generalize o2.getD (i + k) 0 = z at *
            have hnn : (0 : Int) ≤ (x : Int) * (y : Int) := Int.mul_nonneg (by omega) (by omega)
            have hbd' : (z : Int) + (x : Int) * (y : Int) + (c : Int) ≤ 999999999999999999 := by
              have : ((c + (z + x * y) : Nat) : Int) ≤ 999999999999999999 := by omega
              rw [Int.natCast_add, Int.natCast_add, Int.natCast_mul] at this
              omega
            have HCAST := Lib.hid (show ((c + (z + x * y) : Nat) : Int) = (z : Int) + (x : Int) * (y : Int) + (c : Int) from by rw [Int.natCast_add, Int.natCast_add, Int.natCast_mul]; omega)
            have hik0 : (0 : Int) ≤ (i : Int) + (k : Int) := by omega
            have hik1 : (i : Int) + (k : Int) < (n1 : Int) + (n2 : Int) + 1 := by omega
            clear hbd
            go_wp2
            go_quiet (fail)
            go_wp2
            go_roundw
            case rel =>
              have hcast := HCAST.out
              have hstep := HS.out
              refine ⟨k + 1, (c + (z + x * y)) / 1000000000, by omega, hstep.carry, by go_num, ?_, (bel_drewN hb2 _).setCell (by simp) _, _, ?_, hstep⟩
              · exact vint (by omega)
              · have hg : ∀ d, _ := fun d => HSet.out d ((c + (z + x * y)) % 1000000000)
                rw [Int.natCast_emod, hcast] at hg
                exact hg _
            case measure => simp [intOf]; omega
set_option maxRecDepth 100000 in
/-- schismaref01.Mul. -/
theorem rmul_any (a b : Nat) (w : World) (ha : Lib.nDigits a ≤ 100000) (hb : Lib.nDigits b ≤ 100000) :
    Calls Tryd.prog 24 #[.string (dec a), .string (dec b)] w (StrPost (dec (a * b)) w) := by
  by_cases h18 : Lib.nDigits a + Lib.nDigits b ≤ 18
  · have h1 := Lib.lt_pow_nDigits a
    have h2 := Lib.lt_pow_nDigits b
    have h3 : 10 ^ Lib.nDigits a * 10 ^ Lib.nDigits b ≤ 10 ^ 18 := by rw [← Nat.pow_add]; exact Nat.pow_le_pow_right (by decide) (by omega)
    have h4 : a * b < 10 ^ Lib.nDigits a * 10 ^ Lib.nDigits b := Nat.mul_lt_mul'' h1 h2
    have h5 : a * b < 1000000000000000000 := by have : (10 : Nat) ^ 18 = 1000000000000000000 := by decide
                                                omega
    have hnn : (0 : Int) ≤ (a : Int) * (b : Int) := Int.mul_nonneg (by omega) (by omega)
    have h6 : (a : Int) * (b : Int) ≤ 999999999999999999 := by
      have h2 : ((a * b : Nat) : Int) ≤ 999999999999999999 := by omega
      rwa [Int.natCast_mul] at h2
    have hof := fun w1 => rof_any (a * b) w1 (by omega)
    rw [Int.natCast_mul] at hof
    have HOF := Lib.hid hof
    have hs : ((dec a).size : Int) + ((dec b).size : Int) ≤ 18 := by rw [dec_size, dec_size]; omega
    have h7 : Lib.nDigits a ≤ 18 := by omega
    have h8 : Lib.nDigits b ≤ 18 := by omega
    clear h1 h2 h3 h4 h5 hof
    go_enter Tryd.func24, Tryd.ntmps24
    go_wp2_with fail
    refine (rquick_yes a _ h7).mono ?_
    rintro e w1 ⟨rfl, rfl⟩
    go_wp2_with fail
    refine (rquick_yes b _ h8).mono ?_
    rintro e w1 ⟨rfl, rfl⟩
    go_wp2_with fail
    refine (HOF.out _).mono ?_
    rintro e w2 ⟨rfl, hb2⟩
    go_wp2_with fail
    go_ret
    exact ⟨rfl, hb2⟩
  · exact rmul_big a b w ha hb h18
end Go.Proofs.YtojgfpoinbblhaaDoor
