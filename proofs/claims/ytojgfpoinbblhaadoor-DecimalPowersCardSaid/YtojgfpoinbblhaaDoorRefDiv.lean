/- The walk of the first chapter's reference DivMod. -/
import Derived.Test.YtojgfpoinbblhaaDoorRefMinus
import Derived.Test.YtojgfpoinbblhaaDoorLawBase1
import Derived.Deep.DeepCutAuto
import Derived.RegionCalls
namespace Go.Proofs.YtojgfpoinbblhaaDoor
open Go.RowKit Go.PlainAid

/-- The number of the first i digits. -/
def pre (a i : Nat) : Nat := val ((Lib.decDigits a).take i)
def dgt (a i : Nat) : Nat := ((Lib.decDigits a).getD i 0).toNat - 48
theorem dgt_lt (a i : Nat) (h : i < Lib.nDigits a) : dgt a i < 10 := by have := dgt_bd a i h; unfold dgt; omega
theorem pre_zero (a : Nat) : pre a 0 = 0 := rfl
theorem pre_succ (a i : Nat) (h : i < Lib.nDigits a) : pre a (i + 1) = 10 * pre a i + dgt a i := val_take_succ _ i (by rw [Lib.decDigits_length]; exact h)
theorem pre_end (a : Nat) : pre a (Lib.nDigits a) = a := by unfold pre; rw [List.take_of_length_le (by rw [Lib.decDigits_length]; omega), val_dd]
theorem extract_dec (a i : Nat) (h : i < Lib.nDigits a) : (dec a).extract i (i + 1) = dec (dgt a i) := by
  have hd := dgt_bd a i h
  have h1 : (dec (dgt a i)) = ⟨#[(Lib.decDigits a).getD i 0]⟩ := by
    unfold dec
    rw [dd_small (dgt_lt a i h)]
    have : UInt8.ofNat (48 + dgt a i) = (Lib.decDigits a).getD i 0 := dig_eq _ ((isDig_iff _).2 hd)
    rw [this]
  rw [h1]
  apply ByteArray.ext
  apply Array.ext'
  rw [ByteArray.data_extract, Array.toList_extract, dec_data]
  rw [List.extract_eq_take_drop, List.drop_eq_getElem_cons (by rw [Lib.decDigits_length]; exact h), show i + 1 - i = 1 by omega, List.take_succ_cons, List.take_zero, List.getD_eq_getElem?_getD, List.getElem?_eq_getElem (by rw [Lib.decDigits_length]; exact h)]
  rfl
theorem append_dec (r t : Nat) (hr : r ≠ 0) (ht : t < 10) : dec r ++ dec t = dec (10 * r + t) := by
  apply ByteArray.ext
  apply Array.ext'
  rw [ByteArray.data_append, Array.toList_append, dec_data, dec_data, dec_data, dd_small ht, dd_big (by omega : ¬ 10 * r + t < 10), show (10 * r + t) / 10 = r by omega, show (10 * r + t) % 10 = t by omega]
def HeadAt (n i q : Nat) (ys : List UInt8) : Prop := ys.length = n ∧ (ys.take i).all isDig = true ∧ val (ys.take i) = q
theorem HeadAt.step {n i q d : Nat} {ys : List UInt8} (h : HeadAt n i q ys) (hi : i < n) (hd : d < 10) : HeadAt n (i + 1) (10 * q + d) (ys.set i (UInt8.ofNat (48 + d))) := by
  obtain ⟨h1, h2, h3⟩ := h
  have e : (ys.set i (UInt8.ofNat (48 + d))).take (i + 1) = ys.take i ++ [UInt8.ofNat (48 + d)] := by
    rw [List.take_succ_eq_append_getElem (by simp; omega), List.getElem_set_self, List.take_set_of_le (by omega)]
  refine ⟨by simpa using h1, ?_, ?_⟩
  · rw [e, List.all_append, h2, List.all_cons, isDig_ofNat _ hd]; rfl
  · rw [e, val_snoc, h3, ofNat_toNat_dig _ hd]; omega
theorem div_step (p t b : Nat) (hb : 0 < b) : (10 * p + t) / b = 10 * (p / b) + (10 * (p % b) + t) / b ∧ (10 * p + t) % b = (10 * (p % b) + t) % b := by
  have h := Nat.div_add_mod p b
  have e : 10 * p + t = 10 * (p % b) + t + b * (10 * (p / b)) := by
    rw [Nat.mul_left_comm]; omega
  rw [e]
  exact ⟨by rw [Nat.add_mul_div_left _ _ hb]; omega, Nat.add_mul_mod_self_left _ _ _⟩
def RIn (M b k s : Nat) : Prop := k * b + s = M ∧ k ≤ 9 ∧ M < 10 * b
theorem RIn.step {M b k s : Nat} (h : RIn M b k s) (hs : b ≤ s) : RIn M b (k + 1) (s - b) := by
  obtain ⟨h1, h2, h3⟩ := h
  refine ⟨by rw [Nat.succ_mul]; omega, ?_, h3⟩
  have h4 : (k + 1) * b < 10 * b := by rw [Nat.succ_mul]; omega
  have := Nat.lt_of_mul_lt_mul_right h4
  omega
theorem RIn.fin {M b k s : Nat} (h : RIn M b k s) (hs : s < b) : M / b = k ∧ M % b = s := by
  obtain ⟨h1, h2, h3⟩ := h
  have h4 : M / b = k := Nat.div_eq_of_lt_le (by omega) (by rw [Nat.succ_mul]; omega)
  have h5 := Nat.div_add_mod M b
  rw [h4, Nat.mul_comm] at h5
  exact ⟨h4, by omega⟩
def RDivAt (a b n i : Nat) (w wr : World) : Prop := Below w.heap.size w wr ∧ ∃ ys, HeadAt n i (pre a i / b) ys ∧ Bc wr w.heap.size n n ys
def RDivPost (a b : Nat) (w : World) (e : Ending) (w' : World) : Prop := e = .returned (.tuple #[.string (dec (a / b)), .string (dec (a % b))]) ∧ Below w.heap.size w w'
/-- What quick says of two numbers that are not both short. -/
theorem rquick_two (a b : Nat) (h : ¬ (Lib.nDigits a ≤ 18 ∧ Lib.nDigits b ≤ 18)) : ∃ (va vb : Int) (fa fb : Bool), (fa = true → fb = false) ∧ (∀ w1, Calls Tryd.prog 43 #[.string (dec a)] w1 fun e w' => e = .returned (.tuple #[.int .u64 va, .bool fa]) ∧ w1 = w') ∧ (∀ w1, Calls Tryd.prog 43 #[.string (dec b)] w1 fun e w' => e = .returned (.tuple #[.int .u64 vb, .bool fb]) ∧ w1 = w') := by
  by_cases h18 : Lib.nDigits a ≤ 18
  · exact ⟨_, _, _, _, fun _ => rfl, fun w1 => rquick_yes a w1 h18, fun w1 => rquick_no b w1 (by omega)⟩
  · by_cases hb18 : Lib.nDigits b ≤ 18
    · exact ⟨_, _, _, _, fun h => (by cases h), fun w1 => rquick_no a w1 (by omega), fun w1 => rquick_yes b w1 hb18⟩
    · exact ⟨_, _, _, _, fun _ => rfl, fun w1 => rquick_no a w1 (by omega), fun w1 => rquick_no b w1 (by omega)⟩
set_option maxRecDepth 100000 in
set_option maxHeartbeats 2000000 in
theorem rdivmod_big (a b : Nat) (w : World) (ha : Lib.nDigits a ≤ 100000) (hb : Lib.nDigits b ≤ 100000) (hb0 : 0 < b) (h : ¬ (Lib.nDigits a ≤ 18 ∧ Lib.nDigits b ≤ 18)) :
    Calls Tryd.prog 34 #[.string (dec a), .string (dec b)] w (RDivPost a b w) := by
  obtain ⟨n, hn⟩ : ∃ n : Nat, n = Lib.nDigits a := ⟨_, rfl⟩
  have hmx : ((dec a).size : Int) = (n : Int) := by rw [dec_size, hn]
  have hn1 : 1 ≤ n := by rw [hn]; exact Lib.nDigits_pos a
  have hn2 : n ≤ 100000 := by omega
  have HN := Lib.hid hn
  have hmk := make_Bc 23 Tryd.underlying23 n n (Nat.le_refl _) (by omega) w
  have HMK := Lib.hid hmk
  have HB0 := Lib.hid hb0
  obtain ⟨va, vb, fa, fb, hfl, hqa, hqb⟩ := rquick_two a b h
  have HQA := Lib.hid hqa
  have HQB := Lib.hid hqb
  have HFL := Lib.hid hfl
  clear hqa hqb hfl hmk hn h hb0
  go_enter Tryd.func34, Tryd.ntmps34
  go_wp2_with fail
  refine (HQA.out _).mono ?_
  rintro e w1 ⟨rfl, rfl⟩
  go_wp2_with fail
  refine (HQB.out _).mono ?_
  rintro e w1 ⟨rfl, rfl⟩
  go_upto_region 3 with fail
  go_cut [26] (fun s26 wx => s26 = .bool false ∧ w = wx)
  case first =>
    cases fa with
    | true =>
      obtain rfl := HFL.out rfl
      go_wp2_with fail
      go_meet
      exact ⟨rfl, rfl⟩
    | false =>
      go_wp2_with fail
      go_meet
      exact ⟨rfl, rfl⟩
  case rest =>
    obtain ⟨rfl, rfl⟩ := hcut
    clear HQA HQB HFL
    have hmk := HMK.out
    go_wp2_with fail
    clear hmk HMK
    go_loopg [5, 11] n (fun gk vr vi wr => ∃ i : Nat, i ≤ n ∧ gk = n - i ∧ vi = .int .i64 (i : Int) ∧ vr = .string (dec (pre a i % b)) ∧ RDivAt a b n i w wr)
    case atStart =>
      refine ⟨0, by omega, rfl, rfl, by rw [pre_zero, Nat.zero_mod, dec0], (Below.refl _ _).alloc (Nat.le_refl _) _, _, ⟨by simp, by simp, by rw [pre_zero, Nat.zero_div]; rfl⟩, Bc.made w n n (Nat.le_refl _) (by omega)⟩
    case round =>
      obtain ⟨i, hi, rfl, rfl, rfl, hb1, ys, hR, hp⟩ := hrel
      obtain ⟨wo, rfl⟩ : ∃ wo : World, wo = wr := ⟨_, rfl⟩
      by_cases hin : i = n
      · subst hin
        have hpe : pre a i = a := by rw [HN.out]; exact pre_end a
        rw [hpe] at hR ⊢
        have hal : ys.all isDig = true := by have := hR.2.1; rwa [List.take_of_length_le (by rw [hR.1]; omega)] at this
        have hvl : val ys = a / b := by have := hR.2.2; rwa [List.take_of_length_le (by rw [hR.1]; omega)] at this
        have hrt := rtrim_any _ _ _ ys wo hp hn1 hal
        rw [hvl] at hrt
        have HRT := Lib.hid hrt
        clear hrt hR hp hal hvl hpe
        go_wp2_with fail
        refine HRT.out.mono ?_
        rintro e w1 ⟨rfl, rfl⟩
        go_wp2_with fail
        go_ret2
        exact ⟨rfl, hb1⟩
      · have hin' : i < n := by omega
        have hst := div_step (pre a i) (dgt a i) b HB0.out
        have hps := pre_succ a i (by rw [← HN.out]; exact hin')
        have ht := dgt_lt a i (by rw [← HN.out]; exact hin')
        have hex := extract_dec a i (by rw [← HN.out]; exact hin')
        have hrlt := Nat.mod_lt (pre a i) HB0.out
        obtain ⟨r, hr⟩ : ∃ r, pre a i % b = r := ⟨_, rfl⟩
        obtain ⟨t, htt⟩ : ∃ t, dgt a i = t := ⟨_, rfl⟩
        rw [← hps] at hst
        rw [hr, htt] at hst
        rw [htt] at ht hex
        rw [hr] at hrlt ⊢
        have HST := Lib.hid hst
        have HEX := Lib.hid hex
        have HRI := Lib.hid hR
        have HP := Lib.hid hp
        clear hst hps hr htt hR hex hp
        obtain ⟨M, hM⟩ : ∃ M, M = 10 * r + t := ⟨_, rfl⟩
        have hM10 : M < 10 * b := by omega
        have hMd : Lib.nDigits M ≤ 200000 := by
          have h1 := nd_mono (Nat.le_of_lt hM10)
          have h2 := nd_mul 10 b
          have h3 : Lib.nDigits 10 ≤ 2 := (nd_le_iff 10 1).2 (by decide)
          omega
        have HM := Lib.hid hM
        have HRM := Lib.hid (show r ≤ M by omega)
        clear hM
        go_upto_if 45 with fail
        go_cut [5] (fun s5 wx => s5 = .string (dec M) ∧ wo = wx)
        case first =>
          have hex := HEX.out
          by_cases hr0 : r = 0
          · subst hr0
            rw [dec_zero_same]
            have hMt : dec t = dec M := by rw [HM.out, Nat.mul_zero, Nat.zero_add]
            rw [hMt] at hex
            clear hMt
            go_wp2_with fail
            go_meet
            exact ⟨rfl, rfl⟩
          · rw [dec_zero_test hr0]
            have hap := append_dec r t hr0 ht
            rw [← HM.out] at hap
            have hsr : (dec r).size ≤ 200000 := by
              rw [dec_size]; exact Nat.le_trans (nd_mono HRM.out) hMd
            have hst1 : (dec t).size ≤ 20 := by
              rw [dec_size]; exact Nat.le_trans ((nd_le_iff t 0).2 (by omega)) (by decide)
            go_wp2_with fail
            go_meet
            exact ⟨rfl, rfl⟩
        case rest =>
          obtain ⟨rfl, rfl⟩ := hcut
          go_wp2_with fail
          go_loopw [5, 12] (fun vr vd wr2 => ∃ k s : Nat, vr = .string (dec s) ∧ vd = .int .u8 (48 + (k : Int)) ∧ RIn M b k s ∧ k ≤ 9 ∧ Below wo.heap.size wo wr2) (fun _ vd _ => 60 - (intOf vd).toNat)
          case atStart => exact ⟨0, M, rfl, rfl, ⟨by omega, by omega, hM10⟩, by omega, Below.refl _ _⟩
          case round =>
            obtain ⟨k, s, rfl, rfl, hI, hk9, hb2⟩ := hrel
            have hsM : s ≤ M := by have := hI.1; omega
            have hsd := Nat.le_trans (nd_mono hsM) hMd
            by_cases hge : b ≤ s
            · have hcm : 0 ≤ cmpI s b := by
                rcases Nat.lt_or_eq_of_le hge with h | h
                · rw [cmpI_gt h]; decide
                · rw [h, cmpI_eq]; decide
              have HCM := Lib.hid hcm
              have hI2 := hI.step hge
              have hk9' := hI2.2.1
              have HI2 := Lib.hid hI2
              clear hcm hI hI2
              go_wp2_with fail
              refine (rcompare_any s b _ (by omega) (by omega)).mono ?_
              rintro e w1 ⟨rfl, rfl⟩
              have hcm := HCM.out
              generalize cmpI s b = cm at *
              go_wp2_with fail
              refine (rminus_any s b _ (by omega) hge).mono ?_
              rintro e w3 ⟨rfl, hb3⟩
              have hb4 := bel_chain hb2 hb3
              clear hb2 hb3
              go_wp2_with fail
              go_roundw
              case rel => exact ⟨k + 1, s - b, rfl, by go_num, HI2.out, by omega, hb4⟩
              case measure => simp [intOf]; omega
            · have hcm : cmpI s b = -1 := cmpI_lt (by omega)
              have HCM := Lib.hid hcm
              have hfin := hI.fin (by omega)
              have hst := HST.out
              rw [← HM.out, hfin.1, hfin.2] at hst
              have HST2 := Lib.hid hst
              have hbs := hb1.size
              have hp2 := HP.out.below hb2 (by have := HP.out.lt; exact this)
              have hcell := hp2.cell i hin'
              have hfr := hp2.free i
              have hset := hp2.set i (UInt8.ofNat (48 + k))
              rw [ofNat_toNat_dig _ (by omega), show ((48 + k : Nat) : Int) = 48 + (k : Int) by omega] at hset
              have HSET := Lib.hid hset
              have hrs := HRI.out.step hin' (show k < 10 by omega)
              rw [← hst.1] at hrs
              have HRS := Lib.hid hrs
              have hb5 := hb1.trans (hb2.mono hbs)
              clear hcm hI hfin hst hset hrs hp2
              generalize (ys.getD i 0).toNat = q at *
              go_wp2_with fail
              refine (rcompare_any s b _ (by omega) (by omega)).mono ?_
              rintro e w1 ⟨rfl, rfl⟩
              rw [HCM.out]
              go_wp2_with fail
              go_roundg (n - (i + 1))
              case measure => omega
              case rel => exact ⟨i + 1, by omega, rfl, by go_num, by rw [HST2.out.2], hb5.setCell (Nat.le_refl _) _, _, HRS.out, HSET.out⟩
set_option maxRecDepth 100000 in
set_option maxHeartbeats 1000000 in
/-- schismaref01.DivMod. -/
theorem rdivmod_any (a b : Nat) (w : World) (ha : Lib.nDigits a ≤ 100000) (hb : Lib.nDigits b ≤ 100000) (hb0 : 0 < b) :
    Calls Tryd.prog 34 #[.string (dec a), .string (dec b)] w (RDivPost a b w) := by
  by_cases h18 : Lib.nDigits a ≤ 18 ∧ Lib.nDigits b ≤ 18
  · have h1 := (nd_le_iff a 17).1 h18.1
    have h2 := (nd_le_iff b 17).1 h18.2
    have hq1 : a / b ≤ a := Nat.div_le_self a b
    have hr1 : a % b ≤ a := Nat.mod_le a b
    obtain ⟨q, hq⟩ : ∃ q, a / b = q := ⟨_, rfl⟩
    obtain ⟨r, hr⟩ : ∃ r, a % b = r := ⟨_, rfl⟩
    rw [hq] at hq1
    rw [hr] at hr1
    have hw1 : IntKind.u64.wrap ((a : Int) / (b : Int)) = (q : Int) := by
      rw [IntKind.wrap_u64, ← Int.natCast_ediv, hq]; omega
    have hw2 : (a : Int).tmod (b : Int) = (r : Int) := by
      rw [Int.tmod_eq_emod_of_nonneg (by omega), ← Int.natCast_emod, hr]
    have HQ := Lib.hid (fun w1 => rof_any q w1 (by omega))
    have HR := Lib.hid (fun w1 => rof_any r w1 (by omega))
    have hbp : (1 : Int) ≤ (b : Int) := by omega
    unfold RDivPost
    rw [hq, hr]
    clear hq1 hr1 hq hr
    have HW1 := Lib.hid hw1
    have HW2 := Lib.hid hw2
    clear hw1 hw2
    go_enter Tryd.func34, Tryd.ntmps34
    go_wp2_with fail
    refine (rquick_yes a _ h18.1).mono ?_
    rintro e w1 ⟨rfl, rfl⟩
    go_wp2_with fail
    refine (rquick_yes b _ h18.2).mono ?_
    rintro e w1 ⟨rfl, rfl⟩
    go_wp2_with fail
    have hw1 := HW1.out
    have hw2 := HW2.out
    go_region_with (first
      | ((with_reducible refine Calls.mono (HQ.out _) ?_); rintro e w2 ⟨rfl, hb2⟩)
      | ((with_reducible refine Calls.mono (HR.out _) ?_); rintro e w3 ⟨rfl, hb3⟩))
    all_goals go_wp2
    all_goals go_ret2
    all_goals first
      | exact ⟨rfl, bel_chain (bel_chain (bel_drewN (Below.refl _ _) 1) hb2) hb3⟩
      | exact ⟨rfl, bel_chain (bel_chain (bel_drewN (Below.refl _ _) 1) hb3) hb2⟩
  · exact rdivmod_big a b w ha hb hb0 h18
end Go.Proofs.YtojgfpoinbblhaaDoor
