/- The walks of the program's Check of any text, and the second chapter's reference Compare, Canonical and Right. -/
import Derived.Test.YtjglooeljdpadaaDoorWC
namespace Go.Proofs.YtjglooeljdpadaaDoor
open Go.RowKit Go.PlainAid

theorem str_size (s : ByteArray) : s.data.toList.length = s.size := by rw [Array.length_toList]; rfl
/-- whole.split, of any text. -/
theorem split_gen (s : ByteArray) (w : World) (hs : s.size ≤ 1000000001) :
    Calls Tryd.prog 39 #[.string s] w (SmallRes (.tuple #[.bool (negT s.data.toList), .string ⟨(magT s.data.toList).toArray⟩]) w) := by
  by_cases h0 : s.data.toList = []
  · have hz : s.size = 0 := by rw [← str_size, h0]; rfl
    have HE := Lib.hid (show (⟨(magT s.data.toList).toArray⟩ : ByteArray) = s from ba_ext (by rw [h0, mag_nil]))
    have HN := Lib.hid (show negT s.data.toList = false by rw [h0, neg_nil])
    clear h0
    go_enter Tryd.func39, Tryd.ntmps39
    go_wp2
    go_ret2
    exact ⟨by rw [HE.out, HN.out]; rfl, Below.refl _ _⟩
  · have hs0 : 0 < s.size := by rw [← str_size]; exact List.length_pos_iff.2 h0
    have hbs := get_bt s
    rcases neg_cases s h0 with ⟨e1, e2, e3⟩ | ⟨e1, e2, e3⟩
    · have HN := Lib.hid e1
      clear e1 h0
      generalize (⟨(magT s.data.toList).toArray⟩ : ByteArray) = t at *
      go_enter Tryd.func39, Tryd.ntmps39
      go_wp2
      go_quiet (fail)
      go_wp2
      go_ret2
      exact ⟨by rw [HN.out]; rfl, bel_drewN (Below.refl _ _) _⟩
    · have HE := Lib.hid e3
      have HN := Lib.hid e1
      clear e1 e3 h0
      go_enter Tryd.func39, Tryd.ntmps39
      go_wp2
      go_ret2
      exact ⟨by rw [HE.out, HN.out]; rfl, Below.refl _ _⟩
/-- Whether a text is a canonical integer. -/
def canonT (l : List UInt8) : Bool := !(negT l && magT l == [48]) && canon (magT l)
theorem mag_len (l : List UInt8) : (magT l).length ≤ l.length := mag_size l
set_option maxRecDepth 100000 in
/-- whole.Check, of any text. -/
theorem wcheck_any (s : ByteArray) (w : World) (hs : s.size ≤ 1000000000) :
    Calls Tryd.prog 32 #[.string s] w (SmallRes (.int .i64 (if canonT s.data.toList = true ∧ (magT s.data.toList).length ≤ 400 then 0 else 2)) w) := by
  obtain ⟨t, ht⟩ : ∃ t : ByteArray, (⟨(magT s.data.toList).toArray⟩ : ByteArray) = t := ⟨_, rfl⟩
  have htl : t.data.toList = magT s.data.toList := by rw [← ht]
  have hts : t.size = (magT s.data.toList).length := by rw [← htl, str_size]
  have hml := mag_len s.data.toList
  rw [str_size] at hml
  have hck := fun w1 => check_any t w1 (by omega)
  have hsp := fun w1 => split_gen s w1 (by omega)
  rw [ht] at hsp
  rw [htl, hts] at hck
  have hc0 : (t.toList == [48]) = (magT s.data.toList == [48]) := by rw [ByteArray.toList_eq, htl]
  have HCD := Lib.hid (show canonT s.data.toList = (!(negT s.data.toList && magT s.data.toList == [48]) && canon (magT s.data.toList)) from rfl)
  generalize canonT s.data.toList = cn at *
  generalize negT s.data.toList = ng at *
  generalize (magT s.data.toList == [48]) = z0 at *
  generalize canon (magT s.data.toList) = cm at *
  generalize (magT s.data.toList).length = ml at *
  have HCK := Lib.hid hck
  have HSP := Lib.hid hsp
  clear hck hsp ht htl hts hml
  by_cases h1 : (ng && z0) = true
  · rw [Bool.and_eq_true] at h1
    obtain ⟨rfl, rfl⟩ := h1
    rw [show (if cn = true ∧ ml ≤ 400 then (0 : Int) else 2) = 2 by rw [HCD.out]; rfl]
    go_enter Tryd.func32, Tryd.ntmps32
    go_wp2_with fail
    refine (HSP.out _).mono ?_
    rintro e w1 ⟨rfl, hb1⟩
    go_wp2_with fail
    go_ret
    exact ⟨rfl, hb1⟩
  · have h2 : (ng && z0) = false := by simpa using h1
    rw [h2] at HCD
    have hcn : cn = cm := by rw [HCD.out]; rfl
    clear h1 HCD
    subst hcn
    by_cases hg : cn = true ∧ ml ≤ 400
    · rw [if_pos hg] at HCK ⊢
      cases ng
      · go_enter Tryd.func32, Tryd.ntmps32
        go_wp2_with fail
        refine (HSP.out _).mono ?_
        rintro e w1 ⟨rfl, hb1⟩
        go_wp2_with fail
        refine (HCK.out _).mono ?_
        rintro e w2 ⟨rfl, hb2⟩
        go_wp2_with fail
        go_ret
        exact ⟨rfl, bel_chain hb1 hb2⟩
      · have hz : z0 = false := by simpa using h2
        subst hz
        go_enter Tryd.func32, Tryd.ntmps32
        go_wp2_with fail
        refine (HSP.out _).mono ?_
        rintro e w1 ⟨rfl, hb1⟩
        go_wp2_with fail
        refine (HCK.out _).mono ?_
        rintro e w2 ⟨rfl, hb2⟩
        go_wp2_with fail
        go_ret
        exact ⟨rfl, bel_chain hb1 hb2⟩
    · rw [if_neg hg] at HCK ⊢
      cases ng
      · go_enter Tryd.func32, Tryd.ntmps32
        go_wp2_with fail
        refine (HSP.out _).mono ?_
        rintro e w1 ⟨rfl, hb1⟩
        go_wp2_with fail
        refine (HCK.out _).mono ?_
        rintro e w2 ⟨rfl, hb2⟩
        go_wp2_with fail
        go_ret
        exact ⟨rfl, bel_chain hb1 hb2⟩
      · have hz : z0 = false := by simpa using h2
        subst hz
        go_enter Tryd.func32, Tryd.ntmps32
        go_wp2_with fail
        refine (HSP.out _).mono ?_
        rintro e w1 ⟨rfl, hb1⟩
        go_wp2_with fail
        refine (HCK.out _).mono ?_
        rintro e w2 ⟨rfl, hb2⟩
        go_wp2_with fail
        go_ret
        exact ⟨rfl, bel_chain hb1 hb2⟩
set_option maxRecDepth 100000 in
set_option maxHeartbeats 2000000 in
/-- schismaref02.Canonical, of any text. -/
theorem r2canonical_any (s : ByteArray) (w : World) (hs : s.size ≤ 1000000000) :
    Calls Tryd.prog 51 #[.string s] w (SmallRes (.bool (canonT s.data.toList)) w) := by
  have hnc : s.data.toList ≠ [] → _ := neg_cases s
  obtain ⟨t, ht⟩ : ∃ t : ByteArray, (⟨(magT s.data.toList).toArray⟩ : ByteArray) = t := ⟨_, rfl⟩
  obtain ⟨l, hl⟩ : ∃ l, magT s.data.toList = l := ⟨_, rfl⟩
  have htl : t.data.toList = l := by rw [← ht, hl]
  have hts : t.size = l.length := by rw [← htl, str_size]
  have hml := mag_len s.data.toList
  rw [str_size, hl] at hml
  have HEMP := Lib.hid (show s.data.toList = [] → (negT s.data.toList = false ∧ t = s) from fun h => ⟨by rw [h, neg_nil], by rw [← ht, h, mag_nil]; exact ba_ext (by rw [h])⟩)
  have HCD := Lib.hid (show canonT s.data.toList = (!(negT s.data.toList && l == [48]) && canon l) by unfold canonT; rw [hl])
  have hc0 : (t.toList == [48]) = (l == [48]) := by rw [ByteArray.toList_eq, htl]
  rw [ht] at hnc
  have HNC := Lib.hid hnc
  generalize canonT s.data.toList = cn at *
  generalize negT s.data.toList = ng at *
  have hbs := get_bt s
  have HTL := Lib.hid htl
  have HTS := Lib.hid hts
  clear hnc ht hl htl hts
  go_enter Tryd.func51, Tryd.ntmps51
  go_upto_region 2 with fail
  go_cut [13] (fun s13 wx => s13 = .bool ng ∧ w = wx)
  case first =>
    by_cases h0 : s.data.toList = []
    · have hz : s.size = 0 := by rw [← str_size, h0]; rfl
      have HN := Lib.hid (HEMP.out h0).1
      clear h0
      go_wp2_with fail
      go_meet
      exact ⟨by rw [HN.out], rfl⟩
    · have hs0 : 0 < s.size := by rw [← str_size]; exact List.length_pos_iff.2 h0
      rcases HNC.out h0 with ⟨e1, e2, e3⟩ | ⟨e1, e2, e3⟩
      · have HN := Lib.hid e1
        clear e1 e3 h0
        go_wp2_with fail
        go_meet
        exact ⟨by rw [HN.out], rfl⟩
      · have HN := Lib.hid e1
        clear e1 e3 h0
        go_wp2_with fail
        go_meet
        exact ⟨by rw [HN.out], rfl⟩
  case rest =>
    obtain ⟨rfl, rfl⟩ := hcut
    go_upto_if 13 with fail
    go_cut [3] (fun s3 wx => s3 = .string t ∧ (ng && l == [48]) = false ∧ w = wx)
    case first =>
      cases ng
      · have HT := Lib.hid (show t = s by
          by_cases h0 : s.data.toList = []
          · exact (HEMP.out h0).2
          · rcases HNC.out h0 with ⟨e1, _⟩ | ⟨_, _, e3⟩
            · cases e1
            · exact e3)
        go_wp2_with fail
        go_meet
        exact ⟨by rw [HT.out], rfl, rfl⟩
      · have hne : s.data.toList ≠ [] := fun h => by have := (HEMP.out h).1; cases this
        have hs0 : 0 < s.size := by rw [← str_size]; exact List.length_pos_iff.2 hne
        have hex : s.extract 1 s.size = t := by
          rcases HNC.out hne with ⟨_, _, e3⟩ | ⟨e1, _, _⟩
          · exact e3
          · cases e1
        clear hne
        by_cases hz : l = [48]
        · have hc1 : (t.toList == [48]) = true := by rw [hc0, hz]; rfl
          have HF := Lib.hid (show cn = false by rw [HCD.out, hz]; rfl)
          clear hz hc0
          go_wp2_with fail
          go_ret
          exact ⟨by rw [HF.out]; rfl, Below.refl _ _⟩
        · have hz2 : (l == [48]) = false := by rw [beq_eq_false_iff_ne]; exact hz
          have hc1 : (t.toList == [48]) = false := by rw [hc0, hz2]
          have HZ2 := Lib.hid hz2
          clear hz hz2 hc0
          go_wp2_with fail
          go_meet
          exact ⟨rfl, by rw [HZ2.out]; rfl, rfl⟩
    case rest =>
      obtain ⟨rfl, hnz, rfl⟩ := hcut
      have HCN := Lib.hid (show cn = canon l by rw [HCD.out, hnz]; rfl)
      have hbt := get_bt t
      have htsb : t.size ≤ 1000000000 := by rw [HTS.out]; omega
      clear hnz HNC HEMP HCD hbs hc0
      go_wp2_with fail
      go_loop [4] (fun vi => ∃ i : Nat, i ≤ t.size ∧ vi = .int .i64 (i : Int) ∧ Hid ((l.take i).all isDig = true)) (fun vi => t.size - (intOf vi).toNat)
      case atStart => exact ⟨0, Nat.zero_le _, rfl, Lib.hid rfl⟩
      case round =>
        obtain ⟨i, hi, rfl, HI⟩ := hrel
        by_cases hin : i = t.size
        · have hall : l.all isDig = true := by have := HI.out; rwa [List.take_of_length_le (by rw [← HTS.out]; omega)] at this
          have hlt : ¬ i < t.size := by omega
          have HC := Lib.hid (show canon l = (l.length == 1 || (decide (1 < l.length) && !(l.getD 0 0 == 48))) by unfold canon; rw [hall]; rfl)
          rw [← HTS.out] at HC
          clear hall hin
          by_cases h0 : t.size = 0
          · have HF := Lib.hid (show cn = false by rw [HCN.out, HC.out, h0]; rfl)
            clear hi hlt
            go_wp2_with fail
            go_ret
            exact ⟨by rw [HF.out]; rfl, Below.refl _ _⟩
          · have h0' : 0 < t.size := by omega
            have hb := bt_at t 0 h0'
            rw [HTL.out] at hb
            have hx3 : (l.getD 0 0 == 48) = decide ((l.getD 0 0).toNat = 48) := by
              rw [Bool.eq_iff_iff, beq_iff_eq, decide_eq_true_eq]
              exact ⟨fun h => by rw [h]; rfl, fun h => UInt8.toNat_inj.1 h⟩
            rw [hx3] at HC
            clear hx3
            generalize (l.getD 0 0).toNat = d at *
            by_cases hd : d = 48
            · have hdb : ((d : Int) != 48) = false := by rw [hd]; rfl
              by_cases h1 : t.size = 1
              · have h1b : ((t.size : Int) == 1) = true := by rw [h1]; rfl
                have HF := Lib.hid (show cn = true by rw [HCN.out, HC.out, h1]; rfl)
                clear h1 hd
                go_wp2_with fail
                go_ret
                exact ⟨by rw [HF.out]; rfl, Below.refl _ _⟩
              · have h1b : ((t.size : Int) == 1) = false := by rw [beq_eq_false_iff_ne]; omega
                have HF := Lib.hid (show cn = false by rw [HCN.out, HC.out, decide_eq_true hd, show (t.size == 1) = false by simpa using h1]; simp)
                clear h1 hd
                go_wp2_with fail
                go_ret
                exact ⟨by rw [HF.out]; rfl, Below.refl _ _⟩
            · have hdb : ((d : Int) != 48) = true := by rw [bne_iff_ne]; omega
              have HF := Lib.hid (show cn = true by
                rw [HCN.out, HC.out, decide_eq_false hd]
                by_cases h1 : t.size = 1
                · rw [h1]; rfl
                · rw [decide_eq_true (by omega : 1 < t.size)]; simp)
              clear hd
              go_wp2_with fail
              go_ret
              exact ⟨by rw [HF.out]; rfl, Below.refl _ _⟩
        · have hlt : i < t.size := by omega
          have hb := bt_at t i hlt
          rw [HTL.out] at hb
          have htk : (l.take (i + 1)).all isDig = isDig (l.getD i 0) := by
            rw [List.take_succ_eq_append_getElem (by rw [← HTS.out]; exact hlt), List.all_append, HI.out, List.getD_eq_getElem?_getD, List.getElem?_eq_getElem (by rw [← HTS.out]; exact hlt)]
            simp
          have hno : isDig (l.getD i 0) = false → canon l = false := fun h => by
            have : l.all isDig = false := by
              rw [List.all_eq_false]
              exact ⟨l.getD i 0, by rw [List.getD_eq_getElem?_getD, List.getElem?_eq_getElem (by rw [← HTS.out]; exact hlt)]; exact List.getElem_mem _, by rw [h]; decide⟩
            unfold canon; rw [this]; rfl
          have hb1 := (l.getD i 0).toNat_lt
          have hdg : isDig (l.getD i 0) = (decide (48 ≤ (l.getD i 0).toNat) && decide ((l.getD i 0).toNat ≤ 57)) := rfl
          have HTK := Lib.hid htk
          have HNO := Lib.hid hno
          have HDG := Lib.hid hdg
          clear htk hno hdg hin
          generalize (l.getD i 0) = b at *
          generalize hd : b.toNat = d at *
          by_cases h5 : 48 ≤ d
          · by_cases h6 : d ≤ 57
            · have HY := Lib.hid (show isDig b = true by rw [HDG.out]; simp [h5, h6])
              clear hd
              go_wp2_with fail
              go_round
              case rel => exact ⟨i + 1, by omega, by go_num, Lib.hid (by rw [HTK.out]; exact HY.out)⟩
              case measure => simp [intOf]; omega
            · have HF := Lib.hid (show cn = false by rw [HCN.out]; exact HNO.out (by rw [HDG.out]; simp; omega))
              clear hd
              go_wp2_with fail
              go_ret
              exact ⟨by rw [HF.out]; rfl, Below.refl _ _⟩
          · have HF := Lib.hid (show cn = false by rw [HCN.out]; exact HNO.out (by rw [HDG.out]; simp; omega))
            clear hd
            go_wp2_with fail
            go_ret
            exact ⟨by rw [HF.out]; rfl, Below.refl _ _⟩
/-- schismaref02.Right, of any text. -/
theorem r2right_any (s : ByteArray) (w : World) (hs : s.size ≤ 1000000000) :
    Calls Tryd.prog 30 #[.string s] w (SmallRes (.bool (canonT s.data.toList && decide ((magT s.data.toList).length ≤ 400))) w) := by
  have hc := fun w1 => r2canonical_any s w1 hs
  have hd := fun w1 => r2digits_gen s w1 (by omega)
  obtain ⟨t, ht⟩ : ∃ t : ByteArray, (⟨(magT s.data.toList).toArray⟩ : ByteArray) = t := ⟨_, rfl⟩
  have hts : t.size = (magT s.data.toList).length := by rw [← ht, ← str_size]
  rw [ht] at hd
  rw [← hts]
  generalize canonT s.data.toList = cn at *
  have HC := Lib.hid hc
  have HD := Lib.hid hd
  have hml := mag_len s.data.toList
  rw [str_size, ← hts] at hml
  clear hc hd ht hts
  cases cn
  · go_enter Tryd.func30, Tryd.ntmps30
    go_wp2_with fail
    refine (HC.out _).mono ?_
    rintro e w1 ⟨rfl, hb1⟩
    go_wp2_with fail
    go_ret
    exact ⟨rfl, hb1⟩
  · go_enter Tryd.func30, Tryd.ntmps30
    go_wp2_with fail
    refine (HC.out _).mono ?_
    rintro e w1 ⟨rfl, hb1⟩
    go_wp2_with fail
    refine (HD.out _).mono ?_
    rintro e w2 ⟨rfl, hb2⟩
    go_wp2_with fail
    go_ret
    exact ⟨ret_bool (by simp; omega), bel_chain hb1 hb2⟩
theorem cmpZ_side {a b : Int} (h : a.sign = b.sign) : cmpI a.natAbs b.natAbs * sideZ a = cmpZ a b := by
  rw [cmpZ_same h]
  unfold sideZ cmpI
  by_cases ha : a < 0
  · rw [if_pos ha, if_pos ha]
    repeat' split
    all_goals omega
  · rw [if_neg ha, if_neg ha]
    repeat' split
    all_goals omega
set_option maxRecDepth 100000 in
set_option maxHeartbeats 2000000 in
/-- schismaref02.Compare. -/
theorem r2compare_any (a b : Int) (w : World) (ha : nz a ≤ 1000000) (hb : nz b ≤ 1000000) :
    Calls Tryd.prog 18 #[.string (itx a), .string (itx b)] w (SmallRes (.int .i64 (cmpZ a b)) w) := by
  have hA : Lib.nDigits a.natAbs ≤ 1000000 := ha
  have hB : Lib.nDigits b.natAbs ≤ 1000000 := hb
  obtain ⟨s1, hs1⟩ : ∃ s, a.sign = s := ⟨_, rfl⟩
  obtain ⟨s2, hs2⟩ : ∃ s, b.sign = s := ⟨_, rfl⟩
  have HA := Lib.hid (fun w1 => hs1 ▸ r2sign_any a w1 (by omega))
  have HB := Lib.hid (fun w1 => hs2 ▸ r2sign_any b w1 (by omega))
  by_cases hs : s1 = s2
  · subst hs
    have HC := Lib.hid (cmpZ_side (hs1.trans hs2.symm))
    have hbb : (s1 != s1) = false := by simp
    have hbb2 : (s1 == s1) = true := by simp
    have hsd : sideZ a = -1 ∨ sideZ a = 1 := by unfold sideZ; split <;> simp
    have hcm : -1 ≤ cmpI a.natAbs b.natAbs ∧ cmpI a.natAbs b.natAbs ≤ 1 := by unfold cmpI; repeat' split; all_goals omega
    have HSD := Lib.hid (fun w1 => r2side_any a w1 (by omega))
    have hln : (dec a.natAbs).size ≤ 1000000 := by rw [dec_size]; exact hA
    have hln2 : (dec b.natAbs).size ≤ 1000000 := by rw [dec_size]; exact hB
    clear hs1 hs2
    go_enter Tryd.func18, Tryd.ntmps18
    go_wp2_with fail
    refine (HA.out _).mono ?_
    rintro e w1 ⟨rfl, hb1⟩
    go_wp2_with fail
    refine (HB.out _).mono ?_
    rintro e w2 ⟨rfl, hb2⟩
    have hB2 := bel_chain hb1 hb2
    go_wp2_with fail
    refine (r2digits_any a _ (by omega)).mono ?_
    rintro e w3 ⟨rfl, hb3⟩
    have hB3 := bel_chain hB2 hb3
    go_wp2_with fail
    refine (r2digits_any b _ (by omega)).mono ?_
    rintro e w4 ⟨rfl, hb4⟩
    have hB4 := bel_chain hB3 hb4
    clear hb1 hb2 hb3 hb4 hB2 hB3
    generalize a.natAbs = x at *
    generalize b.natAbs = y at *
    go_upto_region 7 with fail
    go_upto_if 26 with fail
    go_cut [7] (fun s7 wx => s7 = .int .i64 (cmpI x y) ∧ w4 = wx)
    case first =>
      rcases Nat.lt_trichotomy (Lib.nDigits x) (Lib.nDigits y) with h | h | h
      · have HM := Lib.hid (cmpI_lt (nd_lt_of_lt h))
        have hlt : (dec x).size < (dec y).size := by rw [dec_size, dec_size]; exact h
        have hne : (((dec x).size : Int) != ((dec y).size : Int)) = true := by rw [bne_iff_ne]; omega
        rw [hne]
        clear h hA hB
        go_wp2_with fail
        go_meet
        exact ⟨by rw [HM.out], rfl⟩
      · have hne : (((dec x).size : Int) != ((dec y).size : Int)) = false := by rw [dec_size, dec_size, h]; simp
        have hl : Op.bytesLess (dec x).toList (dec y).toList = decide (x < y) := by rw [dec_toList, dec_toList]; exact dd_less x y h
        have hl2 : Op.bytesLess (dec y).toList (dec x).toList = decide (y < x) := by rw [dec_toList, dec_toList]; exact dd_less y x h.symm
        have he : ((dec x).toList == (dec y).toList) = decide (x = y) := by rw [dec_toList, dec_toList, Bool.eq_iff_iff, beq_iff_eq, dd_eq_iff, decide_eq_true_eq]
        rw [hne]
        rcases Nat.lt_trichotomy x y with h3 | h3 | h3
        · have HM := Lib.hid (cmpI_lt h3)
          rw [decide_eq_true h3] at hl
          rw [decide_eq_false (by omega)] at he hl2
          clear h hA hB h3
          go_wp2_with fail
          go_meet
          exact ⟨by rw [HM.out], rfl⟩
        · have HM := Lib.hid (show cmpI x y = 0 by rw [h3, cmpI_eq])
          rw [decide_eq_false (by omega)] at hl hl2
          rw [decide_eq_true h3] at he
          clear h hA hB h3
          go_wp2_with fail
          go_meet
          exact ⟨by rw [HM.out], rfl⟩
        · have HM := Lib.hid (cmpI_gt h3)
          rw [decide_eq_false (by omega)] at hl he
          rw [decide_eq_true h3] at hl2
          clear h hA hB h3
          go_wp2_with fail
          go_meet
          exact ⟨by rw [HM.out], rfl⟩
      · have HM := Lib.hid (cmpI_gt (nd_lt_of_lt h))
        have hlt : (dec y).size < (dec x).size := by rw [dec_size, dec_size]; exact h
        have hlt2 : ¬ (dec x).size < (dec y).size := by omega
        have hne : (((dec x).size : Int) != ((dec y).size : Int)) = true := by rw [bne_iff_ne]; omega
        rw [hne]
        clear h hA hB
        go_wp2_with fail
        go_meet
        exact ⟨by rw [HM.out], rfl⟩
    case rest =>
      obtain ⟨rfl, rfl⟩ := hcut
      generalize cmpI x y = c at *
      go_wp2_with fail
      refine (HSD.out _).mono ?_
      rintro e w5 ⟨rfl, hb5⟩
      generalize sideZ a = sd at *
      have hprod : -1 ≤ c * sd ∧ c * sd ≤ 1 := by rcases hsd with rfl | rfl <;> omega
      obtain ⟨hp1, hp2⟩ := hprod
      clear hsd
      go_wp2_with fail
      go_ret
      exact ⟨by rw [← HC.out]; rfl, bel_chain hB4 hb5⟩
  · have hbb : (s1 != s2) = true := by rw [bne_iff_ne]; exact hs
    have hbb2 : (s1 == s2) = false := by rw [beq_eq_false_iff_ne]; exact hs
    by_cases hlt : s1 < s2
    all_goals
      have HC := Lib.hid (show cmpZ a b = if s1 < s2 then -1 else 1 by
        by_cases h : s1 < s2
        · rw [if_pos h]; exact cmpZ_lt (by omega)
        · rw [if_neg h]; exact cmpZ_gt (by omega))
      simp only [hlt, if_true, if_false] at HC
      clear hs1 hs2 hs
      go_enter Tryd.func18, Tryd.ntmps18
      go_wp2_with fail
      refine (HA.out _).mono ?_
      rintro e w1 ⟨rfl, hb1⟩
      go_wp2_with fail
      refine (HB.out _).mono ?_
      rintro e w2 ⟨rfl, hb2⟩
      have hB2 := bel_chain hb1 hb2
      go_wp2_with fail
      refine (HA.out _).mono ?_
      rintro e w3 ⟨rfl, hb3⟩
      have hB3 := bel_chain hB2 hb3
      go_wp2_with fail
      refine (HB.out _).mono ?_
      rintro e w4 ⟨rfl, hb4⟩
      have hB4 := bel_chain hB3 hb4
      go_wp2_with fail
      go_ret
      exact ⟨by rw [HC.out]; rfl, hB4⟩
end Go.Proofs.YtjglooeljdpadaaDoor
