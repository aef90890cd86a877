/- Greater text, out of: T19, T20. -/
import Derived.Test.YtdpcmhdmdompnaaGreatDoorGg
import Derived.Test.YtdpcmhdmdompnaaGreatDoorGd
import Derived.Test.YtdpcmhdmdompnaaGreatDoorGh
namespace Go.Proofs.YtdpcmhdmdompnaaGreatDoor
section
open Go.RowKit Go.PlainAid

/-- A canonical integer of at most 400 digits. -/
def canonR (l : List UInt8) : Bool := canonT l && decide ((magT l).length ≤ 400)
theorem neg_mag {l : List UInt8} (h : negT l = true) : l = 45 :: magT l := by
  cases l with
  | nil => exact absurd h (by decide)
  | cons c r =>
    have hc : c = 45 := by
      have h2 : ([45] : List UInt8).isPrefixOf (c :: r) = true := h
      simp [List.isPrefixOf] at h2
      exact h2.symm
    subst hc
    have e : magT (45 :: r) = r := by
      unfold magT Lib.trimPrefix
      have h2 : Lib.hasPrefix (45 :: r) [45] = true := h
      rw [if_pos h2]; rfl
    rw [e]
theorem pos_mag {l : List UInt8} (h : negT l = false) : magT l = l := by
  unfold magT Lib.trimPrefix
  have h2 : ¬ Lib.hasPrefix l [45] = true := by
    have h3 : Lib.hasPrefix l [45] = false := h
    rw [h3]; decide
  rw [if_neg h2]
theorem canonR_at (l m : List UInt8) (hm : magT l = m) (h1 : m ≠ []) (h2 : m.length ≤ 400) (h3 : m.getD 0 0 = 48 → l = [48]) : canonR l = m.all isDig := by
  unfold canonR canonT
  rw [hm, decide_eq_true h2, Bool.and_true]
  have hk : (!(negT l && m == [48])) = true := by
    cases hn : negT l with
    | false => rfl
    | true =>
      have e := neg_mag hn
      rw [hm] at e
      have : ¬ m = [48] := fun k => by
        have := h3 (by rw [k]; rfl)
        rw [this] at e
        injection e with e1 _
        exact absurd e1 (by decide)
      simp [this]
  rw [hk, Bool.true_and]
  unfold canon
  have hl : (m.length == 1 || (decide (1 < m.length) && !(m.getD 0 0 == 48))) = true := by
    by_cases h48 : m.getD 0 0 = 48
    · have e := h3 h48
      have : m = [48] := by
        have hn : negT l = false := by rw [e]; decide
        rw [← hm, pos_mag hn, e]
      rw [this]; rfl
    · have hp := List.length_pos_iff.2 h1
      by_cases h : m.length = 1
      · simp [h]
      · have : 1 < m.length := by omega
        have h4 : (m.getD 0 0 == 48) = false := by rw [beq_eq_false_iff_ne]; exact h48
        rw [h4]; simp [this]
  rw [hl, Bool.and_true]
theorem canonR_no (l m : List UInt8) (hm : magT l = m) (h : m = [] ∨ 400 < m.length ∨ (m.getD 0 0 = 48 ∧ l ≠ [48])) : canonR l = false := by
  unfold canonR
  rw [hm]
  rcases h with h | h | ⟨h, h2⟩
  · unfold canonT; rw [hm, h]; simp [canon]
  · rw [decide_eq_false (by omega)]; simp
  · have : canonT l = false := by
      unfold canonT canon
      rw [hm]
      by_cases h1 : m.length = 1
      · have e : m = [48] := by
          cases m with
          | nil => simp at h1
          | cons c r =>
            simp at h1 h
            rw [h1, h]
        cases hn : negT l with
        | true => rw [e]; rfl
        | false => exact absurd (by rw [← pos_mag hn, hm, e]) h2
      · have h3 : (m.length == 1) = false := by simpa using h1
        have h4 : (m.getD 0 0 == 48) = true := by rw [h]; rfl
        rw [h3, h4]; simp
    rw [this]; rfl
set_option maxRecDepth 100000 in
set_option maxHeartbeats 2000000 in
/-- schismaref03.Canonical, of any text. -/
theorem t3canon_any (s : ByteArray) (w : World) :
    Calls Tryz.prog 40 #[.string s] w (SmallRes (.bool (canonR s.data.toList)) w) := by
  obtain ⟨t, ht⟩ : ∃ t : ByteArray, (⟨(magT s.data.toList).toArray⟩ : ByteArray) = t := ⟨_, rfl⟩
  obtain ⟨l, hl⟩ : ∃ l, magT s.data.toList = l := ⟨_, rfl⟩
  have htl : t.data.toList = l := by rw [← ht, hl]
  have hts : t.size = l.length := by rw [← htl, str_size]
  have hml := mag_len s.data.toList
  rw [str_size, hl] at hml
  have HTP := Lib.hid (fun w => show Calls Tryz.prog 58 #[.string s, .string ⟨#[45]⟩] w (fun e w' => e = .returned (.string t) ∧ w = w') from
    (Tryz.strings_TrimPrefix s ⟨#[45]⟩ w).mono fun e w' h => by rw [← ht]; exact ⟨h.1, h.2.symm⟩)
  have HY := Lib.hid (fun h1 h2 h3 => canonR_at s.data.toList l hl h1 h2 h3)
  have HN := Lib.hid (fun h => canonR_no s.data.toList l hl h)
  have hs0 : (s.toList == [48]) = (s.data.toList == [48]) := by rw [ByteArray.toList_eq]
  have hbt := get_bt t
  have HTL := Lib.hid htl
  have HTS := Lib.hid hts
  generalize canonR s.data.toList = cn at *
  generalize s.data.toList = sl at *
  clear ht hl htl
  by_cases hz : t.size = 0
  · skip
    have HF := Lib.hid (show cn = false from HN.out (.inl (List.eq_nil_of_length_eq_zero (by omega))))
    clear hts
    go_enter Tryz.func40, Tryz.ntmps40
    go_wp2_with fail
    refine (HTP.out _).mono ?_
    rintro e w1 ⟨rfl, rfl⟩
    go_wp2_with fail
    go_ret
    exact ⟨by rw [HF.out]; rfl, Below.refl _ _⟩
  by_cases h4 : 400 < t.size
  · skip
    have h4i : (400 : Int) < (t.size : Int) := by omega
    have hzi : ((t.size : Int) == 0) = false := by rw [beq_eq_false_iff_ne]; omega
    have HF := Lib.hid (show cn = false from HN.out (.inr (.inl (by omega))))
    clear hts hz
    go_enter Tryz.func40, Tryz.ntmps40
    go_wp2_with fail
    refine (HTP.out _).mono ?_
    rintro e w1 ⟨rfl, rfl⟩
    go_wp2_with fail
    go_ret
    exact ⟨by rw [HF.out]; rfl, Below.refl _ _⟩
  have hzi : ((t.size : Int) == 0) = false := by rw [beq_eq_false_iff_ne]; omega
  have h0' : 0 < t.size := by omega
  have hb := bt_at t 0 h0'
  rw [HTL.out] at hb
  have hx3 : l.getD 0 0 = 48 ↔ (l.getD 0 0).toNat = 48 := ⟨fun h => by rw [h]; rfl, fun h => UInt8.toNat_inj.1 h⟩
  have HX3 := Lib.hid hx3
  by_cases hbad : l.getD 0 0 = 48 ∧ sl ≠ [48]
  · skip
    have hd1 := hx3.1 hbad.1
    have hd1b : (((l.getD 0 0).toNat : Int) == 48) = true := by rw [hd1]; rfl
    have hs1 : (s.toList == [48]) = false := by rw [hs0, beq_eq_false_iff_ne]; exact hbad.2
    have hs2 : (s.toList != [48]) = true := by simpa using hs1
    have HBAD := Lib.hid hbad
    clear hx3 hd1 hs0 hbad
    generalize (l.getD 0 0).toNat = d at *
    have HF := Lib.hid (show cn = false from HN.out (.inr (.inr HBAD.out)))
    clear hts hz
    go_enter Tryz.func40, Tryz.ntmps40
    go_wp2_with fail
    refine (HTP.out _).mono ?_
    rintro e w1 ⟨rfl, rfl⟩
    go_wp2_with fail
    go_ret
    exact ⟨by rw [HF.out]; rfl, Below.refl _ _⟩
  have HF := Lib.hid (show cn = l.all isDig from HY.out (fun h => by have h5 := HTS.out; rw [h, List.length_nil] at h5; omega) (by omega) (fun h => Classical.byContradiction fun k => hbad ⟨h, k⟩))
  have hcase : (((l.getD 0 0).toNat : Int) == 48) = false ∨ ((((l.getD 0 0).toNat : Int) == 48) = true ∧ (sl == [48]) = true) := by
    by_cases h : l.getD 0 0 = 48
    · refine .inr ⟨by rw [hx3.1 h]; rfl, ?_⟩
      rw [beq_iff_eq]
      exact Classical.byContradiction fun k => hbad ⟨h, k⟩
    · exact .inl (by rw [beq_eq_false_iff_ne]; exact fun k => h (hx3.2 (by omega)))
  clear hbad hx3 hts
  generalize (l.getD 0 0).toNat = d at *
  rcases hcase with hc | ⟨hc, hc2⟩
  all_goals
    go_enter Tryz.func40, Tryz.ntmps40
    go_wp2_with fail
    refine (HTP.out _).mono ?_
    rintro e w1 ⟨rfl, rfl⟩
    go_wp2_with fail
    clear hb hc
    go_loop [4] (fun vi => ∃ i : Nat, i ≤ t.size ∧ vi = .int .i64 (i : Int) ∧ Hid ((l.take i).all isDig = true)) (fun vi => t.size - (intOf vi).toNat)
    case atStart => exact ⟨0, Nat.zero_le _, rfl, Lib.hid rfl⟩
    case round =>
      obtain ⟨i, hi, rfl, HI⟩ := hrel
      by_cases hin : i = t.size
      · have hall : l.all isDig = true := by have := HI.out; rwa [List.take_of_length_le (by rw [← HTS.out]; omega)] at this
        have hlt : ¬ i < t.size := by omega
        have HC := Lib.hid (show cn = true by rw [HF.out, hall])
        clear hall hin
        go_wp2_with fail
        go_ret
        exact ⟨by rw [HC.out]; rfl, Below.refl _ _⟩
      · have hlt : i < t.size := by omega
        have hb := bt_at t i hlt
        rw [HTL.out] at hb
        have htk : (l.take (i + 1)).all isDig = isDig (l.getD i 0) := by
          rw [List.take_succ_eq_append_getElem (by rw [← HTS.out]; exact hlt), List.all_append, HI.out, List.getD_eq_getElem?_getD, List.getElem?_eq_getElem (by rw [← HTS.out]; exact hlt)]
          simp
        have hno : isDig (l.getD i 0) = false → cn = false := fun h => by
          rw [HF.out, List.all_eq_false]
          exact ⟨l.getD i 0, by rw [List.getD_eq_getElem?_getD, List.getElem?_eq_getElem (by rw [← HTS.out]; exact hlt)]; exact List.getElem_mem _, by rw [h]; decide⟩
        have hb1 := (l.getD i 0).toNat_lt
        have hdg : isDig (l.getD i 0) = (decide (48 ≤ (l.getD i 0).toNat) && decide ((l.getD i 0).toNat ≤ 57)) := rfl
        have HTK := Lib.hid htk
        have HNO := Lib.hid hno
        have HDG := Lib.hid hdg
        clear htk hno hdg hin
        generalize (l.getD i 0) = b at *
        generalize hd : b.toNat = d2 at *
        by_cases h5 : 48 ≤ d2
        · by_cases h6 : d2 ≤ 57
          · have HY2 := Lib.hid (show isDig b = true by rw [HDG.out]; simp [h5, h6])
            clear hd
            go_wp2_with fail
            go_round
            case rel => exact ⟨i + 1, by omega, by go_num, Lib.hid (by rw [HTK.out]; exact HY2.out)⟩
            case measure => simp [intOf]; omega
          · have HC := Lib.hid (HNO.out (by rw [HDG.out]; simp; omega))
            clear hd
            go_wp2_with fail
            go_ret
            exact ⟨by rw [HC.out]; rfl, Below.refl _ _⟩
        · have HC := Lib.hid (HNO.out (by rw [HDG.out]; simp; omega))
          clear hd
          go_wp2_with fail
          go_ret
          exact ⟨by rw [HC.out]; rfl, Below.refl _ _⟩
end
section
open Go.RowKit Go.PlainAid
attribute [local go_sem] field_whole0 field_whole1 field_rat0 field_rat1
/-- The integer of a canonical text. -/
def ivalT (l : List UInt8) : Int := if negT l = true then -((val (magT l) : Nat) : Int) else ((val (magT l) : Nat) : Int)
theorem canonT_itoa {l : List UInt8} (h : canonT l = true) : l = Lib.itoa (ivalT l) := by
  unfold canonT at h
  rw [Bool.and_eq_true] at h
  obtain ⟨h1, h2⟩ := h
  have hd := dd_val _ h2
  unfold ivalT
  cases hn : negT l with
  | true =>
    rw [if_pos rfl]
    have hm : magT l ≠ [48] := fun e => by rw [hn, e] at h1; exact absurd h1 (by decide)
    have hv : val (magT l) ≠ 0 := fun e => by
      rw [e] at hd
      exact hm (by rw [← hd]; exact dd_small (by omega))
    rw [itoa_neg (by omega), Int.natAbs_neg, Int.natAbs_natCast, hd]
    exact neg_mag hn
  | false =>
    rw [if_neg (by decide), itoa_pos (by omega), Int.natAbs_natCast, hd]
    exact (pos_mag hn).symm
theorem canonR_itx {s : ByteArray} (h : canonR s.data.toList = true) : s = itx (ivalT s.data.toList) ∧ nz (ivalT s.data.toList) ≤ 400 := by
  unfold canonR at h
  rw [Bool.and_eq_true] at h
  have e := canonT_itoa h.1
  have hl := of_decide_eq_true h.2
  refine ⟨ba_ext (by rw [itx_data, ← e]), ?_⟩
  have h2 : (magT (Lib.itoa (ivalT s.data.toList))).length ≤ 400 := by rw [← e]; exact hl
  rw [(mag_itoa _).1, Lib.decDigits_length] at h2
  exact h2
/-- Two texts are those of a fraction in lowest terms, each with at most 400 digits. -/
def rightB (n d : List UInt8) : Bool := canonR n && (canonR d && (decide (0 < ivalT d) && decide (Int.gcd (ivalT n) (ivalT d) = 1)))
theorem rightB_rat {n d : ByteArray} (h : rightB n.data.toList d.data.toList = true) : ∃ q : Rat, n = itx q.num ∧ d = itx (q.den : Int) ∧ NQ q 400 := by
  unfold rightB at h
  simp only [Bool.and_eq_true, decide_eq_true_eq] at h
  obtain ⟨h1, h2, h3, h4⟩ := h
  obtain ⟨e1, n1⟩ := canonR_itx h1
  obtain ⟨e2, n2⟩ := canonR_itx h2
  have hr := rat_of_right h3 h4
  exact ⟨Rat.divInt (ivalT n.data.toList) (ivalT d.data.toList), by rw [hr.1]; exact e1, by rw [hr.2]; exact e2, by unfold NQ; rw [hr.1, hr.2]; exact ⟨n1, n2⟩⟩
set_option maxRecDepth 100000 in
set_option maxHeartbeats 4000000 in
theorem t3right_no (n d : ByteArray) (w : World) (hn : ¬ (canonR n.data.toList = true ∧ canonR d.data.toList = true)) :
    Calls Tryz.prog 22 #[.agg #[.string n, .string d]] w (SmallRes (.bool false) w) := by
  have HC1 := Lib.hid (fun w => t3canon_any n w)
  have HC2 := Lib.hid (fun w => t3canon_any d w)
  generalize canonR n.data.toList = cn at *
  generalize canonR d.data.toList = cd at *
  cases cn
  · clear hn
    go_enter Tryz.func22, Tryz.ntmps22
    go_wp2_with fail
    refine (HC1.out _).mono ?_
    rintro e w1 ⟨rfl, hb1⟩
    go_wp2_with fail
    go_ret
    exact ⟨rfl, bel_chain ((Below.refl _ _).alloc (Nat.le_refl _) _) hb1⟩
  · obtain rfl : cd = false := by cases cd <;> simp_all
    clear hn
    go_enter Tryz.func22, Tryz.ntmps22
    go_wp2_with fail
    obtain ⟨W, hW⟩ : ∃ W, (w.alloc (.cells #[.string n, .string d] 27)) = W := ⟨_, rfl⟩
    rw [hW]
    obtain ⟨hX, hBW⟩ := B1.of hW
    clear hW
    refine (HC1.out _).mono ?_
    rintro e w1 ⟨rfl, hb1⟩
    obtain ⟨_, a10, a11, _, _⟩ := hX.later hb1
    have hB1 := bel_chain hBW hb1
    clear hX hb1 hBW
    go_wp2_with fail
    refine (HC2.out _).mono ?_
    rintro e w2 ⟨rfl, hb2⟩
    have hB2 := bel_chain hB1 hb2
    go_wp2_with fail
    go_ret
    exact ⟨rfl, hB2⟩
set_option maxRecDepth 100000 in
set_option maxHeartbeats 4000000 in
theorem t3right_yes (a b : Int) (w : World) (hamb : Amb w) (h1 : canonR (itx a).data.toList = true) (h2 : canonR (itx b).data.toList = true) (ha : nz a ≤ 400) (hb : nz b ≤ 400) :
    Calls Tryz.prog 22 #[.agg #[.string (itx a), .string (itx b)]] w (SmallRes (.bool (decide (0 < b) && decide (Int.gcd a b = 1))) w) := by
  have HC1 := Lib.hid (fun w => show Calls _ _ _ w (SmallRes (.bool true) w) from h1 ▸ t3canon_any (itx a) w)
  have HC2 := Lib.hid (fun w => show Calls _ _ _ w (SmallRes (.bool true) w) from h2 ▸ t3canon_any (itx b) w)
  have HAMB := Lib.hid hamb
  obtain ⟨g, hg⟩ : ∃ g, Int.gcd a b = g := ⟨_, rfl⟩
  have HG := Lib.hid hg
  rw [hg]
  clear h1 h2 hamb hg
  go_enter Tryz.func22, Tryz.ntmps22
  go_wp2_with fail
  obtain ⟨W, hW⟩ : ∃ W, (w.alloc (.cells #[.string (itx a), .string (itx b)] 27)) = W := ⟨_, rfl⟩
  rw [hW]
  obtain ⟨hX, hBW⟩ := B1.of hW
  clear hW
  have HX := Lib.hid (fun wz (hb : Below W.heap.size W wz) => hX.later hb)
  have HB := Lib.hid hBW
  have HA := Lib.hid (fun wz (hb : Below W.heap.size W wz) => HAMB.out.below (bel_chain HB.out hb))
  clear hX hBW
  refine (HC1.out _).mono ?_
  rintro e w1 ⟨rfl, hz1⟩
  obtain ⟨_, a10, a11, _, _⟩ := HX.out _ hz1
  go_wp2_with fail
  refine (HC2.out _).mono ?_
  rintro e w2 ⟨rfl, hb2⟩
  have hz2 := bel_chain hz1 hb2
  obtain ⟨_, a20, a21, _, _⟩ := HX.out _ hz2
  clear hb2 hz1
  go_wp2_with fail
  refine (t3to_any b _ (by omega)).mono ?_
  rintro e w3 ⟨v3, rfl, hv3, hb3⟩
  obtain ⟨s3, A3, n3, k3, rfl, hl3, _, _, hw3⟩ := hv3.parts
  have HW3 := Lib.hid hw3
  have hz3 := bel_chain hz2 hb3
  obtain ⟨hlt3, a30, a31, _, _⟩ := HX.out _ hz3
  clear hb3 hv3 hw3 hl3
  go_upto_region 4 with fail
  obtain ⟨W4, hW4⟩ : ∃ W4, (w3.alloc (.cells #[.bool s3, .slice A3 n3 k3] 43)) = W4 := ⟨_, rfl⟩
  rw [hW4]
  obtain ⟨hY, hb4⟩ := B1.of hW4
  clear hW4
  have hz4 := bel_chain hz3 hb4
  have HY := Lib.hid (fun wz (hb : Below W4.heap.size W4 wz) => hY.later hb)
  have HZ := Lib.hid (fun wz (hb : Below W4.heap.size W4 wz) => bel_chain hz4 hb)
  have HV := Lib.hid (fun wz (hb : Below W4.heap.size W4 wz) => HW3.out wz (bel_chain hb4 hb))
  obtain ⟨_, a40, a41, _, _⟩ := HX.out _ hz4
  obtain ⟨_, y40, y41, _, _⟩ := hY
  clear hz2 hz3 hb4 a10 a11 a20 a21 a30 a31
  have hd := (Below.refl W4.heap.size W4).drew
  have HC3 := Lib.hid (t3sign_any _ b W4.drew (HV.out _ hd))
  by_cases hb0 : 0 < b
  · have hsg : b.sign = 1 := Int.sign_eq_one_of_pos hb0
    have hng : nz (g : Int) ≤ 400 := by
      rw [← HG.out]
      exact Nat.le_trans (nz_mono (by rw [Int.natAbs_natCast]; exact Nat.le_of_dvd (by omega) (Nat.gcd_dvd_right _ _))) hb
    have hgt : ((itx (g : Int)).toList == [49]) = decide (g = 1) := by
      have h := itx_beq (g : Int) 1
      rw [itx_toList 1, itoa_one] at h
      refine Eq.trans h ?_
      rw [decide_eq_decide]; omega
    by_cases hg1 : g = 1
    all_goals
      first
        | (have hgt2 : ((itx (g : Int)).toList == [49]) = true := by rw [hgt]; exact decide_eq_true hg1)
        | (have hgt2 : ((itx (g : Int)).toList == [49]) = false := by rw [hgt]; exact decide_eq_false hg1)
      have HG1 := Lib.hid hg1
      clear hg1 hgt hz4
      go_region_held3 (fun w' => w'.cell? ⟨w.heap.size, 0, none⟩ = some (.string (itx a)) ∧ w'.cell? ⟨w3.heap.size, 0, none⟩ = some (.bool s3) ∧ w'.cell? ⟨w3.heap.size, 1, none⟩ = some (.slice A3 n3 k3)) (first | with_reducible exact kf | with_reducible exact kg | with_reducible exact kt | with_reducible exact ks | go_keep)
        (first
          | ((with_reducible refine HC6.out.mono ?_); rintro e w8 ⟨rfl, hb8⟩; have hz8 := bel_chain hz7 hb8; have kf := And.intro (HX.out _ (HZ.out _ hz8)).2.1 (And.intro (HY.out _ hz8).2.1 (HY.out _ hz8).2.2.1))
          | ((with_reducible refine HC5.out.mono ?_); rintro e w7 ⟨v7, rfl, hv7, hb7⟩; have hz7 := bel_chain hz6 hb7; have kg := And.intro (HX.out _ (HZ.out _ hz7)).2.1 (And.intro (HY.out _ hz7).2.1 (HY.out _ hz7).2.2.1); rw [HG.out] at hv7; have HC6 := Lib.hid (t3from_any v7 (g : Int) w7 (HA.out _ (HZ.out _ hz7)) hv7 (by omega)))
          | ((with_reducible refine HC4.out.mono ?_); rintro e w6 ⟨v6, rfl, hv6, hb6⟩; have hz6 := bel_chain hz5 hb6; have kt := And.intro (HX.out _ (HZ.out _ hz6)).2.1 (And.intro (HY.out _ hz6).2.1 (HY.out _ hz6).2.2.1); have HC5 := Lib.hid (t3gcd_any v6 _ a b w6 hv6 (HV.out _ hz6) (by omega) (by omega)))
          | ((with_reducible refine HC3.out.mono ?_); rintro e w5 ⟨rfl, hb5⟩; have hz5 := bel_chain hd hb5; have ks := And.intro (HX.out _ (HZ.out _ hz5)).2.1 (And.intro (HY.out _ hz5).2.1 (HY.out _ hz5).2.2.1); have HC4 := Lib.hid (t3to_any a w5 (by omega))))
      go_wp2_with fail
      go_ret
      exact ⟨by first | (rw [HG1.out, decide_eq_true hb0]; rfl) | (rw [decide_eq_false HG1.out, decide_eq_true hb0]; rfl), bel_chain HB.out (HZ.out _ hz8)⟩
  · have hsg4 : decide (0 < b) = false := decide_eq_false hb0
    have HSG4 := Lib.hid hsg4
    have hcase : b.sign = -1 ∨ b.sign = 0 := by
      rcases Int.lt_trichotomy b 0 with h | h | h
      · exact .inl (Int.sign_eq_neg_one_of_neg h)
      · exact .inr (by rw [h]; rfl)
      · exact absurd h hb0
    clear hsg4 hb0
    rcases hcase with hsg | hsg
    all_goals
      have hc3 := HC3.out
      rw [hsg] at hc3
      clear HC3 hsg
      have HC3 := Lib.hid hc3
      clear hc3
      clear hz4
      first
        | (go_region_with (first
            | ((with_reducible refine HC3.out.mono ?_); rintro e w5 ⟨rfl, hb5⟩; have hz5 := bel_chain hd hb5)))
        | fail
      all_goals
        go_wp2_with fail
        go_ret
        exact ⟨by rw [HSG4.out]; rfl, bel_chain HB.out (HZ.out _ hz5)⟩
/-- schismaref03.Right, of any two texts. -/
theorem t3right_any (n d : ByteArray) (w : World) (hamb : Amb w) :
    Calls Tryz.prog 22 #[.agg #[.string n, .string d]] w (SmallRes (.bool (rightB n.data.toList d.data.toList)) w) := by
  by_cases h : canonR n.data.toList = true ∧ canonR d.data.toList = true
  · obtain ⟨h1, h2⟩ := h
    obtain ⟨e1, n1⟩ := canonR_itx h1
    obtain ⟨e2, n2⟩ := canonR_itx h2
    have hc := t3right_yes _ _ w hamb (by rw [← e1]; exact h1) (by rw [← e2]; exact h2) n1 n2
    rw [← e1, ← e2] at hc
    unfold rightB
    rw [h1, h2, Bool.true_and, Bool.true_and]
    exact hc
  · have hf : rightB n.data.toList d.data.toList = false := by
      unfold rightB
      cases h1 : canonR n.data.toList with
      | false => rfl
      | true =>
        cases h2 : canonR d.data.toList with
        | false => rfl
        | true => exact absurd ⟨h1, h2⟩ h
    rw [hf]
    exact t3right_no n d w h
end
end Go.Proofs.YtdpcmhdmdompnaaGreatDoor
