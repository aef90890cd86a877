/- The walk of the program's Parse. -/
import Derived.Test.YtebcmefbpfcgmaaGreatDoorW4
namespace Go.Proofs.YtebcmefbpfcgmaaGreatDoor
open Go.RowKit Go.PlainAid

theorem bt_at (s : ByteArray) (j : Nat) (h : j < s.size) : bt s j = ((s.data.toList.getD j 0).toNat : Int) := by
  unfold bt
  rw [dif_pos h, List.getD_eq_getElem?_getD, List.getElem?_eq_getElem (by rw [Array.length_toList]; exact h)]; rfl
/-- The sign and the rest of a text. -/
def negT (l : List UInt8) : Bool := Lib.hasPrefix l [45]
def magT (l : List UInt8) : List UInt8 := Lib.trimPrefix l [45]
/-- What Parse answers. -/
def ParseRes (l : List UInt8) : Value :=
  if l = [] then .tuple #[.string ⟨#[]⟩, .int .i64 13]
  else if magT l = [] ∨ (magT l).all isDig = false then .tuple #[.string ⟨#[]⟩, .int .i64 15]
  else if 400 < Lib.nDigits (val (magT l)) then .tuple #[.string ⟨#[]⟩, .int .i64 4]
  else .tuple #[.string (itx (if negT l then -(val (magT l) : Int) else val (magT l))), .int .i64 0]
theorem trim_zeros (l : List UInt8) (h : l.all isDig = true) :
    (val l = 0 → l.dropWhile (· == 48) = []) ∧ (val l ≠ 0 → l.dropWhile (· == 48) = Lib.decDigits (val l)) := by
  induction l with
  | nil => exact ⟨fun _ => rfl, fun h => absurd val_nil h⟩
  | cons c r ih =>
    rw [List.all_cons, Bool.and_eq_true] at h
    by_cases hc : c = 48
    · subst hc
      have e : val (48 :: r) = val r := by rw [val_cons]; simp
      rw [e, List.dropWhile_cons_of_pos (by rfl)]
      exact ih h.2
    · have hd := (isDig_iff c).1 h.1
      have hc' : c.toNat ≠ 48 := fun e => hc (UInt8.toNat_inj.1 e)
      have hp := dd_val_pos (c :: r).length (c :: r) rfl (by rw [List.all_cons, h.1, h.2]; rfl) (by simp) (by simpa using hc)
      rw [List.dropWhile_cons_of_neg (by simpa using hc)]
      exact ⟨fun h0 => by omega, fun _ => hp.1.symm⟩
theorem str_empty {t : ByteArray} (h : t.data.toList = []) : (t.toList == []) = true := by rw [ByteArray.toList_eq, h]; rfl
theorem str_some {t : ByteArray} (h : t.data.toList ≠ []) : (t.toList == []) = false := by rw [ByteArray.toList_eq, beq_eq_false_iff_ne]; exact h
theorem str_isEmpty (t : ByteArray) : t.toList.isEmpty = (t.toList == []) := by cases t.toList <;> rfl
theorem mag_size (l : List UInt8) : (magT l).length ≤ l.length := by
  unfold magT Lib.trimPrefix
  split
  · rw [List.length_drop]; omega
  · exact Nat.le_refl _
set_option maxRecDepth 100000 in
set_option maxHeartbeats 1000000 in
/-- whole.Parse. -/
theorem wparse_any (s : ByteArray) (w : World) (hs : s.size ≤ 1000000) :
    Calls Tryz.prog 17 #[.string s] w (SmallRes (ParseRes s.data.toList) w) := by
  by_cases h0 : s.data.toList = []
  · have h1 := str_empty h0
    have h2 : s.toList.isEmpty = true := by rw [str_isEmpty, h1]
    have HR := Lib.hid (show ParseRes s.data.toList = .tuple #[.string ⟨#[]⟩, .int .i64 13] by unfold ParseRes; rw [if_pos h0])
    clear h0
    go_enter Tryz.func17, Tryz.ntmps17
    go_wp2_with fail
    go_ret2
    exact ⟨by rw [HR.out]; rfl, Below.refl _ _⟩
  · have h1 := str_some h0
    have h2 : s.toList.isEmpty = false := by rw [str_isEmpty, h1]
    obtain ⟨t, ht⟩ : ∃ t : ByteArray, t = ⟨(magT s.data.toList).toArray⟩ := ⟨_, rfl⟩
    obtain ⟨l, hl⟩ : ∃ l, magT s.data.toList = l := ⟨_, rfl⟩
    have htl : t.data.toList = l := by rw [ht, ← hl]
    have hcp : ∀ w1, Calls Tryz.prog 44 #[.string s, .string ⟨#[45]⟩] w1 fun e w' => e = .returned (.tuple #[.string t, .bool (negT s.data.toList)]) ∧ w' = w1 := fun w1 => by
      rw [ht]; exact Tryz.strings_CutPrefix s ⟨#[45]⟩ w1
    have hts : t.size = l.length := by rw [← htl, Array.length_toList]; rfl
    have hlb : l.length ≤ 1000000 := by rw [← hl]; exact Nat.le_trans (mag_size _) hs
    have HR := Lib.hid (show ParseRes s.data.toList = if l = [] ∨ l.all isDig = false then .tuple #[.string ⟨#[]⟩, .int .i64 15] else if 400 < Lib.nDigits (val l) then .tuple #[.string ⟨#[]⟩, .int .i64 4] else .tuple #[.string (itx (if negT s.data.toList then -(val l : Int) else val l)), .int .i64 0] by
      unfold ParseRes; rw [if_neg h0, hl])
    have HCP := Lib.hid hcp
    have HTL := Lib.hid htl
    have HTS := Lib.hid hts
    generalize negT s.data.toList = ng at *
    clear hcp htl ht hl h0
    by_cases hl0 : l = []
    · have h3 := str_empty (t := t) (by rw [HTL.out, hl0])
      have h4 : t.toList.isEmpty = true := by rw [str_isEmpty, h3]
      rw [if_pos (.inl hl0)] at HR
      clear hl0 hts
      go_enter Tryz.func17, Tryz.ntmps17
      go_wp2_with fail
      refine (HCP.out _).mono ?_
      rintro e w1 ⟨rfl, rfl⟩
      go_wp2_with fail
      go_ret2
      exact ⟨by rw [HR.out]; rfl, Below.refl _ _⟩
    · have h3 := str_some (t := t) (by rw [HTL.out]; exact hl0)
      have h4 : t.toList.isEmpty = false := by rw [str_isEmpty, h3]
      have hbt := get_bt t
      have htsb : t.size ≤ 1000000 := by rw [hts]; exact hlb
      have HL0 := Lib.hid hl0
      clear hl0 hts
      go_enter Tryz.func17, Tryz.ntmps17
      go_wp2_with fail
      refine (HCP.out _).mono ?_
      rintro e w1 ⟨rfl, rfl⟩
      go_wp2_with fail
      go_loop [18] (fun vi => ∃ i : Nat, i ≤ t.size ∧ vi = .int .i64 (i : Int) ∧ Hid ((l.take i).all isDig = true)) (fun vi => t.size - (intOf vi).toNat)
      case atStart => exact ⟨0, Nat.zero_le _, rfl, Lib.hid rfl⟩
      case round =>
        obtain ⟨i, hi, rfl, HI⟩ := hrel
        by_cases hin : i = t.size
        · have hall : l.all isDig = true := by have := HI.out; rwa [List.take_of_length_le (by rw [← HTS.out]; omega)] at this
          have htr : ∀ w1, Calls Tryz.prog 45 #[.string t, .string ⟨#[48]⟩] w1 fun e w' => e = .returned (.string ⟨(l.dropWhile (· == 48)).toArray⟩) ∧ w' = w1 := fun w1 => by
            have := Tryz.strings_TrimLeft_one t 48 (by decide) w1
            rw [HTL.out] at this
            exact this
          have HTR := Lib.hid htr
          have htz := trim_zeros l hall
          have hlt : ¬ i < t.size := by omega
          rw [if_neg (fun h => h.elim (fun h => HL0.out h) (fun h => by rw [hall] at h; cases h))] at HR
          clear htr hin hall
          by_cases hv : val l = 0
          · have e1 := htz.1 hv
            rw [e1] at HTR
            rw [hv] at HR
            clear htz e1 hv
            go_wp2_with fail
            refine (HTR.out _).mono ?_
            rintro e w1 ⟨rfl, rfl⟩
            go_wp2_with fail
            go_ret2
            refine ⟨?_, Below.refl _ _⟩
            rw [HR.out, if_neg (by rw [Lib.nDigits_small (by omega)]; omega)]
            cases ng <;> simp [itx_lit_zero]
          · have e1 := htz.2 hv
            rw [e1] at HTR
            obtain ⟨m, hm⟩ : ∃ m, val l = m := ⟨_, rfl⟩
            rw [hm] at HTR HR hv
            have hd : (⟨(Lib.decDigits m).toArray⟩ : ByteArray) = dec m := rfl
            rw [hd] at HTR
            have h5 : (dec m).toList.isEmpty = false := by rw [str_isEmpty, str_some (by rw [dec_data]; exact dd_ne_nil m)]
            have h6 := str_some (t := dec m) (by rw [dec_data]; exact dd_ne_nil m)
            have HSZ := Lib.hid (dec_size m)
            clear htz e1 hv hm hd
            by_cases hbig : 400 < (dec m).size
            · rw [if_pos (by rw [← HSZ.out]; exact hbig)] at HR
              go_wp2_with fail
              refine (HTR.out _).mono ?_
              rintro e w1 ⟨rfl, rfl⟩
              go_wp2_with fail
              go_ret2
              exact ⟨by rw [HR.out]; rfl, Below.refl _ _⟩
            · rw [if_neg (by rw [← HSZ.out]; exact hbig)] at HR
              have hmd : Lib.nDigits m ≤ 1000000000 := by rw [← HSZ.out]; omega
              cases ng
              all_goals
                go_wp2_with fail
                refine (HTR.out _).mono ?_
                rintro e w1 ⟨rfl, rfl⟩
                go_wp2_with fail
                refine (join_any _ m _ hmd).mono ?_
                rintro e w2 ⟨rfl, hb2⟩
                go_wp2_with fail
                go_ret2
                exact ⟨by rw [HR.out]; rfl, hb2⟩
        · have hlt : i < t.size := by omega
          have hb := bt_at t i hlt
          rw [HTL.out] at hb
          have htk : (l.take (i + 1)).all isDig = isDig (l.getD i 0) := by
            rw [List.take_succ_eq_append_getElem (by rw [← HTS.out]; exact hlt), List.all_append, HI.out, List.getD_eq_getElem?_getD, List.getElem?_eq_getElem (by rw [← HTS.out]; exact hlt)]
            simp
          have hno : isDig (l.getD i 0) = false → l.all isDig = false := fun h => by
            rw [List.all_eq_false]
            exact ⟨l.getD i 0, by rw [List.getD_eq_getElem?_getD, List.getElem?_eq_getElem (by rw [← HTS.out]; exact hlt)]; exact List.getElem_mem _, by rw [h]; decide⟩
          have hb1 := (l.getD i 0).toNat_lt
          have hdg : isDig (l.getD i 0) = (decide (48 ≤ (l.getD i 0).toNat) && decide ((l.getD i 0).toNat ≤ 57)) := rfl
          have HTK := Lib.hid htk
          have HNO := Lib.hid hno
          have HDG := Lib.hid hdg
          clear htk hno hdg hin
          generalize (l.getD i 0) = b at *
          generalize hd : b.toNat = d at *
          by_cases h5 : 48 ≤ d
          · by_cases h6 : d ≤ 57
            · have HY := Lib.hid (show isDig b = true by rw [HDG.out]; simp [h5, h6])
              clear hd
              go_wp2_with fail
              go_round
              case rel => exact ⟨i + 1, by omega, by go_num, Lib.hid (by rw [HTK.out]; exact HY.out)⟩
              case measure => simp [intOf]; omega
            · have HY := Lib.hid (show isDig b = false by rw [HDG.out]; simp; omega)
              rw [if_pos (.inr (HNO.out HY.out))] at HR
              clear hd
              go_wp2_with fail
              go_ret2
              exact ⟨by rw [HR.out]; rfl, Below.refl _ _⟩
          · have HY := Lib.hid (show isDig b = false by rw [HDG.out]; simp; omega)
            rw [if_pos (.inr (HNO.out HY.out))] at HR
            clear hd
            go_wp2_with fail
            go_ret2
            exact ⟨by rw [HR.out]; rfl, Below.refl _ _⟩
end Go.Proofs.YtebcmefbpfcgmaaGreatDoor
