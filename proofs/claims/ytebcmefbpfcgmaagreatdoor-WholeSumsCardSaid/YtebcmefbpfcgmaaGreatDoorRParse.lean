/- The walk of the second chapter's reference Parse. -/
import Derived.Test.YtebcmefbpfcgmaaGreatDoorParse
namespace Go.Proofs.YtebcmefbpfcgmaaGreatDoor
open Go.RowKit Go.PlainAid

def strD (l : List UInt8) (k : Nat) : ByteArray := ⟨(l.drop k).toArray⟩
theorem strD_data (l : List UInt8) (k : Nat) : (strD l k).data.toList = l.drop k := by simp [strD]
theorem strD_size (l : List UInt8) (k : Nat) : (strD l k).size = l.length - k := by
  show (strD l k).data.size = _
  rw [← Array.length_toList, strD_data, List.length_drop]
theorem strD_next (l : List UInt8) (k : Nat) : (strD l k).extract 1 (strD l k).size = strD l (k + 1) := by
  apply ba_ext
  rw [strD_data, ByteArray.data_extract, Array.toList_extract, strD_data, strD_size, List.extract_eq_take_drop, List.drop_drop]
  rw [List.take_of_length_le (by rw [List.length_drop]; omega)]
theorem strD_bt (l : List UInt8) (k : Nat) (h : k < l.length) : bt (strD l k) 0 = ((l.getD k 0).toNat : Int) := by
  rw [bt_at _ _ (by rw [strD_size]; omega), strD_data, List.getD_eq_getElem?_getD, List.getElem?_drop, Nat.add_zero, List.getD_eq_getElem?_getD]
theorem strD_of {t : ByteArray} {l : List UInt8} (h : t.data.toList = l) : t = strD l 0 := ba_ext (by rw [strD_data, List.drop_zero, h])
theorem val_zero_head (l : List UInt8) (k : Nat) (hk : k < l.length) (h : (l.getD k 0).toNat = 48) : val (l.drop k) = val (l.drop (k + 1)) := by
  have e : l.getD k 0 = 48 := UInt8.toNat_inj.1 h
  rw [List.getD_eq_getElem?_getD, List.getElem?_eq_getElem hk] at e
  have e2 : l[k] = 48 := e
  rw [List.drop_eq_getElem_cons hk, e2, val_cons]; simp
theorem canon_at (l : List UInt8) (k : Nat) (hk : k < l.length) (ha : l.all isDig = true) (h : k + 1 = l.length ∨ (l.getD k 0).toNat ≠ 48) : strD l k = dec (val (l.drop k)) := by
  apply ba_ext
  have h1 : (l.drop k).all isDig = true := by
    rw [List.all_eq_true] at ha ⊢
    exact fun x hx => ha x (List.mem_of_mem_drop hx)
  have hc : canon (l.drop k) = true := by
    unfold canon
    rw [h1, List.length_drop, Bool.true_and]
    rcases h with h | h
    · rw [show l.length - k = 1 by omega]; rfl
    · by_cases h2 : l.length - k = 1
      · rw [h2]; rfl
      · have e : (l.drop k).getD 0 0 = l.getD k 0 := by rw [List.getD_eq_getElem?_getD, List.getElem?_drop, Nat.add_zero, List.getD_eq_getElem?_getD]
        rw [e, decide_eq_true (by omega : 1 < l.length - k)]
        have : (l.getD k 0 == 48) = false := by
          rw [beq_eq_false_iff_ne]; intro e2; rw [e2] at h; exact h rfl
        rw [this]; simp
  rw [strD_data, dec_data, dd_val _ hc]
theorem neg_cases (s : ByteArray) (h : s.data.toList ≠ []) :
    (negT s.data.toList = true ∧ bt s 0 = 45 ∧ s.extract 1 s.size = (⟨(magT s.data.toList).toArray⟩ : ByteArray)) ∨
    (negT s.data.toList = false ∧ (bt s 0 == 45) = false ∧ (⟨(magT s.data.toList).toArray⟩ : ByteArray) = s) := by
  cases hs : s.data.toList with
  | nil => exact absurd hs h
  | cons c r =>
    rw [bt_first s hs]
    have e : negT (c :: r) = (c == 45) := by
      unfold negT Lib.hasPrefix
      show ((45 : UInt8) == c && List.isPrefixOf [] r) = (c == 45)
      rw [List.isPrefixOf_nil_left, Bool.and_true, Bool.eq_iff_iff, beq_iff_eq, beq_iff_eq]
      exact eq_comm
    have em : magT (c :: r) = if negT (c :: r) = true then r else c :: r := by
      unfold magT Lib.trimPrefix negT
      split <;> rfl
    by_cases hc : c = 45
    · left
      subst hc
      rw [em, e]
      refine ⟨rfl, rfl, ?_⟩
      apply ba_ext
      rw [ByteArray.data_extract, Array.toList_extract, hs, List.extract_eq_take_drop]
      have hsz : s.size = r.length + 1 := by
        show s.data.size = _
        rw [← Array.length_toList, hs]; rfl
      rw [hsz]; simp
    · right
      have e1 : (c == 45) = false := by rw [beq_eq_false_iff_ne]; exact hc
      rw [em, e, e1]
      refine ⟨rfl, ?_, ?_⟩
      · rw [beq_eq_false_iff_ne]
        intro h2
        apply hc
        apply UInt8.toNat_inj.1
        have : (45 : UInt8).toNat = 45 := rfl
        omega
      · apply ba_ext
        simp [hs]
def strLen : Value → Nat | .string s => s.size | _ => 0
set_option maxRecDepth 100000 in
set_option maxHeartbeats 2000000 in
/-- schismaref02.Parse. -/
theorem rparse_any (s : ByteArray) (w : World) (hs : s.size ≤ 1000000) :
    Calls Tryz.prog 19 #[.string s] w (SmallRes (ParseRes s.data.toList) w) := by
  by_cases h0 : s.data.toList = []
  · have h1 := str_empty h0
    have h2 : s.toList.isEmpty = true := by rw [str_isEmpty, h1]
    have HR := Lib.hid (show ParseRes s.data.toList = .tuple #[.string ⟨#[]⟩, .int .i64 13] by unfold ParseRes; rw [if_pos h0])
    clear h0
    go_enter Tryz.func19, Tryz.ntmps19
    go_wp2_with fail
    go_ret2
    exact ⟨by rw [HR.out]; rfl, Below.refl _ _⟩
  · have h1 := str_some h0
    have h2 : s.toList.isEmpty = false := by rw [str_isEmpty, h1]
    have hnc := neg_cases s h0
    have hs0 : 0 < s.size := by
      show 0 < s.data.size
      rw [← Array.length_toList]
      exact List.length_pos_iff.2 h0
    obtain ⟨t, ht⟩ : ∃ t : ByteArray, (⟨(magT s.data.toList).toArray⟩ : ByteArray) = t := ⟨_, rfl⟩
    obtain ⟨l, hl⟩ : ∃ l, magT s.data.toList = l := ⟨_, rfl⟩
    have htl : t.data.toList = l := by rw [← ht, ← hl]
    have hts : t.size = l.length := by rw [← htl, Array.length_toList]; rfl
    have hlb : l.length ≤ 1000000 := by rw [← hl]; exact Nat.le_trans (mag_size _) hs
    have HR := Lib.hid (show ParseRes s.data.toList = if l = [] ∨ l.all isDig = false then .tuple #[.string ⟨#[]⟩, .int .i64 15] else if 400 < Lib.nDigits (val l) then .tuple #[.string ⟨#[]⟩, .int .i64 4] else .tuple #[.string (itx (if negT s.data.toList then -(val l : Int) else val l)), .int .i64 0] by
      unfold ParseRes; rw [if_neg h0, hl])
    rw [ht] at hnc
    have HNC := Lib.hid hnc
    have HTL := Lib.hid htl
    have HTS := Lib.hid hts
    have hbs := get_bt s
    have HSD := Lib.hid (strD_of htl)
    generalize negT s.data.toList = ng at *
    clear hnc htl ht hl h0
    go_enter Tryz.func19, Tryz.ntmps19
    go_upto_region 3 with fail
    go_upto_if 11 with fail
    go_cut [0, 4] (fun s0 s4 wx => s0 = .string t ∧ s4 = .bool ng ∧ w = wx)
    case first =>
      rcases HNC.out with ⟨e1, e2, e3⟩ | ⟨e1, e2, e3⟩
      · rw [e2]
        have E1 := Lib.hid e1
        clear e1 e2
        go_wp2_with fail
        go_meet
        exact ⟨rfl, by rw [E1.out]; rfl, rfl⟩
      · rw [e2]
        have E1 := Lib.hid e1
        have E3 := Lib.hid e3
        clear e1 e2 e3
        go_wp2_with fail
        go_meet
        exact ⟨by rw [E3.out], by rw [E1.out], rfl⟩
    case rest =>
      obtain ⟨rfl, rfl, rfl⟩ := hcut
      clear HNC hbs h1 h2
      by_cases hl0 : l = []
      · have h3 := str_empty (t := t) (by rw [HTL.out, hl0])
        have h4 : t.toList.isEmpty = true := by rw [str_isEmpty, h3]
        rw [if_pos (.inl hl0)] at HR
        clear hl0 hts
        go_wp2_with fail
        go_ret2
        exact ⟨by rw [HR.out]; rfl, Below.refl _ _⟩
      · have h3 := str_some (t := t) (by rw [HTL.out]; exact hl0)
        have h4 : t.toList.isEmpty = false := by rw [str_isEmpty, h3]
        have hbt := get_bt t
        have htsb : t.size ≤ 1000000 := by rw [hts]; exact hlb
        have HL0 := Lib.hid hl0
        clear hl0 hts
        go_wp2_with fail
        go_loop [5] (fun vi => ∃ i : Nat, i ≤ t.size ∧ vi = .int .i64 (i : Int) ∧ Hid ((l.take i).all isDig = true)) (fun vi => t.size - (intOf vi).toNat)
        case atStart => exact ⟨0, Nat.zero_le _, rfl, Lib.hid rfl⟩
        case round =>
          obtain ⟨i, hi, rfl, HI⟩ := hrel
          by_cases hin : i = t.size
          · have hall : l.all isDig = true := by have := HI.out; rwa [List.take_of_length_le (by rw [← HTS.out]; omega)] at this
            have hlt : ¬ i < t.size := by omega
            rw [if_neg (fun h => h.elim (fun h => HL0.out h) (fun h => by rw [hall] at h; cases h))] at HR
            have HALL := Lib.hid hall
            have hll : 0 < l.length := List.length_pos_iff.2 HL0.out
            have HSDT := Lib.hid HSD.out
            clear hin hall h3 h4 hbt
            go_wp2_with fail
            go_loop [0] (fun vs => ∃ k : Nat, k < l.length ∧ vs = .string (strD l k) ∧ Hid (val (l.drop k) = val l)) (fun vs => strLen vs)
            case atStart => exact ⟨0, hll, by rw [← HSDT.out], Lib.hid (by rw [List.drop_zero])⟩
            case round =>
              obtain ⟨k, hk, rfl, HV⟩ := hrel
              have hsz := strD_size l k
              have hszi : ((strD l k).size : Int) = (l.length : Int) - (k : Int) := by rw [hsz]; omega
              have hbt := get_bt (strD l k)
              have hb := strD_bt l k hk
              have hdg := dig_getD HALL.out k hk
              have HSZ := Lib.hid hsz
              have HC := Lib.hid (canon_at l k hk HALL.out)
              have HZ := Lib.hid (val_zero_head l k hk)
              have hnx := strD_next l k
              have HNX := Lib.hid (strD_size l (k + 1))
              have hs0 : 0 < (strD l k).size := by omega
              clear hsz
              generalize (l.getD k 0).toNat = d at *
              by_cases hgo : k + 1 < l.length ∧ d = 48
              · obtain ⟨hk1, hd48⟩ := hgo
                have hv2 : val (l.drop (k + 1)) = val l := by rw [← HZ.out hd48]; exact HV.out
                have HV2 := Lib.hid hv2
                subst hd48
                clear hv2
                go_wp2_with fail
                go_round
                case rel => exact ⟨k + 1, hk1, rfl, HV2⟩
                case measure =>
                  show (strD l (k + 1)).size < (strD l k).size
                  rw [HNX.out, HSZ.out]; omega
              · have hcn := HC.out (by omega)
                rw [HV.out] at hcn
                obtain ⟨m, hm⟩ : ∃ m, val l = m := ⟨_, rfl⟩
                rw [hm] at HR hcn
                have hsz2 : ((dec m).size : Int) = (l.length : Int) - (k : Int) := by rw [← hcn]; exact hszi
                have HSM := Lib.hid (dec_size m)
                rw [hcn] at hszi hbt hb hs0 ⊢
                have hmd : (dec m).size ≤ 1000000 := by omega
                have HM1 := Lib.hid hmd
                have h1d : d = 48 → ¬ 1 < (dec m).size := fun h h' => hgo ⟨by omega, h⟩
                have HGO := Lib.hid h1d
                clear hnx hgo hcn HC HZ HV hm h1d hszi hsz2 HNX HSZ
                have hres : ¬ 400 < (dec m).size → ∀ w', Below w.heap.size w w' → SmallRes (ParseRes s.data.toList) w (.returned (.tuple #[.string (itx (if ng then -(m : Int) else m)), .int .i64 0])) w' := fun h w' hw => by
                  rw [if_neg (by rw [← HSM.out]; exact h)] at HR
                  exact ⟨by rw [HR.out], hw⟩
                have HRES := Lib.hid hres
                clear hres
                have HKEY := Lib.hid (show ∀ (P : Prop), (1 < (dec m).size → ((d : Int) == 48) = false → P) → (¬ 1 < (dec m).size → P) → P from fun P h1 h2 => by
                  by_cases h : 1 < (dec m).size
                  · exact h1 h (by rw [beq_eq_false_iff_ne]; intro e; exact HGO.out (by omega) h)
                  · exact h2 h)
                by_cases hbig : 400 < (dec m).size
                · rw [if_pos (by rw [← HSM.out]; exact hbig)] at HR
                  have hd48 : ((d : Int) == 48) = false := by rw [beq_eq_false_iff_ne]; intro e; exact HGO.out (by omega) (by omega)
                  go_wp2_with fail
                  go_ret2
                  exact ⟨by rw [HR.out]; rfl, Below.refl _ _⟩
                · by_cases hm0 : m = 0
                  · subst hm0
                    have hz := dec_zero_same
                    have hz1 : (!(dec 0).toList == [48]) = false := by rw [hz]; rfl
                    have h11 : ¬ 1 < (dec 0).size := by rw [dec_size, Lib.nDigits_small (by omega)]; omega
                    have HF := Lib.hid (HRES.out hbig _ (Below.refl _ _))
                    have HZ0 := Lib.hid (itx_nat 0)
                    cases ng
                    all_goals
                      go_wp2_with fail
                      go_ret2
                      have := HF.out
                      simp only [Int.natCast_zero, Int.neg_zero, ite_self] at this
                      rw [show itx 0 = dec 0 from HZ0.out] at this
                      exact this
                  · have hz := dec_zero_test hm0
                    have hz1 : (!(dec m).toList == [48]) = true := by rw [hz]; rfl
                    have hap := neg_append hm0
                    have HF := Lib.hid (HRES.out hbig _ (Below.refl _ _))
                    have HN := Lib.hid (itx_nat m)
                    refine HKEY.out _ (fun h1 h2 => ?_) (fun h1 => ?_)
                    all_goals
                      cases ng
                      all_goals
                        go_wp2_with fail
                        go_ret2
                        have := HF.out
                        simp only [if_true, if_false, Bool.false_eq_true] at this
                        first
                        | exact this
                        | (rw [HN.out] at this; exact this)
          · have hlt : i < t.size := by omega
            have hb := bt_at t i hlt
            rw [HTL.out] at hb
            have htk : (l.take (i + 1)).all isDig = isDig (l.getD i 0) := by
              rw [List.take_succ_eq_append_getElem (by rw [← HTS.out]; exact hlt), List.all_append, HI.out, List.getD_eq_getElem?_getD, List.getElem?_eq_getElem (by rw [← HTS.out]; exact hlt)]
              simp
            have hno : isDig (l.getD i 0) = false → l.all isDig = false := fun h => by
              rw [List.all_eq_false]
              exact ⟨l.getD i 0, by rw [List.getD_eq_getElem?_getD, List.getElem?_eq_getElem (by rw [← HTS.out]; exact hlt)]; exact List.getElem_mem _, by rw [h]; decide⟩
            have hb1 := (l.getD i 0).toNat_lt
            have hdg : isDig (l.getD i 0) = (decide (48 ≤ (l.getD i 0).toNat) && decide ((l.getD i 0).toNat ≤ 57)) := rfl
            have HTK := Lib.hid htk
            have HNO := Lib.hid hno
            have HDG := Lib.hid hdg
            clear htk hno hdg hin
            generalize (l.getD i 0) = b at *
            generalize hd : b.toNat = d at *
            by_cases h5 : 48 ≤ d
            · by_cases h6 : d ≤ 57
              · have HY := Lib.hid (show isDig b = true by rw [HDG.out]; simp [h5, h6])
                clear hd
                go_wp2_with fail
                go_round
                case rel => exact ⟨i + 1, by omega, by go_num, Lib.hid (by rw [HTK.out]; exact HY.out)⟩
                case measure => simp [intOf]; omega
              · have HY := Lib.hid (show isDig b = false by rw [HDG.out]; simp; omega)
                rw [if_pos (.inr (HNO.out HY.out))] at HR
                clear hd
                go_wp2_with fail
                go_ret2
                exact ⟨by rw [HR.out]; rfl, Below.refl _ _⟩
            · have HY := Lib.hid (show isDig b = false by rw [HDG.out]; simp; omega)
              rw [if_pos (.inr (HNO.out HY.out))] at HR
              clear hd
              go_wp2_with fail
              go_ret2
              exact ⟨by rw [HR.out]; rfl, Below.refl _ _⟩
end Go.Proofs.YtebcmefbpfcgmaaGreatDoor
