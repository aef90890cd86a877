/- The second chapter's reference: join, signed. -/
import Derived.Test.YtebcmefbpfcgmaaGreatDoorRB
import Derived.Test.YtebcmefbpfcgmaaGreatDoorPieces
namespace Go.Proofs.YtebcmefbpfcgmaaGreatDoor
open Go.RowKit Go.PlainAid

theorem pad_join {m y : Nat} {t : List UInt8} (hm : 0 < m) (hd : t.all isDig = true) (hl : t.length = 9) (hv : val t = y) : Lib.decDigits m ++ t = Lib.decDigits (y + 1000000000 * m) := by
  have h1 := dd_head m hm
  have h2 := dd_ne_nil m
  have h3 : (Lib.decDigits m ++ t).getD 0 0 = (Lib.decDigits m).getD 0 0 := by
    cases hc : Lib.decDigits m with
    | nil => exact absurd hc h2
    | cons c r => rfl
  have h4 := (dd_val_pos _ (Lib.decDigits m ++ t) rfl (by rw [List.all_append, all_dd, hd]; rfl) (by simp [h2]) (by rw [h3]; exact h1)).1
  rw [val_append, val_dd, hl, hv, show (10 : Nat) ^ 9 = 1000000000 by decide] at h4
  rw [← h4]; congr 1; omega
theorem val_zero_cons (l : List UInt8) : val (48 :: l) = val l := by rw [val_cons]; simp
theorem zero_append_data (t : ByteArray) : ((⟨#[48]⟩ : ByteArray) ++ t).data.toList = 48 :: t.data.toList := by rw [ByteArray.data_append, Array.toList_append]; rfl
def PadAt (y : Nat) (t : ByteArray) : Prop := t.data.toList.all isDig = true ∧ val t.data.toList = y
theorem PadAt.start (y : Nat) : PadAt y (dec y) := ⟨by rw [dec_data]; exact all_dd y, by rw [dec_data]; exact val_dd y⟩
theorem PadAt.step {y : Nat} {t : ByteArray} (h : PadAt y t) : PadAt y ((⟨#[48]⟩ : ByteArray) ++ t) := by
  unfold PadAt
  rw [zero_append_data, val_zero_cons]
  exact ⟨by rw [List.all_cons, h.1]; rfl, h.2⟩
theorem size_zero_append (t : ByteArray) : ((⟨#[48]⟩ : ByteArray) ++ t).size = t.size + 1 := by
  show ((⟨#[48]⟩ : ByteArray) ++ t).data.size = _
  rw [← Array.length_toList, zero_append_data, List.length_cons, Array.length_toList]; rfl
theorem PadAt.fin {y m : Nat} {t : ByteArray} (h : PadAt y t) (hm : 0 < m) (hs : t.size = 9) : dec m ++ t = dec (y + 1000000000 * m) := by
  apply ba_ext
  rw [ByteArray.data_append, Array.toList_append, dec_data, dec_data]
  exact pad_join hm h.1 (by rw [Array.length_toList]; exact hs) h.2
theorem nd_limb {y : Nat} (h : y < 1000000000) : Lib.nDigits y ≤ 9 := (nd_le_iff y 8).2 h
theorem lv_drop_pos {a j : Nat} (h : j < (lims a).length) : 0 < lv ((lims a).drop j) := by
  rw [lv_drop _ (Lims_lims a) _ (by omega), lv_lims]
  rw [Nat.div_pos_iff]
  have h2 : 1000000000 ^ j ≤ a := by
    rcases Nat.lt_or_ge a (1000000000 ^ j) with h3 | h3
    · have := (lims_len_le a j).2 h3; omega
    · exact h3
  exact ⟨Nat.pow_pos (by decide), h2⟩
set_option maxRecDepth 100000 in
set_option maxHeartbeats 1000000 in
/-- schismaref02.join. -/
theorem r2join_any (A : Option Addr) (n cap a : Nat) (w : World) (hamb : Amb w) (h : Ns w A n cap (lims a)) (hn : n ≤ 1000000) (ha : Lib.nDigits a ≤ 1000000000) :
    Calls Tryz.prog 51 #[.slice A n cap] w (SmallRes (.string (dec a)) w) := by
  have hlen := h.len
  rcases h with ⟨rfl, rfl, rfl, e0⟩ | ⟨g, rfl, hp⟩
  · have h0 : a = 0 := lims_ne_nil.1 e0
    subst h0
    rw [dec0]
    clear e0 hlen
    go_enter Tryz.func51, Tryz.ntmps51
    go_wp2
    go_ret
    exact ⟨rfl, Below.refl _ _⟩
  · have hcap := hp.cap_le
    have hle := hp.le
    have hg := hp.lt
    by_cases hn0 : n = 0
    · have h0 : a = 0 := lims_ne_nil.1 (List.eq_nil_of_length_eq_zero (by omega))
      subst h0
      subst hn0
      rw [dec0]
      clear hlen hp hg
      go_enter Tryz.func51, Tryz.ntmps51
      go_wp2
      go_ret
      exact ⟨rfl, Below.refl _ _⟩
    · obtain ⟨m, rfl⟩ : ∃ m, n = m + 1 := ⟨n - 1, by omega⟩
      have hne : (((m + 1 : Nat) : Int) == 0) = false := by rw [beq_eq_false_iff_ne]; omega
      have hne2 : ((m : Int) + 1 == 0) = false := by rw [beq_eq_false_iff_ne]; omega
      have hm1 : (m : Int) + 1 - 1 = (m : Int) := by omega
      have hm2 : ((m + 1 : Nat) : Int) - 1 = (m : Int) := by omega
      have hc := hp.cell m (by omega)
      have hgt := Lims_getD (Lims_lims a) m
      have HTOP := Lib.hid (show dec (lv ((lims a).drop m)) = dec ((lims a).getD m 0) by
        rw [lv_drop_pred _ m (by omega), List.drop_of_length_le (by omega)]; congr 1)
      have HFIN := Lib.hid (show dec (lv ((lims a).drop 0)) = dec a by rw [List.drop_zero, lv_lims])
      have HP := Lib.hid hp
      have HC := Lib.hid (fun (y : Nat) w1 (h : Amb w1) (hy : y < 1000000000) => itx_nat y ▸ itoa_any (y : Int) w1 h (by omega) (by omega))
      have HPOS := Lib.hid (fun j (h : j < m + 1) => lv_drop_pos (a := a) (j := j) (by omega))
      have HPRED := Lib.hid (fun j (h : j < m + 1) => lv_drop_pred (lims a) j (by omega))
      have HLG := Lib.hid (Lims_lims a)
      have HSZ := Lib.hid (fun j (h : j < m + 1) => show (dec (lv ((lims a).drop j))).size ≤ 1000000000 by
        rw [dec_size]
        refine Nat.le_trans (nd_mono ?_) ha
        rw [lv_drop _ (Lims_lims a) _ (by omega), lv_lims]
        exact Nat.div_le_self _ _)
      generalize lims a = xs at *
      obtain ⟨y, hy⟩ : ∃ y, xs.getD m 0 = y := ⟨_, rfl⟩
      rw [hy] at hc hgt HTOP
      clear hlen hp hy ha
      go_enter Tryz.func51, Tryz.ntmps51
      go_wp2_with fail
      refine (HC.out y _ hamb hgt).mono ?_
      rintro e w1 ⟨rfl, hb1⟩
      go_wp2_with fail
      go_loopw [3, 4] (fun vs vi wr => ∃ j : Nat, j ≤ m ∧ vi = .int .i64 ((j : Int) - 1) ∧ vs = .string (dec (lv (xs.drop j))) ∧ Below w.heap.size w wr) (fun _ vi _ => ((intOf vi) + 1).toNat)
      case atStart => exact ⟨m, Nat.le_refl _, by go_num, by rw [HTOP.out], hb1⟩
      case round =>
        obtain ⟨j, hj, rfl, rfl, hB⟩ := hrel
        by_cases hj0 : j = 0
        · subst hj0
          rw [HFIN.out]
          go_wp2
          go_ret
          exact ⟨rfl, hB⟩
        · obtain ⟨k, rfl⟩ : ∃ k, j = k + 1 := ⟨j - 1, by omega⟩
          have ec : ((k + 1 : Nat) : Int) - 1 = (k : Int) := by omega
          rw [ec]
          have hp2 := HP.out.below hB hg
          have hc2 := hp2.cell k (by omega)
          have hgt2 := Lims_getD HLG.out k
          have hps := HPOS.out (k + 1) (by omega)
          have hpr := HPRED.out k (by omega)
          have hsz := HSZ.out (k + 1) (by omega)
          obtain ⟨x, hx⟩ : ∃ x, xs.getD k 0 = x := ⟨_, rfl⟩
          rw [hx] at hc2 hgt2 hpr
          generalize lv (xs.drop (k + 1)) = M at *
          have HPR := Lib.hid hpr
          clear ec hx hpr hp2
          have hkm : (k : Int) < (m : Int) := by omega
          go_wp2_with fail
          refine (HC.out x _ (hamb.below hB) hgt2).mono ?_
          rintro e w2 ⟨rfl, hb2⟩
          have hB2 := bel_chain hB hb2
          clear hb2 hc2
          go_wp2_with fail
          go_loop [5] (fun vx => ∃ t : ByteArray, t.size ≤ 9 ∧ vx = .string t ∧ Hid (PadAt x t)) (fun vx => 9 - szOf vx)
          case atStart => exact ⟨dec x, by rw [dec_size]; exact nd_limb hgt2, rfl, Lib.hid (PadAt.start x)⟩
          case round =>
            obtain ⟨t, ht, rfl, HPT⟩ := hrel
            by_cases ht9 : t.size = 9
            · have HF := Lib.hid (HPT.out.fin hps ht9)
              have ht9i : ¬ ((t.size : Nat) : Int) < 9 := by omega
              go_wp2
              go_roundw
              case rel => exact ⟨k, by omega, by go_num, by rw [HF.out, HPR.out], hB2⟩
              case measure => simp [intOf]
            · have ht9i : ((t.size : Nat) : Int) < 9 := by omega
              go_wp2
              go_round
              case rel => exact ⟨_, by rw [size_zero_append]; omega, rfl, Lib.hid HPT.out.step⟩
              case measure => simp only [szOf, size_zero_append]; omega
/-- schismaref02.signed. -/
theorem r2signed_any (b : Bool) (A : Option Addr) (n cap a : Nat) (xs : List Nat) (w : World) (hamb : Amb w) (h : Ns w A n cap xs) (hx : Lims xs) (hv : lv xs = a) (hn : n ≤ 1000000) (ha : Lib.nDigits a ≤ 1000000000) :
    Calls Tryz.prog 25 #[.bool b, .slice A n cap] w (SmallRes (.string (itx (if b then -(a : Int) else a))) w) := by
  have hty := r2trim_any A n cap xs w h
  have ht := h.trimmed
  have hle : (trimL xs).length ≤ n := by rw [← h.len, trimL_take, List.length_take]; omega
  have hcap := h.cap_le
  have hle2 := h.le
  rw [trimL_eq _ hx, hv] at ht hty hle
  have HTR := Lib.hid hty
  obtain ⟨m, hm⟩ : ∃ m, (lims a).length = m := ⟨_, rfl⟩
  rw [hm] at HTR ht hle
  have HJ := Lib.hid (r2join_any A m cap a w hamb ht (by omega) ha)
  have hsz : (dec a).size ≤ 1000000000 := by rw [dec_size]; exact ha
  have HZ := Lib.hid (show m = 0 ↔ a = 0 by rw [← hm, List.length_eq_zero_iff]; exact lims_ne_nil)
  clear hty ht hm h hx hv
  by_cases hb : b = true ∧ m ≠ 0
  · obtain ⟨rfl, h0⟩ := hb
    have hmi : (0 : Int) < (m : Int) := by omega
    have ha0 : a ≠ 0 := fun e => h0 (HZ.out.2 e)
    have hx := neg_append ha0
    simp only [if_true]
    go_enter Tryz.func25, Tryz.ntmps25
    go_wp2_with fail
    refine HTR.out.mono ?_
    rintro e w1 ⟨rfl, rfl⟩
    go_wp2_with fail
    refine HJ.out.mono ?_
    rintro e w2 ⟨rfl, hb2⟩
    go_wp2_with fail
    go_ret
    exact ⟨by rw [← hx]; rfl, hb2⟩
  · have HR := Lib.hid (show itx (if b then -(a : Int) else a) = dec a by
      cases b with
      | false => simp [itx_nat]
      | true =>
        have : a = 0 := HZ.out.1 (by simpa using hb)
        subst this; exact itx_nat 0)
    rw [HR.out]
    cases b with
    | false =>
      go_enter Tryz.func25, Tryz.ntmps25
      go_wp2_with fail
      refine HTR.out.mono ?_
      rintro e w1 ⟨rfl, rfl⟩
      go_wp2_with fail
      refine HJ.out.mono ?_
      rintro e w2 ⟨rfl, hb2⟩
      go_wp2_with fail
      go_ret
      exact ⟨rfl, hb2⟩
    | true =>
      have h0 : m = 0 := by simpa using hb
      subst h0
      go_enter Tryz.func25, Tryz.ntmps25
      go_wp2_with fail
      refine HTR.out.mono ?_
      rintro e w1 ⟨rfl, rfl⟩
      go_wp2_with fail
      refine HJ.out.mono ?_
      rintro e w2 ⟨rfl, hb2⟩
      go_wp2_with fail
      go_ret
      exact ⟨rfl, hb2⟩
end Go.Proofs.YtebcmefbpfcgmaaGreatDoor
