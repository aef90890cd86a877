/- The walk of the second chapter's Make: the integer that a description gives. -/
import Derived.Test.YtebcmefbpfcgmaaGreatDoorRParse
import Derived.Test.YtebcmefbpfcgmaaGreatDoorInB
import Derived.Deep.CutBlock
namespace Go.Proofs.YtebcmefbpfcgmaaGreatDoor
open Go.RowKit Go.PlainAid

/-- The digits of a description, modulo 10 each. -/
def dl (l : List UInt8) (i : Nat) : List UInt8 := (l.take i).map fun c => UInt8.ofNat (48 + c.toNat % 10)
def ds (l : List UInt8) (i : Nat) : ByteArray := ⟨(dl l i).toArray⟩
/-- The magnitude that digits describe, of the first n. -/
def mkN (l : List UInt8) (n : Nat) : Nat := val (dl l n)
/-- The integer of a description. -/
def mkZ (neg : Bool) (l : List UInt8) (n : Nat) : Int := if neg then -(mkN l n : Int) else mkN l n
theorem dl_zero (l : List UInt8) : dl l 0 = [] := by simp [dl]
theorem dl_succ (l : List UInt8) (i : Nat) (h : i < l.length) : dl l (i + 1) = dl l i ++ [UInt8.ofNat (48 + (l.getD i 0).toNat % 10)] := by
  unfold dl
  rw [List.take_succ_eq_append_getElem h, List.map_append, List.getD_eq_getElem?_getD, List.getElem?_eq_getElem h]; rfl
theorem dl_len (l : List UInt8) (i : Nat) : (dl l i).length = min i l.length := by simp [dl]
theorem dl_all (l : List UInt8) (i : Nat) : (dl l i).all isDig = true := by
  rw [List.all_eq_true]
  intro c hc
  unfold dl at hc
  obtain ⟨x, _, rfl⟩ := List.mem_map.1 hc
  exact isDig_ofNat _ (Nat.mod_lt _ (by decide))
theorem dl_end (l : List UInt8) (i n : Nat) (h : l.length ≤ i ∨ i = n) (hi : i ≤ n) : dl l i = dl l n := by
  rcases h with h | h
  · unfold dl; rw [List.take_of_length_le h, List.take_of_length_le (by omega)]
  · rw [h]
theorem ds_data (l : List UInt8) (i : Nat) : (ds l i).data.toList = dl l i := by simp [ds]
theorem ds_size (l : List UInt8) (i : Nat) : (ds l i).size = min i l.length := by
  show (ds l i).data.size = _
  rw [← Array.length_toList, ds_data, dl_len]
theorem ds_succ (l : List UInt8) (i : Nat) (h : i < l.length) : ds l i ++ (⟨#[UInt8.ofNat (48 + (l.getD i 0).toNat % 10)]⟩ : ByteArray) = ds l (i + 1) := by
  apply ba_ext
  rw [ByteArray.data_append, Array.toList_append, ds_data, ds_data, dl_succ l i h]
theorem mkN_lt (l : List UInt8) (n : Nat) : mkN l n < 10 ^ n := by
  have h1 := val_lt (dl l n) (dl_all l n)
  have h2 : 10 ^ (dl l n).length ≤ 10 ^ n := Nat.pow_le_pow_right (by decide) (by rw [dl_len]; omega)
  exact Nat.lt_of_lt_of_le h1 h2
theorem mkZ_nz (neg : Bool) (l : List UInt8) (n : Nat) : nz (mkZ neg l (n + 1)) ≤ n + 1 := by
  rw [nz_le_iff]
  have := mkN_lt l (n + 1)
  unfold mkZ
  cases neg <;> simp <;> exact this
/-- Parse of digits, with a sign or without. -/
theorem parse_digits (D : List UInt8) (hn : D ≠ []) (ha : D.all isDig = true) (hl : D.length ≤ 400) :
    ParseRes D = .tuple #[.string (itx (val D)), .int .i64 0] ∧ ParseRes (45 :: D) = .tuple #[.string (itx (-(val D : Int))), .int .i64 0] := by
  have hv : ¬ 400 < Lib.nDigits (val D) := by
    have h1 := val_lt D ha
    obtain ⟨K, hK⟩ : ∃ K, K = 399 := ⟨_, rfl⟩
    have h2 : 10 ^ D.length ≤ 10 ^ (K + 1) := Nat.pow_le_pow_right (by decide) (by omega)
    have := (nd_le_iff (val D) K).2 (by omega)
    omega
  constructor
  · have hng : negT D = false := by
      cases D with
      | nil => exact absurd rfl hn
      | cons c r =>
        rw [List.all_cons, Bool.and_eq_true] at ha
        have := (isDig_iff c).1 ha.1
        unfold negT Lib.hasPrefix
        show ((45 : UInt8) == c && List.isPrefixOf [] r) = false
        have : ((45 : UInt8) == c) = false := by
          rw [beq_eq_false_iff_ne]; intro e; rw [← e] at this; exact absurd this.1 (by decide)
        rw [this]; rfl
    have hm : magT D = D := by unfold magT Lib.trimPrefix; rw [show Lib.hasPrefix D [45] = false from hng]; rfl
    unfold ParseRes
    rw [if_neg hn, hm, if_neg (fun h => h.elim hn (fun h => by rw [ha] at h; cases h)), if_neg hv, hng]
    rfl
  · have hng : negT (45 :: D) = true := by
      unfold negT Lib.hasPrefix
      show ((45 : UInt8) == 45 && List.isPrefixOf [] D) = true
      rw [List.isPrefixOf_nil_left]; rfl
    have hm : magT (45 :: D) = D := by unfold magT Lib.trimPrefix; rw [show Lib.hasPrefix (45 :: D) [45] = true from hng]; rfl
    unfold ParseRes
    rw [if_neg (by simp), hm, if_neg (fun h => h.elim hn (fun h => by rw [ha] at h; cases h)), if_neg hv, hng]
    rfl
set_option maxRecDepth 100000 in
set_option maxHeartbeats 2000000 in
/-- schismalaw02.Make. -/
theorem make2_any (neg : Bool) (A : Option Addr) (k cap : Nat) (l : List UInt8) (n : Nat) (w : World) (h : InB w A k cap l) (hn : n ≤ 400) :
    Calls Tryz.prog 6 #[.agg #[.bool neg, .slice A k cap], .int .i64 (n : Int)] w (SmallRes (.string (itx (mkZ neg l n))) w) := by
  obtain ⟨hl, hle, hcap, hcells⟩ := h
  have HL := Lib.hid hl
  have HC := Lib.hid hcells
  clear hl hcells
  go_enter Tryz.func6, Tryz.ntmps6
  go_wp2_with fail
  obtain ⟨W, hW⟩ : ∃ W, w.alloc (.cells #[.bool neg, .slice A k cap] 24) = W := ⟨_, rfl⟩
  have hB0 : Below w.heap.size w W := by rw [← hW]; exact (Below.refl _ _).alloc (Nat.le_refl _) _
  have hWs : W.heap.size = w.heap.size + 1 := by rw [← hW]; simp
  have hc0 : W.cell? ⟨w.heap.size, 0, none⟩ = some (.bool neg) := by rw [← hW]; simp [World.cell?_alloc_new]
  have hc1 : W.cell? ⟨w.heap.size, 1, none⟩ = some (.slice A k cap) := by rw [← hW]; simp [World.cell?_alloc_new]
  rw [hW]
  have HC0 := Lib.hid hc0
  have HC1 := Lib.hid hc1
  have HWS := Lib.hid hWs
  clear hW hc0 hc1 hWs
  go_loopw [5, 6] (fun vs vi wr => ∃ i : Nat, i ≤ k ∧ i ≤ n ∧ vi = .int .i64 (i : Int) ∧ vs = .string (ds l i) ∧ Below W.heap.size W wr) (fun _ vi _ => k - (intOf vi).toNat)
  case atStart => exact ⟨0, by omega, by omega, rfl, by unfold ds; rw [dl_zero], Below.refl _ _⟩
  case round =>
    obtain ⟨i, hi, hin, rfl, rfl, hB⟩ := hrel
    obtain ⟨wo, rfl⟩ : ∃ wo : World, wo = wr := ⟨_, rfl⟩
    have hlt0 : w.heap.size < W.heap.size := by rw [HWS.out]; omega
    have hcell1 : wo.cell? ⟨w.heap.size, 1, none⟩ = some (.slice A k cap) := (hB.cell (p := ⟨w.heap.size, 1, none⟩) hlt0).trans HC1.out
    have hcell0 : wo.cell? ⟨w.heap.size, 0, none⟩ = some (.bool neg) := (hB.cell (p := ⟨w.heap.size, 0, none⟩) hlt0).trans HC0.out
    have hBw : Below w.heap.size w wo := hB0.trans (hB.mono (by rw [HWS.out]; omega))
    by_cases hgo : i < k ∧ i < n
    · obtain ⟨hik, hin'⟩ := hgo
      obtain ⟨b, off, rfl, hbl, hcs⟩ := HC.out (by omega)
      have hcell := (hBw.cell (p := ⟨b, off + i, none⟩) hbl).trans (hcs i hik)
      have hcv := str_of_Bc 22 9 Tryz.underlying22 Tryz.underlying9 (Bc.one wo (UInt8.ofNat (48 + (l.getD i 0).toNat % 10)))
      rw [ofNat_toNat_dig _ (by omega)] at hcv
      have hap := ds_succ l i (by rw [HL.out]; exact hik)
      have hsz : (ds l i).size ≤ 400 := by rw [ds_size]; omega
      have hxb := (l.getD i 0).toNat_lt
      have hcast : ((48 + (l.getD i 0).toNat % 10 : Nat) : Int) = 48 + ((l.getD i 0).toNat : Int) % 10 := by omega
      rw [hcast] at hcv
      have hcv2 : ([UInt8.ofNat (48 + (l.getD i 0).toNat % 10)] : List UInt8).toArray = #[UInt8.ofNat (48 + (l.getD i 0).toNat % 10)] := rfl
      rw [hcv2] at hcv
      clear hcs hcast hcv2
      generalize UInt8.ofNat (48 + (l.getD i 0).toNat % 10) = y at *
      generalize (l.getD i 0).toNat = x at *
      go_wp2_with fail
      go_roundw
      case rel => exact ⟨i + 1, by omega, by omega, by go_num, rfl, hB.alloc hB.size _⟩
      case measure => simp [intOf]; omega
    · have HE := Lib.hid (dl_end l i n (by rw [HL.out]; omega) hin)
      have hkey : ∀ (P : Prop), (¬ i < k → P) → (i < k → ¬ i < n → P) → P := fun P h1 h2 => by
        by_cases h : i < k
        · exact h2 h (fun h3 => hgo ⟨h, h3⟩)
        · exact h1 h
      have HKEY := Lib.hid hkey
      have hds : ds l i = ds l n := ba_ext (by rw [ds_data, ds_data, HE.out])
      have hdsz : (ds l n).size ≤ 400 := by rw [ds_size]; omega
      have HMK := Lib.hid (show mkN l n = val (dl l n) from rfl)
      rw [hds]
      clear hgo hkey hds HE
      by_cases hD : dl l n = []
      · have h1 := str_empty (t := ds l n) (by rw [ds_data, hD])
        have h2 : (ds l n).toList.isEmpty = true := by rw [str_isEmpty, h1]
        have hp := parse_digits [48] (by simp) (by decide) (by simp)
        have HP := Lib.hid hp
        have hmz : ∀ b, mkZ b l n = 0 := fun b => by unfold mkZ; rw [HMK.out, hD, val_nil]; cases b <;> rfl
        have HMZ := Lib.hid hmz
        clear hp hD hmz
        refine HKEY.out _ (fun h3 => ?_) (fun h3 h4 => ?_)
        all_goals
          cases neg
          · go_wp2_with fail
            refine (rparse_any ⟨#[48]⟩ _ (by decide)).mono ?_
            rintro e w2 ⟨rfl, hb2⟩
            rw [show ParseRes (⟨#[48]⟩ : ByteArray).data.toList = .tuple #[.string (itx (val [48])), .int .i64 0] from HP.out.1]
            go_wp2_with fail
            go_ret
            exact ⟨by rw [HMZ.out]; rfl, bel_chain hBw hb2⟩
          · go_wp2_with fail
            refine (rparse_any _ _ (by decide)).mono ?_
            rintro e w2 ⟨rfl, hb2⟩
            rw [show ParseRes ((⟨#[45]⟩ : ByteArray) ++ ⟨#[48]⟩).data.toList = .tuple #[.string (itx (-(val [48] : Int))), .int .i64 0] from HP.out.2]
            go_wp2_with fail
            go_ret
            exact ⟨by rw [HMZ.out]; rfl, bel_chain hBw hb2⟩
      · have h1 := str_some (t := ds l n) (by rw [ds_data]; exact hD)
        have h2 : (ds l n).toList.isEmpty = false := by rw [str_isEmpty, h1]
        have hp := parse_digits (dl l n) hD (dl_all l n) (by rw [dl_len]; omega)
        have HP := Lib.hid hp
        have HD1 := Lib.hid (ds_data l n)
        have HD2 := Lib.hid (show ((⟨#[45]⟩ : ByteArray) ++ ds l n).data.toList = 45 :: dl l n by rw [ByteArray.data_append, Array.toList_append, ds_data]; rfl)
        have HSZ := Lib.hid (show ((⟨#[45]⟩ : ByteArray) ++ ds l n).size ≤ 1000000 by
          show ((⟨#[45]⟩ : ByteArray) ++ ds l n).data.size ≤ _
          rw [← Array.length_toList, HD2.out, List.length_cons, dl_len]; omega)
        clear hp hD
        refine HKEY.out _ (fun h3 => ?_) (fun h3 h4 => ?_)
        all_goals
          cases neg
          · go_wp2_with fail
            refine (rparse_any (ds l n) _ (by omega)).mono ?_
            rintro e w2 ⟨rfl, hb2⟩
            rw [HD1.out, HP.out.1]
            go_wp2_with fail
            go_ret
            exact ⟨rfl, bel_chain hBw hb2⟩
          · go_wp2_with fail
            refine (rparse_any _ _ HSZ.out).mono ?_
            rintro e w2 ⟨rfl, hb2⟩
            rw [HD2.out, HP.out.2]
            go_wp2_with fail
            go_ret
            exact ⟨rfl, bel_chain hBw hb2⟩
end Go.Proofs.YtebcmefbpfcgmaaGreatDoor
