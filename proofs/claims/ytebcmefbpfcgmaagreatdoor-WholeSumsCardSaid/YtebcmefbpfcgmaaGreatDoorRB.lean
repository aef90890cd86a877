/- The second chapter's reference: split. -/
import Derived.Test.YtebcmefbpfcgmaaGreatDoorRA
import Derived.Test.YtebcmefbpfcgmaaGreatDoorCut
import Derived.Deep.DeepCutAuto
namespace Go.Proofs.YtebcmefbpfcgmaaGreatDoor
open Go.RowKit Go.PlainAid

theorem cutAt_next {l : List UInt8} {b : Nat} {xs : List Nat} (h : CutAt l b true xs) (hd : l.all isDig = true) (hbl : b ≤ l.length) :
    CutAt l (b - 9) (decide (9 < b)) (xs ++ [val ((l.take b).drop (b - 9))]) :=
  h.step hd (by omega) hbl (fun h => by have := of_decide_eq_true h; omega) (by omega)
theorem val_seg_succ (l : List UInt8) (a i : Nat) (ha : a ≤ i) (h : i < l.length) : val ((l.take (i + 1)).drop a) = 10 * val ((l.take i).drop a) + ((l.getD i 0).toNat - 48) := by
  rw [List.take_succ_eq_append_getElem h, List.drop_append_of_le_length (by rw [List.length_take]; omega), val_snoc, List.getD_eq_getElem?_getD, List.getElem?_eq_getElem h]; rfl
theorem val_seg_le {l : List UInt8} (hd : l.all isDig = true) (a i : Nat) (h : i ≤ a + 8) : val ((l.take i).drop a) ≤ 99999999 := by
  have h1 := val_lt ((l.take i).drop a) (all_sub hd a i)
  have h2 : 10 ^ ((l.take i).drop a).length ≤ 10 ^ 8 := Nat.pow_le_pow_right (by decide) (by rw [List.length_drop, List.length_take]; omega)
  have h3 : (10 : Nat) ^ 8 = 100000000 := by decide
  omega
theorem val_seg_start (l : List UInt8) (a : Nat) : val ((l.take a).drop a) = 0 := by
  rw [List.drop_of_length_le (by rw [List.length_take]; omega)]; rfl
def szOf : Value → Nat | .string t => t.size | _ => 0
/-- The pieces of a natural number, in a slice. -/
def NsPost (a : Nat) (w : World) (e : Ending) (w' : World) : Prop :=
  ∃ A n cap, e = .returned (.slice A n cap) ∧ Ns w' A n cap (lims a) ∧ Below w.heap.size w w'
def SplitRel (l : List UInt8) (b : Nat) (t : ByteArray) (vo : Value) (w wr : World) : Prop :=
  Below w.heap.size w wr ∧ t.data.toList = l.take b ∧ ∃ xs, OwnN w.heap.size wr vo xs ∧ CutAt l b (decide (0 < b)) xs ∧ xs.length + b ≤ l.length
theorem bt_take {l : List UInt8} {b : Nat} {t : ByteArray} (h : t.data.toList = l.take b) (hb : b ≤ l.length) (i : Nat) (hi : i < b) : bt t i = ((l.getD i 0).toNat : Int) := by
  have hs : i < t.size := by
    show i < t.data.size
    rw [← Array.length_toList, h, List.length_take]; omega
  rw [bt_at t _ hs, h, List.getD_eq_getElem?_getD, List.getElem?_take_of_lt hi, ← List.getD_eq_getElem?_getD]
set_option maxRecDepth 100000 in
set_option maxHeartbeats 1000000 in
/-- schismaref02.split. -/
theorem r2split_any (a : Nat) (w : World) (ha : Lib.nDigits a ≤ 1000000) :
    Calls Tryz.prog 22 #[.string (dec a)] w (NsPost a w) := by
  have HVD := Lib.hid (val_dd a)
  have HSZ := Lib.hid (show (Lib.decDigits a).length = Lib.nDigits a by rw [Lib.decDigits_length])
  have HAD := Lib.hid (all_dd a)
  have hd0 : (dec a).data.toList = Lib.decDigits a := dec_data a
  have hds : (dec a).size = Lib.nDigits a := dec_size a
  have HG := Lib.hid (fun (x : List Nat) (h : Lims x) (e : lv x = a) => show trimL x = lims a by rw [trimL_eq _ h, e])
  unfold NsPost
  generalize lims a = la at *
  generalize dec a = s at *
  generalize Lib.decDigits a = l at *
  have hl : l.length ≤ 1000000 := by rw [HSZ.out]; exact ha
  have hsl : s.size = l.length := by rw [hds, HSZ.out]
  have HL := Lib.hid hl
  have HS := Lib.hid hsl
  have HD0 := Lib.hid hd0
  clear ha hds hl hsl hd0
  go_enter Tryz.func22, Tryz.ntmps22
  go_wp2
  go_loopw [0, 3] (fun vs vo wr => ∃ (b : Nat) (t : ByteArray), b ≤ 1000000 ∧ t.size = b ∧ vs = .string t ∧ SplitRel l b t vo w wr) (fun vs _ _ => szOf vs)
  case atStart =>
    have h1 := HS.out
    refine ⟨l.length, s, HL.out, h1, rfl, Below.refl _ _, by rw [HD0.out, List.take_length], [], OwnN.nil _ _, ?_, by simp⟩
    have h2 := CutAt.start l
    exact ⟨h2.lims, h2.sum, fun _ => h2.len rfl⟩
  case round =>
    obtain ⟨b, t, hb, hts, rfl, hB, ht, xs, hown, hC, hlen⟩ := hrel
    obtain ⟨wo, rfl⟩ : ∃ wo : World, wo = wr := ⟨_, rfl⟩
    by_cases hpos : 0 < b
    · rw [decide_eq_true hpos] at hC
      have hbl : b ≤ l.length := by omega
      have hnx := cutAt_next hC HAD.out hbl
      have hst := val_seg_start l (b - 9)
      have hbt := get_bt t
      have HBT := Lib.hid (fun i (hi : i < b) => And.intro (bt_take ht hbl i hi) (dig_getD HAD.out i (by omega)))
      obtain ⟨c, hc⟩ : ∃ c, b - 9 = c := ⟨_, rfl⟩
      rw [hc] at hnx hst
      have hcb : c < b := by omega
      have h9 : b ≤ c + 9 := by omega
      have HNE := Lib.hid (show decide (9 < b) = decide (0 < c) by rw [decide_eq_decide]; omega)
      have hszi : ((t.size : Nat) : Int) = (b : Int) := by omega
      have HT := Lib.hid ht
      have HX : Hid ((t.extract 0 c).data.toList = l.take c) ∧ (t.extract 0 c).size = c := by
        refine ⟨Lib.hid ?_, ?_⟩
        · rw [extract_list, ht, List.drop_zero, List.take_take, Nat.min_eq_left (by omega)]
        · rw [extract_size', hts]; omega
      have HNX := Lib.hid hnx
      have HST := Lib.hid hst
      have HLEN := Lib.hid hlen
      have HBL := Lib.hid hbl
      have hxl : xs.length ≤ 1000000000 := by have := HL.out; omega
      clear hnx hst hC hlen ht hbl
      go_upto_if 12 with fail
      go_cut [4] (fun s4 wx => s4 = .int .i64 (c : Int) ∧ wo = wx)
      case first =>
        by_cases h9' : 9 < b
        · have hb9 : (b : Int) - 9 = (c : Int) := by omega
          clear hc
          go_wp2_with fail
          go_meet
          exact ⟨by rw [← hb9]; try rw [hszi], rfl⟩
        · have hc0 : c = 0 := by omega
          subst hc0
          go_wp2_with fail
          go_meet
          exact ⟨rfl, rfl⟩
      case rest =>
        obtain ⟨rfl, rfl⟩ := hcut
        go_wp2
        go_loop [5, 6] (fun vn vi => ∃ i : Nat, c ≤ i ∧ i ≤ b ∧ vi = .int .i64 (i : Int) ∧ vn = .int .i64 ((val ((l.take i).drop c) : Nat) : Int)) (fun _ vi => b - (intOf vi).toNat)
        case atStart => exact ⟨c, Nat.le_refl _, by omega, rfl, by rw [HST.out]; rfl⟩
        case round =>
          obtain ⟨i, hi1, hi2, rfl, rfl⟩ := hrel
          by_cases hib : i = b
          · subst hib
            generalize val ((l.take i).drop c) = v at *
            go_wp2_with (at_builtin; refine append_own rfl _ _ 47 rfl Tryz.underlying47 w.heap.size _ xs wo rfl hown hB.size hxl v rfl rfl ?_; intro v4 w4 hq4 hb4)
            go_roundw
            case rel =>
              refine ⟨c, t.extract 0 c, by omega, HX.2, rfl, hB.trans hb4, HX.1.out, xs ++ [v], hq4, ?_, ?_⟩
              · rw [← HNE.out]; exact HNX.out
              · rw [List.length_append, List.length_singleton]; have := HLEN.out; omega
            case measure => simp only [szOf]; rw [HX.2, hts]; exact hcb
          · have hib' : i < b := by omega
            have hx := HBT.out i hib'
            have hb1 := hx.1
            have hdg := hx.2
            have hv := val_seg_le HAD.out c i (by omega)
            have hs := val_seg_succ l c i hi1 (by have := HBL.out; omega)
            have HS2 := Lib.hid hs
            clear hs hx hib
            generalize (l.getD i 0).toNat = d at *
            generalize hvv : val ((l.take i).drop c) = v at *
            clear hvv
            go_wp2
            go_round
            case rel =>
              refine ⟨i + 1, by omega, by omega, by go_num, ?_⟩
              rw [HS2.out]
              exact vint (by omega)
            case measure => simp [intOf]; omega
    · have h0 : b = 0 := by omega
      subst h0
      have hsum := hC.sum
      rw [List.drop_zero, HVD.out] at hsum
      have HE := Lib.hid (HG.out xs hC.lims hsum)
      obtain ⟨A, cap, rfl, hns⟩ := hown.ns
      have hty := r2trim_any A xs.length cap xs wo hns
      have HN := Lib.hid hns.trimmed
      rw [HE.out] at hty HN
      have HTR := Lib.hid hty
      have hszi : ((t.size : Nat) : Int) = 0 := by omega
      clear hC hsum hty hown hns hlen ht
      go_wp2_with fail
      refine HTR.out.mono ?_
      rintro e w1 ⟨rfl, rfl⟩
      go_wp2_with fail
      go_ret
      exact ⟨A, _, cap, rfl, HN.out, hB⟩
end Go.Proofs.YtebcmefbpfcgmaaGreatDoor
