/- Greater text, out of: T21. -/
import Derived.Test.YtdjhngbpfdopnaaGreatDoorGi
import Derived.Test.YtdjhngbpfdopnaaGreatDoorGm
namespace Go.Proofs.YtdjhngbpfdopnaaGreatDoor
open Go.RowKit Go.PlainAid
attribute [local go_sem] field_whole0 field_whole1

set_option maxRecDepth 100000 in
set_option maxHeartbeats 2000000 in
/-- schismaref03.digits. -/
theorem t3digits_any (s : ByteArray) (l : List UInt8) (w : World) (hl : s.data.toList = l) (hs : s.size ≤ 1000000) :
    Calls Tryz.prog 68 #[.string s] w (SmallRes (.bool (digs l)) w) := by
  have hls : l.length = s.size := by rw [← hl, str_size]
  have hbt := get_bt s
  obtain ⟨V, hV⟩ : ∃ V, digs l = V := ⟨_, rfl⟩
  have HV := Lib.hid (show V = (!l.isEmpty && l.all isDig) by rw [← hV]; rfl)
  rw [hV]
  have HL := Lib.hid hls
  have HSL := Lib.hid hl
  clear hV hl hls
  go_enter Tryz.func68, Tryz.ntmps68
  go_wp2_with fail
  go_loop [3] (fun vi => ∃ i : Nat, i ≤ s.size ∧ vi = .int .i64 (i : Int) ∧ Hid ((l.take i).all isDig = true)) (fun vi => s.size - (intOf vi).toNat)
  case atStart => exact ⟨0, Nat.zero_le _, rfl, Lib.hid rfl⟩
  case round =>
    obtain ⟨i, hi, rfl, HI⟩ := hrel
    by_cases hin : i = s.size
    · have hall : l.all isDig = true := by have := HI.out; rwa [List.take_of_length_le (by rw [HL.out]; omega)] at this
      have hlt : ¬ i < s.size := by omega
      have HD := Lib.hid (show V = decide (0 < s.size) by
        rw [HV.out, hall, Bool.and_true]
        cases h : l with
        | nil => have := HL.out; rw [h] at this; simp at this; simp [← this]
        | cons a r => have := HL.out; rw [h] at this; simp at this; simp; omega)
      clear hin hall
      go_wp2_with fail
      go_ret
      exact ⟨by rw [HD.out]; rfl, Below.refl _ _⟩
    · have hlt : i < s.size := by omega
      have hb := bt_at s i hlt
      rw [HSL.out] at hb
      have HTK := Lib.hid (digit_step (by rw [HL.out]; exact hlt) HI.out)
      have HNO := Lib.hid (fun h => digit_bad (l := l) (i := i) (by rw [HL.out]; exact hlt) h)
      have HDG := Lib.hid (dig_iff (l.getD i 0))
      have hb1 := (l.getD i 0).toNat_lt
      clear hin
      generalize (l.getD i 0) = b at *
      generalize hd : b.toNat = d at *
      by_cases h5 : 48 ≤ d
      · by_cases h6 : d ≤ 57
        · have HY := Lib.hid (show isDig b = true by rw [HDG.out]; simp [h5, h6])
          clear hd
          go_wp2_with fail
          go_round
          case rel => exact ⟨i + 1, by omega, by go_num, Lib.hid (by rw [HTK.out]; exact HY.out)⟩
          case measure => simp [intOf]; omega
        · have HC := Lib.hid (show V = false by
            rw [HV.out, HNO.out (by rw [HDG.out]; simp; omega), Bool.and_false])
          clear hd
          go_wp2_with fail
          go_ret
          exact ⟨by rw [HC.out]; rfl, Below.refl _ _⟩
      · have HC := Lib.hid (show V = false by
          rw [HV.out, HNO.out (by rw [HDG.out]; simp; omega), Bool.and_false])
        clear hd
        go_wp2_with fail
        go_ret
        exact ⟨by rw [HC.out]; rfl, Below.refl _ _⟩

set_option maxRecDepth 100000 in
set_option maxHeartbeats 2000000 in
/-- schismaref03.number, of digits. -/
theorem t3number_any (s : ByteArray) (l : List UInt8) (w : World) (hl : s.data.toList = l) (hd : digs l = true) (hs : s.size ≤ 100000) :
    Calls Tryz.prog 69 #[.string s] w (W3Post ((val l : Nat) : Int) w) := by
  have hls : l.length = s.size := by rw [← hl, str_size]
  have htr : ∀ w1, Calls Tryz.prog 117 #[.string s, .string ⟨#[48]⟩] w1 fun e w' => e = .returned (.string ⟨(l.dropWhile (· == 48)).toArray⟩) ∧ w' = w1 := fun w1 => by
    have := Tryz.strings_TrimLeft_one s 48 (by decide) w1
    rw [hl] at this
    exact this
  have HTR := Lib.hid htr
  have htz := trim_zeros l (digs_yes hd).2
  have hal : Below w.heap.size w (w.alloc (.cells #[.bool false, .slice none 0 0] 73)) := (Below.refl _ _).alloc (Nat.le_refl _) _
  have hvn : nz ((val l : Nat) : Int) ≤ 1000000 := by rw [nz_nat]; have := nd_val hd; omega
  have HTO := Lib.hid (fun w1 => t3to_any ((val l : Nat) : Int) w1 hvn)
  have hr := Box2.new w (.bool false) (.slice none 0 0) 73
  have HNI := Lib.hid (NoInt.new w #[.bool false, .slice none 0 0] 73 whole_ne_int)
  have HR := Lib.hid hr
  have HAL := Lib.hid hal
  obtain ⟨m, hm⟩ : ∃ m, val l = m := ⟨_, rfl⟩
  rw [hm] at HTO htz ⊢
  clear htr hal hvn hr hl hd hs hls hm
  by_cases hv : m = 0
  · have e1 := htz.1 hv
    rw [e1] at HTR
    subst hv
    clear htz e1
    rw [show (((0 : Nat)) : Int) = 0 from rfl, itx_lit_zero] at HTO
    rw [show (((0 : Nat)) : Int) = 0 from rfl]
    go_enter Tryz.func69, Tryz.ntmps69
    go_wp2_with fail
    refine (HTR.out _).mono ?_
    rintro e w1 ⟨rfl, rfl⟩
    go_wp2_with fail
    refine (HTO.out _).mono ?_
    rintro e w2 ⟨v2, rfl, ⟨A2, n2, c2, hv2, hns2⟩, hb2⟩
    unfold wv at hv2
    subst hv2
    have HR2 := Lib.hid (HR.out.later hb2)
    have hni := HNI.out.later hb2
    have hB2 := bel_chain HAL.out hb2
    have HNS := Lib.hid (And.intro (hns2) (And.intro hni hB2))
    obtain ⟨hr0, hr1, hr2, hr3, hr4⟩ := HR2.out
    clear hns2 hni hb2 hB2
    go_wp2_with fail
    refine ret_cell rfl rfl (load_whole (g := w.heap.size) ((HR2.out.set0 _).set1 _)) rfl ?_
    obtain ⟨hns2, hni, hB2⟩ := HNS.out
    exact ⟨_, rfl, ⟨A2, n2, c2, rfl, (hns2.store hni _).store (hni.setCell _ _) _⟩, (hB2.setCell (Nat.le_refl _) _).setCell (Nat.le_refl _) _⟩
  · have e1 := htz.2 hv
    rw [e1] at HTR
    have hdm : (⟨(Lib.decDigits m).toArray⟩ : ByteArray) = dec m := rfl
    rw [hdm] at HTR
    have hne := str_some (t := dec m) (by rw [← ByteArray.toList_eq, dec_toList]; exact dd_ne_nil m)
    rw [itx_nat] at HTO
    clear htz e1 hv hdm
    go_enter Tryz.func69, Tryz.ntmps69
    go_wp2_with fail
    refine (HTR.out _).mono ?_
    rintro e w1 ⟨rfl, rfl⟩
    go_wp2_with fail
    refine (HTO.out _).mono ?_
    rintro e w2 ⟨v2, rfl, ⟨A2, n2, c2, hv2, hns2⟩, hb2⟩
    unfold wv at hv2
    subst hv2
    have HR2 := Lib.hid (HR.out.later hb2)
    have hni := HNI.out.later hb2
    have hB2 := bel_chain HAL.out hb2
    have HNS := Lib.hid (And.intro (hns2) (And.intro hni hB2))
    obtain ⟨hr0, hr1, hr2, hr3, hr4⟩ := HR2.out
    clear hns2 hni hb2 hB2
    go_wp2_with fail
    refine ret_cell rfl rfl (load_whole (g := w.heap.size) ((HR2.out.set0 _).set1 _)) rfl ?_
    obtain ⟨hns2, hni, hB2⟩ := HNS.out
    exact ⟨_, rfl, ⟨A2, n2, c2, rfl, (hns2.store hni _).store (hni.setCell _ _) _⟩, (hB2.setCell (Nat.le_refl _) _).setCell (Nat.le_refl _) _⟩
end Go.Proofs.YtdjhngbpfdopnaaGreatDoor
