/- The second chapter's reference: minus, times. -/
import Derived.Test.YtebcmefbpfcgmaaGreatDoorRD
import Derived.Test.YtebcmefbpfcgmaaGreatDoorTimes
namespace Go.Proofs.YtebcmefbpfcgmaaGreatDoor
open Go.RowKit Go.PlainAid

theorem OwnN.trimmed {B : Nat} {w : World} {A : Option Addr} {n cap : Nat} {xs : List Nat} (h : OwnN B w (.slice A n cap) xs) : OwnN B w (.slice A (trimL xs).length cap) (trimL xs) := by
  rcases h with ⟨e, rfl⟩ | ⟨g, c, e, hg, h⟩
  · cases e; exact .inl ⟨rfl, rfl⟩
  · cases e
    rcases (Ns.of h).trimmed with ⟨e, _⟩ | ⟨g2, e, h2⟩
    · cases e
    · cases e; exact .inr ⟨g, cap, rfl, hg, h2⟩
theorem OwnN.below {B : Nat} {w w' : World} {v : Value} {xs : List Nat} (h : OwnN B w v xs) (hb : Below w.heap.size w w') : OwnN B w' v xs := by
  rcases h with h | ⟨g, c, e, hg, h⟩
  · exact .inl h
  · exact .inr ⟨g, c, e, hg, h.below hb h.lt⟩
theorem OwnN.far {B : Nat} {w : World} {v : Value} {xs : List Nat} (h : OwnN B w v xs) {p : Addr} (hp : p.block < B) (u : Value) : OwnN B (w.setCell p u) v xs := by
  rcases h with h | ⟨g, c, e, hg, h⟩
  · exact .inl h
  · exact .inr ⟨g, c, e, hg, h.far (by omega) u⟩
theorem OwnN.mono {B B' : Nat} {w : World} {v : Value} {xs : List Nat} (h : OwnN B w v xs) (hB : B' ≤ B) : OwnN B' w v xs := by
  rcases h with h | ⟨g, c, e, hg, h⟩
  · exact .inl h
  · exact .inr ⟨g, c, e, by omega, h⟩
/-- The pieces of a natural number, in a slice of the call's own. -/
def OwnPost (a : Nat) (w : World) (e : Ending) (w' : World) : Prop := ∃ v, e = .returned v ∧ OwnN w.heap.size w' v (lims a) ∧ Below w.heap.size w w'
def MinusRel (xs ys : List Nat) (i c : Nat) (vo : Value) (w wr : World) : Prop := Below w.heap.size w wr ∧ ∃ o, OwnN w.heap.size wr vo o ∧ MinusAt xs ys i c o
set_option maxRecDepth 100000 in
set_option maxHeartbeats 1000000 in
/-- schismaref02.minus. -/
theorem r2minus_any (A1 : Option Addr) (n1 cap1 : Nat) (A2 : Option Addr) (n2 cap2 a b : Nat) (w : World) (hp : Ns w A1 n1 cap1 (lims a)) (hq : Ns w A2 n2 cap2 (lims b)) (h1 : n1 ≤ 1000000) (hba : b ≤ a) :
    Calls Tryz.prog 28 #[.slice A1 n1 cap1, .slice A2 n2 cap2] w (OwnPost (a - b) w) := by
  have hcap := hp.cap_le
  have hle := hp.le
  have hle2 := hq.le
  have hcap2 := hq.cap_le
  have HL := Lib.hid hp.len
  have HL2 := Lib.hid hq.len
  have h21 : n2 ≤ n1 := by have := lims_len_mono hba; rw [hp.len, hq.len] at this; exact this
  have HP := Lib.hid hp
  have HQ := Lib.hid hq
  have HV := Lib.hid (And.intro (lv_lims a) (lv_lims b))
  have HX := Lib.hid (Lims_lims a)
  have HY := Lib.hid (Lims_lims b)
  generalize lims a = xs at *
  generalize lims b = ys at *
  clear hp hq
  go_enter Tryz.func28, Tryz.ntmps28
  go_wp2
  go_loopw [5, 6, 7] (fun vo vc vi wr => ∃ i c : Nat, i ≤ n1 ∧ c ≤ 1 ∧ vi = .int .i64 (i : Int) ∧ vc = .int .i64 (c : Int) ∧ MinusRel xs ys i c vo w wr) (fun _ _ vi _ => n1 - (intOf vi).toNat)
  case atStart => exact ⟨0, 0, by omega, by omega, rfl, rfl, Below.refl _ _, [], OwnN.nil _ _, MinusAt.start _ _⟩
  case round =>
    obtain ⟨i, c, hi, hc, rfl, rfl, hB, o, hown, hP⟩ := hrel
    obtain ⟨wo, rfl⟩ : ∃ wo : World, wo = wr := ⟨_, rfl⟩
    by_cases hend : i = n1
    · have hF := hP.fin (by rw [HL.out]; exact hend.symm) (by rw [HL2.out]; omega) (by rw [HV.out.1, HV.out.2]; exact hba)
      rw [HV.out.1, HV.out.2] at hF
      obtain ⟨A, cap, rfl, hns⟩ := hown.ns
      have hty := r2trim_any A o.length cap o wo hns
      have hN := hown.trimmed
      rw [trimL_eq _ hP.lims, hF] at hty hN
      have HTR := Lib.hid hty
      have HN := Lib.hid hN
      subst hend
      clear hF hP hown hns hty hN
      go_wp2_with fail
      refine HTR.out.mono ?_
      rintro e w1 ⟨rfl, rfl⟩
      go_wp2_with fail
      go_ret
      exact ⟨_, rfl, HN.out, hB⟩
    · have hi2 : i < n1 := by omega
      have hxb := Lims_getD HX.out i
      have hyb := Lims_getD HY.out i
      have HYZ := Lib.hid (fun h : ¬ i < n2 => take_getD_zero ys i (by rw [HL2.out]; omega))
      have HST := Lib.hid (fun d c' e1 e2 e3 => hP.step d c' e1 e2 e3)
      have HLO := Lib.hid hP.len
      obtain ⟨b1, rfl, hc1⟩ := (HP.out.below hB (Nat.le_refl _)).at_ hi2
      have hc1 := hc1.cell i hi2
      have HC2 := Lib.hid (fun (h : i < n2) => (HQ.out.below hB (Nat.le_refl _)).at_ h)
      obtain ⟨x, hx⟩ : ∃ x, xs.getD i 0 = x := ⟨_, rfl⟩
      obtain ⟨y, hy⟩ : ∃ y, ys.getD i 0 = y := ⟨_, rfl⟩
      rw [hx] at hxb hc1 HST
      rw [hy] at hyb HYZ HST
      have HYE := Lib.hid hy
      have hol : o.length ≤ 1000000000 := by have := HLO.out; omega
      clear hP hx hy hend
      go_upto_if 24 with fail
      go_cut [8] (fun s8 wx => s8 = .int .i64 ((x : Int) - (c : Int) - (y : Int)) ∧ wo = wx)
      case first =>
        by_cases g2 : i < n2
        · obtain ⟨b2, rfl, hc2⟩ := HC2.out g2
          have hc2 := hc2.cell i g2
          rw [HYE.out] at hc2
          go_wp2_with fail
          go_meet
          exact ⟨rfl, rfl⟩
        · have hy0 := HYZ.out g2
          go_wp2_with fail
          go_meet
          exact ⟨vint (by omega), rfl⟩
      case rest =>
        obtain ⟨rfl, rfl⟩ := hcut
        by_cases hneg : (x : Int) - (c : Int) - (y : Int) < 0
        · obtain ⟨d, hd⟩ : ∃ d : Nat, (d : Int) = (x : Int) - (c : Int) - (y : Int) + 1000000000 := ⟨((x : Int) - (c : Int) - (y : Int) + 1000000000).toNat, by omega⟩
          have HS := Lib.hid (HST.out d 1 (by omega) (by omega) (by omega))
          go_wp2_with (at_builtin; refine append_ownI rfl _ _ 47 rfl Tryz.underlying47 w.heap.size _ o wo rfl hown hB.size hol d _ rfl rfl (by omega) ?_; intro v4 w4 hq4 hb4)
          go_roundw
          case rel => exact ⟨i + 1, 1, by omega, by omega, by go_num, rfl, hB.trans hb4, _, hq4, HS.out⟩
          case measure => simp [intOf]; omega
        · obtain ⟨d, hd⟩ : ∃ d : Nat, (d : Int) = (x : Int) - (c : Int) - (y : Int) := ⟨((x : Int) - (c : Int) - (y : Int)).toNat, by omega⟩
          have HS := Lib.hid (HST.out d 0 (by omega) (by omega) (by omega))
          go_wp2_with (at_builtin; refine append_ownI rfl _ _ 47 rfl Tryz.underlying47 w.heap.size _ o wo rfl hown hB.size hol d _ rfl rfl (by omega) ?_; intro v4 w4 hq4 hb4)
          go_roundw
          case rel => exact ⟨i + 1, 0, by omega, by omega, by go_num, rfl, hB.trans hb4, _, hq4, HS.out⟩
          case measure => simp [intOf]; omega

def R2TimesRow (g m : Nat) (xs ys : List Nat) (i : Nat) (w wr : World) : Prop :=
  Below w.heap.size w wr ∧ ∃ o, Nc wr g m m o ∧ Lims o ∧ lv o = lv (xs.take i) * lv ys ∧ ∀ j, i + ys.length ≤ j → o.getD j 0 = 0
def R2TimesIn (g m : Nat) (ys : List Nat) (v0 i a k c : Nat) (w wr : World) : Prop := Below w.heap.size w wr ∧ ∃ o, Nc wr g m m o ∧
  (k ≤ ys.length ∧ TimesAt v0 i a ys k c o ∨ k = ys.length + 1 ∧ c = 0 ∧ Lims o ∧ lv o = v0 + a * lv ys * 1000000000 ^ i ∧ ∀ j, i + 1 + ys.length ≤ j → o.getD j 0 = 0)
set_option maxRecDepth 100000 in
set_option maxHeartbeats 2000000 in
/-- schismaref02.times. -/
theorem r2times_any (A1 : Option Addr) (n1 cap1 : Nat) (A2 : Option Addr) (n2 cap2 : Nat) (xs ys : List Nat) (w : World) (hp : Ns w A1 n1 cap1 xs) (hq : Ns w A2 n2 cap2 ys) (hx : Lims xs) (hy : Lims ys) (h1 : n1 ≤ 1000000) (h2 : n2 ≤ 1000000) :
    Calls Tryz.prog 62 #[.slice A1 n1 cap1, .slice A2 n2 cap2] w (NsPost (lv xs * lv ys) w) := by
  have hcap1 := hp.cap_le
  have hle1 := hp.le
  have hle2 := hq.le
  have hcap2 := hq.cap_le
  have HL1 := Lib.hid hp.len
  have HL2 := Lib.hid hq.len
  have HP := Lib.hid (fun wz (h : Below w.heap.size w wz) => hp.below h (Nat.le_refl _))
  have HQ := Lib.hid (fun wz (h : Below w.heap.size w wz) => hq.below h (Nat.le_refl _))
  have HX := Lib.hid hx
  have HY := Lib.hid hy
  have hmk := make_Nc 47 Tryz.underlying47 (n1 + n2 + 1) (n1 + n2 + 1) (Nat.le_refl _) (by omega)
  simp only [Int.natCast_add, Int.cast_ofNat_Int] at hmk
  have HM := Lib.hid (Nc.made w (n1 + n2 + 1) (n1 + n2 + 1) (Nat.le_refl _) (by omega))
  clear hp hq hx hy
  go_enter Tryz.func62, Tryz.ntmps62
  go_wp2_with fail
  clear hmk
  go_loopw [6] (fun vi wr => ∃ i : Nat, i ≤ n1 ∧ vi = .int .i64 (i : Int) ∧ R2TimesRow w.heap.size (n1 + n2 + 1) xs ys i w wr) (fun vi _ => n1 - (intOf vi).toNat)
  case atStart =>
    refine ⟨0, by omega, rfl, (Below.refl _ _).alloc (Nat.le_refl _) _, _, HM.out, fun x hx => ?_, ?_, fun j _ => ?_⟩
    · rw [List.eq_of_mem_replicate hx]; omega
    · rw [lv_zeros]; simp [lv]
    · rw [List.getD_eq_getElem?_getD, List.getElem?_replicate]; split <;> rfl
  case round =>
    obtain ⟨i, hi, rfl, hb, o, ho, hoL, hov, hoz⟩ := hrel
    obtain ⟨wo, rfl⟩ : ∃ wo : World, wo = wr := ⟨_, rfl⟩
    by_cases hin : i = n1
    · subst hin
      have hfin : lv o = lv xs * lv ys := by rw [hov, List.take_of_length_le (by rw [HL1.out]; omega)]
      have hns := Ns.of ho
      have hty := r2trim_any _ _ _ o wo hns
      have hN := hns.trimmed
      rw [trimL_eq _ hoL, hfin] at hty hN
      have HTR := Lib.hid hty
      have HN := Lib.hid hN
      clear hty hN hns hfin hoL hov hoz
      go_wp2_with fail
      refine HTR.out.mono ?_
      rintro e w1 ⟨rfl, rfl⟩
      go_wp2_with fail
      go_ret
      exact ⟨_, _, _, rfl, HN.out, hb⟩
    · have hin' : i < n1 := by omega
      have hstart := TimesAt.start (i := i) (a := xs.getD i 0) (q := ys) hoL hoz
      have HS := Lib.hid hstart
      have hrow := times_row (p := xs) (q := ys) (i := i)
      rw [← hov] at hrow
      have HR := Lib.hid hrow
      have hxb := Lims_getD HX.out i
      have HA := Lib.hid (fun wz (h : Below w.heap.size w wz) => (HP.out wz h).at_ hin')
      clear hstart hrow hoL hov hoz
      obtain ⟨x, hxe⟩ : ∃ x, xs.getD i 0 = x := ⟨_, rfl⟩
      rw [hxe] at HS HR hxb
      have HXE := Lib.hid hxe
      clear hxe
      go_wp2
      go_loopw [7, 8] (fun vc vk wr => ∃ k c : Nat, k ≤ n2 + 1 ∧ c < 1000000000 ∧ vk = .int .i64 (k : Int) ∧ vc = .int .i64 (c : Int) ∧ R2TimesIn w.heap.size (n1 + n2 + 1) ys (lv o) i x k c w wr) (fun _ vk _ => n2 + 1 - (intOf vk).toNat)
      case atStart => exact ⟨0, 0, by omega, by omega, rfl, rfl, hb, o, ho, .inl ⟨by omega, HS.out⟩⟩
      case round =>
        obtain ⟨k, c, hk, hcc, rfl, rfl, hb2, o2, ho2, hT⟩ := hrel
        obtain ⟨wi, rfl⟩ : ∃ wi : World, wi = wr := ⟨_, rfl⟩
        by_cases hstop : n2 ≤ k ∧ c = 0
        · obtain ⟨hnk, rfl⟩ := hstop
          have hf : Lims o2 ∧ lv o2 = lv o + x * lv ys * 1000000000 ^ i ∧ ∀ j, i + 1 + ys.length ≤ j → o2.getD j 0 = 0 := by
            rcases hT with ⟨hk1, hT⟩ | ⟨_, _, hT⟩
            · have : k = ys.length := by rw [HL2.out] at hk1 ⊢; omega
              subst this
              exact ⟨hT.lims, hT.stop⟩
            · exact hT
          have HF := Lib.hid hf
          have HO2 := Lib.hid ho2
          clear hf hT ho2
          go_wp2
          go_roundw
          case rel =>
            refine ⟨i + 1, by omega, by go_num, hb2, o2, HO2.out, HF.out.1, ?_, ?_⟩
            · rw [HF.out.2.1, ← HR.out]
            · exact HF.out.2.2
          case measure => simp [intOf]; omega
        · have hk2 : k ≤ n2 := by
            rcases hT with ⟨hk1, _⟩ | ⟨hk1, hc0, _⟩
            · rw [HL2.out] at hk1; exact hk1
            · rw [HL2.out] at hk1; exact absurd ⟨by omega, hc0⟩ hstop
          have hT2 : TimesAt (lv o) i x ys k c o2 := by
            rcases hT with ⟨_, h⟩ | ⟨hk1, hc0, _⟩
            · exact h
            · rw [HL2.out] at hk1; omega
          clear hT
          have hcell := ho2.cell (i + k) (by omega)
          have hfr := ho2.free (i + k)
          have hik0 : (0 : Int) ≤ (i : Int) + (k : Int) := by omega
          have hik1 : (i : Int) + (k : Int) < (n1 : Int) + (n2 : Int) + 1 := by omega
          by_cases hkn : k < n2
          · obtain ⟨b1, rfl, hc1⟩ := HA.out _ hb2
            have hc1 := hc1.cell i hin'
            rw [HXE.out] at hc1
            obtain ⟨b2, rfl, hc2⟩ := (HQ.out _ hb2).at_ hkn
            have hc2 := hc2.cell k hkn
            have hyL := Lims_getD HY.out k
            have hzL := Lims_getD hT2.lims (i + k)
            have hstep := hT2.step (by rw [HL2.out]; exact hkn) (by rw [ho2.len]; omega) hxb HY.out
            have hset := fun d v => (ho2.drewN d).set (i + k) v
            have hbd := times_bound hxb hyL hcc hzL
            have HST := Lib.hid hstep
            have HSet := Lib.hid hset
            clear hstep hset hT2 ho2
            generalize ys.getD k 0 = y at *
            generalize o2.getD (i + k) 0 = z at *
            have hnn : (0 : Int) ≤ (x : Int) * (y : Int) := Int.mul_nonneg (by omega) (by omega)
            have hbd' : (z : Int) + (c : Int) + (x : Int) * (y : Int) ≤ 999999999999999999 := by
              have : ((c + (z + x * y) : Nat) : Int) ≤ 999999999999999999 := by omega
              rw [Int.natCast_add, Int.natCast_add, Int.natCast_mul] at this
              omega
            have HCAST := Lib.hid (show ((c + (z + x * y) : Nat) : Int) = (z : Int) + (c : Int) + (x : Int) * (y : Int) from by rw [Int.natCast_add, Int.natCast_add, Int.natCast_mul]; omega)
            clear hbd
            go_wp2
            go_quiet (fail)
            go_wp2
            go_roundw
            case rel =>
              have hcast := HCAST.out
              have hstep := HST.out
              refine ⟨k + 1, (c + (z + x * y)) / 1000000000, by omega, hstep.carry, by go_num, ?_, (bel_drewN hb2 _).setCell (by simp) _, _, ?_, .inl ⟨by rw [HL2.out]; omega, hstep⟩⟩
              · exact vint (by omega)
              · have hg : ∀ d, _ := fun d => HSet.out d ((c + (z + x * y)) % 1000000000)
                rw [Int.natCast_emod, hcast] at hg
                exact hg _
            case measure => simp [intOf]; omega
          · have hkn' : k = n2 := by omega
            subst hkn'
            have hc0 : 0 < c := by omega
            have hz0 := hT2.zero (i + k) (by rw [HL2.out]; omega)
            rw [hz0] at hcell
            have hset := ho2.set (i + k) c
            have hlen2 := ho2.len
            have hT3 : TimesAt (lv o) i x ys ys.length c o2 := by rw [HL2.out]; exact hT2
            have HF := Lib.hid (hT3.finish (by rw [HL2.out]; omega))
            have HSet := Lib.hid hset
            have hcm : (c : Int) % 1000000000 = (c : Int) := by omega
            have hcd : (c : Int) / 1000000000 = 0 := by omega
            clear hset hT2 hT3 hz0 hlen2 ho2 hstop
            go_wp2
            go_roundw
            case rel =>
              have hf := HF.out
              rw [HL2.out] at hf
              refine ⟨k + 1, 0, by omega, by omega, by go_num, by go_num, hb2.setCell (by simp) _, _, HSet.out, .inr ⟨by rw [HL2.out], rfl, hf.2.1, hf.1, by rw [HL2.out]; exact hf.2.2⟩⟩
            case measure => simp [intOf]
end Go.Proofs.YtebcmefbpfcgmaaGreatDoor
