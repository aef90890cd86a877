/- Greater text, out of: K48. -/
import Derived.Test.YtfokdhpccajmbaaGreatDoorK47
import Derived.Test.YtfokdhpccajmbaaGreatDoorK9
namespace Go.Proofs.YtfokdhpccajmbaaGreatDoor
open Go.RowKit Go.PlainAid
attribute [local go_sem] field_rat0 field_rat1
set_option maxRecDepth 100000 in
set_option maxHeartbeats 4000000 in
/-- schismaref04.Convergents. -/
theorem r4convs_any (A : Option Addr) (n cap : Nat) (T : List Int) (w : World) (h : InZ w A n cap T) (hn2 : n ≤ 1000)
    (hbd : ∀ i, 1 ≤ i → i ≤ n → ∀ j, j ≤ i → (cv ((T.take i).drop j)).1.natAbs ≤ 4000000000000000000 ∧ (cv ((T.take i).drop j)).2.natAbs ≤ 4000000000000000000) (hpos : ∀ i, 1 ≤ i → i ≤ n → 1 ≤ (cv (T.take i)).2) :
    Calls Tryz.prog 24 #[.slice A n cap] w (R1Res ((cvs beg T).map tr) w) := by
  have HL := Lib.hid h.1
  have hle := h.2.1
  have hcap := h.2.2.1
  have HIN := Lib.hid h
  have HBD := Lib.hid hbd
  have HPS := Lib.hid hpos
  obtain ⟨CS, hCS⟩ : ∃ CS, cvs beg T = CS := ⟨_, rfl⟩
  have HCG := Lib.hid (show ∀ i, i < n → CS[i]? = some (cv (T.take (i + 1))) from fun i hi => hCS ▸ cvs_beg T i (by rw [h.1]; exact hi))
  have HCL := Lib.hid (show CS.length = n from by rw [← hCS, cvs_len, h.1])
  rw [hCS]
  clear h hbd hpos hCS
  go_enter Tryz.func24, Tryz.ntmps24
  go_wp2_with fail
  go_loopw [3, 4] (fun vo vi wr => ∃ i : Nat, i ≤ n ∧ vi = .int .i64 ((i : Int) + 1) ∧ OwnR w.heap.size wr vo ((CS.take i).map tr) ∧ Below w.heap.size w wr) (fun _ vi _ => n + 1 - (intOf vi).toNat)
  case atStart => exact ⟨0, Nat.zero_le _, by first | rfl | (simp; done), OwnR.nil _ _, Below.refl _ _⟩
  case round =>
    obtain ⟨i, hi, rfl, hown, hB⟩ := hrel
    obtain ⟨xs, hxs⟩ : ∃ xs, (CS.take i).map tr = xs := ⟨_, rfl⟩
    rw [hxs] at hown
    have HXS := Lib.hid hxs
    have hxl : xs.length ≤ 1000000000 := by rw [← hxs, List.length_map, List.length_take]; omega
    clear hxs
    have HO := Lib.hid hown
    have HB := Lib.hid hB
    obtain ⟨A1, c1, rfl, _⟩ := hown.ss
    clear hown hB
    by_cases hie : i = n
    · subst hie
      have hlt : ¬ (i : Int) + 1 ≤ (i : Int) := by omega
      have HTK := Lib.hid (show CS.take i = CS from List.take_of_length_le (by rw [HCL.out]; exact Nat.le_refl _))
      go_wp2_with fail
      go_ret
      obtain ⟨A2, c2, e2, h2⟩ := HO.out.ins
      cases e2
      have hxe : xs = CS.map tr := by rw [← HXS.out, HTK.out]
      exact ⟨_, _, _, rfl, hxe ▸ h2, HB.out⟩
    · have hlt : (i : Int) + 1 ≤ (n : Int) := by omega
      have hic : i + 1 ≤ cap := by omega
      have hicz : (i : Int) + 1 ≤ (cap : Int) := by omega
      have HCI := Lib.hid (HCG.out i (by omega))
      have hbi := HBD.out (i + 1) (by omega) (by omega) 0 (by omega)
      rw [List.drop_zero] at hbi
      have hpi := HPS.out (i + 1) (by omega) (by omega)
      have HVL := Lib.hid (r4value_any A (i + 1) cap (T.take (i + 1)) wr ((HIN.out.below HB.out).take (i + 1) cap (by omega) hic hcap) (by omega) (by omega) (HBD.out (i + 1) (by omega) (by omega)))
      obtain ⟨x, hx⟩ : ∃ x, (cv (T.take (i + 1))).1 = x := ⟨_, rfl⟩
      obtain ⟨z, hz⟩ : ∃ z, (cv (T.take (i + 1))).2 = z := ⟨_, rfl⟩
      have HCE := Lib.hid (show cv (T.take (i + 1)) = (x, z) by rw [← hx, ← hz])
      rw [hx, hz] at HVL hbi
      rw [hz] at hpi
      have HMK := Lib.hid (fun w => r4make_any x z w ⟨by omega, by omega⟩ hpi (by omega))
      obtain ⟨y, hy⟩ : ∃ y, Rat.divInt x z = y := ⟨_, rfl⟩
      rw [hy] at HMK
      have HTK := Lib.hid (show (CS.take (i + 1)).map tr = xs ++ [y] by
        rw [List.take_add_one, HCI.out, List.map_append, HXS.out, HCE.out, ← hy]; rfl)
      clear hx hz hy hbi hpi
      go_wp2_with fail
      refine HVL.out.mono ?_
      rintro e w4 ⟨rfl, hb4⟩
      go_wp2_with fail
      refine (HMK.out w4).mono ?_
      rintro e w5 ⟨rfl, hb5⟩
      have hown5 := (HO.out.below hb4).below hb5
      have hB5 := bel_chain (bel_chain HB.out hb4) hb5
      have HB5 := Lib.hid hB5
      clear hb4 hb5
      go_wp2_with (at_builtin; refine append_OwnR rfl _ _ 37 rfl Tryz.underlying37 w.heap.size _ _ w5 rfl hown5 hB5.size hxl y rfl rfl ?_; intro v4 w7 hown4 hb4; have HO7 := Lib.hid hown4; have HB7 := Lib.hid hb4; clear hown4 hb4)
      go_roundw
      case rel => exact ⟨i + 1, by omega, by go_num, by rw [HTK.out]; exact HO7.out, HB5.out.trans HB7.out⟩
      case measure => simp [intOf]; omega
end Go.Proofs.YtfokdhpccajmbaaGreatDoor
