/- Greater text, out of: Q13. -/
import Derived.Test.YtolnojkdalbppaaGreatDoorQ12
namespace Go.Proofs.YtolnojkdalbppaaGreatDoor
open Go.RowKit Go.PlainAid

/-- A list that Make can return. -/
def Mkl (xs : List Int) : Prop := Okl xs ∧ ∀ x ∈ xs, x ≤ 53
theorem pall53_len : (pall 53).length = 16 := by rw [pall_53]; rfl
theorem pall53_rgt : (pall 53).Pairwise (· < ·) := by rw [pall_53]; decide
theorem pall53_pr : ∀ x ∈ pall 53, pr x = true ∧ x ≤ 53 := by rw [pall_53]; decide
theorem mkl_of {xs : List Int} (h : List.Sublist xs (pall 53)) (h0 : xs ≠ []) (h6 : xs.length ≤ 6) : Mkl xs := by
  have hm : ∀ x ∈ xs, x ∈ pall 53 := fun x hx => h.subset hx
  have hp := pall53_rgt.sublist h
  refine ⟨⟨List.length_pos_iff.2 h0, h6, fun i hi => ?_, fun i h1 hi => ?_⟩, fun x hx => (pall53_pr x (hm x hx)).2⟩
  · rw [getD_of hi]; exact (pall53_pr _ (hm _ (List.getElem_mem hi))).1
  · rw [getD_of hi, getD_of (show i - 1 < xs.length by omega)]
    exact List.pairwise_iff_getElem.1 hp (i - 1) i (by omega) hi (by omega)
theorem mkl_two : Mkl [2] := by
  refine ⟨⟨by decide, by decide, fun i hi => ?_, fun i h1 hi => ?_⟩, by decide⟩
  · have hi' : i < 1 := hi
    obtain rfl : i = 0 := by omega
    decide
  · have hi' : i < 1 := hi
    omega
theorem take_sub {xs ys : List Int} {i : Nat} (h : List.Sublist xs (ys.take i)) (hi : i < ys.length) : List.Sublist (xs ++ [ys.getD i 0]) (ys.take (i + 1)) := by
  rw [List.take_succ_eq_append_getElem hi, getD_of hi]
  exact h.append (List.Sublist.refl _)
theorem take_sub2 {xs ys : List Int} {i : Nat} (h : List.Sublist xs (ys.take i)) (hi : i < ys.length) : List.Sublist xs (ys.take (i + 1)) := by
  rw [List.take_succ_eq_append_getElem hi]
  exact List.sublist_append_of_sublist_left h
set_option maxRecDepth 100000 in
set_option maxHeartbeats 2000000 in
/-- schismalaw11.Make. -/
theorem make11_any (m : Int) (w : World) :
    Calls Tryz.prog 5 #[.int .u16 m] w (fun e w' => ∃ v xs, e = .returned v ∧ Mkl xs ∧ OwnZ w.heap.size w' v xs ∧ Below w.heap.size w w') := by
  go_enter Tryz.func5, Tryz.ntmps5
  go_wp2_with fail
  refine (lall_any 53 w).mono ?_
  rintro e w1 ⟨v, rfl, hown, hb1⟩
  rcases hown with ⟨_, e⟩ | ⟨g, cap, rfl, hg, hz⟩
  · rw [pall_53] at e; cases e
  rw [pall53_len] at hz ⊢
  have hle := hz.le
  have hcm := hz.cap_le
  have hgl := hz.lt
  have HZ := Lib.hid hz
  have HB1 := Lib.hid hb1
  have HLN := Lib.hid pall53_len
  have HSB := Lib.hid (fun (xs : List Int) (h : List.Sublist xs ((pall 53).take 16)) => show List.Sublist xs (pall 53) by rw [List.take_of_length_le (by rw [pall53_len]; exact Nat.le_refl _)] at h; exact h)
  obtain ⟨ys, hys⟩ : ∃ ys, pall 53 = ys := ⟨_, rfl⟩
  have HYS := Lib.hid hys
  rw [hys] at HZ HLN HSB
  clear hz hb1 hys
  go_wp2_with fail
  go_loopw [3, 8] (fun vo vi wr => ∃ (i : Nat) (xs : List Int), i ≤ 16 ∧ vi = .int .i64 (i : Int) ∧ OwnZ w1.heap.size wr vo xs ∧ Hid (List.Sublist xs (ys.take i) ∧ xs.length ≤ 6) ∧ Below w1.heap.size w1 wr) (fun _ vi _ => 16 - (intOf vi).toNat)
  case atStart => exact ⟨0, [], by omega, rfl, OwnZ.nil _ _, Lib.hid ⟨List.nil_sublist _, by decide⟩, Below.refl _ _⟩
  case round =>
    obtain ⟨i, xs, hi, rfl, hown, HX, hB⟩ := hrel
    by_cases hin : i = 16
    · subst hin
      have HX2 := Lib.hid (HSB.out xs HX.out.1)
      have HB := Lib.hid hB
      obtain ⟨A, c, rfl, hss⟩ := hown.ss
      have HO := Lib.hid (show OwnZ w1.heap.size wr (.slice A xs.length c) xs from hown)
      clear hown hss hB
      by_cases h0 : xs.length = 0
      · have h0' : (xs.length : Int) = 0 := by omega
        go_wp2_with fail
        go_ret
        refine ⟨_, [2], rfl, mkl_two, .inr ⟨wr.heap.size, 1, rfl, ?_, Zc.one wr 2⟩, ?_⟩
        · exact Nat.le_trans HB1.out.size HB.out.size
        · exact (HB1.out.trans (HB.out.mono HB1.out.size)).alloc (Nat.le_trans HB1.out.size HB.out.size) _
      · have h0' : ¬ (xs.length : Int) = 0 := by omega
        go_wp2_with fail
        go_ret
        exact ⟨_, xs, rfl, mkl_of (HYS.out ▸ HX2.out) (fun e => h0 (by rw [e]; rfl)) HX.out.2, HO.out.mono HB1.out.size, HB1.out.trans (HB.out.mono HB1.out.size)⟩
    · have hlt : (i : Int) < 16 := by omega
      have hcell := (HZ.out.below hB hgl).cell i (by omega)
      have HY1 := Lib.hid (take_sub HX.out.1 (show i < ys.length by rw [HLN.out]; omega))
      have HY2 := Lib.hid (take_sub2 HX.out.1 (show i < ys.length by rw [HLN.out]; omega))
      have HX6 := Lib.hid HX.out.2
      have HB := Lib.hid hB
      obtain ⟨y, hy⟩ : ∃ y, ys.getD i 0 = y := ⟨_, rfl⟩
      rw [hy] at hcell HY1
      obtain ⟨A, c, rfl, hss⟩ := hown.ss
      have hlen : xs.length ≤ 1000000000 := by have := HX6.out; omega
      have hsz := hB.size
      clear hB hss hy HX
      by_cases h6 : xs.length < 6
      · have h6' : (xs.length : Int) < 6 := by omega
        have HO := Lib.hid hown
        go_wp2_with (at_builtin; refine append_OwnZ rfl _ _ 27 rfl Tryz.underlying27 w1.heap.size _ xs wr rfl hown hsz hlen y rfl rfl ?_; intro v4 w4 hown4 hb4; have HO4 := Lib.hid hown4; have HB4 := Lib.hid hb4; clear hown4 hb4)
        · go_roundw
          case rel => exact ⟨i + 1, xs ++ [y], by omega, by go_num, HO4.out, Lib.hid ⟨HY1.out, by rw [List.length_append, List.length_singleton]; omega⟩, HB.out.trans HB4.out⟩
          case measure => simp [intOf]; omega
        · go_roundw
          case rel => exact ⟨i + 1, xs, by omega, by go_num, HO.out, Lib.hid ⟨HY2.out, HX6.out⟩, HB.out⟩
          case measure => simp [intOf]; omega
      · have h6' : ¬ (xs.length : Int) < 6 := by omega
        have HO := Lib.hid hown
        clear hown
        go_wp2_with fail
        all_goals
          go_roundw
          case rel => exact ⟨i + 1, xs, by omega, by go_num, HO.out, Lib.hid ⟨HY2.out, HX6.out⟩, HB.out⟩
          case measure => simp [intOf]; omega
end Go.Proofs.YtolnojkdalbppaaGreatDoor
