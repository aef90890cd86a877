/- Greater text, out of: Q11. -/
import Derived.Test.YtolnojkdalbppaaGreatDoorQ7
import Derived.Test.YtolnojkdalbppaaGreatDoorQ8
import Derived.Test.YtolnojkdalbppaaGreatDoorGk
namespace Go.Proofs.YtolnojkdalbppaaGreatDoor
open Go.RowKit Go.PlainAid
attribute [local go_sem] field_rat0 field_rat1
theorem fit_zero {ps xs : List Int} (h : fit ps xs = 0) : xs.length = ps.length ∧ farB xs = false := by
  unfold fit at h
  by_cases h1 : xs.length = ps.length
  · rw [if_pos h1] at h
    cases hf : farB xs with
    | true => rw [hf, if_pos rfl] at h; cases h
    | false => exact ⟨h1, rfl⟩
  · rw [if_neg h1] at h; cases h
set_option maxRecDepth 100000 in
set_option maxHeartbeats 1000000 in
theorem value_fit (A A2 : Option Addr) (n cap n2 cap2 : Nat) (ps xs : List Int) (w : World) (h : InZ w A n cap ps) (h2 : InZ w A2 n2 cap2 xs) (hc : chk ps = 0) (c : Int) (hf : fit ps xs = c) (h0 : c ≠ 0) :
    Calls Tryz.prog 16 #[.slice A n cap, .slice A2 n2 cap2] w (SmallRes (.tuple #[noRat, .int .i64 c]) w) := by
  have HCK := Lib.hid (fun wz (hz : Below w.heap.size w wz) => show Calls Tryz.prog 32 #[.slice A n cap] wz (SmallRes (.int .i64 0) wz) from hc ▸ pcheck_any A n cap ps wz (h.below hz))
  have HFT := Lib.hid (fun wz (hz : Below w.heap.size w wz) => show Calls Tryz.prog 33 #[.slice A n cap, .slice A2 n2 cap2] wz (SmallRes (.int .i64 c) wz) from hf ▸ fits_any A A2 n cap n2 cap2 ps xs wz (h.below hz) (h2.below hz))
  clear h h2 hc hf
  go_enter Tryz.func16, Tryz.ntmps16
  go_wp2_with fail
  obtain ⟨W, hW⟩ : ∃ W, (w.alloc (.cells #[.string ⟨#[]⟩, .string ⟨#[]⟩] 48)) = W := ⟨_, rfl⟩
  rw [hW]
  obtain ⟨hX, hBW⟩ := B1.of hW
  clear hW
  have HX := Lib.hid (fun wz (hb : Below W.heap.size W wz) => hX.later hb)
  have HB := Lib.hid (fun wz (hb : Below W.heap.size W wz) => bel_chain hBW hb)
  clear hX hBW
  refine (HCK.out _ (HB.out _ (Below.refl _ _))).mono ?_
  rintro e w1 ⟨rfl, hz1⟩
  go_wp2_with fail
  refine (HFT.out _ (HB.out _ hz1)).mono ?_
  rintro e w2 ⟨rfl, hb2⟩
  have hz2 := bel_chain hz1 hb2
  clear hz1 hb2
  have HXL := Lib.hid (HX.out _ hz2)
  have HBL := Lib.hid (HB.out _ hz2)
  obtain ⟨_, r0, r1, r2, r3⟩ := HXL.out
  go_wp2_with fail
  refine ret_cell_tmp rfl rfl (load_rat (g := w.heap.size) (HXL.out.store0 _ _)) rfl ?_
  exact ⟨rfl, (HBL.out.setCell (by simp <;> omega) _).setCell (by simp <;> omega) _⟩
set_option maxRecDepth 100000 in
set_option maxHeartbeats 1000000 in
theorem value_yes (A A2 : Option Addr) (n cap n2 cap2 : Nat) (ps xs : List Int) (w : World) (hamb : Amb w) (h : InZ w A n cap ps) (h2 : InZ w A2 n2 cap2 xs) (hc : chk ps = 0) (hf : fit ps xs = 0) (hu : nz ((prod ps (ups xs) : Nat) : Int) ≤ 400) (hd : nz ((prod ps (dns xs) : Nat) : Int) ≤ 400) :
    Calls Tryz.prog 16 #[.slice A n cap, .slice A2 n2 cap2] w (SmallRes (.tuple #[.agg #[.string (itx ((prod ps (ups xs) : Nat) : Int)), .string (itx ((prod ps (dns xs) : Nat) : Int))], .int .i64 0]) w) := by
  have HCK := Lib.hid (fun wz (hz : Below w.heap.size w wz) => show Calls Tryz.prog 32 #[.slice A n cap] wz (SmallRes (.int .i64 0) wz) from hc ▸ pcheck_any A n cap ps wz (h.below hz))
  have HFT := Lib.hid (fun wz (hz : Below w.heap.size w wz) => show Calls Tryz.prog 33 #[.slice A n cap, .slice A2 n2 cap2] wz (SmallRes (.int .i64 0) wz) from hf ▸ fits_any A A2 n cap n2 cap2 ps xs wz (h.below hz) (h2.below hz))
  obtain ⟨hl, hfar⟩ := fit_zero hf
  obtain rfl : n2 = n := by have := h.1; have := h2.1; omega
  have hok := chk_ok hc
  have hn6 : n2 ≤ 6 := by have := hok.le; have := h.1; omega
  have HP1 := Lib.hid (fun wz (hz : Below w.heap.size w wz) => show Calls Tryz.prog 34 #[.slice A n2 cap, .slice A2 n2 cap2, .int .i64 1] wz (SmallRes (pwV (prod ps (ups xs))) wz) from by
    have hh := power_any A A2 n2 cap cap2 ps xs 1 wz (hamb.below hz) (h.below hz) (h2.below hz) hn6 (fun i hi => hok.two i hi) (fun i hi => farB_no hfar hi) (.inl rfl)
    rw [pws_one] at hh
    exact hh)
  have HP2 := Lib.hid (fun wz (hz : Below w.heap.size w wz) => show Calls Tryz.prog 34 #[.slice A n2 cap, .slice A2 n2 cap2, .int .i64 (-1)] wz (SmallRes (pwV (prod ps (dns xs))) wz) from by
    have hh := power_any A A2 n2 cap cap2 ps xs (-1) wz (hamb.below hz) (h.below hz) (h2.below hz) hn6 (fun i hi => hok.two i hi) (fun i hi => farB_no hfar hi) (.inr rfl)
    rw [pws_neg] at hh
    exact hh)
  clear hl hfar hok hn6
  rw [pwV_yes hu] at HP1
  rw [pwV_yes hd] at HP2
  obtain ⟨U, hU⟩ : ∃ U, itx ((prod ps (ups xs) : Nat) : Int) = U := ⟨_, rfl⟩
  obtain ⟨V, hV⟩ : ∃ V, itx ((prod ps (dns xs) : Nat) : Int) = V := ⟨_, rfl⟩
  rw [hU] at HP1 ⊢
  rw [hV] at HP2 ⊢
  clear hamb h h2 hc hf hu hd hU hV
  go_enter Tryz.func16, Tryz.ntmps16
  go_wp2_with fail
  obtain ⟨W, hW⟩ : ∃ W, (w.alloc (.cells #[.string ⟨#[]⟩, .string ⟨#[]⟩] 48)) = W := ⟨_, rfl⟩
  rw [hW]
  obtain ⟨hX, hBW⟩ := B1.of hW
  clear hW
  have HX := Lib.hid (fun wz (hb : Below W.heap.size W wz) => hX.later hb)
  have HB := Lib.hid (fun wz (hb : Below W.heap.size W wz) => bel_chain hBW hb)
  clear hX hBW
  refine (HCK.out _ (HB.out _ (Below.refl _ _))).mono ?_
  rintro e w1 ⟨rfl, hz1⟩
  go_wp2_with fail
  refine (HFT.out _ (HB.out _ hz1)).mono ?_
  rintro e w2 ⟨rfl, hb2⟩
  have hz2 := bel_chain hz1 hb2
  clear hz1 hb2
  go_wp2_with fail
  refine (HP1.out _ (HB.out _ hz2)).mono ?_
  rintro e w3 ⟨rfl, hb3⟩
  have hz3 := bel_chain hz2 hb3
  clear hb3
  go_wp2_with fail
  refine (HP2.out _ (HB.out _ hz3)).mono ?_
  rintro e w4 ⟨rfl, hb4⟩
  have hz4 := bel_chain hz3 hb4
  clear hb4
  have HXL := Lib.hid (HX.out _ hz4)
  have HBL := Lib.hid (HB.out _ hz4)
  obtain ⟨_, r0, r1, r2, r3⟩ := HXL.out
  go_wp2_with fail
  refine ret_cell_tmp rfl rfl (load_rat (g := w.heap.size) (HXL.out.store0 _ _)) rfl ?_
  exact ⟨rfl, (HBL.out.setCell (by simp <;> omega) _).setCell (by simp <;> omega) _⟩
set_option maxRecDepth 100000 in
set_option maxHeartbeats 1000000 in
theorem value_no1 (A A2 : Option Addr) (n cap n2 cap2 : Nat) (ps xs : List Int) (w : World) (hamb : Amb w) (h : InZ w A n cap ps) (h2 : InZ w A2 n2 cap2 xs) (hc : chk ps = 0) (hf : fit ps xs = 0) (hu : ¬ nz ((prod ps (ups xs) : Nat) : Int) ≤ 400) :
    Calls Tryz.prog 16 #[.slice A n cap, .slice A2 n2 cap2] w (SmallRes (.tuple #[noRat, .int .i64 4]) w) := by
  have HCK := Lib.hid (fun wz (hz : Below w.heap.size w wz) => show Calls Tryz.prog 32 #[.slice A n cap] wz (SmallRes (.int .i64 0) wz) from hc ▸ pcheck_any A n cap ps wz (h.below hz))
  have HFT := Lib.hid (fun wz (hz : Below w.heap.size w wz) => show Calls Tryz.prog 33 #[.slice A n cap, .slice A2 n2 cap2] wz (SmallRes (.int .i64 0) wz) from hf ▸ fits_any A A2 n cap n2 cap2 ps xs wz (h.below hz) (h2.below hz))
  obtain ⟨hl, hfar⟩ := fit_zero hf
  obtain rfl : n2 = n := by have := h.1; have := h2.1; omega
  have hok := chk_ok hc
  have hn6 : n2 ≤ 6 := by have := hok.le; have := h.1; omega
  have HP1 := Lib.hid (fun wz (hz : Below w.heap.size w wz) => show Calls Tryz.prog 34 #[.slice A n2 cap, .slice A2 n2 cap2, .int .i64 1] wz (SmallRes (pwV (prod ps (ups xs))) wz) from by
    have hh := power_any A A2 n2 cap cap2 ps xs 1 wz (hamb.below hz) (h.below hz) (h2.below hz) hn6 (fun i hi => hok.two i hi) (fun i hi => farB_no hfar hi) (.inl rfl)
    rw [pws_one] at hh
    exact hh)
  have HP2 := Lib.hid (fun wz (hz : Below w.heap.size w wz) => show Calls Tryz.prog 34 #[.slice A n2 cap, .slice A2 n2 cap2, .int .i64 (-1)] wz (SmallRes (pwV (prod ps (dns xs))) wz) from by
    have hh := power_any A A2 n2 cap cap2 ps xs (-1) wz (hamb.below hz) (h.below hz) (h2.below hz) hn6 (fun i hi => hok.two i hi) (fun i hi => farB_no hfar hi) (.inr rfl)
    rw [pws_neg] at hh
    exact hh)
  clear hl hfar hok hn6
  rw [pwV_no hu] at HP1
  have HV := Lib.hid (show ∃ y b, pwV (prod ps (dns xs)) = .tuple #[.string y, .bool b] by
    unfold pwV
    split
    · exact ⟨_, _, rfl⟩
    · exact ⟨_, _, rfl⟩)
  obtain ⟨y, b, hy⟩ := HV.out
  rw [hy] at HP2
  clear hamb h h2 hc hf hu hy HV
  go_enter Tryz.func16, Tryz.ntmps16
  go_wp2_with fail
  obtain ⟨W, hW⟩ : ∃ W, (w.alloc (.cells #[.string ⟨#[]⟩, .string ⟨#[]⟩] 48)) = W := ⟨_, rfl⟩
  rw [hW]
  obtain ⟨hX, hBW⟩ := B1.of hW
  clear hW
  have HX := Lib.hid (fun wz (hb : Below W.heap.size W wz) => hX.later hb)
  have HB := Lib.hid (fun wz (hb : Below W.heap.size W wz) => bel_chain hBW hb)
  clear hX hBW
  refine (HCK.out _ (HB.out _ (Below.refl _ _))).mono ?_
  rintro e w1 ⟨rfl, hz1⟩
  go_wp2_with fail
  refine (HFT.out _ (HB.out _ hz1)).mono ?_
  rintro e w2 ⟨rfl, hb2⟩
  have hz2 := bel_chain hz1 hb2
  clear hz1 hb2
  go_wp2_with fail
  refine (HP1.out _ (HB.out _ hz2)).mono ?_
  rintro e w3 ⟨rfl, hb3⟩
  have hz3 := bel_chain hz2 hb3
  clear hb3
  go_wp2_with fail
  refine (HP2.out _ (HB.out _ hz3)).mono ?_
  rintro e w4 ⟨rfl, hb4⟩
  have hz4 := bel_chain hz3 hb4
  clear hb4
  have HXL := Lib.hid (HX.out _ hz4)
  have HBL := Lib.hid (HB.out _ hz4)
  obtain ⟨_, r0, r1, r2, r3⟩ := HXL.out
  go_wp2_with fail
  refine ret_cell_tmp rfl rfl (load_rat (g := w.heap.size) (HXL.out.store0 _ _)) rfl ?_
  exact ⟨rfl, (HBL.out.setCell (by simp <;> omega) _).setCell (by simp <;> omega) _⟩
set_option maxRecDepth 100000 in
set_option maxHeartbeats 1000000 in
theorem value_no2 (A A2 : Option Addr) (n cap n2 cap2 : Nat) (ps xs : List Int) (w : World) (hamb : Amb w) (h : InZ w A n cap ps) (h2 : InZ w A2 n2 cap2 xs) (hc : chk ps = 0) (hf : fit ps xs = 0) (hu : nz ((prod ps (ups xs) : Nat) : Int) ≤ 400) (hd : ¬ nz ((prod ps (dns xs) : Nat) : Int) ≤ 400) :
    Calls Tryz.prog 16 #[.slice A n cap, .slice A2 n2 cap2] w (SmallRes (.tuple #[noRat, .int .i64 4]) w) := by
  have HCK := Lib.hid (fun wz (hz : Below w.heap.size w wz) => show Calls Tryz.prog 32 #[.slice A n cap] wz (SmallRes (.int .i64 0) wz) from hc ▸ pcheck_any A n cap ps wz (h.below hz))
  have HFT := Lib.hid (fun wz (hz : Below w.heap.size w wz) => show Calls Tryz.prog 33 #[.slice A n cap, .slice A2 n2 cap2] wz (SmallRes (.int .i64 0) wz) from hf ▸ fits_any A A2 n cap n2 cap2 ps xs wz (h.below hz) (h2.below hz))
  obtain ⟨hl, hfar⟩ := fit_zero hf
  obtain rfl : n2 = n := by have := h.1; have := h2.1; omega
  have hok := chk_ok hc
  have hn6 : n2 ≤ 6 := by have := hok.le; have := h.1; omega
  have HP1 := Lib.hid (fun wz (hz : Below w.heap.size w wz) => show Calls Tryz.prog 34 #[.slice A n2 cap, .slice A2 n2 cap2, .int .i64 1] wz (SmallRes (pwV (prod ps (ups xs))) wz) from by
    have hh := power_any A A2 n2 cap cap2 ps xs 1 wz (hamb.below hz) (h.below hz) (h2.below hz) hn6 (fun i hi => hok.two i hi) (fun i hi => farB_no hfar hi) (.inl rfl)
    rw [pws_one] at hh
    exact hh)
  have HP2 := Lib.hid (fun wz (hz : Below w.heap.size w wz) => show Calls Tryz.prog 34 #[.slice A n2 cap, .slice A2 n2 cap2, .int .i64 (-1)] wz (SmallRes (pwV (prod ps (dns xs))) wz) from by
    have hh := power_any A A2 n2 cap cap2 ps xs (-1) wz (hamb.below hz) (h.below hz) (h2.below hz) hn6 (fun i hi => hok.two i hi) (fun i hi => farB_no hfar hi) (.inr rfl)
    rw [pws_neg] at hh
    exact hh)
  clear hl hfar hok hn6
  rw [pwV_yes hu] at HP1
  rw [pwV_no hd] at HP2
  obtain ⟨U, hU⟩ : ∃ U, itx ((prod ps (ups xs) : Nat) : Int) = U := ⟨_, rfl⟩
  rw [hU] at HP1
  clear hamb h h2 hc hf hu hd hU
  go_enter Tryz.func16, Tryz.ntmps16
  go_wp2_with fail
  obtain ⟨W, hW⟩ : ∃ W, (w.alloc (.cells #[.string ⟨#[]⟩, .string ⟨#[]⟩] 48)) = W := ⟨_, rfl⟩
  rw [hW]
  obtain ⟨hX, hBW⟩ := B1.of hW
  clear hW
  have HX := Lib.hid (fun wz (hb : Below W.heap.size W wz) => hX.later hb)
  have HB := Lib.hid (fun wz (hb : Below W.heap.size W wz) => bel_chain hBW hb)
  clear hX hBW
  refine (HCK.out _ (HB.out _ (Below.refl _ _))).mono ?_
  rintro e w1 ⟨rfl, hz1⟩
  go_wp2_with fail
  refine (HFT.out _ (HB.out _ hz1)).mono ?_
  rintro e w2 ⟨rfl, hb2⟩
  have hz2 := bel_chain hz1 hb2
  clear hz1 hb2
  go_wp2_with fail
  refine (HP1.out _ (HB.out _ hz2)).mono ?_
  rintro e w3 ⟨rfl, hb3⟩
  have hz3 := bel_chain hz2 hb3
  clear hb3
  go_wp2_with fail
  refine (HP2.out _ (HB.out _ hz3)).mono ?_
  rintro e w4 ⟨rfl, hb4⟩
  have hz4 := bel_chain hz3 hb4
  clear hb4
  have HXL := Lib.hid (HX.out _ hz4)
  have HBL := Lib.hid (HB.out _ hz4)
  obtain ⟨_, r0, r1, r2, r3⟩ := HXL.out
  go_wp2_with fail
  refine ret_cell_tmp rfl rfl (load_rat (g := w.heap.size) (HXL.out.store0 _ _)) rfl ?_
  exact ⟨rfl, (HBL.out.setCell (by simp <;> omega) _).setCell (by simp <;> omega) _⟩
end Go.Proofs.YtolnojkdalbppaaGreatDoor
