/- Greater text, out of: Q12. -/
import Derived.Test.YtolnojkdalbppaaGreatDoorQ9
import Derived.Test.YtolnojkdalbppaaGreatDoorQ11
import Derived.Test.YtolnojkdalbppaaGreatDoorQ10
namespace Go.Proofs.YtolnojkdalbppaaGreatDoor
open Go.RowKit Go.PlainAid
attribute [local go_sem] field_rat0 field_rat1
/-- A new block that a literal lays. -/
theorem Zc.lit (w : World) (xs : List Int) (cs : Array Value) (h : cs.toList = Zi xs) (hl : xs.length ≤ 1000) : Zc (w.alloc (.cells cs 3)) w.heap.size xs.length xs.length xs := by
  have hs : cs.size = xs.length := by rw [← Array.length_toList, h, Zi_len]
  exact Zc.mk' (heap_alloc_new w _) (Nat.le_refl _) (by unfold maxLen; omega) hs (by rw [h, List.take_of_length_le (by rw [Zi_len]; exact Nat.le_refl _)])
theorem okl235 : chk [2, 3, 5] = 0 := by
  refine Okl.chk ⟨by decide, by decide, ?_, ?_⟩
  · intro i hi
    have hi' : i < 3 := hi
    rcases (show i = 0 ∨ i = 1 ∨ i = 2 by omega) with rfl | rfl | rfl <;> decide
  · intro i h0 hi
    have hi' : i < 3 := hi
    rcases (show i = 1 ∨ i = 2 by omega) with rfl | rfl <;> decide
theorem rgt235 : Rgt [2, 3, 5] := (chk_ok okl235).rgt
theorem stp81 : stp [2, 3, 5] 81 = ([0, 4, 0], 1) := by
  have h := stp_prod [2, 3, 5] [0, 4, 0] rgt235 rfl
  rw [show prod [2, 3, 5] [0, 4, 0] = 81 by decide] at h
  exact h
theorem stp80 : stp [2, 3, 5] 80 = ([4, 0, 1], 1) := by
  have h := stp_prod [2, 3, 5] [4, 0, 1] rgt235 rfl
  rw [show prod [2, 3, 5] [4, 0, 1] = 80 by decide] at h
  exact h
theorem l81 : (⟨#[56, 49]⟩ : ByteArray) = itx 81 := lit3_pos [56, 49] 81 (by decide) (by decide)
theorem l80 : (⟨#[56, 48]⟩ : ByteArray) = itx 80 := lit3_pos [56, 48] 80 (by decide) (by decide)
theorem l10 : (⟨#[49, 48]⟩ : ByteArray) = itx 10 := lit3_pos [49, 48] 10 (by decide) (by decide)
theorem l9 : (⟨#[57]⟩ : ByteArray) = itx 9 := lit3_pos [57] 9 (by decide) (by decide)
theorem known_factor (g : Nat) (w : World) (hamb : Amb w) (hz : Zc w g 3 3 [2, 3, 5]) :
    Calls Tryz.prog 15 #[.slice (some ⟨g, 0, none⟩) 3 3, .agg #[.string ⟨#[56, 49]⟩, .string ⟨#[56, 48]⟩]] w (ZOk 3 [-4, 4, -1] w) := by
  have hr := rat_of_right (n := 81) (d := 80) (by decide) (by decide)
  have x81 : rv (Rat.divInt 81 80) = .agg #[.string ⟨#[56, 49]⟩, .string ⟨#[56, 48]⟩] := by rw [rv_right (by decide) (by decide), l81, l80]
  have n81 : NQ (Rat.divInt 81 80) 100 := NQ_small (by decide) (by decide) (by decide) (by decide)
  have hB : rightB (itx (Rat.divInt 81 80).num).data.toList (itx ((Rat.divInt 81 80).den : Int)).data.toList = true := by
    rw [hr.1, hr.2, ← l81, ← l80]; decide +kernel
  have h := (Factor_pos _ 3 3 [2, 3, 5] (Rat.divInt 81 80) 81 80 w hamb hz.ins okl235 hB (n81.mono (by omega)) hr.1 (by have := hr.2; omega) (by decide) _ _ stp81 stp80).1 ⟨rfl, rfl⟩ (by decide)
  rw [x81] at h
  exact h
theorem known_value (g g2 : Nat) (w : World) (hamb : Amb w) (hz : Zc w g 3 3 [2, 3, 5]) (hz2 : Zc w g2 3 3 [1, -2, 1]) :
    Calls Tryz.prog 16 #[.slice (some ⟨g, 0, none⟩) 3 3, .slice (some ⟨g2, 0, none⟩) 3 3] w (SmallRes (.tuple #[.agg #[.string ⟨#[49, 48]⟩, .string ⟨#[57]⟩], .int .i64 0]) w) := by
  have e1 : prod [2, 3, 5] (ups [1, -2, 1]) = 10 := by decide
  have e2 : prod [2, 3, 5] (dns [1, -2, 1]) = 9 := by decide
  have n10 : nz ((10 : Nat) : Int) ≤ 400 := Nat.le_trans ((nz_le_iff 10 1).2 (by decide)) (by omega)
  have n9 : nz ((9 : Nat) : Int) ≤ 400 := Nat.le_trans ((nz_le_iff 9 0).2 (by decide)) (by omega)
  have h := value_yes _ _ 3 3 3 3 [2, 3, 5] [1, -2, 1] w hamb hz.ins hz2.ins okl235 (by decide) (by rw [e1]; exact n10) (by rw [e2]; exact n9)
  rw [e1, e2] at h
  rw [l10, l9]
  exact h
set_option maxRecDepth 100000 in
set_option maxHeartbeats 4000000 in
/-- schismalaw11.known. -/
theorem known11_any (w : World) (hamb : Amb11 w) :
    Calls Tryz.prog 4 #[] w (SmallRes (.bool true) w) := by
  have HAMB := Lib.hid (fun wz (hb : Below w.heap.size w wz) => hamb.below hb)
  have C1 := Lib.hid (show Calls Tryz.prog 14 #[.int .i64 4] w (ZRes [2, 3, 5, 7] 0 w) from first_yes 4 w hamb.m (by decide) (by decide))
  have C2 := Lib.hid known_factor
  have C3 := Lib.hid known_value
  have C4 := Lib.hid (fun w => show Calls Tryz.prog 18 #[.int .i64 97] w (SmallRes (.bool true) w) from isprime_any 97 w)
  have C5 := Lib.hid (fun w => show Calls Tryz.prog 18 #[.int .i64 91] w (SmallRes (.bool false) w) from isprime_any 91 w)
  have E1 := Lib.hid (fun (A1 A2 : Option Addr) (c1 c2 : Nat) (w : World) (h1 : InZ w A1 4 c1 [2, 3, 5, 7]) (h2 : InZ w A2 4 c2 [2, 3, 5, 7]) => show Calls Tryz.prog 13 #[.slice A1 4 c1, .slice A2 4 c2] w (SmallRes (.bool true) w) from equalP_any A1 A2 4 c1 4 c2 _ _ w h1 h2)
  have E2 := Lib.hid (fun (A1 A2 : Option Addr) (c1 c2 : Nat) (w : World) (h1 : InZ w A1 3 c1 [-4, 4, -1]) (h2 : InZ w A2 3 c2 [-4, 4, -1]) => show Calls Tryz.prog 17 #[.slice A1 3 c1, .slice A2 3 c2] w (SmallRes (.bool true) w) from by
    have h := equalR_any A1 A2 3 c1 3 c2 _ _ w h1 h2
    rw [show (([-4, 4, -1] : List Int) == [-4, 4, -1]) = true by decide] at h
    exact h)
  have L1 := Lib.hid (fun w => Zc.lit w [2, 3, 5] #[.int .i64 2, .int .i64 3, .int .i64 5] rfl (by decide))
  have L2 := Lib.hid (fun w => Zc.lit w [1, -2, 1] #[.int .i64 1, .int .i64 (-2), .int .i64 1] rfl (by decide))
  have L3 := Lib.hid (fun w => Zc.lit w [2, 3, 5, 7] #[.int .i64 2, .int .i64 3, .int .i64 5, .int .i64 7] rfl (by decide))
  have L4 := Lib.hid (fun w => Zc.lit w [-4, 4, -1] #[.int .i64 (-4), .int .i64 4, .int .i64 (-1)] rfl (by decide))
  clear hamb
  go_enter Tryz.func4, Tryz.ntmps4
  go_wp2_with fail
  refine C1.out.mono ?_
  rintro e w1 ⟨A1, n1, c1, rfl, hin1, hb1⟩
  obtain rfl : 4 = n1 := hin1.1
  have IN1 := Lib.hid hin1
  have B1' := Lib.hid hb1
  clear hin1 hb1
  go_wp2_with fail
  obtain ⟨wa, hwa⟩ : ∃ W, w1.alloc (.cells #[.int .i64 2, .int .i64 3, .int .i64 5] 3) = W := ⟨_, rfl⟩
  rw [hwa]
  have hza : Zc wa w1.heap.size 3 3 [2, 3, 5] := hwa ▸ L1.out w1
  have hba : Below w1.heap.size w1 wa := hwa ▸ (Below.refl _ _).alloc (Nat.le_refl _) _
  have ha := (HAMB.out _ (bel_chain B1'.out hba)).a
  clear hwa
  refine (C2.out _ _ ha hza).mono ?_
  rintro e w2 ⟨g, c2, rfl, hz2, hb2⟩
  have IN2 := Lib.hid (And.intro (IN1.out.below (bel_chain hba hb2)) hz2.ins)
  have B2' := Lib.hid (bel_chain B1'.out (bel_chain hba hb2))
  clear hza hba ha hz2 hb2
  go_wp2_with fail
  obtain ⟨wb, hwb⟩ : ∃ W, w2.alloc (.cells #[.int .i64 2, .int .i64 3, .int .i64 5] 3) = W := ⟨_, rfl⟩
  rw [hwb]
  have hzb : Zc wb w2.heap.size 3 3 [2, 3, 5] := hwb ▸ L1.out w2
  have hbb : Below w2.heap.size w2 wb := hwb ▸ (Below.refl _ _).alloc (Nat.le_refl _) _
  have hsb : wb.heap.size = w2.heap.size + 1 := hwb ▸ World.size_alloc _ _
  clear hwb
  rw [← hsb]
  obtain ⟨wc, hwc⟩ : ∃ W, wb.alloc (.cells #[.int .i64 1, .int .i64 (-2), .int .i64 1] 3) = W := ⟨_, rfl⟩
  rw [hwc]
  have hzc : Zc wc wb.heap.size 3 3 [1, -2, 1] := hwc ▸ L2.out wb
  have hbc : Below wb.heap.size wb wc := hwc ▸ (Below.refl _ _).alloc (Nat.le_refl _) _
  have hzb2 := hzb.below hbc hzb.lt
  have hbd := bel_chain hbb hbc
  have ha := (HAMB.out _ (bel_chain B2'.out hbd)).a
  clear hwc hsb
  refine (C3.out _ _ _ ha hzb2 hzc).mono ?_
  rintro e w3 ⟨rfl, hb3⟩
  have IN3 := Lib.hid (And.intro (IN2.out.1.below (bel_chain hbd hb3)) (IN2.out.2.below (bel_chain hbd hb3)))
  have B3' := Lib.hid (bel_chain B2'.out (bel_chain hbd hb3))
  clear hzb hbb hzc hbc hzb2 hbd ha hb3
  go_wp2_with fail
  obtain ⟨wx, hwx⟩ : ∃ W, w3.alloc (.cells #[.string ⟨#[49, 48]⟩, .string ⟨#[57]⟩] 48) = W := ⟨_, rfl⟩
  rw [hwx]
  have hxx : Box2 wx w3.heap.size (.string ⟨#[49, 48]⟩) (.string ⟨#[57]⟩) := hwx ▸ Box2.new w3 _ _ _
  have hbx : Below w3.heap.size w3 wx := hwx ▸ (Below.refl _ _).alloc (Nat.le_refl _) _
  have hsx : wx.heap.size = w3.heap.size + 1 := hwx ▸ World.size_alloc _ _
  clear hwx
  rw [← hsx]
  obtain ⟨wd, hwd⟩ : ∃ W, wx.alloc (.cells #[.int .i64 2, .int .i64 3, .int .i64 5, .int .i64 7] 3) = W := ⟨_, rfl⟩
  rw [hwd]
  have hzd : Zc wd wx.heap.size 4 4 [2, 3, 5, 7] := hwd ▸ L3.out wx
  have hbd : Below wx.heap.size wx wd := hwd ▸ (Below.refl _ _).alloc (Nat.le_refl _) _
  clear hwd hsx
  have hbxd := bel_chain hbx hbd
  refine (E1.out _ _ _ _ _ (IN3.out.1.below hbxd) hzd.ins).mono ?_
  rintro e w4 ⟨rfl, hb4⟩
  have IN4 := Lib.hid (IN3.out.2.below (bel_chain hbxd hb4))
  have BX4 := Lib.hid (hxx.later (bel_chain hbd hb4))
  have B4' := Lib.hid (bel_chain B3'.out (bel_chain hbxd hb4))
  clear hxx hbx hzd hbd hbxd hb4
  go_wp2_with fail
  obtain ⟨we, hwe⟩ : ∃ W, w4.alloc (.cells #[.int .i64 (-4), .int .i64 4, .int .i64 (-1)] 3) = W := ⟨_, rfl⟩
  rw [hwe]
  have hze : Zc we w4.heap.size 3 3 [-4, 4, -1] := hwe ▸ L4.out w4
  have hbe : Below w4.heap.size w4 we := hwe ▸ (Below.refl _ _).alloc (Nat.le_refl _) _
  clear hwe
  refine (E2.out _ _ _ _ _ (IN4.out.below hbe) hze.ins).mono ?_
  rintro e w5 ⟨rfl, hb5⟩
  have hx5 := BX4.out.later (bel_chain hbe hb5)
  have B5' := Lib.hid (bel_chain B4'.out (bel_chain hbe hb5))
  obtain ⟨_, c50, c51, f50, f51⟩ := hx5
  clear hze hbe hb5
  go_wp2_with fail
  refine (C4.out _).mono ?_
  rintro e w6 ⟨rfl, hb6⟩
  have B6' := Lib.hid (bel_chain B5'.out hb6)
  clear hb6
  go_wp2_with fail
  refine (C5.out _).mono ?_
  rintro e w7 ⟨rfl, hb7⟩
  have B7' := Lib.hid (bel_chain B6'.out hb7)
  clear hb7
  go_wp2_with fail
  go_ret
  exact ⟨rfl, B7'.out⟩
end Go.Proofs.YtolnojkdalbppaaGreatDoor
