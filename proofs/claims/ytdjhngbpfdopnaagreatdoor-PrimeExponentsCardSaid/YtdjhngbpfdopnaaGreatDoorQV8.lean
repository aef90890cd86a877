/- Greater text, out of: QV8. -/
import Derived.Test.YtdjhngbpfdopnaaGreatDoorQ14
import Derived.Test.YtdjhngbpfdopnaaGreatDoorQ15
namespace Go.Proofs.YtdjhngbpfdopnaaGreatDoor
open Go.RowKit Go.PlainAid
attribute [local go_sem] field_rat0 field_rat1

theorem pall50_len : (pall 50).length = 15 := by rw [pall_50]; rfl
theorem pall50_pr {k : Nat} (h : k < 15) : pr ((pall 50).getD k 0) = true ∧ (pall 50).getD k 0 ≤ 53 := by
  have hl : k < (pall 50).length := by rw [pall50_len]; exact h
  rw [getD_of hl]
  have hm := List.getElem_mem hl
  have ha : ∀ x ∈ pall 50, pr x = true ∧ x ≤ 53 := by rw [pall_50]; decide
  exact ha _ hm
theorem chk_one {p : Int} (h : pr p = true) : chk [p] = 0 := by
  refine Okl.chk ⟨by simp, by simp, fun i hi => ?_, fun i h1 hi => ?_⟩
  · have hi' : i < 1 := hi
    obtain rfl : i = 0 := by omega
    exact h
  · have hi' : i < 1 := hi
    omega
theorem stp_one {p : Nat} (hp : 2 ≤ p) (e : Nat) : stp [(p : Int)] (p ^ e) = ([e], 1) := by
  have h1 : 1 % p ≠ 0 := by rw [Nat.mod_eq_of_lt (by omega)]; omega
  have h := tk_pow hp 1 h1 e
  rw [Nat.mul_one] at h
  show ((tk (p : Int).toNat (p ^ e)).2 :: [], (tk (p : Int).toNat (p ^ e)).1) = _
  rw [Int.toNat_natCast, h]
/-- What Factor answers of a power of a prime, over its own list. -/
theorem factor_power (below : Bool) (g : Nat) (p e : Nat) (w : World) (hamb : Amb w) (hz : Zc w g 1 1 [(p : Int)]) (hp : pr (p : Int) = true) (hn : nz ((p ^ e : Nat) : Int) ≤ 400) :
    (e ≤ 1000 → Calls Tryz.prog 27 #[.slice (some ⟨g, 0, none⟩) 1 1, .agg (if below = true then #[.string ⟨#[49]⟩, .string (itx ((p ^ e : Nat) : Int))] else #[.string (itx ((p ^ e : Nat) : Int)), .string ⟨#[49]⟩])] w (ZOk 1 [if below = true then -(e : Int) else (e : Int)] w)) ∧
    (1000 < e → Calls Tryz.prog 27 #[.slice (some ⟨g, 0, none⟩) 1 1, .agg (if below = true then #[.string ⟨#[49]⟩, .string (itx ((p ^ e : Nat) : Int))] else #[.string (itx ((p ^ e : Nat) : Int)), .string ⟨#[49]⟩])] w (SmallRes (.tuple #[.slice none 0 0, .int .i64 4]) w)) := by
  have hb := pr_bd hp
  have hpos : 0 < p ^ e := Nat.pow_pos (by omega)
  have h1 : nz ((1 : Nat) : Int) ≤ 400 := Nat.le_trans (show nz ((1 : Nat) : Int) ≤ 1 from (nz_le_iff 1 0).2 (by decide)) (by omega)
  have s1 := stp_one (p := p) (by omega) e
  have s0 : stp [(p : Int)] 1 = ([0], 1) := by have := stp_one (p := p) (by omega) 0; rw [Nat.pow_zero] at this; exact this
  have hlit : (⟨#[49]⟩ : ByteArray) = itx ((1 : Nat) : Int) := itx_lit_one.symm
  rw [hlit]
  cases below with
  | true =>
    have hF := Factor_nat _ 1 1 [(p : Int)] 1 (p ^ e) w hamb hz.ins (chk_one hp) (by omega) hpos (Nat.gcd_one_left _) h1 hn _ _ s0 s1
    have hd : dif [0] [e] = [-(e : Int)] := by show [((0 : Nat) : Int) - (e : Int)] = _; congr 1; omega
    rw [hd] at hF
    refine ⟨fun he => ?_, fun he => ?_⟩
    · exact hF.1 ⟨rfl, rfl⟩ (by
        show ((decide (1000 < -(e : Int)) || decide (-(e : Int) < -1000)) || false) = false
        rw [decide_eq_false (by omega), decide_eq_false (by omega)]; rfl)
    · exact hF.2.1 ⟨rfl, rfl⟩ (by
        show ((decide (1000 < -(e : Int)) || decide (-(e : Int) < -1000)) || false) = true
        rw [decide_eq_true (show -(e : Int) < -1000 by omega), Bool.or_true]; rfl)
  | false =>
    have hF := Factor_nat _ 1 1 [(p : Int)] (p ^ e) 1 w hamb hz.ins (chk_one hp) hpos (by omega) (Nat.gcd_one_right _) hn h1 _ _ s1 s0
    have hd : dif [e] [0] = [(e : Int)] := by show [(e : Int) - ((0 : Nat) : Int)] = _; simp
    rw [hd] at hF
    refine ⟨fun he => ?_, fun he => ?_⟩
    · exact hF.1 ⟨rfl, rfl⟩ (by
        show ((decide (1000 < (e : Int)) || decide ((e : Int) < -1000)) || false) = false
        rw [decide_eq_false (by omega), decide_eq_false (by omega)]; rfl)
    · exact hF.2.1 ⟨rfl, rfl⟩ (by
        show ((decide (1000 < (e : Int)) || decide ((e : Int) < -1000)) || false) = true
        rw [decide_eq_true (show 1000 < (e : Int) by omega), Bool.true_or]; rfl)
set_option maxRecDepth 100000 in
set_option maxHeartbeats 4000000 in
theorem lawExponents_long (which ex : Int) (below : Bool) (k e p : Nat) (w : World) (hamb : Amb11 w) (hp : (pall 50).getD k 0 = (p : Int)) (hpr : pr (p : Int) = true) (hw0 : 0 ≤ which) (hw1 : which ≤ 255) (hwt : which.tmod 15 = (k : Int)) (hxt : ex.tmod 1301 = (e : Int)) (hk : k < 15) (he : e ≤ 1300) (hn : ¬ nz ((p ^ e : Nat) : Int) ≤ 400) :
    Calls Tryz.prog 9 #[.int .u8 which, .int .u16 ex, .bool below] w (SmallRes (.bool true) w) := by
  have hpb := pr_bd hpr
  have HAMB := Lib.hid (fun wz (hb : Below w.heap.size w wz) => hamb.below hb)
  have HPW := Lib.hid (fun wz (hz : Amb wz) => lpower_any p e wz hz (by omega) (by omega) he)
  have HSZ := Lib.hid (itx_size_nat (p ^ e))
  have HNB := Lib.hid (show nz ((p ^ e : Nat) : Int) ≤ 1000000 from Nat.le_trans (nz_powp (d := 1300) (by omega) he) (by omega))
  have HP := Lib.hid hp
  have h400 : 400 < ((itx ((p ^ e : Nat) : Int)).size : Int) := by rw [HSZ.out]; omega
  obtain ⟨T, hT⟩ : ∃ T, itx ((p ^ e : Nat) : Int) = T := ⟨_, rfl⟩
  obtain ⟨Z, hZ⟩ : ∃ Z, ((p ^ e : Nat) : Int) = Z := ⟨_, rfl⟩
  have HFR := Lib.hid (fun v wz (hz : Amb wz) (hv : W3 wz v Z) => show Calls Tryz.prog 44 #[v] wz (SmallRes (.string T) wz) from by
    have hh := t3from_any v Z wz hz hv (hZ ▸ HNB.out)
    rw [← hZ, hT] at hh
    exact hh)
  rw [hZ] at HPW
  rw [hT] at h400
  clear hamb hp hpr hn hT hZ HSZ HNB
  go_enter Tryz.func9, Tryz.ntmps9
  go_wp2_with fail
  refine (known11_any _ (HAMB.out _ (Below.refl _ _))).mono ?_
  rintro e1 w1 ⟨rfl, hz1⟩
  go_wp2_with fail
  refine (lall_any 50 _).mono ?_
  rintro e2 w2 ⟨v, rfl, hown, hb2⟩
  have hz2 := bel_chain hz1 hb2
  rcases hown with ⟨_, e3⟩ | ⟨g, cap, rfl, hg, hz⟩
  · rw [pall_50] at e3; cases e3
  rw [pall50_len] at hz ⊢
  have hcell := hz.cell k hk
  rw [HP.out] at hcell
  clear hz hb2 hz1
  go_wp2_with fail
  refine (HPW.out _ (HAMB.out _ hz2).a).mono ?_
  rintro e3 w3 ⟨v3, rfl, hv3, hb3⟩
  have hz3 := bel_chain hz2 hb3
  have HFR3 := Lib.hid (HFR.out _ _ (HAMB.out _ hz3).a hv3)
  obtain ⟨s3, A3, n3, c3, hve3, hvl3, _, _, _⟩ := hv3.parts
  subst hve3
  clear hvl3 hv3 hb3 hz2 hcell
  go_wp2_with fail
  refine HFR3.out.mono ?_
  rintro e4 w4 ⟨rfl, hb4⟩
  have hz4 := bel_chain hz3 hb4
  clear hz3 hb4
  go_wp2_with fail
  go_ret
  exact ⟨rfl, hz4⟩
set_option maxRecDepth 100000 in
set_option maxHeartbeats 4000000 in
theorem lawExponents_no_ok (which ex : Int) (k e p : Nat) (w : World) (hamb : Amb11 w) (hp : (pall 50).getD k 0 = (p : Int)) (hpr : pr (p : Int) = true) (hw0 : 0 ≤ which) (hw1 : which ≤ 255) (hwt : which.tmod 15 = (k : Int)) (hxt : ex.tmod 1301 = (e : Int)) (hk : k < 15) (he : e ≤ 1300) (hn : nz ((p ^ e : Nat) : Int) ≤ 400) (h1000 : e ≤ 1000) :
    Calls Tryz.prog 9 #[.int .u8 which, .int .u16 ex, .bool false] w (SmallRes (.bool true) w) := by
  have hpb := pr_bd hpr
  have HAMB := Lib.hid (fun wz (hb : Below w.heap.size w wz) => hamb.below hb)
  have HPW := Lib.hid (fun wz (hz : Amb wz) => lpower_any p e wz hz (by omega) (by omega) he)
  have HSZ := Lib.hid (itx_size_nat (p ^ e))
  have HNB := Lib.hid (show nz ((p ^ e : Nat) : Int) ≤ 1000000 from Nat.le_trans (nz_powp (d := 1300) (by omega) he) (by omega))
  have HP := Lib.hid hp
  have HFP := Lib.hid (fun g wz (hz : Amb wz) (hzz : Zc wz g 1 1 [(p : Int)]) => show Calls Tryz.prog 27 #[.slice (some ⟨g, 0, none⟩) 1 1, .agg #[.string (itx ((p ^ e : Nat) : Int)), .string ⟨#[49]⟩]] wz (ZOk 1 [(e : Int)] wz) from (factor_power false g p e wz hz hzz hpr hn).1 h1000)
  have h400 : ¬ 400 < ((itx ((p ^ e : Nat) : Int)).size : Int) := by rw [HSZ.out]; omega
  have h1000' : ¬ 1000 < (e : Int) := by omega
  obtain ⟨T, hT⟩ : ∃ T, itx ((p ^ e : Nat) : Int) = T := ⟨_, rfl⟩
  obtain ⟨Z, hZ⟩ : ∃ Z, ((p ^ e : Nat) : Int) = Z := ⟨_, rfl⟩
  have HFR := Lib.hid (fun v wz (hz : Amb wz) (hv : W3 wz v Z) => show Calls Tryz.prog 44 #[v] wz (SmallRes (.string T) wz) from by
    have hh := t3from_any v Z wz hz hv (hZ ▸ HNB.out)
    rw [← hZ, hT] at hh
    exact hh)
  rw [hZ] at HPW
  rw [hT] at h400
  rw [hT] at HFP
  clear hamb hp hpr hn hT hZ HSZ HNB
  go_enter Tryz.func9, Tryz.ntmps9
  go_wp2_with fail
  refine (known11_any _ (HAMB.out _ (Below.refl _ _))).mono ?_
  rintro e1 w1 ⟨rfl, hz1⟩
  go_wp2_with fail
  refine (lall_any 50 _).mono ?_
  rintro e2 w2 ⟨v, rfl, hown, hb2⟩
  have hz2 := bel_chain hz1 hb2
  rcases hown with ⟨_, e3⟩ | ⟨g, cap, rfl, hg, hz⟩
  · rw [pall_50] at e3; cases e3
  rw [pall50_len] at hz ⊢
  have hcell := hz.cell k hk
  rw [HP.out] at hcell
  clear hz hb2 hz1
  go_wp2_with fail
  refine (HPW.out _ (HAMB.out _ hz2).a).mono ?_
  rintro e3 w3 ⟨v3, rfl, hv3, hb3⟩
  have hz3 := bel_chain hz2 hb3
  have HFR3 := Lib.hid (HFR.out _ _ (HAMB.out _ hz3).a hv3)
  obtain ⟨s3, A3, n3, c3, hve3, hvl3, _, _, _⟩ := hv3.parts
  subst hve3
  clear hvl3 hv3 hb3 hz2 hcell
  go_wp2_with fail
  refine HFR3.out.mono ?_
  rintro e4 w4 ⟨rfl, hb4⟩
  have hz4 := bel_chain hz3 hb4
  clear hz3 hb4
  go_upto_region 12 with fail
  obtain ⟨wx, hwx⟩ : ∃ W, w4.alloc (.cells #[.string T, .string ⟨#[49]⟩] 27) = W := ⟨_, rfl⟩
  have hxx : Box2 wx w4.heap.size (.string T) (.string ⟨#[49]⟩) := hwx ▸ Box2.new w4 _ _ _
  have hbx : Below w4.heap.size w4 wx := hwx ▸ (Below.refl _ _).alloc (Nat.le_refl _) _
  have hsx : wx.heap.size = w4.heap.size + 1 := hwx ▸ World.size_alloc _ _
  rw [hwx, ← hsx]
  clear hwx hsx
  obtain ⟨wd, hwd⟩ : ∃ W, wx.alloc (.cells #[.int .i64 (e : Int)] 3) = W := ⟨_, rfl⟩
  have hzd : Zc wd wx.heap.size 1 1 [(e : Int)] := hwd ▸ Zc.one wx e
  have hbd : Below wx.heap.size wx wd := hwd ▸ (Below.refl _ _).alloc (Nat.le_refl _) _
  rw [hwd]
  clear hwd
  obtain ⟨g5, hg5⟩ : ∃ g, wx.heap.size = g := ⟨_, rfl⟩
  rw [hg5] at hzd ⊢
  have hx5 := hxx.later hbd
  have hz5 := bel_chain hz4 (bel_chain hbx hbd)
  clear hg5 hxx hbx hbd hz4
  obtain ⟨_, c50, c51, f50, f51⟩ := id hx5
  go_wp2_with fail
  obtain ⟨we, hwe⟩ : ∃ W, wd.alloc (.cells #[.int .i64 (p : Int)] 3) = W := ⟨_, rfl⟩
  have hze : Zc we wd.heap.size 1 1 [(p : Int)] := hwe ▸ Zc.one wd p
  have hbe : Below wd.heap.size wd we := hwe ▸ (Below.refl _ _).alloc (Nat.le_refl _) _
  rw [hwe]
  clear hwe
  have hz6 := bel_chain hz5 hbe
  refine (HFP.out _ _ (HAMB.out _ hz6).a hze).mono ?_
  rintro e5 w7 ⟨g7, c7, rfl, hzz, hb7⟩
  have hz7 := bel_chain hz6 hb7
  have hi7 := hzz.ins
  have hd7 := (hzd.below (bel_chain hbe hb7) hzd.lt).ins
  clear hz6 hb7 hbe hze c50 c51 f50 f51 hx5 hz5 hzd hzz
  have HEQ := Lib.hid (equalR_any _ _ 1 c7 1 1 _ _ w7 hi7 hd7)
  rw [beq_self_eq_true] at HEQ
  clear hi7 hd7
  go_wp2_with fail
  refine HEQ.out.mono ?_
  rintro e6 w8 ⟨rfl, hb8⟩
  have hz8 := bel_chain hz7 hb8
  clear hz7 hb8
  go_wp2_with fail
  go_ret
  exact ⟨rfl, hz8⟩
set_option maxRecDepth 100000 in
set_option maxHeartbeats 4000000 in
theorem lawExponents_no_far (which ex : Int) (k e p : Nat) (w : World) (hamb : Amb11 w) (hp : (pall 50).getD k 0 = (p : Int)) (hpr : pr (p : Int) = true) (hw0 : 0 ≤ which) (hw1 : which ≤ 255) (hwt : which.tmod 15 = (k : Int)) (hxt : ex.tmod 1301 = (e : Int)) (hk : k < 15) (he : e ≤ 1300) (hn : nz ((p ^ e : Nat) : Int) ≤ 400) (h1000 : 1000 < e) :
    Calls Tryz.prog 9 #[.int .u8 which, .int .u16 ex, .bool false] w (SmallRes (.bool true) w) := by
  have hpb := pr_bd hpr
  have HAMB := Lib.hid (fun wz (hb : Below w.heap.size w wz) => hamb.below hb)
  have HPW := Lib.hid (fun wz (hz : Amb wz) => lpower_any p e wz hz (by omega) (by omega) he)
  have HSZ := Lib.hid (itx_size_nat (p ^ e))
  have HNB := Lib.hid (show nz ((p ^ e : Nat) : Int) ≤ 1000000 from Nat.le_trans (nz_powp (d := 1300) (by omega) he) (by omega))
  have HP := Lib.hid hp
  have HFP := Lib.hid (fun g wz (hz : Amb wz) (hzz : Zc wz g 1 1 [(p : Int)]) => show Calls Tryz.prog 27 #[.slice (some ⟨g, 0, none⟩) 1 1, .agg #[.string (itx ((p ^ e : Nat) : Int)), .string ⟨#[49]⟩]] wz (SmallRes (.tuple #[.slice none 0 0, .int .i64 4]) wz) from (factor_power false g p e wz hz hzz hpr hn).2 h1000)
  have h400 : ¬ 400 < ((itx ((p ^ e : Nat) : Int)).size : Int) := by rw [HSZ.out]; omega
  have h1000' : 1000 < (e : Int) := by omega
  obtain ⟨T, hT⟩ : ∃ T, itx ((p ^ e : Nat) : Int) = T := ⟨_, rfl⟩
  obtain ⟨Z, hZ⟩ : ∃ Z, ((p ^ e : Nat) : Int) = Z := ⟨_, rfl⟩
  have HFR := Lib.hid (fun v wz (hz : Amb wz) (hv : W3 wz v Z) => show Calls Tryz.prog 44 #[v] wz (SmallRes (.string T) wz) from by
    have hh := t3from_any v Z wz hz hv (hZ ▸ HNB.out)
    rw [← hZ, hT] at hh
    exact hh)
  rw [hZ] at HPW
  rw [hT] at h400
  rw [hT] at HFP
  clear hamb hp hpr hn hT hZ HSZ HNB
  go_enter Tryz.func9, Tryz.ntmps9
  go_wp2_with fail
  refine (known11_any _ (HAMB.out _ (Below.refl _ _))).mono ?_
  rintro e1 w1 ⟨rfl, hz1⟩
  go_wp2_with fail
  refine (lall_any 50 _).mono ?_
  rintro e2 w2 ⟨v, rfl, hown, hb2⟩
  have hz2 := bel_chain hz1 hb2
  rcases hown with ⟨_, e3⟩ | ⟨g, cap, rfl, hg, hz⟩
  · rw [pall_50] at e3; cases e3
  rw [pall50_len] at hz ⊢
  have hcell := hz.cell k hk
  rw [HP.out] at hcell
  clear hz hb2 hz1
  go_wp2_with fail
  refine (HPW.out _ (HAMB.out _ hz2).a).mono ?_
  rintro e3 w3 ⟨v3, rfl, hv3, hb3⟩
  have hz3 := bel_chain hz2 hb3
  have HFR3 := Lib.hid (HFR.out _ _ (HAMB.out _ hz3).a hv3)
  obtain ⟨s3, A3, n3, c3, hve3, hvl3, _, _, _⟩ := hv3.parts
  subst hve3
  clear hvl3 hv3 hb3 hz2 hcell
  go_wp2_with fail
  refine HFR3.out.mono ?_
  rintro e4 w4 ⟨rfl, hb4⟩
  have hz4 := bel_chain hz3 hb4
  clear hz3 hb4
  go_upto_region 12 with fail
  obtain ⟨wx, hwx⟩ : ∃ W, w4.alloc (.cells #[.string T, .string ⟨#[49]⟩] 27) = W := ⟨_, rfl⟩
  have hxx : Box2 wx w4.heap.size (.string T) (.string ⟨#[49]⟩) := hwx ▸ Box2.new w4 _ _ _
  have hbx : Below w4.heap.size w4 wx := hwx ▸ (Below.refl _ _).alloc (Nat.le_refl _) _
  have hsx : wx.heap.size = w4.heap.size + 1 := hwx ▸ World.size_alloc _ _
  rw [hwx, ← hsx]
  clear hwx hsx
  obtain ⟨wd, hwd⟩ : ∃ W, wx.alloc (.cells #[.int .i64 (e : Int)] 3) = W := ⟨_, rfl⟩
  have hzd : Zc wd wx.heap.size 1 1 [(e : Int)] := hwd ▸ Zc.one wx e
  have hbd : Below wx.heap.size wx wd := hwd ▸ (Below.refl _ _).alloc (Nat.le_refl _) _
  rw [hwd]
  clear hwd
  obtain ⟨g5, hg5⟩ : ∃ g, wx.heap.size = g := ⟨_, rfl⟩
  rw [hg5] at hzd ⊢
  have hx5 := hxx.later hbd
  have hz5 := bel_chain hz4 (bel_chain hbx hbd)
  clear hg5 hxx hbx hbd hz4
  obtain ⟨_, c50, c51, f50, f51⟩ := id hx5
  go_wp2_with fail
  obtain ⟨we, hwe⟩ : ∃ W, wd.alloc (.cells #[.int .i64 (p : Int)] 3) = W := ⟨_, rfl⟩
  have hze : Zc we wd.heap.size 1 1 [(p : Int)] := hwe ▸ Zc.one wd p
  have hbe : Below wd.heap.size wd we := hwe ▸ (Below.refl _ _).alloc (Nat.le_refl _) _
  rw [hwe]
  clear hwe
  have hz6 := bel_chain hz5 hbe
  refine (HFP.out _ _ (HAMB.out _ hz6).a hze).mono ?_
  rintro e5 w7 ⟨rfl, hb7⟩
  have hz7 := bel_chain hz6 hb7
  clear hz6 hb7 hbe hze c50 c51 f50 f51 hx5 hz5 hzd
  go_wp2_with fail
  go_ret
  exact ⟨rfl, hz7⟩
set_option maxRecDepth 100000 in
set_option maxHeartbeats 4000000 in
theorem lawExponents_zero_ok (which ex : Int) (k e p : Nat) (w : World) (hamb : Amb11 w) (hp : (pall 50).getD k 0 = (p : Int)) (hpr : pr (p : Int) = true) (hw0 : 0 ≤ which) (hw1 : which ≤ 255) (hwt : which.tmod 15 = (k : Int)) (hxt : ex.tmod 1301 = (e : Int)) (hk : k < 15) (he : e ≤ 1300) (hn : nz ((p ^ e : Nat) : Int) ≤ 400) (h1000 : e ≤ 1000) (h0 : e = 0) :
    Calls Tryz.prog 9 #[.int .u8 which, .int .u16 ex, .bool true] w (SmallRes (.bool true) w) := by
  have hpb := pr_bd hpr
  have HAMB := Lib.hid (fun wz (hb : Below w.heap.size w wz) => hamb.below hb)
  have HPW := Lib.hid (fun wz (hz : Amb wz) => lpower_any p e wz hz (by omega) (by omega) he)
  have HSZ := Lib.hid (itx_size_nat (p ^ e))
  have HNB := Lib.hid (show nz ((p ^ e : Nat) : Int) ≤ 1000000 from Nat.le_trans (nz_powp (d := 1300) (by omega) he) (by omega))
  have HP := Lib.hid hp
  have HFP := Lib.hid (fun g wz (hz : Amb wz) (hzz : Zc wz g 1 1 [(p : Int)]) => show Calls Tryz.prog 27 #[.slice (some ⟨g, 0, none⟩) 1 1, .agg #[.string (itx ((p ^ e : Nat) : Int)), .string ⟨#[49]⟩]] wz (ZOk 1 [(e : Int)] wz) from (factor_power false g p e wz hz hzz hpr hn).1 h1000)
  have h400 : ¬ 400 < ((itx ((p ^ e : Nat) : Int)).size : Int) := by rw [HSZ.out]; omega
  have h0' : ¬ 0 < (e : Int) := by omega
  have h1000' : ¬ 1000 < (e : Int) := by omega
  obtain ⟨T, hT⟩ : ∃ T, itx ((p ^ e : Nat) : Int) = T := ⟨_, rfl⟩
  obtain ⟨Z, hZ⟩ : ∃ Z, ((p ^ e : Nat) : Int) = Z := ⟨_, rfl⟩
  have HFR := Lib.hid (fun v wz (hz : Amb wz) (hv : W3 wz v Z) => show Calls Tryz.prog 44 #[v] wz (SmallRes (.string T) wz) from by
    have hh := t3from_any v Z wz hz hv (hZ ▸ HNB.out)
    rw [← hZ, hT] at hh
    exact hh)
  rw [hZ] at HPW
  rw [hT] at h400
  rw [hT] at HFP
  clear hamb hp hpr hn hT hZ HSZ HNB h0
  go_enter Tryz.func9, Tryz.ntmps9
  go_wp2_with fail
  refine (known11_any _ (HAMB.out _ (Below.refl _ _))).mono ?_
  rintro e1 w1 ⟨rfl, hz1⟩
  go_wp2_with fail
  refine (lall_any 50 _).mono ?_
  rintro e2 w2 ⟨v, rfl, hown, hb2⟩
  have hz2 := bel_chain hz1 hb2
  rcases hown with ⟨_, e3⟩ | ⟨g, cap, rfl, hg, hz⟩
  · rw [pall_50] at e3; cases e3
  rw [pall50_len] at hz ⊢
  have hcell := hz.cell k hk
  rw [HP.out] at hcell
  clear hz hb2 hz1
  go_wp2_with fail
  refine (HPW.out _ (HAMB.out _ hz2).a).mono ?_
  rintro e3 w3 ⟨v3, rfl, hv3, hb3⟩
  have hz3 := bel_chain hz2 hb3
  have HFR3 := Lib.hid (HFR.out _ _ (HAMB.out _ hz3).a hv3)
  obtain ⟨s3, A3, n3, c3, hve3, hvl3, _, _, _⟩ := hv3.parts
  subst hve3
  clear hvl3 hv3 hb3 hz2 hcell
  go_wp2_with fail
  refine HFR3.out.mono ?_
  rintro e4 w4 ⟨rfl, hb4⟩
  have hz4 := bel_chain hz3 hb4
  clear hz3 hb4
  go_upto_region 12 with fail
  obtain ⟨wx, hwx⟩ : ∃ W, w4.alloc (.cells #[.string T, .string ⟨#[49]⟩] 27) = W := ⟨_, rfl⟩
  have hxx : Box2 wx w4.heap.size (.string T) (.string ⟨#[49]⟩) := hwx ▸ Box2.new w4 _ _ _
  have hbx : Below w4.heap.size w4 wx := hwx ▸ (Below.refl _ _).alloc (Nat.le_refl _) _
  have hsx : wx.heap.size = w4.heap.size + 1 := hwx ▸ World.size_alloc _ _
  rw [hwx, ← hsx]
  clear hwx hsx
  obtain ⟨wd, hwd⟩ : ∃ W, wx.alloc (.cells #[.int .i64 (e : Int)] 3) = W := ⟨_, rfl⟩
  have hzd : Zc wd wx.heap.size 1 1 [(e : Int)] := hwd ▸ Zc.one wx e
  have hbd : Below wx.heap.size wx wd := hwd ▸ (Below.refl _ _).alloc (Nat.le_refl _) _
  rw [hwd]
  clear hwd
  obtain ⟨g5, hg5⟩ : ∃ g, wx.heap.size = g := ⟨_, rfl⟩
  rw [hg5] at hzd ⊢
  have hx5 := hxx.later hbd
  have hz5 := bel_chain hz4 (bel_chain hbx hbd)
  clear hg5 hxx hbx hbd hz4
  obtain ⟨_, c50, c51, f50, f51⟩ := id hx5
  go_wp2_with fail
  obtain ⟨we, hwe⟩ : ∃ W, wd.alloc (.cells #[.int .i64 (p : Int)] 3) = W := ⟨_, rfl⟩
  have hze : Zc we wd.heap.size 1 1 [(p : Int)] := hwe ▸ Zc.one wd p
  have hbe : Below wd.heap.size wd we := hwe ▸ (Below.refl _ _).alloc (Nat.le_refl _) _
  rw [hwe]
  clear hwe
  have hz6 := bel_chain hz5 hbe
  refine (HFP.out _ _ (HAMB.out _ hz6).a hze).mono ?_
  rintro e5 w7 ⟨g7, c7, rfl, hzz, hb7⟩
  have hz7 := bel_chain hz6 hb7
  have hi7 := hzz.ins
  have hd7 := (hzd.below (bel_chain hbe hb7) hzd.lt).ins
  clear hz6 hb7 hbe hze c50 c51 f50 f51 hx5 hz5 hzd hzz
  have HEQ := Lib.hid (equalR_any _ _ 1 c7 1 1 _ _ w7 hi7 hd7)
  rw [beq_self_eq_true] at HEQ
  clear hi7 hd7
  go_wp2_with fail
  refine HEQ.out.mono ?_
  rintro e6 w8 ⟨rfl, hb8⟩
  have hz8 := bel_chain hz7 hb8
  clear hz7 hb8
  go_wp2_with fail
  go_ret
  exact ⟨rfl, hz8⟩
set_option maxRecDepth 100000 in
set_option maxHeartbeats 4000000 in
theorem lawExponents_flag_ok (which ex : Int) (k e p : Nat) (w : World) (hamb : Amb11 w) (hp : (pall 50).getD k 0 = (p : Int)) (hpr : pr (p : Int) = true) (hw0 : 0 ≤ which) (hw1 : which ≤ 255) (hwt : which.tmod 15 = (k : Int)) (hxt : ex.tmod 1301 = (e : Int)) (hk : k < 15) (he : e ≤ 1300) (hn : nz ((p ^ e : Nat) : Int) ≤ 400) (h1000 : e ≤ 1000) (h0 : 0 < e) :
    Calls Tryz.prog 9 #[.int .u8 which, .int .u16 ex, .bool true] w (SmallRes (.bool true) w) := by
  have hpb := pr_bd hpr
  have HAMB := Lib.hid (fun wz (hb : Below w.heap.size w wz) => hamb.below hb)
  have HPW := Lib.hid (fun wz (hz : Amb wz) => lpower_any p e wz hz (by omega) (by omega) he)
  have HSZ := Lib.hid (itx_size_nat (p ^ e))
  have HNB := Lib.hid (show nz ((p ^ e : Nat) : Int) ≤ 1000000 from Nat.le_trans (nz_powp (d := 1300) (by omega) he) (by omega))
  have HP := Lib.hid hp
  have HFP := Lib.hid (fun g wz (hz : Amb wz) (hzz : Zc wz g 1 1 [(p : Int)]) => show Calls Tryz.prog 27 #[.slice (some ⟨g, 0, none⟩) 1 1, .agg #[.string ⟨#[49]⟩, .string (itx ((p ^ e : Nat) : Int))]] wz (ZOk 1 [-(e : Int)] wz) from (factor_power true g p e wz hz hzz hpr hn).1 h1000)
  have h400 : ¬ 400 < ((itx ((p ^ e : Nat) : Int)).size : Int) := by rw [HSZ.out]; omega
  have h0' : 0 < (e : Int) := by omega
  have h1000' : ¬ 1000 < (e : Int) := by omega
  obtain ⟨T, hT⟩ : ∃ T, itx ((p ^ e : Nat) : Int) = T := ⟨_, rfl⟩
  obtain ⟨Z, hZ⟩ : ∃ Z, ((p ^ e : Nat) : Int) = Z := ⟨_, rfl⟩
  have HFR := Lib.hid (fun v wz (hz : Amb wz) (hv : W3 wz v Z) => show Calls Tryz.prog 44 #[v] wz (SmallRes (.string T) wz) from by
    have hh := t3from_any v Z wz hz hv (hZ ▸ HNB.out)
    rw [← hZ, hT] at hh
    exact hh)
  rw [hZ] at HPW
  rw [hT] at h400
  rw [hT] at HFP
  clear hamb hp hpr hn hT hZ HSZ HNB h0
  go_enter Tryz.func9, Tryz.ntmps9
  go_wp2_with fail
  refine (known11_any _ (HAMB.out _ (Below.refl _ _))).mono ?_
  rintro e1 w1 ⟨rfl, hz1⟩
  go_wp2_with fail
  refine (lall_any 50 _).mono ?_
  rintro e2 w2 ⟨v, rfl, hown, hb2⟩
  have hz2 := bel_chain hz1 hb2
  rcases hown with ⟨_, e3⟩ | ⟨g, cap, rfl, hg, hz⟩
  · rw [pall_50] at e3; cases e3
  rw [pall50_len] at hz ⊢
  have hcell := hz.cell k hk
  rw [HP.out] at hcell
  clear hz hb2 hz1
  go_wp2_with fail
  refine (HPW.out _ (HAMB.out _ hz2).a).mono ?_
  rintro e3 w3 ⟨v3, rfl, hv3, hb3⟩
  have hz3 := bel_chain hz2 hb3
  have HFR3 := Lib.hid (HFR.out _ _ (HAMB.out _ hz3).a hv3)
  obtain ⟨s3, A3, n3, c3, hve3, hvl3, _, _, _⟩ := hv3.parts
  subst hve3
  clear hvl3 hv3 hb3 hz2 hcell
  go_wp2_with fail
  refine HFR3.out.mono ?_
  rintro e4 w4 ⟨rfl, hb4⟩
  have hz4 := bel_chain hz3 hb4
  clear hz3 hb4
  go_upto_region 12 with fail
  obtain ⟨wx, hwx⟩ : ∃ W, w4.alloc (.cells #[.string ⟨#[49]⟩, .string T] 27) = W := ⟨_, rfl⟩
  have hxx : Box2 wx w4.heap.size (.string ⟨#[49]⟩) (.string T) := hwx ▸ Box2.new w4 _ _ _
  have hbx : Below w4.heap.size w4 wx := hwx ▸ (Below.refl _ _).alloc (Nat.le_refl _) _
  have hsx : wx.heap.size = w4.heap.size + 1 := hwx ▸ World.size_alloc _ _
  rw [hwx]
  clear hwx
  obtain ⟨wy, hwy⟩ : ∃ W, wx.alloc (.cells #[.int .i64 (e : Int)] 3) = W := ⟨_, rfl⟩
  have hby : Below wx.heap.size wx wy := hwy ▸ (Below.refl _ _).alloc (Nat.le_refl _) _
  have hsy : wy.heap.size = w4.heap.size + 1 + 1 := by rw [← hsx]; exact hwy ▸ World.size_alloc _ _
  rw [hwy, ← hsy]
  clear hwy hsx
  obtain ⟨wd, hwd⟩ : ∃ W, wy.alloc (.cells #[.int .i64 (-(e : Int))] 3) = W := ⟨_, rfl⟩
  have hzd : Zc wd wy.heap.size 1 1 [-(e : Int)] := hwd ▸ Zc.one wy (-(e : Int))
  have hbd : Below wy.heap.size wy wd := hwd ▸ (Below.refl _ _).alloc (Nat.le_refl _) _
  rw [hwd]
  clear hwd hsy
  obtain ⟨g5, hg5⟩ : ∃ g, wy.heap.size = g := ⟨_, rfl⟩
  rw [hg5] at hzd ⊢
  have hx5 := hxx.later (bel_chain hby hbd)
  have hz5 := bel_chain hz4 (bel_chain hbx (bel_chain hby hbd))
  clear hg5 hxx hbx hby hbd hz4
  obtain ⟨_, c50, c51, f50, f51⟩ := id hx5
  go_wp2_with fail
  obtain ⟨we, hwe⟩ : ∃ W, wd.alloc (.cells #[.int .i64 (p : Int)] 3) = W := ⟨_, rfl⟩
  have hze : Zc we wd.heap.size 1 1 [(p : Int)] := hwe ▸ Zc.one wd p
  have hbe : Below wd.heap.size wd we := hwe ▸ (Below.refl _ _).alloc (Nat.le_refl _) _
  rw [hwe]
  clear hwe
  have hz6 := bel_chain hz5 hbe
  refine (HFP.out _ _ (HAMB.out _ hz6).a hze).mono ?_
  rintro e5 w7 ⟨g7, c7, rfl, hzz, hb7⟩
  have hz7 := bel_chain hz6 hb7
  have hi7 := hzz.ins
  have hd7 := (hzd.below (bel_chain hbe hb7) hzd.lt).ins
  clear hz6 hb7 hbe hze c50 c51 f50 f51 hx5 hz5 hzd hzz
  have HEQ := Lib.hid (equalR_any _ _ 1 c7 1 1 _ _ w7 hi7 hd7)
  rw [beq_self_eq_true] at HEQ
  clear hi7 hd7
  go_wp2_with fail
  refine HEQ.out.mono ?_
  rintro e6 w8 ⟨rfl, hb8⟩
  have hz8 := bel_chain hz7 hb8
  clear hz7 hb8
  go_wp2_with fail
  go_ret
  exact ⟨rfl, hz8⟩
set_option maxRecDepth 100000 in
set_option maxHeartbeats 4000000 in
theorem lawExponents_flag_far (which ex : Int) (k e p : Nat) (w : World) (hamb : Amb11 w) (hp : (pall 50).getD k 0 = (p : Int)) (hpr : pr (p : Int) = true) (hw0 : 0 ≤ which) (hw1 : which ≤ 255) (hwt : which.tmod 15 = (k : Int)) (hxt : ex.tmod 1301 = (e : Int)) (hk : k < 15) (he : e ≤ 1300) (hn : nz ((p ^ e : Nat) : Int) ≤ 400) (h1000 : 1000 < e) :
    Calls Tryz.prog 9 #[.int .u8 which, .int .u16 ex, .bool true] w (SmallRes (.bool true) w) := by
  have hpb := pr_bd hpr
  have HAMB := Lib.hid (fun wz (hb : Below w.heap.size w wz) => hamb.below hb)
  have HPW := Lib.hid (fun wz (hz : Amb wz) => lpower_any p e wz hz (by omega) (by omega) he)
  have HSZ := Lib.hid (itx_size_nat (p ^ e))
  have HNB := Lib.hid (show nz ((p ^ e : Nat) : Int) ≤ 1000000 from Nat.le_trans (nz_powp (d := 1300) (by omega) he) (by omega))
  have HP := Lib.hid hp
  have HFP := Lib.hid (fun g wz (hz : Amb wz) (hzz : Zc wz g 1 1 [(p : Int)]) => show Calls Tryz.prog 27 #[.slice (some ⟨g, 0, none⟩) 1 1, .agg #[.string ⟨#[49]⟩, .string (itx ((p ^ e : Nat) : Int))]] wz (SmallRes (.tuple #[.slice none 0 0, .int .i64 4]) wz) from (factor_power true g p e wz hz hzz hpr hn).2 h1000)
  have h400 : ¬ 400 < ((itx ((p ^ e : Nat) : Int)).size : Int) := by rw [HSZ.out]; omega
  have h0' : 0 < (e : Int) := by omega
  have h1000' : 1000 < (e : Int) := by omega
  obtain ⟨T, hT⟩ : ∃ T, itx ((p ^ e : Nat) : Int) = T := ⟨_, rfl⟩
  obtain ⟨Z, hZ⟩ : ∃ Z, ((p ^ e : Nat) : Int) = Z := ⟨_, rfl⟩
  have HFR := Lib.hid (fun v wz (hz : Amb wz) (hv : W3 wz v Z) => show Calls Tryz.prog 44 #[v] wz (SmallRes (.string T) wz) from by
    have hh := t3from_any v Z wz hz hv (hZ ▸ HNB.out)
    rw [← hZ, hT] at hh
    exact hh)
  rw [hZ] at HPW
  rw [hT] at h400
  rw [hT] at HFP
  clear hamb hp hpr hn hT hZ HSZ HNB
  go_enter Tryz.func9, Tryz.ntmps9
  go_wp2_with fail
  refine (known11_any _ (HAMB.out _ (Below.refl _ _))).mono ?_
  rintro e1 w1 ⟨rfl, hz1⟩
  go_wp2_with fail
  refine (lall_any 50 _).mono ?_
  rintro e2 w2 ⟨v, rfl, hown, hb2⟩
  have hz2 := bel_chain hz1 hb2
  rcases hown with ⟨_, e3⟩ | ⟨g, cap, rfl, hg, hz⟩
  · rw [pall_50] at e3; cases e3
  rw [pall50_len] at hz ⊢
  have hcell := hz.cell k hk
  rw [HP.out] at hcell
  clear hz hb2 hz1
  go_wp2_with fail
  refine (HPW.out _ (HAMB.out _ hz2).a).mono ?_
  rintro e3 w3 ⟨v3, rfl, hv3, hb3⟩
  have hz3 := bel_chain hz2 hb3
  have HFR3 := Lib.hid (HFR.out _ _ (HAMB.out _ hz3).a hv3)
  obtain ⟨s3, A3, n3, c3, hve3, hvl3, _, _, _⟩ := hv3.parts
  subst hve3
  clear hvl3 hv3 hb3 hz2 hcell
  go_wp2_with fail
  refine HFR3.out.mono ?_
  rintro e4 w4 ⟨rfl, hb4⟩
  have hz4 := bel_chain hz3 hb4
  clear hz3 hb4
  go_upto_region 12 with fail
  obtain ⟨wx, hwx⟩ : ∃ W, w4.alloc (.cells #[.string ⟨#[49]⟩, .string T] 27) = W := ⟨_, rfl⟩
  have hxx : Box2 wx w4.heap.size (.string ⟨#[49]⟩) (.string T) := hwx ▸ Box2.new w4 _ _ _
  have hbx : Below w4.heap.size w4 wx := hwx ▸ (Below.refl _ _).alloc (Nat.le_refl _) _
  have hsx : wx.heap.size = w4.heap.size + 1 := hwx ▸ World.size_alloc _ _
  rw [hwx]
  clear hwx
  obtain ⟨wy, hwy⟩ : ∃ W, wx.alloc (.cells #[.int .i64 (e : Int)] 3) = W := ⟨_, rfl⟩
  have hby : Below wx.heap.size wx wy := hwy ▸ (Below.refl _ _).alloc (Nat.le_refl _) _
  have hsy : wy.heap.size = w4.heap.size + 1 + 1 := by rw [← hsx]; exact hwy ▸ World.size_alloc _ _
  rw [hwy, ← hsy]
  clear hwy hsx
  obtain ⟨wd, hwd⟩ : ∃ W, wy.alloc (.cells #[.int .i64 (-(e : Int))] 3) = W := ⟨_, rfl⟩
  have hzd : Zc wd wy.heap.size 1 1 [-(e : Int)] := hwd ▸ Zc.one wy (-(e : Int))
  have hbd : Below wy.heap.size wy wd := hwd ▸ (Below.refl _ _).alloc (Nat.le_refl _) _
  rw [hwd]
  clear hwd hsy
  obtain ⟨g5, hg5⟩ : ∃ g, wy.heap.size = g := ⟨_, rfl⟩
  rw [hg5] at hzd ⊢
  have hx5 := hxx.later (bel_chain hby hbd)
  have hz5 := bel_chain hz4 (bel_chain hbx (bel_chain hby hbd))
  clear hg5 hxx hbx hby hbd hz4
  obtain ⟨_, c50, c51, f50, f51⟩ := id hx5
  go_wp2_with fail
  obtain ⟨we, hwe⟩ : ∃ W, wd.alloc (.cells #[.int .i64 (p : Int)] 3) = W := ⟨_, rfl⟩
  have hze : Zc we wd.heap.size 1 1 [(p : Int)] := hwe ▸ Zc.one wd p
  have hbe : Below wd.heap.size wd we := hwe ▸ (Below.refl _ _).alloc (Nat.le_refl _) _
  rw [hwe]
  clear hwe
  have hz6 := bel_chain hz5 hbe
  refine (HFP.out _ _ (HAMB.out _ hz6).a hze).mono ?_
  rintro e5 w7 ⟨rfl, hb7⟩
  have hz7 := bel_chain hz6 hb7
  clear hz6 hb7 hbe hze c50 c51 f50 f51 hx5 hz5 hzd
  go_wp2_with fail
  go_ret
  exact ⟨rfl, hz7⟩
/-- The walk. -/
theorem lawExponents_walk (which ex : Int) (below : Bool) (w : World) (hamb : Amb11 w) (hw : 0 ≤ which ∧ which ≤ 255) (hx : 0 ≤ ex ∧ ex ≤ 65535) :
    Calls Tryz.prog 9 #[.int .u8 which, .int .u16 ex, .bool below] w (SmallRes (.bool true) w) := by
  obtain ⟨k, hk⟩ : ∃ k : Nat, which.tmod 15 = (k : Int) := ⟨(which % 15).toNat, by rw [Int.tmod_eq_emod_of_nonneg hw.1]; omega⟩
  obtain ⟨e, he⟩ : ∃ e : Nat, ex.tmod 1301 = (e : Int) := ⟨(ex % 1301).toNat, by rw [Int.tmod_eq_emod_of_nonneg hx.1]; omega⟩
  have hk15 : k < 15 := by rw [Int.tmod_eq_emod_of_nonneg hw.1] at hk; omega
  have he13 : e ≤ 1300 := by rw [Int.tmod_eq_emod_of_nonneg hx.1] at he; omega
  have hpr := (pall50_pr hk15).1
  obtain ⟨p, hp⟩ : ∃ p : Nat, (pall 50).getD k 0 = (p : Int) := ⟨((pall 50).getD k 0).toNat, by have := pr_bd hpr; omega⟩
  rw [hp] at hpr
  by_cases hn : nz ((p ^ e : Nat) : Int) ≤ 400
  · cases below with
    | false =>
      by_cases h1000 : e ≤ 1000
      · exact lawExponents_no_ok which ex k e p w hamb hp hpr hw.1 hw.2 hk he hk15 he13 hn h1000
      · exact lawExponents_no_far which ex k e p w hamb hp hpr hw.1 hw.2 hk he hk15 he13 hn (by omega)
    | true =>
      by_cases h0 : e = 0
      · exact lawExponents_zero_ok which ex k e p w hamb hp hpr hw.1 hw.2 hk he hk15 he13 hn (by omega) h0
      · by_cases h1000 : e ≤ 1000
        · exact lawExponents_flag_ok which ex k e p w hamb hp hpr hw.1 hw.2 hk he hk15 he13 hn h1000 (by omega)
        · exact lawExponents_flag_far which ex k e p w hamb hp hpr hw.1 hw.2 hk he hk15 he13 hn (by omega)
  · exact lawExponents_long which ex below k e p w hamb hp hpr hw.1 hw.2 hk he hk15 he13 hn
end Go.Proofs.YtdjhngbpfdopnaaGreatDoor
