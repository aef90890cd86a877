/- Greater text, out of: V8. -/
import Derived.Test.YtejelchcpbchgaaGreatDoorGn
import Derived.Test.YtejelchcpbchgaaGreatDoorGu
namespace Go.Proofs.YtejelchcpbchgaaGreatDoor
open Go.RowKit Go.PlainAid
attribute [local go_sem] field_rat0 field_rat1

/-- The fraction of a description. -/
def mkQ (a b : Int) : Rat := Rat.divInt a (1 + b)
theorem nq_mk {a b : Int} (ha : -32768 ≤ a ∧ a ≤ 32767) (hb : 0 ≤ b ∧ b ≤ 255) : NQ (mkQ a b) 6 :=
  NQ.of_divInt (by omega) (Nat.le_trans ((nz_le_iff a 4).2 (by have e : (10 : Nat) ^ (4 + 1) = 100000 := by decide
                                                               omega)) (by omega)) (Nat.le_trans ((nz_le_iff (1 + b) 4).2 (by have e : (10 : Nat) ^ (4 + 1) = 100000 := by decide
                                                                                                                              omega)) (by omega))
theorem sign_nn {z : Int} (h : 0 ≤ z) : 0 ≤ z.sign := by
  rcases (show z = 0 ∨ 0 < z by omega) with rfl | h
  · decide
  · rw [Int.sign_eq_one_of_pos h]; decide
theorem rv_one : rv 1 = .agg #[.string ⟨#[49]⟩, .string ⟨#[49]⟩] := by
  have h := rv_int 1
  rw [itx_lit_one] at h
  exact h
theorem nq_one (k : Nat) (hk : 1 ≤ k) : NQ (1 : Rat) k := NQ.int (n := 1) (Nat.le_trans ((nz_le_iff 1 0).2 (by decide)) hk) hk
theorem nq_round {p : Rat} {g : Nat} {k : Nat} (hp : NQ p k) (h1 : 1 ≤ g) (h2 : g ≤ 1000000) : NQ (roundQ p (g : Int)) (k + 9) :=
  NQ.of_divInt (by omega) (nz_near (hp.mul (NQ.int (k := 7) (nz_grid h2) (by omega)))) (Nat.le_trans (nz_grid h2) (by omega))
set_option maxRecDepth 100000 in
set_option maxHeartbeats 4000000 in
/-- schismalaw03.Make. -/
theorem tmk_any (a b : Int) (w : World) (hamb : Amb w) (ha : -32768 ≤ a ∧ a ≤ 32767) (hb : 0 ≤ b ∧ b ≤ 255) :
    Calls Tryz.prog 29 #[.agg #[.int .i16 a, .int .u8 b]] w (SmallRes (rv (mkQ a b)) w) := by
  obtain ⟨p, hp⟩ : ∃ p, mkQ a b = p := ⟨_, rfl⟩
  have HP := Lib.hid (show Rat.divInt a (1 + b) = p from hp)
  rw [hp]
  clear hp
  obtain ⟨ha1, ha2⟩ := ha
  obtain ⟨hb1, hb2⟩ := hb
  have HAMB := Lib.hid hamb
  clear hamb
  go_enter Tryz.func29, Tryz.ntmps29
  go_wp2_with fail
  obtain ⟨W, hW⟩ : ∃ W, ((w.alloc (.cells #[.int .i16 a, .int .u8 b] 49)).alloc (.cells #[.string ⟨#[]⟩, .string ⟨#[]⟩] 27)) = W := ⟨_, rfl⟩
  rw [hW]
  obtain ⟨hX, hBW⟩ := B2.of hW
  clear hW
  have HX := Lib.hid (fun wz (hb : Below W.heap.size W wz) => hX.later hb)
  have HB := Lib.hid hBW
  have HA := Lib.hid (fun wz (hb : Below W.heap.size W wz) => HAMB.out.below (bel_chain HB.out hb))
  have hz0 : Below W.heap.size W W := Below.refl _ _
  clear hBW
  obtain ⟨⟨_, c000, c001, f000, f001⟩, ⟨_, c010, c011, f010, f011⟩⟩ := hX
  go_wp2_with fail
  refine ((show Calls Tryz.prog 26 #[.int .i64 a, .int .i64 (1 + b)] _ (SmallRes (rv p) _) from HP.out ▸ t3frac_any a (1 + b) _ (HA.out _ hz0) (by omega) (by omega) (by omega) (by omega) (by omega))).mono ?_
  rintro e w1 ⟨rfl, hb1⟩
  have hz1 := bel_chain hz0 hb1
  obtain ⟨⟨_, c100, c101, f100, f101⟩, ⟨_, c110, c111, f110, f111⟩⟩ := HX.out _ hz1
  go_wp2_with fail
  go_wp2_with fail
  refine ret_cell rfl rfl (load_rat (g := w.heap.size + 1) ((HX.out _ hz1).store1 _ _).2) rfl ?_
  exact ⟨rfl, ((bel_chain HB.out hz1).setCell (by simp <;> omega) _).setCell (by simp <;> omega) _⟩

set_option maxRecDepth 100000 in
set_option maxHeartbeats 4000000 in
/-- schismalaw03.FractionNears. -/
theorem lawNears_walk (a b gr : Int) (w : World) (hamb : Amb w) (ha : -32768 ≤ a ∧ a ≤ 32767) (hb : 0 ≤ b ∧ b ≤ 255) (hr : 0 ≤ gr ∧ gr ≤ 255) :
    Calls Tryz.prog 6 #[.agg #[.int .i16 a, .int .u8 b], .int .u8 gr] w (SmallRes (.bool true) w) := by
  obtain ⟨p, hpq⟩ : ∃ p, mkQ a b = p := ⟨_, rfl⟩
  have hp : NQ p 6 := hpq ▸ nq_mk ha hb
  have HMK := Lib.hid (fun w h => show Calls Tryz.prog 29 #[.agg #[.int .i16 a, .int .u8 b]] w (SmallRes (rv p) w) from hpq ▸ tmk_any a b w h ha hb)
  clear hpq ha hb
  obtain ⟨g, hg⟩ : ∃ g : Nat, (1 : Int) + gr % 200 = (g : Int) := ⟨(1 + gr % 200).toNat, by omega⟩
  have hg1 : 1 ≤ g ∧ g ≤ 200 := by omega
  have hgt : gr.tmod 200 = gr % 200 := Int.tmod_eq_emod_of_nonneg hr.1
  have np := hp.mono (show 6 ≤ 20000 by omega)
  obtain ⟨R, hR⟩ : ∃ R, p - (p.floor : Rat) = R := ⟨_, rfl⟩
  have nR : NQ R 20000 := hR ▸ (hp.sub (NQ.int (nz_floor p hp.1) (by omega))).mono (by omega)
  have HRE := Lib.hid (fun w h => show Calls Tryz.prog 23 #[rv p] w (SmallRes (rv R) w) from hR ▸ frest_any p w h np)
  have HAD := Lib.hid (fun w h => show Calls Tryz.prog 30 #[.agg #[.string (itx p.floor), .string ⟨#[49]⟩], rv R] w (SmallRes (rv p) w) from by
    have h2 := fadd_any (p.floor : Rat) R w h (NQ.int (nz_floor p np.1) (by omega)) nR
    rw [← hR, rest_back, rv_int, hR] at h2
    exact h2)
  obtain ⟨sg, hsg⟩ : ∃ s, R.num.sign = s := ⟨_, rfl⟩
  have hsg0 : 0 ≤ sg := by rw [← hsg]; exact sign_nn (hR ▸ rest_nonneg p)
  have HSG := Lib.hid (fun w => show Calls Tryz.prog 34 #[rv R] w (SmallRes (.int .i64 sg) w) from hsg ▸ fsign_any R w nR)
  obtain ⟨c1, hc1⟩ : ∃ s, cmpQ R 1 = s := ⟨_, rfl⟩
  have hc1n : c1 < 0 := by rw [← hc1, cmpQ_neg_iff]; exact hR ▸ rest_lt p
  have KC1 := Lib.hid (fun w h => show Calls Tryz.prog 35 #[rv R, .agg #[.string ⟨#[49]⟩, .string ⟨#[49]⟩]] w (SmallRes (.int .i64 c1) w) from by
    have h2 := fcompare_any R 1 w h nR (nq_one _ (by omega))
    rw [rv_one, hc1] at h2
    exact h2)
  obtain ⟨Y, hY⟩ : ∃ Y, roundQ p (g : Int) = Y := ⟨_, rfl⟩
  have nY0 : NQ Y 15 := hY ▸ nq_round hp hg1.1 (by omega)
  have nY := nY0.mono (show 15 ≤ 20000 by omega)
  have HR1 := Lib.hid (fun w h => show Calls Tryz.prog 24 #[rv p, .int .i64 (g : Int)] w (SmallRes (.tuple #[rv Y, .int .i64 0]) w) from hY ▸ fround_any p g w h (hp.mono (by omega)) hg1.1 (by omega))
  have HR2 := Lib.hid (fun w h => show Calls Tryz.prog 24 #[rv Y, .int .i64 (g : Int)] w (SmallRes (.tuple #[rv Y, .int .i64 0]) w) from by
    have h2 := fround_any Y g w h (nY0.mono (by omega)) hg1.1 (by omega)
    have e : roundQ Y (g : Int) = Y := by rw [← hY]; exact round_round p (by omega)
    rw [e] at h2
    exact h2)
  obtain ⟨H, hH⟩ : ∃ H, Rat.divInt 1 (2 * (g : Int)) = H := ⟨_, rfl⟩
  have nH : NQ H 20000 := hH ▸ NQ.of_divInt (by omega) (Nat.le_trans ((nz_le_iff 1 4).2 (by decide)) (by omega)) (Nat.le_trans ((nz_le_iff (2 * (g : Int)) 4).2 (by rw [show (10 : Nat) ^ (4 + 1) = 100000 by decide]; omega)) (by omega))
  have HHF := Lib.hid (fun w h => show Calls Tryz.prog 36 #[.int .i64 1, .int .i64 (2 * (g : Int))] w (SmallRes (.tuple #[rv H, .int .i64 0]) w) from hH ▸ fOf_any 1 (2 * (g : Int)) w h (by omega) (by omega) (by omega) (by omega) (by omega))
  obtain ⟨D, hD⟩ : ∃ D, p - Y = D := ⟨_, rfl⟩
  have nD : NQ D 20000 := hD ▸ (hp.sub nY0).mono (by omega)
  have HSB := Lib.hid (fun w h => show Calls Tryz.prog 32 #[rv p, rv Y] w (SmallRes (rv D) w) from hD ▸ fsub_any p Y w h np nY)
  obtain ⟨E, hE⟩ : ∃ E, D.abs = E := ⟨_, rfl⟩
  have nE : NQ E 20000 := by
    rw [← hE]; unfold NQ; rw [(rat_abs_num D).1, (rat_abs_num D).2, nz_nat]; exact nD
  have HAB := Lib.hid (fun w => show Calls Tryz.prog 37 #[rv D] w (SmallRes (rv E) w) from hE ▸ fabs_any D w nD)
  obtain ⟨c2, hc2⟩ : ∃ s, cmpQ E H = s := ⟨_, rfl⟩
  have hc2n : c2 ≤ 0 := by
    rw [← hc2]
    have h3 : E ≤ H := by rw [← hE, ← hD, ← hY, ← hH]; exact round_near p (by omega)
    have h4 : ¬ 0 < cmpQ E H := fun h => by have := cmpQ_pos_iff.1 h; exact absurd h3 (Rat.not_le.2 this)
    omega
  have KC2 := Lib.hid (fun w h => show Calls Tryz.prog 35 #[rv E, rv H] w (SmallRes (.int .i64 c2) w) from hc2 ▸ fcompare_any E H w h nE nH)
  obtain ⟨hg2, hg3⟩ := hg1
  have HNP := Lib.hid np
  clear hR hsg hc1 hY hH hD hE hc2 hp nY0 nR nY nH nD nE np
  obtain ⟨hr1, hr2⟩ := hr
  have HAMB := Lib.hid hamb
  clear hamb
  go_enter Tryz.func6, Tryz.ntmps6
  go_wp2_with fail
  obtain ⟨W, hW⟩ : ∃ W, (w.alloc (.cells #[.int .i16 a, .int .u8 b] 49)) = W := ⟨_, rfl⟩
  rw [hW]
  obtain ⟨hX, hBW⟩ := B1.of hW
  clear hW
  have HX := Lib.hid (fun wz (hb : Below W.heap.size W wz) => hX.later hb)
  have HB := Lib.hid hBW
  have HA := Lib.hid (fun wz (hb : Below W.heap.size W wz) => HAMB.out.below (bel_chain HB.out hb))
  have hz0 : Below W.heap.size W W := Below.refl _ _
  clear hBW
  obtain ⟨_, c000, c001, f000, f001⟩ := hX
  go_wp2_with fail
  refine (known3_any _ (HA.out _ hz0)).mono ?_
  rintro e w1 ⟨rfl, hb1⟩
  have hz1 := bel_chain hz0 hb1
  obtain ⟨_, c100, c101, f100, f101⟩ := HX.out _ hz1
  go_wp2_with fail
  refine (HMK.out _ (HA.out _ hz1)).mono ?_
  rintro e w2 ⟨rfl, hb2⟩
  have hz2 := bel_chain hz1 hb2
  obtain ⟨_, c200, c201, f200, f201⟩ := HX.out _ hz2
  go_upto_region 4 with fail
  obtain ⟨w3, hW3⟩ : ∃ W, (w2.alloc (.cells #[.string (itx p.num), .string (itx (p.den : Int))] 27)) = W := ⟨_, rfl⟩
  rw [hW3]
  obtain ⟨hY3, hb3⟩ := B1.of hW3
  clear hW3
  have HX3 := Lib.hid (fun wz (hb : Below w3.heap.size w3 wz) => And.intro (HX.out wz (bel_chain (bel_chain hz2 hb3) hb)) (hY3.later hb))
  have HB3 := Lib.hid (bel_chain HB.out (bel_chain hz2 hb3))
  have HA3 := Lib.hid (fun wz (hb : Below w3.heap.size w3 wz) => HA.out _ (bel_chain (bel_chain hz2 hb3) hb))
  have hz3 : Below w3.heap.size w3 w3 := Below.refl _ _
  clear hY3 hb3
  obtain ⟨⟨_, c300, c301, f300, f301⟩, ⟨_, c310, c311, f310, f311⟩⟩ := HX3.out _ hz3
  go_wp2_with fail
  refine (HRE.out _ (HA3.out _ hz3)).mono ?_
  rintro e w4 ⟨rfl, hb4⟩
  have hz4 := bel_chain hz3 hb4
  obtain ⟨⟨_, c400, c401, f400, f401⟩, ⟨_, c410, c411, f410, f411⟩⟩ := HX3.out _ hz4
  go_upto_region 5 with fail
  obtain ⟨w5, hW5⟩ : ∃ W, (w4.alloc (.cells #[.string (itx R.num), .string (itx (R.den : Int))] 27)) = W := ⟨_, rfl⟩
  rw [hW5]
  obtain ⟨hY5, hb5⟩ := B1.of hW5
  clear hW5
  have HX5 := Lib.hid (fun wz (hb : Below w5.heap.size w5 wz) => And.intro (HX3.out wz (bel_chain (bel_chain hz4 hb5) hb)) (hY5.later hb))
  have HB5 := Lib.hid (bel_chain HB3.out (bel_chain hz4 hb5))
  have HA5 := Lib.hid (fun wz (hb : Below w5.heap.size w5 wz) => HA3.out _ (bel_chain (bel_chain hz4 hb5) hb))
  have hz5 : Below w5.heap.size w5 w5 := Below.refl _ _
  clear hY5 hb5
  obtain ⟨⟨⟨_, c500, c501, f500, f501⟩, ⟨_, c510, c511, f510, f511⟩⟩, ⟨_, c520, c521, f520, f521⟩⟩ := HX5.out _ hz5
  go_wp2_with fail
  refine (ffloor_any p _ (HA5.out _ hz5) HNP.out).mono ?_
  rintro e w6 ⟨rfl, hb6⟩
  have hz6 := bel_chain hz5 hb6
  obtain ⟨⟨⟨_, c600, c601, f600, f601⟩, ⟨_, c610, c611, f610, f611⟩⟩, ⟨_, c620, c621, f620, f621⟩⟩ := HX5.out _ hz6
  go_upto_region 6 with fail
  obtain ⟨w7, hW7⟩ : ∃ W, (w6.alloc (.cells #[.string (itx p.floor), .string ⟨#[49]⟩] 27)) = W := ⟨_, rfl⟩
  rw [hW7]
  obtain ⟨hY7, hb7⟩ := B1.of hW7
  clear hW7
  have HX7 := Lib.hid (fun wz (hb : Below w7.heap.size w7 wz) => And.intro (HX5.out wz (bel_chain (bel_chain hz6 hb7) hb)) (hY7.later hb))
  have HB7 := Lib.hid (bel_chain HB5.out (bel_chain hz6 hb7))
  have HA7 := Lib.hid (fun wz (hb : Below w7.heap.size w7 wz) => HA5.out _ (bel_chain (bel_chain hz6 hb7) hb))
  have hz7 : Below w7.heap.size w7 w7 := Below.refl _ _
  clear hY7 hb7
  obtain ⟨⟨⟨⟨_, c700, c701, f700, f701⟩, ⟨_, c710, c711, f710, f711⟩⟩, ⟨_, c720, c721, f720, f721⟩⟩, ⟨_, c730, c731, f730, f731⟩⟩ := HX7.out _ hz7
  go_wp2_with fail
  refine (HR1.out _ (HA7.out _ hz7)).mono ?_
  rintro e w8 ⟨rfl, hb8⟩
  have hz8 := bel_chain hz7 hb8
  obtain ⟨⟨⟨⟨_, c800, c801, f800, f801⟩, ⟨_, c810, c811, f810, f811⟩⟩, ⟨_, c820, c821, f820, f821⟩⟩, ⟨_, c830, c831, f830, f831⟩⟩ := HX7.out _ hz8
  go_upto_region 7 with fail
  obtain ⟨w9, hW9⟩ : ∃ W, (w8.alloc (.cells #[.string (itx Y.num), .string (itx (Y.den : Int))] 27)) = W := ⟨_, rfl⟩
  rw [hW9]
  obtain ⟨hY9, hb9⟩ := B1.of hW9
  clear hW9
  have HX9 := Lib.hid (fun wz (hb : Below w9.heap.size w9 wz) => And.intro (HX7.out wz (bel_chain (bel_chain hz8 hb9) hb)) (hY9.later hb))
  have HB9 := Lib.hid (bel_chain HB7.out (bel_chain hz8 hb9))
  have HA9 := Lib.hid (fun wz (hb : Below w9.heap.size w9 wz) => HA7.out _ (bel_chain (bel_chain hz8 hb9) hb))
  have hz9 : Below w9.heap.size w9 w9 := Below.refl _ _
  clear hY9 hb9
  obtain ⟨⟨⟨⟨⟨_, c900, c901, f900, f901⟩, ⟨_, c910, c911, f910, f911⟩⟩, ⟨_, c920, c921, f920, f921⟩⟩, ⟨_, c930, c931, f930, f931⟩⟩, ⟨_, c940, c941, f940, f941⟩⟩ := HX9.out _ hz9
  go_wp2_with fail
  refine (HR2.out _ (HA9.out _ hz9)).mono ?_
  rintro e w10 ⟨rfl, hb10⟩
  have hz10 := bel_chain hz9 hb10
  obtain ⟨⟨⟨⟨⟨_, c1000, c1001, f1000, f1001⟩, ⟨_, c1010, c1011, f1010, f1011⟩⟩, ⟨_, c1020, c1021, f1020, f1021⟩⟩, ⟨_, c1030, c1031, f1030, f1031⟩⟩, ⟨_, c1040, c1041, f1040, f1041⟩⟩ := HX9.out _ hz10
  go_upto_region 8 with fail
  obtain ⟨w11, hW11⟩ : ∃ W, (w10.alloc (.cells #[.string (itx Y.num), .string (itx (Y.den : Int))] 27)) = W := ⟨_, rfl⟩
  rw [hW11]
  obtain ⟨hY11, hb11⟩ := B1.of hW11
  clear hW11
  have HX11 := Lib.hid (fun wz (hb : Below w11.heap.size w11 wz) => And.intro (HX9.out wz (bel_chain (bel_chain hz10 hb11) hb)) (hY11.later hb))
  have HB11 := Lib.hid (bel_chain HB9.out (bel_chain hz10 hb11))
  have HA11 := Lib.hid (fun wz (hb : Below w11.heap.size w11 wz) => HA9.out _ (bel_chain (bel_chain hz10 hb11) hb))
  have hz11 : Below w11.heap.size w11 w11 := Below.refl _ _
  clear hY11 hb11
  obtain ⟨⟨⟨⟨⟨⟨_, c1100, c1101, f1100, f1101⟩, ⟨_, c1110, c1111, f1110, f1111⟩⟩, ⟨_, c1120, c1121, f1120, f1121⟩⟩, ⟨_, c1130, c1131, f1130, f1131⟩⟩, ⟨_, c1140, c1141, f1140, f1141⟩⟩, ⟨_, c1150, c1151, f1150, f1151⟩⟩ := HX11.out _ hz11
  go_wp2_with fail
  refine (HHF.out _ (HA11.out _ hz11)).mono ?_
  rintro e w12 ⟨rfl, hb12⟩
  have hz12 := bel_chain hz11 hb12
  obtain ⟨⟨⟨⟨⟨⟨_, c1200, c1201, f1200, f1201⟩, ⟨_, c1210, c1211, f1210, f1211⟩⟩, ⟨_, c1220, c1221, f1220, f1221⟩⟩, ⟨_, c1230, c1231, f1230, f1231⟩⟩, ⟨_, c1240, c1241, f1240, f1241⟩⟩, ⟨_, c1250, c1251, f1250, f1251⟩⟩ := HX11.out _ hz12
  go_upto_region 9 with fail
  obtain ⟨w13, hW13⟩ : ∃ W, (w12.alloc (.cells #[.string (itx H.num), .string (itx (H.den : Int))] 27)) = W := ⟨_, rfl⟩
  rw [hW13]
  obtain ⟨hY13, hb13⟩ := B1.of hW13
  clear hW13
  have HX13 := Lib.hid (fun wz (hb : Below w13.heap.size w13 wz) => And.intro (HX11.out wz (bel_chain (bel_chain hz12 hb13) hb)) (hY13.later hb))
  have HB13 := Lib.hid (bel_chain HB11.out (bel_chain hz12 hb13))
  have HA13 := Lib.hid (fun wz (hb : Below w13.heap.size w13 wz) => HA11.out _ (bel_chain (bel_chain hz12 hb13) hb))
  have hz13 : Below w13.heap.size w13 w13 := Below.refl _ _
  clear hY13 hb13
  obtain ⟨⟨⟨⟨⟨⟨⟨_, c1300, c1301, f1300, f1301⟩, ⟨_, c1310, c1311, f1310, f1311⟩⟩, ⟨_, c1320, c1321, f1320, f1321⟩⟩, ⟨_, c1330, c1331, f1330, f1331⟩⟩, ⟨_, c1340, c1341, f1340, f1341⟩⟩, ⟨_, c1350, c1351, f1350, f1351⟩⟩, ⟨_, c1360, c1361, f1360, f1361⟩⟩ := HX13.out _ hz13
  go_wp2_with fail
  have hzd := hz13.drew
  have HC1 := Lib.hid (HAD.out w13.drew (HA13.out _ hzd))
  go_region_held3 (fun w' => w'.cell? ⟨w2.heap.size, 0, none⟩ = some (.string (itx p.num)) ∧ w'.cell? ⟨w2.heap.size, 1, none⟩ = some (.string (itx (p.den : Int))) ∧ w'.cell? ⟨w4.heap.size, 0, none⟩ = some (.string (itx R.num)) ∧ w'.cell? ⟨w4.heap.size, 1, none⟩ = some (.string (itx (R.den : Int))) ∧ w'.cell? ⟨w6.heap.size, 0, none⟩ = some (.string (itx p.floor)) ∧ w'.cell? ⟨w6.heap.size, 1, none⟩ = some (.string ⟨#[49]⟩) ∧ w'.cell? ⟨w8.heap.size, 0, none⟩ = some (.string (itx Y.num)) ∧ w'.cell? ⟨w8.heap.size, 1, none⟩ = some (.string (itx (Y.den : Int))) ∧ w'.cell? ⟨w12.heap.size, 0, none⟩ = some (.string (itx H.num)) ∧ w'.cell? ⟨w12.heap.size, 1, none⟩ = some (.string (itx (H.den : Int)))) (go_keep)
    (first
      | ((with_reducible refine HC6.out.mono ?_); rintro e w19 ⟨rfl, hb19⟩; have hz19 := bel_chain hz18 hb19; obtain ⟨⟨⟨⟨⟨⟨⟨_, c1900, c1901, f1900, f1901⟩, ⟨_, c1910, c1911, f1910, f1911⟩⟩, ⟨_, c1920, c1921, f1920, f1921⟩⟩, ⟨_, c1930, c1931, f1930, f1931⟩⟩, ⟨_, c1940, c1941, f1940, f1941⟩⟩, ⟨_, c1950, c1951, f1950, f1951⟩⟩, ⟨_, c1960, c1961, f1960, f1961⟩⟩ := HX13.out _ hz19; have HXL := Lib.hid (HX13.out _ hz19))
      | ((with_reducible refine HC5.out.mono ?_); rintro e w18 ⟨rfl, hb18⟩; have hz18 := bel_chain hz17 hb18; obtain ⟨⟨⟨⟨⟨⟨⟨_, c1800, c1801, f1800, f1801⟩, ⟨_, c1810, c1811, f1810, f1811⟩⟩, ⟨_, c1820, c1821, f1820, f1821⟩⟩, ⟨_, c1830, c1831, f1830, f1831⟩⟩, ⟨_, c1840, c1841, f1840, f1841⟩⟩, ⟨_, c1850, c1851, f1850, f1851⟩⟩, ⟨_, c1860, c1861, f1860, f1861⟩⟩ := HX13.out _ hz18; have HC6 := Lib.hid (KC2.out w18 (HA13.out _ hz18)))
      | ((with_reducible refine HC4.out.mono ?_); rintro e w17 ⟨rfl, hb17⟩; have hz17 := bel_chain hz16 hb17; obtain ⟨⟨⟨⟨⟨⟨⟨_, c1700, c1701, f1700, f1701⟩, ⟨_, c1710, c1711, f1710, f1711⟩⟩, ⟨_, c1720, c1721, f1720, f1721⟩⟩, ⟨_, c1730, c1731, f1730, f1731⟩⟩, ⟨_, c1740, c1741, f1740, f1741⟩⟩, ⟨_, c1750, c1751, f1750, f1751⟩⟩, ⟨_, c1760, c1761, f1760, f1761⟩⟩ := HX13.out _ hz17; have HC5 := Lib.hid (HAB.out w17))
      | ((with_reducible refine HC3.out.mono ?_); rintro e w16 ⟨rfl, hb16⟩; have hz16 := bel_chain hz15 hb16; obtain ⟨⟨⟨⟨⟨⟨⟨_, c1600, c1601, f1600, f1601⟩, ⟨_, c1610, c1611, f1610, f1611⟩⟩, ⟨_, c1620, c1621, f1620, f1621⟩⟩, ⟨_, c1630, c1631, f1630, f1631⟩⟩, ⟨_, c1640, c1641, f1640, f1641⟩⟩, ⟨_, c1650, c1651, f1650, f1651⟩⟩, ⟨_, c1660, c1661, f1660, f1661⟩⟩ := HX13.out _ hz16; have HC4 := Lib.hid (HSB.out w16 (HA13.out _ hz16)))
      | ((with_reducible refine HC2.out.mono ?_); rintro e w15 ⟨rfl, hb15⟩; have hz15 := bel_chain hz14 hb15; obtain ⟨⟨⟨⟨⟨⟨⟨_, c1500, c1501, f1500, f1501⟩, ⟨_, c1510, c1511, f1510, f1511⟩⟩, ⟨_, c1520, c1521, f1520, f1521⟩⟩, ⟨_, c1530, c1531, f1530, f1531⟩⟩, ⟨_, c1540, c1541, f1540, f1541⟩⟩, ⟨_, c1550, c1551, f1550, f1551⟩⟩, ⟨_, c1560, c1561, f1560, f1561⟩⟩ := HX13.out _ hz15; have HC3 := Lib.hid (KC1.out w15 (HA13.out _ hz15)))
      | ((with_reducible refine HC1.out.mono ?_); rintro e w14 ⟨rfl, hb14⟩; have hz14 := bel_chain hzd hb14; obtain ⟨⟨⟨⟨⟨⟨⟨_, c1400, c1401, f1400, f1401⟩, ⟨_, c1410, c1411, f1410, f1411⟩⟩, ⟨_, c1420, c1421, f1420, f1421⟩⟩, ⟨_, c1430, c1431, f1430, f1431⟩⟩, ⟨_, c1440, c1441, f1440, f1441⟩⟩, ⟨_, c1450, c1451, f1450, f1451⟩⟩, ⟨_, c1460, c1461, f1460, f1461⟩⟩ := HX13.out _ hz14; have HC2 := Lib.hid (HSG.out w14)))
  go_wp2_with fail
  go_ret
  exact ⟨rfl, bel_chain HB13.out hz19⟩
end Go.Proofs.YtejelchcpbchgaaGreatDoor
