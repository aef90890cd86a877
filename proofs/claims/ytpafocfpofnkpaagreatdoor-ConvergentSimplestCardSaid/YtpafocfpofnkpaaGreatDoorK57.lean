/- Greater text, out of: K57. -/
import Derived.Test.YtpafocfpofnkpaaGreatDoorK56
import Derived.Test.YtpafocfpofnkpaaGreatDoorK60
import Derived.Test.YtpafocfpofnkpaaGreatDoorK44
namespace Go.Proofs.YtpafocfpofnkpaaGreatDoor
open Go.RowKit Go.PlainAid
attribute [local go_sem] field_rat0 field_rat1
set_option maxRecDepth 100000 in
set_option maxHeartbeats 4000000 in
/-- convergent.beside. -/
theorem beside_any (n d b s D : Int) (w : World) (hamb : Amb w) (hd0 : 1 ≤ d) (hnn : nz n ≤ 14) (hdb : d ≤ b) (hb : b ≤ 900) (hs : s = 1 ∨ s = -1) (h1 : b - d < D) (h2 : D ≤ b) (h3 : d ∣ n * D - s) (h4 : ∀ D', D < D' → D' ≤ b → ¬ d ∣ n * D' - s) :
    Calls Tryz.prog 44 #[.agg #[.string (itx n), .string (itx d)], .int .i64 b, .int .i64 s] w (SmallRes (rv (Rat.divInt ((n * D - s) / d) D)) w) := by
  have hnd : nz d ≤ 3 := (nz_le_iff d 2).2 (by omega)
  have hnD : nz D ≤ 3 := (nz_le_iff D 2).2 (by omega)
  have hns : nz s ≤ 1 := (nz_le_iff s 0).2 (by omega)
  have hmb := emod_bd (n := n) (show 0 < d by omega)
  have hna : nz (n % d) ≤ 3 := (nz_le_iff _ 2).2 (by omega)
  have HSD := Lib.hid (fun w h => show Calls Tryz.prog 52 #[.string (itx d)] w (SmallRes (.tuple #[.int .i64 d, .bool true]) w) from by
    have := wsmall_any d w h (by omega)
    unfold SmallV at this
    rw [if_pos (by omega)] at this
    exact this)
  have HSA := Lib.hid (fun w h => show Calls Tryz.prog 52 #[.string (itx (n % d))] w (SmallRes (.tuple #[.int .i64 (n % d), .bool true]) w) from by
    have := wsmall_any (n % d) w h (by omega)
    unfold SmallV at this
    rw [if_pos (by omega)] at this
    exact this)
  have HDM := Lib.hid (fun w h => wdiv_pos n d w h (by omega) (by omega) (by omega))
  have HOD := Lib.hid (fun w h => wof_any D w h (by omega) (by omega))
  have HOS := Lib.hid (fun w h => wof_any s w h (by omega) (by omega))
  have HMU := Lib.hid (fun w h => wmul_any n D w h (by omega) (by omega))
  have hnp : nz (n * D) ≤ 17 := Nat.le_trans (nz_mul_le hnn hnD) (by omega)
  have HSU := Lib.hid (fun w h => wsub_any (n * D) s w h (by omega) (by omega))
  have hnq : nz (n * D - s) ≤ 18 := nz_sub_le hnp (by omega)
  have HDV := Lib.hid (fun w h => wdiv_pos (n * D - s) d w h (by omega) (by omega) (by omega))
  have hnc : nz ((n * D - s) / d) ≤ 18 := Nat.le_trans (nz_mono (natAbs_ediv_le _ _ (by omega))) hnq
  have HOV := Lib.hid (fun w h => over_any ((n * D - s) / d) D w h (by omega) (by omega) (by omega))
  have HT := Lib.hid (fun x => beside_test (n := n) (b := d) (d := x) (s := s))
  have H3 := Lib.hid h3
  have H4 := Lib.hid h4
  have HPR := Lib.hid (fun r (hr : r.natAbs ≤ 900) => pr4 (a := n % d) (b := r) (A := 900) (by omega) hr)
  have HMD := Lib.hid (fun x => emod_bd (n := x) (show 0 < d by omega))
  obtain ⟨Y, hY⟩ : ∃ Y, Rat.divInt ((n * D - s) / d) D = Y := ⟨_, rfl⟩
  rw [hY] at HOV ⊢
  obtain ⟨c, hc⟩ : ∃ c, (n * D - s) / d = c := ⟨_, rfl⟩
  obtain ⟨e1, he1⟩ : ∃ e, (n * D - s) % d = e := ⟨_, rfl⟩
  rw [hc, he1] at HDV
  rw [hc] at HOV
  obtain ⟨p, hp⟩ : ∃ p, n * D = p := ⟨_, rfl⟩
  rw [hp] at HMU HSU HDV
  obtain ⟨u, hu⟩ : ∃ u, p - s = u := ⟨_, rfl⟩
  rw [hu] at HSU HDV
  obtain ⟨a, ha⟩ : ∃ a, n % d = a := ⟨_, rfl⟩
  obtain ⟨q, hq⟩ : ∃ q, n / d = q := ⟨_, rfl⟩
  rw [ha] at hmb HSA HDM HT HPR
  rw [hq] at HDM
  have HAMB := Lib.hid hamb
  have hdz : ¬ d = 0 := by omega
  have hdb' : (d == 0) = false := by rw [beq_eq_false_iff_ne]; exact hdz
  have hwbd : IntKind.i64.wrap (b - d) = b - d := IntWalk.i64_in _ (by omega)
  clear hamb h3 h4 hnn hnd hnD hns hna hnp hnq hnc hY hc he1 hp hu ha hq
  go_enter Tryz.func44, Tryz.ntmps44
  go_wp2_with fail
  obtain ⟨W, hW⟩ : ∃ W, ((w.alloc (.cells #[.string (itx n), .string (itx d)] 24)).alloc (.cells #[.string ⟨#[]⟩, .string ⟨#[]⟩] 24)) = W := ⟨_, rfl⟩
  try rw [hW]
  obtain ⟨hX, hBW⟩ := B2.of hW
  have HB := Lib.hid hBW
  have HX := Lib.hid (fun wz (hb : Below W.heap.size W wz) => hX.later hb)
  have HA := Lib.hid (fun wz (hb : Below W.heap.size W wz) => HAMB.out.below (bel_chain HB.out hb))
  clear hW hX hBW
  refine (HSD.out W (HA.out _ (Below.refl _ _))).mono ?_
  rintro e w1 ⟨rfl, hb1⟩
  obtain ⟨⟨_, c0, c1, _, _⟩, _⟩ := HX.out _ hb1
  go_wp2_with fail
  refine (HDM.out w1 (HA.out _ hb1)).mono ?_
  rintro e w2 ⟨rfl, hb2⟩
  have hz2 := bel_chain hb1 hb2
  clear c0 c1 hb1 hb2
  go_wp2_with fail
  refine (HSA.out w2 (HA.out _ hz2)).mono ?_
  rintro e w3 ⟨rfl, hb3⟩
  have hz3 := bel_chain hz2 hb3
  have HZ3 := Lib.hid hz3
  clear hb3 hz2 hz3
  go_wp2_with fail
  go_loopw [14] (fun vx wr => ∃ x : Int, D ≤ x ∧ x ≤ b ∧ vx = .int .i64 x ∧ Below W.heap.size W wr) (fun vx _ => (intOf vx).toNat)
  case atStart => exact ⟨b, h2, Int.le_refl _, rfl, HZ3.out⟩
  case round =>
    obtain ⟨x, hx1, hx2, rfl, hB⟩ := hrel
    have HBR := Lib.hid hB
    clear hB
    have hgt : x > b - d := by omega
    have hlt : b - d < x := hgt
    have hmx := HMD.out x
    have htm : x.tmod d = x % d := Int.tmod_eq_emod_of_nonneg (by omega)
    have HTX := Lib.hid (HT.out x)
    obtain ⟨r, hr⟩ : ∃ r, x % d = r := ⟨_, rfl⟩
    rw [hr] at hmx htm HTX
    have hpr := HPR.out r (by omega)
    have v1 : IntKind.i64.wrap (x.tmod d) = r := by rw [htm]; exact IntWalk.i64_in _ (by omega)
    have v1' : IntKind.i64.wrap r = r := IntWalk.i64_in _ (by omega)
    obtain ⟨m, hm⟩ : ∃ m, a * r = m := ⟨_, rfl⟩
    rw [hm] at hpr HTX
    have v2 : IntKind.i64.wrap (a * r) = m := by rw [hm]; exact IntWalk.i64_in _ (by omega)
    have v3 : IntKind.i64.wrap (m - s) = m - s := IntWalk.i64_in _ (by omega)
    obtain ⟨t, ht⟩ : ∃ t, m - s = t := ⟨_, rfl⟩
    rw [ht] at v3 HTX
    have htt : (t.tmod d).natAbs ≤ t.natAbs := by rw [Int.natAbs_tmod]; exact Nat.mod_le _ _
    obtain ⟨z, hz⟩ : ∃ z, t.tmod d = z := ⟨_, rfl⟩
    rw [hz] at htt HTX
    have v4 : IntKind.i64.wrap (t.tmod d) = z := by rw [hz]; exact IntWalk.i64_in _ (by omega)
    have v4' : IntKind.i64.wrap z = z := IntWalk.i64_in _ (by omega)
    have k1 : IntKind.i64.wrap (a * (x % d)) = m := by rw [hr]; exact v2
    have k1' : IntKind.i64.wrap (a * (x.tmod d)) = m := by rw [htm]; exact v2
    have k2 : IntKind.i64.wrap (m - s) = t := by rw [ht]; exact v3
    have v5 : IntKind.i64.wrap (x - 1) = x - 1 := IntWalk.i64_in _ (by omega)
    by_cases hxD : x = D
    · have hz0 : z = 0 := HTX.out.2 (by rw [hxD]; exact H3.out)
      subst hz0
      subst hxD
      have k3 : (t.tmod d != 0) = false := by rw [hz]; rfl
      have k4 : (t.tmod d == 0) = true := by rw [hz]; rfl
      clear hpr htt hmx hx1 hx2 hm ht hz hr htm HTX v1 v1' v2 v3 v4 v4'
      have hz0 := HBR.out
      obtain ⟨⟨_, c00, c01, _, _⟩, _⟩ := HX.out _ hz0
      go_upto_region 7 with fail
      have hzd := hz0.drew
      have HC1 := Lib.hid (HOD.out wr.drew (HA.out _ hzd))
      go_region_held3 (fun w' => w'.cell? ⟨w.heap.size, 0, none⟩ = some (.string (itx n)) ∧ w'.cell? ⟨w.heap.size, 1, none⟩ = some (.string (itx d))) (go_keep)
        (first
          | ((with_reducible refine HC5.out.mono ?_); rintro e w5 ⟨rfl, hb5⟩; have hz5 := bel_chain hz4 hb5; obtain ⟨⟨_, c50, c51, _, _⟩, _⟩ := HX.out _ hz5)
          | ((with_reducible refine HC4.out.mono ?_); rintro e w4 ⟨rfl, hb4⟩; have hz4 := bel_chain hz3 hb4; obtain ⟨⟨_, c40, c41, _, _⟩, _⟩ := HX.out _ hz4; have HC5 := Lib.hid (HDV.out w4 (HA.out _ hz4)))
          | ((with_reducible refine HC3.out.mono ?_); rintro e w3 ⟨rfl, hb3⟩; have hz3 := bel_chain hz2 hb3; obtain ⟨⟨_, c30, c31, _, _⟩, _⟩ := HX.out _ hz3; have HC4 := Lib.hid (HSU.out w3 (HA.out _ hz3)))
          | ((with_reducible refine HC2.out.mono ?_); rintro e w2 ⟨rfl, hb2⟩; have hz2 := bel_chain hz1 hb2; obtain ⟨⟨_, c20, c21, _, _⟩, _⟩ := HX.out _ hz2; have HC3 := Lib.hid (HOS.out w2 (HA.out _ hz2)))
          | ((with_reducible refine HC1.out.mono ?_); rintro e w1 ⟨rfl, hb1⟩; have hz1 := bel_chain hzd hb1; obtain ⟨⟨_, c10, c11, _, _⟩, _⟩ := HX.out _ hz1; have HC2 := Lib.hid (HMU.out w1 (HA.out _ hz1))))
      go_wp2_with fail
      refine (HOD.out _ (HA.out _ hz5)).mono ?_
      rintro e w6 ⟨rfl, hb6⟩
      have hz6 := bel_chain hz5 hb6
      go_wp2_with fail
      refine (HOV.out _ (HA.out _ hz6)).mono ?_
      rintro e w7 ⟨rfl, hb7⟩
      have hz7 := bel_chain hz6 hb7
      have HL7 := Lib.hid (HX.out _ hz7)
      obtain ⟨⟨_, d0, d1, _, _⟩, ⟨_, d2, d3, f2, f3⟩⟩ := HX.out _ hz7
      clear hb7 hz6
      go_wp2_with fail
      refine ret_cell rfl rfl (load_rat (g := w.heap.size + 1) (HL7.out.store1 _ _).2) rfl ?_
      exact ⟨rfl, ((bel_chain HB.out hz7).setCell (by simp <;> omega) _).setCell (by simp <;> omega) _⟩
    · have hz0 : z ≠ 0 := fun h => H4.out x (by omega) hx2 (HTX.out.1 h)
      have k4 : (t.tmod d == 0) = false := by rw [hz, beq_eq_false_iff_ne]; exact hz0
      have k3 : (t.tmod d != 0) = true := by rw [bne, k4]; rfl
      clear hpr htt hmx hm ht hz hr htm HTX v1 v1' v2 v3 v4 v4'
      go_wp2_with fail
      go_roundw
      case rel => exact ⟨x - 1, by omega, by omega, rfl, HBR.out⟩
      case measure => simp [intOf]; omega
end Go.Proofs.YtpafocfpofnkpaaGreatDoor
