/- Greater text, out of: K59. -/
import Derived.Test.YtpafocfpofnkpaaGreatDoorK58
namespace Go.Proofs.YtpafocfpofnkpaaGreatDoor
open Go.RowKit Go.PlainAid
attribute [local go_sem] field_rat0 field_rat1
/-- What beside finds, as the reference has it. -/
theorem beside_pick1 {n d : Int} {b : Nat} (hd : 0 < d) (hg : Int.gcd n d = 1) (hb0 : 1 ≤ b) (hdb : d ≤ (b : Int)) :
    ∃ D, (b : Int) - d < D ∧ D ≤ (b : Int) ∧ d ∣ n * D - 1 ∧ (∀ D', D < D' → D' ≤ (b : Int) → ¬ d ∣ n * D' - 1) ∧ Rat.divInt ((n * D - 1) / d) D = tr (loN n d b) := by
  obtain ⟨D, h1, h2, h3, h4⟩ := beside_max (show 1 ≤ d by omega) hg 1 (b : Int)
  have e := Int.ediv_mul_cancel h3
  exact ⟨D, h1, h2, h3, h4, (beside_low hd hb0 (P := (n * D - 1) / d) (by omega) (by omega) h2 h1).symm⟩
theorem beside_pick2 {n d : Int} {b : Nat} (hd : 0 < d) (hg : Int.gcd n d = 1) (hb0 : 1 ≤ b) (hdb : d ≤ (b : Int)) :
    ∃ D, (b : Int) - d < D ∧ D ≤ (b : Int) ∧ d ∣ n * D - -1 ∧ (∀ D', D < D' → D' ≤ (b : Int) → ¬ d ∣ n * D' - -1) ∧ Rat.divInt ((n * D - -1) / d) D = tr (hiN n d b) := by
  obtain ⟨D, h1, h2, h3, h4⟩ := beside_max (show 1 ≤ d by omega) hg (-1) (b : Int)
  have e := Int.ediv_mul_cancel h3
  exact ⟨D, h1, h2, h3, h4, (beside_high hd hb0 (P := (n * D - -1) / d) (by omega) (by omega) h2 h1).symm⟩
set_option maxRecDepth 100000 in
set_option maxHeartbeats 8000000 in
/-- convergent.Neighbours. -/
theorem Neigh_any (n d : Int) (b : Nat) (w : World) (hamb : Amb w) (hd : 0 < d) (hg : Int.gcd n d = 1) (hnn : nz n ≤ 14) (hnd : nz d ≤ 14) (hr : RB (itx n) (itx d) = true) (hb0 : 1 ≤ b) (hb1 : b ≤ 900) :
    Calls Tryz.prog 17 #[.agg #[.string (itx n), .string (itx d)], .int .i64 (b : Int)] w (SmallRes (.tuple #[rv (tr (loN n d b)), rv (tr (hiN n d b)), .int .i64 0]) w) := by
  have hbe : bndE true (b : Int) = 0 := by unfold bndE; rw [if_neg (by decide), if_neg (by omega)]
  have HBD := Lib.hid (fun w h => show Calls Tryz.prog 32 #[.agg #[.string (itx n), .string (itx d)], .int .i64 (b : Int)] w (SmallRes (.int .i64 0) w) from by
    rw [← hbe]; exact bounded_any (itx n) (itx d) b w h (by have := itx_size_le n; omega) (by have := itx_size_le d; omega) true hr (by omega) (by omega))
  have HOF := Lib.hid (fun w h => wof_any (b : Int) w h (by omega) (by omega))
  have hnb : nz (b : Int) ≤ 3 := (nz_le_iff (b : Int) 2).2 (by omega)
  have HCM := Lib.hid (fun w => wcompare_any d (b : Int) w (by omega) (by omega))
  have hC := @cmpZ_le d (b : Int)
  obtain ⟨C0, hCC⟩ : ∃ C, cmpZ d (b : Int) = C := ⟨_, rfl⟩
  rw [hCC] at HCM hC
  have HCI := Lib.hid hC
  have HS1 := Lib.hid (fun (hdb : d ≤ (b : Int)) w h => show Calls Tryz.prog 44 #[.agg #[.string (itx n), .string (itx d)], .int .i64 (b : Int), .int .i64 1] w (SmallRes (rv (tr (loN n d b))) w) from by
    obtain ⟨D1, a1, a2, a3, a4, a5⟩ := beside_pick1 hd hg hb0 hdb
    rw [← a5]
    exact beside_any n d (b : Int) 1 D1 w h (by omega) hnn hdb (by omega) (.inl rfl) a1 a2 a3 a4)
  have HS2 := Lib.hid (fun (hdb : d ≤ (b : Int)) w h => show Calls Tryz.prog 44 #[.agg #[.string (itx n), .string (itx d)], .int .i64 (b : Int), .int .i64 (-1)] w (SmallRes (rv (tr (hiN n d b))) w) from by
    obtain ⟨D1, a1, a2, a3, a4, a5⟩ := beside_pick2 hd hg hb0 hdb
    rw [← a5]
    exact beside_any n d (b : Int) (-1) D1 w h (by omega) hnn hdb (by omega) (.inr rfl) a1 a2 a3 a4)
  have HAR := Lib.hid (fun (hdb : (b : Int) < d) w h => around_any n d (b : Int) w h hd hg hnn hnd (by omega) (by omega) hdb)
  have HAS := Lib.hid (fun (hdb : (b : Int) < d) => And.intro (low_same hd hb0 ((around_same hd hg hdb (show (1 : Int) ≤ (b : Int) by omega)).low hd)) (high_same hd hb0 ((around_same hd hg hdb (show (1 : Int) ≤ (b : Int) by omega)).high hd)))
  obtain ⟨q1, hq1⟩ : ∃ q, tr (loN n d b) = q := ⟨_, rfl⟩
  obtain ⟨q2, hq2⟩ : ∃ q, tr (hiN n d b) = q := ⟨_, rfl⟩
  rw [hq1] at HS1 HAS ⊢
  rw [hq2] at HS2 HAS ⊢
  have HAMB := Lib.hid hamb
  clear hamb hd hnn hnd hr hbe hnb hCC hg hq1 hq2 hC
  go_enter Tryz.func17, Tryz.ntmps17
  go_wp2_with fail
  obtain ⟨W, hW⟩ : ∃ W, (((w.alloc (.cells #[.string (itx n), .string (itx d)] 24)).alloc (.cells #[.string ⟨#[]⟩, .string ⟨#[]⟩] 24)).alloc (.cells #[.string ⟨#[]⟩, .string ⟨#[]⟩] 24)) = W := ⟨_, rfl⟩
  rw [hW]
  obtain ⟨hX, hBW⟩ := B3.of hW
  clear hW
  have HX := Lib.hid (fun wz (hb : Below W.heap.size W wz) => hX.later hb)
  have HB := Lib.hid hBW
  have HA := Lib.hid (fun wz (hb : Below W.heap.size W wz) => HAMB.out.below (bel_chain HB.out hb))
  clear hX hBW
  refine (HBD.out W (HA.out _ (Below.refl _ _))).mono ?_
  rintro e w1 ⟨rfl, hz1⟩
  obtain ⟨⟨_, c0, c1, _, _⟩, _, _⟩ := HX.out _ hz1
  go_upto_region 4 with fail
  have hzd := hz1.drew
  have HC1 := Lib.hid (HOF.out w1.drew (HA.out _ hzd))
  go_region_held3 (fun w' => w'.cell? ⟨w.heap.size, 0, none⟩ = some (.string (itx n)) ∧ w'.cell? ⟨w.heap.size, 1, none⟩ = some (.string (itx d))) (go_keep)
    (first
      | ((with_reducible refine HC2.out.mono ?_); rintro e w3 ⟨rfl, hb3⟩; have hz3 := bel_chain hz2 hb3; obtain ⟨⟨_, c30, c31, _, _⟩, _, _⟩ := HX.out _ hz3)
      | ((with_reducible refine HC1.out.mono ?_); rintro e w2 ⟨rfl, hb2⟩; have hz2 := bel_chain hzd hb2; obtain ⟨⟨_, c20, c21, _, _⟩, _, _⟩ := HX.out _ hz2; have HC2 := Lib.hid (HCM.out w2)))
  have HZ3 := Lib.hid hz3
  clear hz1 hzd HC1 HC2 hb2 hz2 c0 c1 c20 c21 hb3 c30 c31 hz3
  by_cases hC0 : C0 ≤ 0
  · have hdb := HCI.out.1 hC0
    have HT1 := Lib.hid (HS1.out hdb)
    have HT2 := Lib.hid (HS2.out hdb)
    clear HS1 HS2 HAR HAS hdb
    go_upto_region 5 with fail
    have hz3 := HZ3.out
    obtain ⟨⟨_, c0, c1, _, _⟩, ⟨_, d0, d1, f0, f1⟩, ⟨_, d2, d3, f2, f3⟩⟩ := HX.out _ hz3
    have hzd := hz3.drew
    have HC1 := Lib.hid (HT1.out w3.drew (HA.out _ hzd))
    go_region_held3 (fun w' => w'.cell? ⟨w.heap.size, 0, none⟩ = some (.string (itx n)) ∧ w'.cell? ⟨w.heap.size, 1, none⟩ = some (.string (itx d)))
      (first | with_reducible exact HK2.out _ _ _ _ | with_reducible exact HK1.out _ _ | go_keep)
      (first
        | ((with_reducible refine HC2.out.mono ?_); rintro e w5 ⟨rfl, hb5⟩; have hz5 := bel_chain hz4 hb5; have HXL := Lib.hid (HX.out _ hz5); have HK1 := Lib.hid (fun (u v : Value) => And.intro (HXL.out.store1 u v).1.2.1 (HXL.out.store1 u v).1.2.2.1); have HK2 := Lib.hid (fun (u v u' v' : Value) => And.intro ((HXL.out.store1 u v).store2 u' v').1.2.1 ((HXL.out.store1 u v).store2 u' v').1.2.2.1); obtain ⟨⟨_, c50, c51, _, _⟩, ⟨_, d50, d51, f50, f51⟩, ⟨_, d52, d53, f52, f53⟩⟩ := HX.out _ hz5)
        | ((with_reducible refine HC1.out.mono ?_); rintro e w4 ⟨rfl, hb4⟩; have hz4 := bel_chain hzd hb4; obtain ⟨⟨_, c40, c41, _, _⟩, _, _⟩ := HX.out _ hz4; have HC2 := Lib.hid (HT2.out w4 (HA.out _ hz4))))
    all_goals
      go_wp2_with fail
      refine ret_cell2_tmp rfl rfl rfl (load_rat (g := w.heap.size + 1) ((HXL.out.store1 _ _).store2 _ _).2.1) (load_rat (g := w.heap.size + 1 + 1) ((HXL.out.store1 _ _).store2 _ _).2.2) rfl ?_
      exact ⟨rfl, ((((bel_chain HB.out hz5).setCell (by simp <;> omega) _).setCell (by simp <;> omega) _).setCell (by simp <;> omega) _).setCell (by simp <;> omega) _⟩
  · have hdb : (b : Int) < d := by
      refine Decidable.by_contra fun hc => hC0 (HCI.out.2 (by omega))
    have hss := HAS.out hdb
    have HAR2 := Lib.hid (HAR.out hdb)
    rw [← show tr (ab n d (semiL lastF (b : Int) (tms n d))).1 = _ from rfl] at hss
    rw [← hss.1, ← hss.2] at HAR2
    clear HS1 HS2 HAR HAS hdb hss
    obtain ⟨⟨_, c0, c1, _, _⟩, _, _⟩ := HX.out _ HZ3.out
    go_wp2_with fail
    refine (HAR2.out w3 (HA.out _ HZ3.out)).mono ?_
    rintro e w4 ⟨rfl, hb4⟩
    have hz4 := bel_chain HZ3.out hb4
    have HL := Lib.hid (HX.out _ hz4)
    obtain ⟨_, ⟨_, d0, d1, f0, f1⟩, ⟨_, d2, d3, f2, f3⟩⟩ := HX.out _ hz4
    clear c0 c1 hb4
    go_upto_region 7 with fail
    obtain ⟨V, hV⟩ : ∃ V, (((w4.setCell ⟨w.heap.size + 1, 0, none⟩ (.string (itx q1.num))).setCell ⟨w.heap.size + 1, 1, none⟩ (.string (itx (q1.den : Int)))).setCell ⟨w.heap.size + 1 + 1, 0, none⟩ (.string (itx q2.num))).setCell ⟨w.heap.size + 1 + 1, 1, none⟩ (.string (itx (q2.den : Int))) = V := ⟨_, rfl⟩
    try rw [hV]
    have HLV := Lib.hid (show B3 w.heap.size (.string (itx n)) (.string (itx d)) (.string (itx q1.num)) (.string (itx (q1.den : Int))) (.string (itx q2.num)) (.string (itx (q2.den : Int))) V from hV ▸ (HL.out.store1 _ _).store2 _ _)
    have HBV := Lib.hid (show Below w.heap.size w V from hV ▸ ((((bel_chain HB.out hz4).setCell (by simp <;> omega) _).setCell (by simp <;> omega) _).setCell (by simp <;> omega) _).setCell (by simp <;> omega) _)
    clear hV d0 d1 f0 f1 d2 d3 f2 f3
    obtain ⟨_, ⟨_, d0, d1, f0, f1⟩, ⟨_, d2, d3, f2, f3⟩⟩ := HLV.out
    go_region_with fail
    all_goals
      go_wp2_with fail
      refine ret_cell2_tmp rfl rfl rfl (load_rat (g := w.heap.size + 1) (((HLV.out.store1 _ _).store2 _ _).later (Below.refl _ _).drew).2.1) (load_rat (g := w.heap.size + 1 + 1) (((HLV.out.store1 _ _).store2 _ _).later (Below.refl _ _).drew).2.2) rfl ?_
      exact ⟨rfl, ((((HBV.out.setCell (by simp <;> omega) _).setCell (by simp <;> omega) _).setCell (by simp <;> omega) _).setCell (by simp <;> omega) _).drew⟩
end Go.Proofs.YtpafocfpofnkpaaGreatDoor
