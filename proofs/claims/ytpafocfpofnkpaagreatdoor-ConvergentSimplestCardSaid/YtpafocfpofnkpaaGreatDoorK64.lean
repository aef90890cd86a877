/- Greater text, out of: K64. -/
import Derived.Test.YtpafocfpofnkpaaGreatDoorK63
import Derived.Test.YtpafocfpofnkpaaGreatDoorK41
import Derived.Test.YtpafocfpofnkpaaGreatDoorK42
namespace Go.Proofs.YtpafocfpofnkpaaGreatDoor
open Go.RowKit Go.PlainAid
attribute [local go_sem] field_rat0 field_rat1
set_option maxRecDepth 100000 in
set_option maxHeartbeats 4000000 in
/-- Simplest, of what is not right. -/
theorem Simplest_no (n0 d0 n1 d1 : ByteArray) (w : World) (hamb : Amb w) (a0 : n0.size ≤ 1000000000) (a1 : d0.size ≤ 1000000000) (a2 : n1.size ≤ 1000000000) (a3 : d1.size ≤ 1000000000) (r s : Bool) (hr : RB n0 d0 = r) (hs : RB n1 d1 = s) (h : r = false ∨ s = false) :
    Calls Tryz.prog 19 #[.agg #[.string n0, .string d0], .agg #[.string n1, .string d1]] w (SmallRes (.tuple #[.agg #[.string ⟨#[]⟩, .string ⟨#[]⟩], .int .i64 2]) w) := by
  have HW1 := Lib.hid (fun w h => wrong_any n0 d0 w h a0 a1 r hr)
  have HW2 := Lib.hid (fun w h => wrong_any n1 d1 w h a2 a3 s hs)
  have HAMB := Lib.hid hamb
  clear hamb a0 a1 a2 a3 hr hs
  go_enter Tryz.func19, Tryz.ntmps19
  go_wp2_with fail
  obtain ⟨W, hW⟩ : ∃ W, ((w.alloc (.cells #[.string n0, .string d0] 24)).alloc (.cells #[.string n1, .string d1] 24)).alloc (.cells #[.string ⟨#[]⟩, .string ⟨#[]⟩] 24) = W := ⟨_, rfl⟩
  rw [hW]
  obtain ⟨hX, hBW⟩ := B3.of hW
  clear hW
  have HX := Lib.hid (fun wz (hb : Below W.heap.size W wz) => hX.later hb)
  have HB := Lib.hid hBW
  have HA := Lib.hid (fun wz (hb : Below W.heap.size W wz) => HAMB.out.below (bel_chain HB.out hb))
  clear hX hBW
  refine (HW1.out W (HA.out _ (Below.refl _ _))).mono ?_
  rintro e w1 ⟨rfl, hz1⟩
  have HX1 := Lib.hid (HX.out _ hz1)
  obtain ⟨_, ⟨_, c0, c1, _, _⟩, ⟨_, d0', d1', f0, f1⟩⟩ := HX.out _ hz1
  cases r
  · clear h
    go_wp2_with fail
    refine ret_cell_tmp rfl rfl (load_rat (g := w.heap.size + 1 + 1) (HX1.out.store2 _ _).2.2) rfl ?_
    exact ⟨rfl, ((bel_chain HB.out hz1).setCell (by simp <;> omega) _).setCell (by simp <;> omega) _⟩
  · obtain rfl : s = false := by rcases h with h | h; cases h; exact h
    go_wp2_with fail
    refine (HW2.out w1 (HA.out _ hz1)).mono ?_
    rintro e w2 ⟨rfl, hb2⟩
    have hz2 := bel_chain hz1 hb2
    have HX2 := Lib.hid (HX.out _ hz2)
    clear c0 c1 d0' d1' f0 f1
    obtain ⟨_, _, ⟨_, d0', d1', f0, f1⟩⟩ := HX.out _ hz2
    go_wp2_with fail
    refine ret_cell_tmp rfl rfl (load_rat (g := w.heap.size + 1 + 1) (HX2.out.store2 _ _).2.2) rfl ?_
    exact ⟨rfl, ((bel_chain HB.out hz2).setCell (by simp <;> omega) _).setCell (by simp <;> omega) _⟩
theorem cmpQ_pos {p q : Rat} : 0 < cmpQ p q ↔ q.num * (p.den : Int) < p.num * (q.den : Int) := by
  rw [cmpQ_pos_iff]; exact cmpQ_lt q p
theorem sign_le {z : Int} : z.sign ≤ 0 ↔ z ≤ 0 := by
  rcases Int.lt_trichotomy z 0 with h | h | h
  · rw [Int.sign_eq_neg_one_of_neg h]; omega
  · subst h; simp
  · rw [Int.sign_eq_one_of_pos h]; omega
theorem sign_ge {z : Int} : 0 ≤ z.sign ↔ 0 ≤ z := by
  rcases Int.lt_trichotomy z 0 with h | h | h
  · rw [Int.sign_eq_neg_one_of_neg h]; omega
  · subst h; simp
  · rw [Int.sign_eq_one_of_pos h]; omega
set_option maxRecDepth 100000 in
set_option maxHeartbeats 4000000 in
/-- Simplest, of a range the wrong way round. -/
theorem Simplest_order (p q : Rat) (w : World) (hamb : Amb w) (hp : NQ p 8) (hq : NQ q 8) (hlt : q.num * (p.den : Int) < p.num * (q.den : Int)) :
    Calls Tryz.prog 19 #[rv p, rv q] w (SmallRes (.tuple #[.agg #[.string ⟨#[]⟩, .string ⟨#[]⟩], .int .i64 6]) w) := by
  have HW1 := Lib.hid (fun w h => show Calls Tryz.prog 45 #[.agg #[.string (itx p.num), .string (itx (p.den : Int))]] w (SmallRes (.bool false) w) from wrong_any _ _ w h (by have := itx_size_le p.num; have := hp.1; omega) (by have := itx_size_le (p.den : Int); have := hp.2; omega) true (RB_q p (hp.mono (by omega))))
  have HW2 := Lib.hid (fun w h => show Calls Tryz.prog 45 #[.agg #[.string (itx q.num), .string (itx (q.den : Int))]] w (SmallRes (.bool false) w) from wrong_any _ _ w h (by have := itx_size_le q.num; have := hq.1; omega) (by have := itx_size_le (q.den : Int); have := hq.2; omega) true (RB_q q (hq.mono (by omega))))
  have HC := Lib.hid (fun w h => fcompare_any p q w h (hp.mono (by omega)) (hq.mono (by omega)))
  have hc := cmpQ_pos.2 hlt
  obtain ⟨C0, hC0⟩ : ∃ C, cmpQ p q = C := ⟨_, rfl⟩
  rw [hC0] at HC hc
  have hc2 : C0 > 0 := hc
  have HAMB := Lib.hid hamb
  clear hamb hp hq hlt hC0
  unfold rv at HC ⊢
  go_enter Tryz.func19, Tryz.ntmps19
  go_wp2_with fail
  obtain ⟨W, hW⟩ : ∃ W, ((w.alloc (.cells #[.string (itx p.num), .string (itx (p.den : Int))] 24)).alloc (.cells #[.string (itx q.num), .string (itx (q.den : Int))] 24)).alloc (.cells #[.string ⟨#[]⟩, .string ⟨#[]⟩] 24) = W := ⟨_, rfl⟩
  rw [hW]
  obtain ⟨hX, hBW⟩ := B3.of hW
  clear hW
  have HX := Lib.hid (fun wz (hb : Below W.heap.size W wz) => hX.later hb)
  have HB := Lib.hid hBW
  have HA := Lib.hid (fun wz (hb : Below W.heap.size W wz) => HAMB.out.below (bel_chain HB.out hb))
  clear hX hBW
  refine (HW1.out W (HA.out _ (Below.refl _ _))).mono ?_
  rintro e w1 ⟨rfl, hz1⟩
  obtain ⟨_, ⟨_, c0, c1, _, _⟩, _⟩ := HX.out _ hz1
  go_wp2_with fail
  refine (HW2.out w1 (HA.out _ hz1)).mono ?_
  rintro e w2 ⟨rfl, hb2⟩
  have hz2 := bel_chain hz1 hb2
  clear c0 c1 hb2
  obtain ⟨⟨_, b0, b1, _, _⟩, ⟨_, c0, c1, _, _⟩, _⟩ := HX.out _ hz2
  go_wp2_with fail
  refine (HC.out w2 (HA.out _ hz2)).mono ?_
  rintro e w3 ⟨rfl, hb3⟩
  have hz3 := bel_chain hz2 hb3
  have HX3 := Lib.hid (HX.out _ hz3)
  clear b0 b1 c0 c1 hb3
  obtain ⟨_, _, ⟨_, d0, d1, f0, f1⟩⟩ := HX.out _ hz3
  go_wp2_with fail
  refine ret_cell_tmp rfl rfl (load_rat (g := w.heap.size + 1 + 1) (HX3.out.store2 _ _).2.2) rfl ?_
  exact ⟨rfl, ((bel_chain HB.out hz3).setCell (by simp <;> omega) _).setCell (by simp <;> omega) _⟩
set_option maxRecDepth 100000 in
set_option maxHeartbeats 8000000 in
/-- Simplest: what the reference seeks. -/
theorem Simplest_any (p q : Rat) (w : World) (hamb : Amb w) (hp : p.num.natAbs ≤ 10000000) (hq : q.num.natAbs ≤ 10000000) (hp2 : p.den ≤ 200) (hq2 : q.den ≤ 200) (hle : p.num * (q.den : Int) ≤ q.num * (p.den : Int)) :
    Calls Tryz.prog 19 #[rv p, rv q] w (fun e w' => ∃ (Q : Nat) (P q2 : Int), 1 ≤ Q ∧ Q ≤ 1000 ∧ (∀ k : Int, 1 ≤ k → k < (Q : Int) → smpAt p.num (p.den : Int) q.num (q.den : Int) k = none) ∧ smpAt p.num (p.den : Int) q.num (q.den : Int) (Q : Int) = some (P, q2) ∧ e = .returned (.tuple #[rv (Rat.divInt P q2), .int .i64 0]) ∧ Below w.heap.size w w') := by
  have hpd := rden_pos p
  have hqd := rden_pos q
  have hpn : NQ p 8 := ⟨(nz_le_iff _ 7).2 (by omega), (nz_le_iff _ 7).2 (by omega)⟩
  have hqn : NQ q 8 := ⟨(nz_le_iff _ 7).2 (by omega), (nz_le_iff _ 7).2 (by omega)⟩
  have HW1 := Lib.hid (fun w h => show Calls Tryz.prog 45 #[.agg #[.string (itx p.num), .string (itx (p.den : Int))]] w (SmallRes (.bool false) w) from wrong_any _ _ w h (by have := itx_size_le p.num; have := hpn.1; omega) (by have := itx_size_le (p.den : Int); have := hpn.2; omega) true (RB_q p (hpn.mono (by omega))))
  have HW2 := Lib.hid (fun w h => show Calls Tryz.prog 45 #[.agg #[.string (itx q.num), .string (itx (q.den : Int))]] w (SmallRes (.bool false) w) from wrong_any _ _ w h (by have := itx_size_le q.num; have := hqn.1; omega) (by have := itx_size_le (q.den : Int); have := hqn.2; omega) true (RB_q q (hqn.mono (by omega))))
  have HC := Lib.hid (fun w h => fcompare_any p q w h (hpn.mono (by omega)) (hqn.mono (by omega)))
  have hc : ¬ cmpQ p q > 0 := fun h => by have := cmpQ_pos.1 h; omega
  obtain ⟨C0, hC0⟩ : ∃ C, cmpQ p q = C := ⟨_, rfl⟩
  rw [hC0] at HC hc
  have HS1 := Lib.hid (fun w => fsign_any p w (hpn.mono (by omega)))
  have HS2 := Lib.hid (fun w => fsign_any q w (hqn.mono (by omega)))
  have s1 := @sign_le p.num
  have s2 := @sign_ge q.num
  obtain ⟨A, hA⟩ : ∃ A, p.num.sign = A := ⟨_, rfl⟩
  obtain ⟨B, hB⟩ : ∃ B, q.num.sign = B := ⟨_, rfl⟩
  rw [hA] at s1 HS1
  rw [hB] at s2 HS2
  have HO := Lib.hid (fun w h => over_any 0 1 w h (by decide) (Nat.le_trans ((nz_le_iff 0 0).2 (by decide)) (by omega)) (Nat.le_trans ((nz_le_iff 1 0).2 (by decide)) (by omega)))
  rw [itx_lit_zero, itx_lit_one] at HO
  have HZ := Lib.hid (fun (h1 : p.num ≤ 0) (h2 : 0 ≤ q.num) => smp_zero hpd hqd h1 h2)
  have HN1 := Lib.hid (fun w => fneg_any q w (hqn.mono (by omega)))
  have HN2 := Lib.hid (fun w => fneg_any p w (hpn.mono (by omega)))
  have HSP := Lib.hid (fun (h : 0 < p.num) w hw => simplest_any p q w hw h hle (by omega) (by omega) hp2 hq2)
  have HSN := Lib.hid (fun (h : q.num < 0) w hw => simplest_any (-q) (-p) w hw (by rw [Rat.neg_num]; omega) (by rw [Rat.neg_num, Rat.neg_num, Rat.neg_den, Rat.neg_den, Int.neg_mul, Int.neg_mul]; omega) (by rw [Rat.neg_num]; omega) (by rw [Rat.neg_num]; omega) (by rw [Rat.neg_den]; exact hq2) (by rw [Rat.neg_den]; exact hp2))
  have HIP := Lib.hid (fun (h : 0 < p.num) P Q (hS : IsS p.num (p.den : Int) q.num (q.den : Int) P Q) => show 1 ≤ Q ∧ Q ≤ 200 ∧ (∀ k : Int, 1 ≤ k → k < Q → smpAt p.num (p.den : Int) q.num (q.den : Int) k = none) ∧ smpAt p.num (p.den : Int) q.num (q.den : Int) Q = some (P, Q) from by
    obtain ⟨k1, k2⟩ := smp_pos hpd hqd h hS
    have := (hS.least p.num (p.den : Int) ⟨by omega, Int.le_refl _, hle⟩).2
    exact ⟨hS.mem.1, by omega, k1, k2⟩)
  have HIN := Lib.hid (fun (h : q.num < 0) P Q (hS : IsS (-q).num ((-q).den : Int) (-p).num ((-p).den : Int) P Q) => show 1 ≤ Q ∧ Q ≤ 200 ∧ (∀ k : Int, 1 ≤ k → k < Q → smpAt p.num (p.den : Int) q.num (q.den : Int) k = none) ∧ smpAt p.num (p.den : Int) q.num (q.den : Int) Q = some (-P, Q) ∧ NQ (Rat.divInt P Q) 20 ∧ -Rat.divInt P Q = Rat.divInt (-P) Q from by
    rw [Rat.neg_num, Rat.neg_num, Rat.neg_den, Rat.neg_den] at hS
    obtain ⟨k1, k2⟩ := smp_neg hpd hqd h hS
    have hl := hS.least (-q.num) (q.den : Int) ⟨by omega, Int.le_refl _, by rw [Int.neg_mul, Int.neg_mul]; omega⟩
    have hP := hS.mem.pos (by omega) hqd
    have hm := hS.mem.1
    exact ⟨hm, by omega, k1, k2, NQ.of_divInt (by omega) ((nz_le_iff _ 19).2 (by omega)) ((nz_le_iff _ 19).2 (by omega)), Rat.neg_divInt _ _⟩)
  have HQP := Lib.hid (fun (h : 0 < p.num) => show 0 ≤ q.num from Decidable.by_contra fun hc => by
    have k1 := Int.mul_pos h hqd
    have k2 := Int.mul_le_mul_of_nonneg_right (show q.num ≤ 0 by omega) (show 0 ≤ (p.den : Int) by omega)
    omega)
  have HAMB := Lib.hid hamb
  have HSG := Lib.hid (And.intro s1 s2)
  clear hamb hp hq hp2 hq2 hpn hqn hle hC0 hA hB hpd hqd s1 s2
  unfold rv at HC HS1 HS2 HN1 HN2 HSP HSN HO ⊢
  rw [Rat.neg_num, Rat.neg_den] at HN1 HN2
  go_enter Tryz.func19, Tryz.ntmps19
  go_wp2_with fail
  obtain ⟨W, hW⟩ : ∃ W, ((w.alloc (.cells #[.string (itx p.num), .string (itx (p.den : Int))] 24)).alloc (.cells #[.string (itx q.num), .string (itx (q.den : Int))] 24)).alloc (.cells #[.string ⟨#[]⟩, .string ⟨#[]⟩] 24) = W := ⟨_, rfl⟩
  rw [hW]
  obtain ⟨hX, hBW⟩ := B3.of hW
  clear hW
  have HX := Lib.hid (fun wz (hb : Below W.heap.size W wz) => hX.later hb)
  have HB := Lib.hid hBW
  have HA := Lib.hid (fun wz (hb : Below W.heap.size W wz) => HAMB.out.below (bel_chain HB.out hb))
  clear hX hBW
  refine (HW1.out W (HA.out _ (Below.refl _ _))).mono ?_
  rintro e w1 ⟨rfl, hz1⟩
  obtain ⟨_, ⟨_, c0, c1, _, _⟩, _⟩ := HX.out _ hz1
  go_wp2_with fail
  refine (HW2.out w1 (HA.out _ hz1)).mono ?_
  rintro e w2 ⟨rfl, hb2⟩
  have hz2 := bel_chain hz1 hb2
  clear c0 c1 hb2 hz1
  obtain ⟨⟨_, b0, b1, _, _⟩, ⟨_, c0, c1, _, _⟩, _⟩ := HX.out _ hz2
  go_wp2_with fail
  refine (HC.out w2 (HA.out _ hz2)).mono ?_
  rintro e w3 ⟨rfl, hb3⟩
  have hz3 := bel_chain hz2 hb3
  clear b0 b1 c0 c1 hb3 hz2
  obtain ⟨⟨_, b0, b1, _, _⟩, _, _⟩ := HX.out _ hz3
  go_wp2_with fail
  refine (HS1.out w3).mono ?_
  rintro e w4 ⟨rfl, hb4⟩
  have hz4 := bel_chain hz3 hb4
  clear b0 b1 hb4 hz3
  by_cases hA0 : A ≤ 0
  · obtain ⟨_, ⟨_, c0, c1, _, _⟩, _⟩ := HX.out _ hz4
    go_wp2_with fail
    refine (HS2.out w4).mono ?_
    rintro e w5 ⟨rfl, hb5⟩
    have hz5 := bel_chain hz4 hb5
    clear c0 c1 hb5 hz4
    by_cases hB0 : B ≥ 0
    · have HSM := Lib.hid (HZ.out (HSG.out.1.1 hA0) (HSG.out.2.1 hB0))
      go_wp2_with fail
      refine (HO.out w5 (HA.out _ hz5)).mono ?_
      rintro e w6 ⟨rfl, hb6⟩
      have hz6 := bel_chain hz5 hb6
      have HX6 := Lib.hid (HX.out _ hz6)
      obtain ⟨_, _, ⟨_, d0, d1, f0, f1⟩⟩ := HX.out _ hz6
      go_wp2_with fail
      refine ret_cell_tmp rfl rfl (load_rat (g := w.heap.size + 1 + 1) (HX6.out.store2 _ _).2.2) rfl ?_
      exact ⟨1, 0, 1, by omega, by omega, fun k h1 h2 => by omega, HSM.out, rfl, ((bel_chain HB.out hz6).setCell (by simp <;> omega) _).setCell (by simp <;> omega) _⟩
    · have HQN := Lib.hid (show q.num < 0 from by
        refine Decidable.by_contra fun hc => hB0 (HSG.out.2.2 (by omega)))
      have hB1 : B < 0 := by omega
      have HIN2 := Lib.hid (HIN.out HQN.out)
      have HSN2 := Lib.hid (HSN.out HQN.out)
      rw [Rat.neg_num, Rat.neg_den, Rat.neg_num, Rat.neg_den] at HSN2
      clear HSP HIP HZ HSN HIN HO
      obtain ⟨_, ⟨_, c0, c1, _, _⟩, _⟩ := HX.out _ hz5
      go_wp2_with fail
      refine (HS2.out w5).mono ?_
      rintro e w6 ⟨rfl, hb6⟩
      have HZ6 := Lib.hid (bel_chain hz5 hb6)
      clear c0 c1 hb6 hz5
      go_upto_region 8 with fail
      have hzd := HZ6.out.drew
      have HC1 := Lib.hid (HN1.out w6.drew)
      obtain ⟨⟨_, b0, b1, _, _⟩, ⟨_, c0, c1, _, _⟩, ⟨_, d0, d1, f0, f1⟩⟩ := HX.out _ HZ6.out
      go_region_held3 (fun w' => w'.cell? ⟨w.heap.size, 0, none⟩ = some (.string (itx p.num)) ∧ w'.cell? ⟨w.heap.size, 1, none⟩ = some (.string (itx (p.den : Int))) ∧ w'.cell? ⟨w.heap.size + 1, 0, none⟩ = some (.string (itx q.num)) ∧ w'.cell? ⟨w.heap.size + 1, 1, none⟩ = some (.string (itx (q.den : Int))))
        (first | exact ⟨(HXL.out.store2 _ _).1.2.1, (HXL.out.store2 _ _).1.2.2.1, (HXL.out.store2 _ _).2.1.2.1, (HXL.out.store2 _ _).2.1.2.2.1⟩ | go_keep)
        (first
          | ((with_reducible refine HC4.out.mono ?_); rintro e w10 ⟨rfl, hb10⟩; have hz10 := bel_chain hz9 hb10; have HXL := Lib.hid (HX.out _ hz10); obtain ⟨⟨_, b50, b51, _, _⟩, ⟨_, c50, c51, _, _⟩, ⟨_, d50, d51, f50, f51⟩⟩ := HX.out _ hz10)
          | ((with_reducible refine HC3.out.mono ?_); rintro e w9 ⟨PP, QQ, hSS, rfl, hb9⟩; have hz9 := bel_chain hz8 hb9; obtain ⟨⟨_, b40, b41, _, _⟩, ⟨_, c40, c41, _, _⟩, _⟩ := HX.out _ hz9; have HF := Lib.hid (HIN2.out PP QQ hSS); have HC4 := Lib.hid (fneg_any (Rat.divInt PP QQ) w9 (HF.out.2.2.2.2.1.mono (by omega))); rw [HF.out.2.2.2.2.2] at HC4; unfold rv at HC4)
          | ((with_reducible refine HC2.out.mono ?_); rintro e w8 ⟨rfl, hb8⟩; have hz8 := bel_chain hz7 hb8; obtain ⟨⟨_, b30, b31, _, _⟩, ⟨_, c30, c31, _, _⟩, _⟩ := HX.out _ hz8; have HC3 := Lib.hid (HSN2.out w8 (HA.out _ hz8)))
          | ((with_reducible refine HC1.out.mono ?_); rintro e w7 ⟨rfl, hb7⟩; have hz7 := bel_chain hzd hb7; obtain ⟨⟨_, b20, b21, _, _⟩, ⟨_, c20, c21, _, _⟩, _⟩ := HX.out _ hz7; have HC2 := Lib.hid (HN2.out w7)))
      all_goals
        go_wp2_with fail
        refine ret_cell_tmp rfl rfl (load_rat (g := w.heap.size + 1 + 1) (HXL.out.store2 _ _).2.2) rfl ?_
        obtain ⟨m1, m2, m3, m4, _, _⟩ := HF.out
        obtain ⟨k, rfl⟩ : ∃ k : Nat, QQ = (k : Int) := ⟨QQ.toNat, by omega⟩
        exact ⟨k, -PP, (k : Int), by omega, by omega, m3, m4, rfl, ((bel_chain HB.out hz10).setCell (by simp <;> omega) _).setCell (by simp <;> omega) _⟩
  · have HPN := Lib.hid (show 0 < p.num from by
      refine Decidable.by_contra fun hc => hA0 (HSG.out.1.2 (by omega)))
    have HIP2 := Lib.hid (HIP.out HPN.out)
    have HSP2 := Lib.hid (HSP.out HPN.out)
    clear HSN HIN HSP HIP HZ HO
    obtain ⟨_, ⟨_, c0, c1, _, _⟩, _⟩ := HX.out _ hz4
    go_wp2_with fail
    refine (HS2.out w4).mono ?_
    rintro e w5 ⟨rfl, hb5⟩
    have hz5 := bel_chain hz4 hb5
    clear c0 c1 hb5 hz4
    have hB1 : ¬ B < 0 := by have := HSG.out.2.2 (HQP.out HPN.out); omega
    obtain ⟨⟨_, b0, b1, _, _⟩, ⟨_, c0, c1, _, _⟩, _⟩ := HX.out _ hz5
    go_wp2_with fail
    refine (HSP2.out w5 (HA.out _ hz5)).mono ?_
    rintro e w6 ⟨P, Q, hSS, rfl, hb6⟩
    have hz6 := bel_chain hz5 hb6
    have HX6 := Lib.hid (HX.out _ hz6)
    have HF := Lib.hid (HIP2.out P Q hSS)
    clear b0 b1 c0 c1 hSS hb6
    obtain ⟨_, _, ⟨_, d0, d1, f0, f1⟩⟩ := HX.out _ hz6
    obtain ⟨V, hV⟩ : ∃ V, Rat.divInt P Q = V := ⟨_, rfl⟩
    rw [hV]
    go_wp2_with fail
    refine ret_cell_tmp rfl rfl (load_rat (g := w.heap.size + 1 + 1) (HX6.out.store2 _ _).2.2) rfl ?_
    obtain ⟨m1, m2, m3, m4⟩ := HF.out
    obtain ⟨k, rfl⟩ : ∃ k : Nat, Q = (k : Int) := ⟨Q.toNat, by omega⟩
    exact ⟨k, P, (k : Int), by omega, by omega, m3, m4, by subst hV; rfl, ((bel_chain HB.out hz6).setCell (by simp <;> omega) _).setCell (by simp <;> omega) _⟩
end Go.Proofs.YtpafocfpofnkpaaGreatDoor
