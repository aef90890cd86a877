/- Greater text, out of: K41. -/
import Derived.Test.YtpafocfpofnkpaaGreatDoorK37
import Derived.Test.YtpafocfpofnkpaaGreatDoorK39
import Derived.Test.YtpafocfpofnkpaaGreatDoorK40
namespace Go.Proofs.YtpafocfpofnkpaaGreatDoor
open Go.RowKit Go.PlainAid
attribute [local go_sem] field_rat0 field_rat1
theorem ivalT_itx (n : Int) (h : nz n ≤ 400) : ivalT (itx n).data.toList = n := (itx_inj (canonR_itx (canonR_itoa n h)).1).symm
theorem RB_right {n d : Int} (hd : 0 < d) (hg : Int.gcd n d = 1) (hn : nz n ≤ 400) (hnd : nz d ≤ 400) : RB (itx n) (itx d) = true := by
  unfold RB rightB
  rw [canonR_itoa n hn, canonR_itoa d hnd, ivalT_itx n hn, ivalT_itx d hnd, decide_eq_true hd, decide_eq_true hg]
  rfl
theorem nzd (n : Int) (k : Nat) (h : n.natAbs < 10 ^ (k + 1)) : nz n ≤ k + 1 := (nz_le_iff n k).2 h
theorem tms_7_12 : tms 7 12 = [0, 1, 1, 2, 2] := by
  rw [tms_step (by decide), show (7 : Int) % 12 = 7 from rfl, tms_step (by decide), show (12 : Int) % 7 = 5 from rfl, tms_step (by decide), show (7 : Int) % 5 = 2 from rfl, tms_step (by decide), show (5 : Int) % 2 = 1 from rfl, tms_step (by decide), tms_stop (by decide)]
  rfl
theorem tms_3_5 : tms 3 5 = [0, 1, 1, 2] := by
  rw [tms_step (by decide), show (3 : Int) % 5 = 3 from rfl, tms_step (by decide), show (5 : Int) % 3 = 2 from rfl, tms_step (by decide), show (3 : Int) % 2 = 1 from rfl, tms_step (by decide), tms_stop (by decide)]
  rfl
theorem path_3_5 : PathV (less (tms 3 5)) = .tuple #[.string ⟨#[76, 82, 76]⟩, .int .i64 0] := by
  rw [tms_3_5]; rfl
theorem best_7_12 : pb 7 12 (semiL half 7 (tms 7 12)) = [(1, 1), (1, 2), (3, 5), (4, 7)] := by
  rw [tms_7_12]; rfl

set_option maxRecDepth 100000 in
set_option maxHeartbeats 4000000 in
/-- schismalaw04.known. -/
theorem known04_any (w : World) (hamb : Amb w) : Calls Tryz.prog 9 #[] w (SmallRes (.bool true) w) := by
  have n7 : nz 7 ≤ 1 := nzd 7 0 (by decide)
  have n12 : nz 12 ≤ 2 := nzd 12 1 (by decide)
  have r1 : RB (itx 7) (itx 12) = true := RB_right (by decide) (by decide) (by omega) (by omega)
  have HM := Lib.hid (fun n d w (h : I62 n ∧ 1 ≤ d ∧ d ≤ 9000000000000000000) => r4make_any n d w h.1 h.2.1 h.2.2)
  have e1 : rv (Rat.divInt 7 12) = .agg #[.string (itx 7), .string (itx 12)] := rv_right (by decide) (by decide)
  have HM1 := Lib.hid (fun w => show Calls Tryz.prog 27 #[.int .i64 7, .int .i64 12] w (SmallRes (.agg #[.string (itx 7), .string (itx 12)]) w) from e1 ▸ HM.out 7 12 w (by unfold I62; decide))
  have HT := Lib.hid (fun w h => show Calls Tryz.prog 28 #[.agg #[.string (itx 7), .string (itx 12)]] w (fun e w' => ∃ v, e = .returned (.tuple #[v, .int .i64 0]) ∧ OwnI w.heap.size w' v [0, 1, 1, 2, 2] ∧ Below w.heap.size w w') from by
    have := Terms_any 7 12 w h (by decide) (by omega) (by omega) r1
    rw [tms_7_12] at this
    exact this)
  have HP := Lib.hid (fun w h => show Calls Tryz.prog 22 #[rv (Rat.divInt 3 5)] w (SmallRes (.tuple #[.string ⟨#[76, 82, 76]⟩, .int .i64 0]) w) from by
    obtain ⟨k1, k2⟩ := rat_of_right (n := 3) (d := 5) (by decide) (by decide)
    have k3 : nz 3 ≤ 1 := nzd 3 0 (by decide)
    have k5 : nz 5 ≤ 1 := nzd 5 0 (by decide)
    have := Path_any (Rat.divInt 3 5) w h (by unfold NQ; rw [k1, k2]; omega) (by rw [k1, k2]; exact RB_right (by decide) (by decide) (by omega) (by omega)) (by rw [k1]; decide)
    rw [k1, k2, path_3_5] at this
    rw [rv_right (by decide) (by decide)]
    exact this)
  have HBS := Lib.hid (fun w h => show Calls Tryz.prog 12 #[.agg #[.string (itx 7), .string (itx 12)], .int .i64 7] w (RRes ([(1, 1), (1, 2), (3, 5), (4, 7)].map tr) 0 w) from by
    have := Best_any 7 12 7 w h (by decide) (by decide) (by omega) (by omega) r1 (by decide) (by decide)
    rw [best_7_12] at this
    exact this)
  have HAMB := Lib.hid hamb
  clear hamb n7 n12 r1 e1
  go_enter Tryz.func9, Tryz.ntmps9
  go_wp2_with fail
  refine (HM1.out w).mono ?_
  rintro e w1 ⟨rfl, hb1⟩
  go_wp2_with fail
  obtain ⟨W, hW⟩ : ∃ W, (w1.alloc (.cells #[.string (itx 7), .string (itx 12)] 24)) = W := ⟨_, rfl⟩
  try rw [hW]
  obtain ⟨hX, hBW⟩ := B1.of hW
  clear hW
  have HX := Lib.hid (fun wz (hb : Below W.heap.size W wz) => hX.later hb)
  have HB := Lib.hid (bel_chain hb1 hBW)
  have HA := Lib.hid (fun wz (hb : Below W.heap.size W wz) => HAMB.out.below (bel_chain HB.out hb))
  clear hX hBW hb1
  refine (HT.out W (HA.out _ (Below.refl _ _))).mono ?_
  rintro e w2 ⟨v1, rfl, hown, hb2⟩
  obtain ⟨A1, c1, rfl, hin1⟩ := hown.ins
  have HJ2 := Lib.hid hin1
  clear hown hin1
  go_wp2_with fail
  refine (HM.out 3 5 w2 (by unfold I62; decide)).mono ?_
  rintro e w3 ⟨rfl, hb3⟩
  have HJ3 := Lib.hid (HJ2.out.below hb3)
  have hz3 := bel_chain hb2 hb3
  clear hb2 hb3 HJ2
  go_wp2_with fail
  refine (HP.out w3 (HA.out _ hz3)).mono ?_
  rintro e w4 ⟨rfl, hb4⟩
  have HJ4 := Lib.hid (HJ3.out.below hb4)
  have hz4 := bel_chain hz3 hb4
  obtain ⟨_, x0, x1, _, _⟩ := HX.out _ hz4
  clear hz3 hb4 HJ3
  go_wp2_with fail
  refine (HBS.out w4 (HA.out _ hz4)).mono ?_
  rintro e w5 ⟨A2, n2, c2, rfl, hin2, hb5⟩
  have HJ5 := Lib.hid (HJ4.out.below hb5)
  have HR5 := Lib.hid hin2
  have HZ5 := Lib.hid (bel_chain hz4 hb5)
  have hn2 : n2 = 4 := by rw [← hin2.1]; rfl
  subst hn2
  clear hz4 hb5 HJ4 hin2 x0 x1
  go_wp2_with fail
  obtain ⟨w6, hw6⟩ : ∃ W, w5.alloc (.cells #[.int .i64 0, .int .i64 1, .int .i64 1, .int .i64 2, .int .i64 2] 3) = W := ⟨_, rfl⟩
  rw [hw6]
  have hb6 : Below w5.heap.size w5 w6 := hw6 ▸ (Below.refl _ _).alloc (Nat.le_refl _) _
  have hZ6 : InZ w6 (some ⟨w5.heap.size, 0, none⟩) 5 5 [0, 1, 1, 2, 2] := (Zc.mk' (n := 5) (cap := 5) (hw6 ▸ heap_alloc_new w5 _) (Nat.le_refl _) (by unfold maxLen; omega) rfl rfl).ins
  have hI : ∀ x ∈ ([0, 1, 1, 2, 2] : List Int), I62 x := by intro x hx; unfold I62; simp only [List.mem_cons, List.not_mem_nil, or_false] at hx; rcases hx with rfl | rfl | rfl | rfl | rfl <;> decide
  clear hw6
  refine (ints4_eq A1 _ 5 c1 5 [0, 1, 1, 2, 2] w6 (HJ5.out.below hb6) hZ6 hI).mono ?_
  rintro e w7 ⟨rfl, hb7⟩
  have HR7 := Lib.hid ((HR5.out.below hb6).below hb7)
  have HZ7 := Lib.hid (bel_chain (bel_chain HZ5.out hb6) hb7)
  clear hb6 hb7 hZ6 hI HR5 HZ5 HJ5
  go_wp2_with fail
  refine (HM.out 1 1 w7 (by unfold I62; decide)).mono ?_
  rintro e w8 ⟨rfl, hb8⟩
  go_wp2_with fail
  refine (HM.out 1 2 w8 (by unfold I62; decide)).mono ?_
  rintro e w9 ⟨rfl, hb9⟩
  go_wp2_with fail
  refine (HM.out 3 5 w9 (by unfold I62; decide)).mono ?_
  rintro e w10 ⟨rfl, hb10⟩
  go_wp2_with fail
  refine (HM.out 4 7 w10 (by unfold I62; decide)).mono ?_
  rintro e w11 ⟨rfl, hb11⟩
  have HZ11 := Lib.hid (bel_chain (bel_chain (bel_chain (bel_chain HZ7.out hb8) hb9) hb10) hb11)
  have HR11 := Lib.hid ((((HR7.out.below hb8).below hb9).below hb10).below hb11)
  clear hb8 hb9 hb10 hb11
  obtain ⟨q1, h1⟩ : ∃ q, Rat.divInt 1 1 = q := ⟨_, rfl⟩
  obtain ⟨q2, h2⟩ : ∃ q, Rat.divInt 1 2 = q := ⟨_, rfl⟩
  obtain ⟨q3, h3⟩ : ∃ q, Rat.divInt 3 5 = q := ⟨_, rfl⟩
  obtain ⟨q4, h4⟩ : ∃ q, Rat.divInt 4 7 = q := ⟨_, rfl⟩
  have HR12 := Lib.hid (show InR4 w11 A2 4 c2 [q1, q2, q3, q4] by rw [← h1, ← h2, ← h3, ← h4]; exact HR11.out)
  rw [h1, h2, h3, h4]
  clear h1 h2 h3 h4 HR11 HM HP
  go_wp2_with fail
  obtain ⟨w12, hw12⟩ : ∃ W, w11.alloc (.cells #[.string (itx q1.num), .string (itx (q1.den : Int)), .string (itx q2.num), .string (itx (q2.den : Int)), .string (itx q3.num), .string (itx (q3.den : Int)), .string (itx q4.num), .string (itx (q4.den : Int))] 24) = W := ⟨_, rfl⟩
  rw [hw12]
  have hb12 : Below w11.heap.size w11 w12 := hw12 ▸ (Below.refl _ _).alloc (Nat.le_refl _) _
  have hR12 : InR4 w12 (some ⟨w11.heap.size, 0, none⟩) 4 4 [q1, q2, q3, q4] := (Rc.mk' (hw12 ▸ heap_alloc_new w11 _) (Nat.le_refl _) (by unfold maxLen; omega) rfl rfl).ins
  clear hw12
  refine (same4_eq A2 _ 4 c2 4 [q1, q2, q3, q4] w12 (HR12.out.below hb12) hR12).mono ?_
  rintro e w13 ⟨rfl, hb13⟩
  have hz13 := bel_chain (bel_chain HZ11.out hb12) hb13
  go_wp2_with fail
  go_ret
  exact ⟨rfl, bel_chain HB.out hz13⟩
end Go.Proofs.YtpafocfpofnkpaaGreatDoor
