/- Greater text, out of: K53. -/
import Derived.Test.YtpafocfpofnkpaaGreatDoorK50
namespace Go.Proofs.YtpafocfpofnkpaaGreatDoor
open Go.RowKit Go.PlainAid
attribute [local go_sem] field_rat0 field_rat1
set_option maxRecDepth 100000 in
set_option maxHeartbeats 8000000 in
/-- schismaref04.Simplest. -/
theorem r4simplest_any (a b x y : Int) (Q : Nat) (P q2 : Int) (w : World) (ha : a.natAbs ≤ 10000000) (hx : x.natAbs ≤ 10000000) (hb0 : 1 ≤ b) (hb : b ≤ 1000) (hy0 : 1 ≤ y) (hy : y ≤ 1000) (hQ0 : 1 ≤ Q) (hQ : Q ≤ 1000)
    (hno : ∀ q : Int, 1 ≤ q → q < (Q : Int) → smpAt a b x y q = none) (hyes : smpAt a b x y (Q : Int) = some (P, q2)) :
    Calls Tryz.prog 20 #[.int .i64 a, .int .i64 b, .int .i64 x, .int .i64 y] w (SmallRes (rv (Rat.divInt P q2)) w) := by
  have HF1 := Lib.hid (fun u w (hu : I62 u) => r4floor_any u b w hu hb0 (by omega))
  have HF2 := Lib.hid (fun u w (hu : I62 u) => r4floor_any u y w hu hy0 (by omega))
  have HPA := Lib.hid (fun q (hq : q.natAbs ≤ 1000) => pr4 (a := a) (b := q) ha hq)
  have HPX := Lib.hid (fun q (hq : q.natAbs ≤ 1000) => pr4 (a := x) (b := q) hx hq)
  have HE1 := Lib.hid (fun u => natAbs_ediv_le u b (by omega))
  have HE2 := Lib.hid (fun u => natAbs_ediv_le u y (by omega))
  have HNO := Lib.hid hno
  have HYES := Lib.hid hyes
  obtain ⟨V, hV⟩ : ∃ V, Rat.divInt P q2 = V := ⟨_, rfl⟩
  have HV := Lib.hid hV
  rw [hV]
  clear hno hyes ha hx hb0 hb hy0 hy hV
  go_enter Tryz.func20, Tryz.ntmps20
  go_wp2_with fail
  obtain ⟨W, hW⟩ : ∃ W, (w.alloc (.cells #[.string ⟨#[]⟩, .string ⟨#[]⟩] 24)) = W := ⟨_, rfl⟩
  try rw [hW]
  obtain ⟨hX, hBW⟩ := B1.of hW
  have HB := Lib.hid hBW
  have HXB := Lib.hid (fun wz (hb : Below W.heap.size W wz) => hX.later hb)
  clear hW hX hBW
  go_loopw [9] (fun vq wr => ∃ k : Nat, k + 1 ≤ Q ∧ vq = .int .i64 ((k : Int) + 1) ∧ Below W.heap.size W wr) (fun vq _ => Q + 1 - (intOf vq).toNat)
  case atStart => exact ⟨0, hQ0, by first | rfl | (simp; done), Below.refl _ _⟩
  case round =>
    obtain ⟨k, hk, rfl, hB⟩ := hrel
    have HBR := Lib.hid hB
    clear hB
    obtain ⟨q, hq⟩ : ∃ q : Int, (k : Int) + 1 = q := ⟨_, rfl⟩
    have HQK := Lib.hid hq
    have hqb : q.natAbs ≤ 1000 := by omega
    rw [hq]
    have m1 := HPA.out q hqb
    have m2 := HPX.out q hqb
    have hw1 : IntKind.i64.wrap (a * q) = a * q := IntWalk.i64_in _ (by omega)
    have hw2 : IntKind.i64.wrap (x * q) = x * q := IntWalk.i64_in _ (by omega)
    have hw3 : IntKind.i64.wrap (-(a * q)) = -(a * q) := IntWalk.i64_in _ (by omega)
    have hw4 : IntKind.i64.wrap (0 - a * q) = -(a * q) := by rw [show 0 - a * q = -(a * q) by omega]; exact hw3
    have hw5 : IntKind.i64.wrap (q + 1) = q + 1 := IntWalk.i64_in _ (by omega)
    have e1 := HE1.out (-(a * q))
    have e2 := HE2.out (x * q)
    have HC1 := Lib.hid (fun w => HF1.out (-(a * q)) w ⟨by omega, by omega⟩)
    have HC2 := Lib.hid (fun w => HF2.out (x * q) w ⟨by omega, by omega⟩)
    have HSM := Lib.hid (show smpAt a b x y q = if x * q / y < -(-(a * q) / b) then none else if -(-(a * q) / b) ≤ 0 ∧ 0 ≤ x * q / y then some (0, 1) else if x * q / y < 0 then some (x * q / y, q) else some (-(-(a * q) / b), q) from rfl)
    obtain ⟨p, hp⟩ : ∃ p, -(a * q) / b = p := ⟨_, rfl⟩
    obtain ⟨l, hl⟩ : ∃ l, x * q / y = l := ⟨_, rfl⟩
    rw [hp] at HC1 e1 HSM
    rw [hl] at HC2 e2 HSM
    obtain ⟨u, hu⟩ : ∃ u, -(a * q) = u := ⟨_, rfl⟩
    have hub : u.natAbs ≤ 10000000000 := by omega
    have hw8 : IntKind.i64.wrap (-(a * q)) = u := by rw [hw3]; exact hu
    rw [hu] at hw3 hw4 HC1
    have hw6 : IntKind.i64.wrap (0 - p) = -p := by rw [show 0 - p = -p by omega]; exact IntWalk.i64_in _ (by omega)
    have hw7 : IntKind.i64.wrap (-p) = -p := IntWalk.i64_in _ (by omega)
    have HBD := Lib.hid (And.intro e1 (And.intro e2 (And.intro m1 (And.intro m2 hqb))))
    clear hp hl hu e1 e2 m1 m2 hq hqb hub
    by_cases hgt : l < -p
    · have hgt2 : -p > l := hgt
      have HN := Lib.hid (show k + 2 ≤ Q by
        refine Decidable.by_contra fun hc => ?_
        have hqq : (Q : Int) = q := by have := HQK.out; omega
        have h1 := HYES.out
        rw [hqq, HSM.out, if_pos hgt] at h1
        cases h1)
      go_wp2_with fail
      refine (HC1.out wr).mono ?_
      rintro e w5 ⟨rfl, hb5⟩
      have hz5 := bel_chain HBR.out hb5
      clear hb5
      go_wp2_with fail
      refine (HC2.out w5).mono ?_
      rintro e w6 ⟨rfl, hb6⟩
      have hz6 := bel_chain hz5 hb6
      clear hb6 hz5
      go_wp2_with fail
      go_roundw
      case rel => exact ⟨k + 1, HN.out, by have hqk := HQK.out; congr 1; omega, hz6⟩
      case measure => have hqk := HQK.out; have hn := HN.out; simp [intOf]; omega
    · have hngt : ¬ -p > l := hgt
      have HQQ := Lib.hid (show (Q : Int) = q by
        refine Decidable.by_contra fun hc => ?_
        have hqk := HQK.out
        have h1 := HNO.out q (by omega) (by omega)
        rw [HSM.out, if_neg hgt] at h1
        split at h1
        · cases h1
        · split at h1 <;> cases h1)
      have HY2 := Lib.hid (show (if -p ≤ 0 ∧ 0 ≤ l then some ((0 : Int), (1 : Int)) else if l < 0 then some (l, q) else some (-p, q)) = some (P, q2) by
        have h1 := HYES.out
        rw [HQQ.out, HSM.out, if_neg hgt] at h1
        exact h1)
      by_cases hp0 : -p ≤ 0
      · by_cases hl0 : 0 ≤ l
        · have hl0' : l ≥ 0 := hl0
          have HR := Lib.hid (show Rat.divInt 0 1 = V by
            have h1 := HY2.out
            rw [if_pos ⟨hp0, hl0⟩] at h1
            have h2 := Option.some.inj h1
            have e1 : (0 : Int) = P := congrArg Prod.fst h2
            have e2 : (1 : Int) = q2 := congrArg Prod.snd h2
            rw [← HV.out, ← e1, ← e2])
          have HM := Lib.hid (fun w => r4make_any 0 1 w ⟨by omega, by omega⟩ (by omega) (by omega))
          rw [HR.out] at HM
          go_wp2_with fail
          refine (HC1.out wr).mono ?_
          rintro e w5 ⟨rfl, hb5⟩
          have hz5 := bel_chain HBR.out hb5
          clear hb5
          go_wp2_with fail
          refine (HC2.out w5).mono ?_
          rintro e w6 ⟨rfl, hb6⟩
          have hz6 := bel_chain hz5 hb6
          clear hb6 hz5
          go_wp2_with fail
          refine (HM.out w6).mono ?_
          rintro e w7 ⟨rfl, hb7⟩
          have hz7 := bel_chain hz6 hb7
          have HL7 := Lib.hid (HXB.out _ hz7)
          obtain ⟨_, c0, c1, f0, f1⟩ := HXB.out _ hz7
          clear hb7 hz6
          go_wp2_with fail
          refine ret_cell rfl rfl (load_rat (g := w.heap.size) (HL7.out.store0 _ _)) rfl ?_
          exact ⟨rfl, ((bel_chain HB.out hz7).setCell (by simp <;> omega) _).setCell (by simp <;> omega) _⟩
        · have hl1 : ¬ l ≥ 0 := hl0
          have hl2 : l < 0 := by omega
          have HR := Lib.hid (show Rat.divInt l q = V by
            have h1 := HY2.out
            rw [if_neg (by omega), if_pos hl2] at h1
            have h2 := Option.some.inj h1
            have e1 : l = P := congrArg Prod.fst h2
            have e2 : q = q2 := congrArg Prod.snd h2
            rw [← HV.out, ← e1, ← e2])
          have HM := Lib.hid (fun w => r4make_any l q w (by have := HBD.out; exact ⟨by omega, by omega⟩) (by have := HQK.out; omega) (by have := HBD.out; omega))
          rw [HR.out] at HM
          go_wp2_with fail
          refine (HC1.out wr).mono ?_
          rintro e w5 ⟨rfl, hb5⟩
          have hz5 := bel_chain HBR.out hb5
          clear hb5
          go_wp2_with fail
          refine (HC2.out w5).mono ?_
          rintro e w6 ⟨rfl, hb6⟩
          have hz6 := bel_chain hz5 hb6
          clear hb6 hz5
          go_wp2_with fail
          refine (HM.out w6).mono ?_
          rintro e w7 ⟨rfl, hb7⟩
          have hz7 := bel_chain hz6 hb7
          have HL7 := Lib.hid (HXB.out _ hz7)
          obtain ⟨_, c0, c1, f0, f1⟩ := HXB.out _ hz7
          clear hb7 hz6
          go_wp2_with fail
          refine ret_cell rfl rfl (load_rat (g := w.heap.size) (HL7.out.store0 _ _)) rfl ?_
          exact ⟨rfl, ((bel_chain HB.out hz7).setCell (by simp <;> omega) _).setCell (by simp <;> omega) _⟩
      · have hl2 : ¬ l < 0 := by omega
        have HR := Lib.hid (show Rat.divInt (-p) q = V by
          have h1 := HY2.out
          rw [if_neg (by omega), if_neg hl2] at h1
          have h2 := Option.some.inj h1
          have e1 : -p = P := congrArg Prod.fst h2
          have e2 : q = q2 := congrArg Prod.snd h2
          rw [← HV.out, ← e1, ← e2])
        have HM := Lib.hid (fun w => r4make_any (-p) q w (by have := HBD.out; exact ⟨by omega, by omega⟩) (by have := HQK.out; omega) (by have := HBD.out; omega))
        rw [HR.out] at HM
        go_wp2_with fail
        refine (HC1.out wr).mono ?_
        rintro e w5 ⟨rfl, hb5⟩
        have hz5 := bel_chain HBR.out hb5
        clear hb5
        go_wp2_with fail
        refine (HC2.out w5).mono ?_
        rintro e w6 ⟨rfl, hb6⟩
        have hz6 := bel_chain hz5 hb6
        clear hb6 hz5
        go_wp2_with fail
        refine (HM.out w6).mono ?_
        rintro e w7 ⟨rfl, hb7⟩
        have hz7 := bel_chain hz6 hb7
        have HL7 := Lib.hid (HXB.out _ hz7)
        obtain ⟨_, c0, c1, f0, f1⟩ := HXB.out _ hz7
        clear hb7 hz6
        go_wp2_with fail
        refine ret_cell rfl rfl (load_rat (g := w.heap.size) (HL7.out.store0 _ _)) rfl ?_
        exact ⟨rfl, ((bel_chain HB.out hz7).setCell (by simp <;> omega) _).setCell (by simp <;> omega) _⟩
end Go.Proofs.YtpafocfpofnkpaaGreatDoor
