/- Greater text, out of: Q4. -/
import Derived.Test.YtolnojkdalbppaaGreatDoorQ3
import Derived.Test.YtolnojkdalbppaaGreatDoorGd
import Derived.Test.YtolnojkdalbppaaGreatDoorGg
namespace Go.Proofs.YtolnojkdalbppaaGreatDoor
open Go.RowKit Go.PlainAid

theorem fq_nat (a b : Nat) : fq (a : Int) (b : Int) = ((a / b : Nat) : Int) := by unfold fq; rw [if_pos (by omega), Int.natCast_ediv]
theorem fr_nat (a b : Nat) : fr (a : Int) (b : Int) = ((a % b : Nat) : Int) := by unfold fr; rw [if_pos (by omega), Int.natCast_emod]
theorem two_le_four (d : Nat) : (10 : Nat) ^ d ≤ 2 ^ (4 * d) := by
  rw [Nat.pow_mul]
  exact Nat.pow_le_pow_left (by decide) d
theorem tk_bound {p m d : Nat} (hp : 2 ≤ p) (hm : 0 < m) (hd : nz (m : Int) ≤ d) : (tk p m).2 ≤ 4 * d := by
  rw [nz_nat] at hd
  obtain ⟨e1, _, e3⟩ := tk_spec hp m m (Nat.le_refl _) hm
  have h1 : (2 : Nat) ^ (tk p m).2 ≤ p ^ (tk p m).2 := Nat.pow_le_pow_left hp _
  have h2 : p ^ (tk p m).2 * 1 ≤ p ^ (tk p m).2 * (tk p m).1 := Nat.mul_le_mul_left _ e3
  have h3 := Lib.lt_pow_nDigits m
  have h4 : (10 : Nat) ^ Lib.nDigits m ≤ 10 ^ d := Nat.pow_le_pow_right (by decide) hd
  have h5 := two_le_four d
  have h6 : (2 : Nat) ^ (tk p m).2 < 2 ^ (4 * d) := by omega
  exact Nat.le_of_lt ((Nat.pow_lt_pow_iff_right (by decide)).1 h6)
theorem nz_le_nat {a b : Nat} {d : Nat} (h : a ≤ b) (hb : nz (b : Int) ≤ d) : nz (a : Int) ≤ d := nz_le_of (by omega) hb

set_option maxHeartbeats 800000 in
/-- prime.divide. -/
theorem pdivide_any (m p : Nat) (w : World) (hamb : Amb w) (hm : 0 < m) (hp : 2 ≤ p) (hp97 : p ≤ 97) (hd : nz (m : Int) ≤ 90000) :
    Calls Tryz.prog 52 #[.string (itx (m : Int)), .int .i64 (p : Int)] w (SmallRes (.tuple #[.string (itx ((tk p m).1 : Int)), .int .i64 ((tk p m).2 : Int)]) w) := by
  have HOF := Lib.hid (wof_any (p : Int) w hamb (by omega) (by omega))
  have HTB := Lib.hid (tk_bound hp hm hd)
  have HAMB := Lib.hid hamb
  have HZN := Lib.hid (fun r : Nat => fun (h : r ≤ m) => nz_le_nat h hd)
  have HZP := Lib.hid (show nz (p : Int) ≤ 900000 from Nat.le_trans (nz_i64 (by omega) (by omega)) (by omega))
  have HPN := Lib.hid hp
  obtain ⟨T, hT⟩ : ∃ T, tk p m = T := ⟨_, rfl⟩
  rw [hT] at HTB ⊢
  have HT := Lib.hid hT
  clear hamb hd hT
  go_enter Tryz.func52, Tryz.ntmps52
  go_wp2_with fail
  refine HOF.out.mono ?_
  rintro e w1 ⟨rfl, hb1⟩
  go_wp2_with fail
  go_loopw [0, 7] (fun vx vn wr => ∃ r k : Nat, 0 < r ∧ r ≤ m ∧ vx = .string (itx (r : Int)) ∧ vn = .int .i64 (k : Int) ∧ Hid (T = ((tk p r).1, (tk p r).2 + k)) ∧ Below w.heap.size w wr) (fun _ vn _ => 400001 - (intOf vn).toNat)
  case atStart => exact ⟨m, 0, hm, Nat.le_refl _, rfl, rfl, Lib.hid HT.out.symm, hb1⟩
  case round =>
    obtain ⟨r, k, hr, hrm, rfl, rfl, HI, hB⟩ := hrel
    have HB := Lib.hid hB
    have HDM := Lib.hid (fun wz (h : Amb wz) => wdivmod_any (r : Int) (p : Int) wz h (by omega) (Nat.le_trans (HZN.out r hrm) (by omega)) HZP.out)
    rw [fq_nat, fr_nat] at HDM
    have HA := Lib.hid (HAMB.out.below hB)
    clear hB
    by_cases hz : r % p = 0
    · have HS := Lib.hid (tk_step HPN.out hr hz)
      rw [hz, show ((0 : Nat) : Int) = 0 from rfl, itx_lit_zero] at HDM
      have hlt : r / p < r := Nat.div_lt_self hr HPN.out
      have hpos : 0 < r / p := Nat.div_pos (Nat.le_of_dvd hr (Nat.dvd_of_mod_eq_zero hz)) (by omega)
      have hkb : k + 1 ≤ 400000 := by
        have h := HI.out
        rw [HS.out] at h
        have h2 := HTB.out
        rw [h] at h2
        simp only at h2
        omega
      obtain ⟨qq, hqq⟩ : ∃ qq, r / p = qq := ⟨_, rfl⟩
      rw [hqq] at HDM hlt hpos HS
      clear hqq
      go_wp2_with fail
      refine (HDM.out _ HA.out).mono ?_
      rintro e w2 ⟨rfl, hb2⟩
      have HB2 := Lib.hid (bel_chain HB.out hb2)
      clear hb2
      go_wp2_with fail
      go_roundw
      case rel =>
        refine ⟨qq, k + 1, hpos, by omega, rfl, by go_num, Lib.hid ?_, HB2.out⟩
        rw [HI.out, HS.out]
        simp only [Prod.mk.injEq, true_and]
        omega
      case measure => simp [intOf]; omega
    · have HS := Lib.hid (tk_stop hz)
      have h0 := itx_zero_test (z := ((r % p : Nat) : Int)) (by omega)
      obtain ⟨rr, hrr⟩ : ∃ rr, r % p = rr := ⟨_, rfl⟩
      rw [hrr] at HDM h0
      clear hrr
      go_wp2_with fail
      refine (HDM.out _ HA.out).mono ?_
      rintro e w2 ⟨rfl, hb2⟩
      have HB2 := Lib.hid (bel_chain HB.out hb2)
      clear hb2
      go_wp2_with fail
      go_ret2
      refine ⟨?_, HB2.out⟩
      rw [HI.out, HS.out]
      simp
end Go.Proofs.YtolnojkdalbppaaGreatDoor
