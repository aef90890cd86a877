/- Greater text, out of: Q2. -/
import Derived.Test.YtolnojkdalbppaaGreatDoorQ0b
import Derived.Test.YtolnojkdalbppaaGreatDoorQ1
import Derived.Test.YtolnojkdalbppaaGreatDoorGb
import Derived.PlainAid
import Derived.Deep.DrawnRows
import Derived.RegionCalls
namespace Go.Proofs.YtolnojkdalbppaaGreatDoor
open Go.RowKit Go.PlainAid

set_option maxHeartbeats 400000 in
/-- prime.IsPrime. -/
theorem isprime_any (n : Int) (w : World) :
    Calls Tryz.prog 18 #[.int .i64 n] w (SmallRes (.bool (pr n)) w) := by
  by_cases hl : n < 2
  · have HP := Lib.hid (pr_low hl)
    go_enter Tryz.func18, Tryz.ntmps18
    go_wp2_with fail
    go_ret
    exact ⟨by rw [HP.out]; rfl, Below.refl _ _⟩
  by_cases hh : 97 < n
  · have HP := Lib.hid (pr_high hh)
    go_enter Tryz.func18, Tryz.ntmps18
    go_wp2_with fail
    go_ret
    exact ⟨by rw [HP.out]; rfl, Below.refl _ _⟩
  obtain ⟨m, rfl⟩ : ∃ m : Nat, n = (m : Int) := ⟨n.toNat, by omega⟩
  go_enter Tryz.func18, Tryz.ntmps18
  go_wp2_with fail
  go_loopw [3] (fun vd wr => ∃ d : Nat, 2 ≤ d ∧ d ≤ 10 ∧ vd = .int .i64 (d : Int) ∧ Hid (∀ e, 2 ≤ e → e < d → m % e ≠ 0) ∧ Below w.heap.size w wr) (fun vd _ => 100 - (intOf vd).toNat)
  case atStart => exact ⟨2, by omega, by omega, rfl, Lib.hid (fun e h1 h2 => by omega), Below.refl _ _⟩
  case round =>
    obtain ⟨d, h2, h10, rfl, HD, hB⟩ := hrel
    have hm0 : 0 ≤ (d : Int) * (d : Int) := Int.mul_nonneg (by omega) (by omega)
    have hm1 : (d : Int) * (d : Int) ≤ 100 := by
      have h := Nat.mul_le_mul h10 h10
      have e : ((d * d : Nat) : Int) = (d : Int) * (d : Int) := Int.natCast_mul d d
      omega
    by_cases hdd : m < d * d
    · have HP := Lib.hid (pr_yes (k := d) (by omega) (by omega) hdd HD.out)
      have hlt : ¬ ((d : Int) * (d : Int) ≤ (m : Int)) := by
        have e : ((d * d : Nat) : Int) = (d : Int) * (d : Int) := Int.natCast_mul d d
        omega
      go_wp2_with fail
      go_ret
      exact ⟨by rw [HP.out]; rfl, hB⟩
    · have hlt : (d : Int) * (d : Int) ≤ (m : Int) := by
        have e : ((d * d : Nat) : Int) = (d : Int) * (d : Int) := Int.natCast_mul d d
        omega
      have hd9 : d ≤ 9 := by
        rcases Nat.lt_or_ge 9 d with h | h
        · have := Nat.mul_le_mul h h; omega
        · exact h
      have hte : (m : Int).tmod (d : Int) = ((m % d : Nat) : Int) := by rw [Int.tmod_eq_emod_of_nonneg (by omega), Int.natCast_emod]
      have hd0 : ¬ ((d : Int) = 0) := by omega
      by_cases hz : m % d = 0
      · have HP := Lib.hid (pr_no_sq (n := m) (by omega) h2 (by omega) hz)
        rw [hz] at hte
        go_wp2_with fail
        go_ret
        exact ⟨by rw [HP.out]; rfl, hB⟩
      · have HDD := Lib.hid (show ∀ e, 2 ≤ e → e < d + 1 → m % e ≠ 0 from fun e h1 h3 => by
          by_cases ee : e = d
          · subst ee; exact hz
          · exact HD.out e h1 (by omega))
        have hnz : ¬ (((m % d : Nat) : Int) = 0) := by omega
        generalize ((m % d : Nat) : Int) = r at hte hnz
        go_wp2_with fail
        go_roundw
        case rel => exact ⟨d + 1, by omega, by omega, by go_num, HDD, hB⟩
        case measure => simp [intOf]; omega

set_option maxHeartbeats 400000 in
/-- schismalaw11.isPrime. -/
theorem lisprime_any (n : Int) (w : World) :
    Calls Tryz.prog 35 #[.int .i64 n] w (SmallRes (.bool (pr n)) w) := by
  by_cases hl : n < 2
  · have HP := Lib.hid (pr_low hl)
    go_enter Tryz.func35, Tryz.ntmps35
    go_wp2_with fail
    go_ret
    exact ⟨by rw [HP.out]; rfl, Below.refl _ _⟩
  by_cases hh : 97 < n
  · have HP := Lib.hid (pr_high hh)
    go_enter Tryz.func35, Tryz.ntmps35
    go_wp2_with fail
    go_ret
    exact ⟨by rw [HP.out]; rfl, Below.refl _ _⟩
  obtain ⟨m, rfl⟩ : ∃ m : Nat, n = (m : Int) := ⟨n.toNat, by omega⟩
  go_enter Tryz.func35, Tryz.ntmps35
  go_wp2_with fail
  go_loopw [3] (fun vd wr => ∃ d : Nat, 2 ≤ d ∧ d ≤ m ∧ vd = .int .i64 (d : Int) ∧ Hid (∀ e, 2 ≤ e → e < d → m % e ≠ 0) ∧ Below w.heap.size w wr) (fun vd _ => 100 - (intOf vd).toNat)
  case atStart => exact ⟨2, by omega, by omega, rfl, Lib.hid (fun e h1 h2 => by omega), Below.refl _ _⟩
  case round =>
    obtain ⟨d, h2, hdm, rfl, HD, hB⟩ := hrel
    by_cases hdd : d = m
    · subst hdd
      have HP := Lib.hid (pr_yes (k := d) (by omega) (by omega) (by
        have h : 2 * d ≤ d * d := Nat.mul_le_mul_right d h2
        omega) HD.out)
      have hlt : ¬ ((d : Int) < (d : Int)) := by omega
      go_wp2_with fail
      go_ret
      exact ⟨by rw [HP.out]; rfl, hB⟩
    · have hlt : (d : Int) < (m : Int) := by omega
      have hte : (m : Int).tmod (d : Int) = ((m % d : Nat) : Int) := by rw [Int.tmod_eq_emod_of_nonneg (by omega), Int.natCast_emod]
      have hd0 : ¬ ((d : Int) = 0) := by omega
      by_cases hz : m % d = 0
      · have HP := Lib.hid (pr_no (n := m) (by omega) h2 (by omega) hz)
        rw [hz] at hte
        go_wp2_with fail
        go_ret
        exact ⟨by rw [HP.out]; rfl, hB⟩
      · have HDD := Lib.hid (show ∀ e, 2 ≤ e → e < d + 1 → m % e ≠ 0 from fun e h1 h3 => by
          by_cases ee : e = d
          · subst ee; exact hz
          · exact HD.out e h1 (by omega))
        have hnz : ¬ (((m % d : Nat) : Int) = 0) := by omega
        generalize ((m % d : Nat) : Int) = r at hte hnz
        go_wp2_with fail
        go_roundw
        case rel => exact ⟨d + 1, by omega, by omega, by go_num, HDD, hB⟩
        case measure => simp [intOf]; omega
end Go.Proofs.YtolnojkdalbppaaGreatDoor
