/- Greater text, out of: Q2b. -/
import Derived.Test.YtolnojkdalbppaaGreatDoorQ2
namespace Go.Proofs.YtolnojkdalbppaaGreatDoor
open Go.RowKit Go.PlainAid

set_option maxHeartbeats 800000 in
/-- prime.Check. -/
theorem pcheck_any (A : Option Addr) (n cap : Nat) (xs : List Int) (w : World) (h : InZ w A n cap xs) :
    Calls Tryz.prog 32 #[.slice A n cap] w (SmallRes (.int .i64 (chk xs)) w) := by
  have HN := Lib.hid h.1
  have hle := h.2.1
  have hcap := h.2.2.1
  by_cases h0 : n = 0
  · have HC := Lib.hid (chk_nil (xs := xs) (by rw [h.1]; exact h0))
    subst h0
    clear h
    go_enter Tryz.func32, Tryz.ntmps32
    go_wp2_with fail
    go_ret
    exact ⟨by rw [HC.out]; rfl, Below.refl _ _⟩
  by_cases h6 : 6 < n
  · have HC := Lib.hid (chk_long (xs := xs) (by rw [h.1]; exact h6))
    have h6' : 6 < (n : Int) := by omega
    have h0' : ¬ ((n : Int) = 0) := by omega
    clear h
    go_enter Tryz.func32, Tryz.ntmps32
    go_wp2_with fail
    go_ret
    exact ⟨by rw [HC.out]; rfl, Below.refl _ _⟩
  obtain ⟨b, off, rfl, hbl, hc⟩ := h.2.2.2 (by omega)
  have HCS := Lib.hid hc
  have HC := Lib.hid (chk_mid (xs := xs) (by rw [HN.out]; omega) (by rw [HN.out]; omega))
  have h6' : ¬ 6 < (n : Int) := by omega
  have h0' : ¬ ((n : Int) = 0) := by omega
  clear h hc
  go_enter Tryz.func32, Tryz.ntmps32
  go_wp2_with fail
  go_loopw [15] (fun vi wr => ∃ i : Nat, i ≤ n ∧ vi = .int .i64 (i : Int) ∧ Hid (chkFrom xs i = chk xs) ∧ Below w.heap.size w wr) (fun vi _ => n - (intOf vi).toNat)
  case atStart => exact ⟨0, Nat.zero_le _, rfl, Lib.hid HC.out.symm, Below.refl _ _⟩
  case round =>
    obtain ⟨i, hi, rfl, HI, hB⟩ := hrel
    by_cases hin : i = n
    · have HE := Lib.hid (chkFrom_end (xs := xs) (k := i) (by rw [HN.out]; omega))
      subst hin
      have hlt : ¬ (i : Int) < (i : Int) := by omega
      clear h6' h0'
      go_wp2_with fail
      go_ret
      exact ⟨by rw [← HI.out, HE.out]; rfl, hB⟩
    · have hlt : (i : Int) < (n : Int) := by omega
      have HL := Lib.hid (show i < xs.length by rw [HN.out]; omega)
      have hcell := (hB.cell (p := ⟨b, off + i, none⟩) hbl).trans (HCS.out i (by omega))
      obtain ⟨x, hx⟩ : ∃ x, xs.getD i 0 = x := ⟨_, rfl⟩
      rw [hx] at hcell
      have HX := Lib.hid hx
      clear hx
      have HIP := Lib.hid (isprime_any x)
      cases hp : pr x with
      | false =>
        have HE := Lib.hid (chkFrom_pr HL.out (by rw [HX.out]; exact hp))
        rw [hp] at HIP
        clear hp
        go_wp2_with fail
        refine (HIP.out _).mono ?_
        rintro e w1 ⟨rfl, hb1⟩
        have hB1 := bel_chain hB hb1
        clear hB hb1
        go_wp2_with fail
        go_ret
        exact ⟨by rw [← HI.out, HE.out]; rfl, hB1⟩
      | true =>
        rw [hp] at HIP
        by_cases hi0 : i = 0
        · have HE := Lib.hid (chkFrom_step HL.out (by rw [HX.out]; exact hp) (.inl hi0))
          subst hi0
          rw [Nat.add_zero] at hcell
          clear hp
          go_wp2_with fail
          refine (HIP.out _).mono ?_
          rintro e w1 ⟨rfl, hb1⟩
          have hB1 := bel_chain hB hb1
          clear hB hb1
          go_wp2_with fail
          go_roundw
          case rel => exact ⟨1, by omega, by go_num, Lib.hid (HE.out.symm.trans HI.out), hB1⟩
          case measure => simp [intOf]; omega
        · obtain ⟨j, rfl⟩ : ∃ j, i = j + 1 := ⟨i - 1, by omega⟩
          have hji : ((j + 1 : Nat) : Int) - 1 = (j : Int) := by omega
          have hpos : 0 < ((j + 1 : Nat) : Int) := by omega
          have HC2 := Lib.hid (HCS.out j (by omega))
          obtain ⟨y, hy⟩ : ∃ y, xs.getD j 0 = y := ⟨_, rfl⟩
          have HY := Lib.hid hy
          clear hy
          by_cases hxy : x ≤ y
          · have HE := Lib.hid (chkFrom_ord HL.out (by rw [HX.out]; exact hp) (by omega) (by rw [HX.out, Nat.add_sub_cancel, HY.out]; exact hxy))
            clear hp
            go_wp2_with fail
            refine (HIP.out _).mono ?_
            rintro e w1 ⟨rfl, hb1⟩
            have hB1 := bel_chain hB hb1
            have hcell2 := (hB1.cell (p := ⟨b, off + j, none⟩) hbl).trans HC2.out
            rw [HY.out] at hcell2
            clear hB hb1
            go_wp2_with fail
            go_ret
            exact ⟨by rw [← HI.out, HE.out]; rfl, hB1⟩
          · have HE := Lib.hid (chkFrom_step HL.out (by rw [HX.out]; exact hp) (.inr (by rw [HX.out, Nat.add_sub_cancel, HY.out]; omega)))
            clear hp
            go_wp2_with fail
            refine (HIP.out _).mono ?_
            rintro e w1 ⟨rfl, hb1⟩
            have hB1 := bel_chain hB hb1
            have hcell2 := (hB1.cell (p := ⟨b, off + j, none⟩) hbl).trans HC2.out
            rw [HY.out] at hcell2
            clear hB hb1
            go_wp2_with fail
            go_roundw
            case rel => exact ⟨j + 1 + 1, by omega, by go_num, Lib.hid (HE.out.symm.trans HI.out), hB1⟩
            case measure => simp [intOf]; omega
end Go.Proofs.YtolnojkdalbppaaGreatDoor
