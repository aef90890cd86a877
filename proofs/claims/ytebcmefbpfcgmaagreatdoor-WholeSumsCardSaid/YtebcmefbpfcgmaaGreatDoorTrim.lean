/- The walk of the program's trim: it returns the pieces without zeros at the end, for any pieces. -/
import Derived.Test.YtebcmefbpfcgmaaGreatDoorBase
namespace Go.Proofs.YtebcmefbpfcgmaaGreatDoor
open Go.RowKit

theorem trimL_step {xs : List Nat} {k : Nat} (hk : k + 1 ≤ xs.length) (h0 : xs.getD k 0 = 0) : trimL (xs.take (k + 1)) = trimL (xs.take k) := by
  rw [List.take_succ_eq_append_getElem (by omega)]
  rw [List.getD_eq_getElem?_getD, List.getElem?_eq_getElem (by omega)] at h0
  have : xs[k] = 0 := h0
  rw [this, trimL_snoc_zero]
theorem trimL_stop {xs : List Nat} {k : Nat} (hk : k + 1 ≤ xs.length) (h0 : xs.getD k 0 ≠ 0) : (trimL (xs.take (k + 1))).length = k + 1 := by
  rw [List.take_succ_eq_append_getElem (by omega)]
  rw [List.getD_eq_getElem?_getD, List.getElem?_eq_getElem (by omega)] at h0
  have : xs[k] ≠ 0 := h0
  rw [trimL_snoc _ _ this, List.length_append, List.length_take, List.length_singleton]
  omega

/-- (decimal.pieces).trim: without the zeros at the end; the world is as it was. -/
theorem trim_any (g n cap : Nat) (xs : List Nat) (w : World) (h : Pc w g n cap xs) :
    Calls Tryz.prog 57 #[.slice (some ⟨g, 0, none⟩) n cap] w fun e w' => e = .returned (.slice (some ⟨g, 0, none⟩) (trimL xs).length cap) ∧ w = w' := by
  have hn := h.len
  have hcap := h.cap_le
  have hle := h.le
  have HN := Lib.hid hn
  clear hn
  go_enter Tryz.func57, Tryz.ntmps57
  go_wp2
  go_loop [0] (fun v => ∃ k : Nat, k ≤ n ∧ v = .slice (some ⟨g, 0, none⟩) k cap ∧ Hid (trimL (xs.take k) = trimL xs)) (fun v => lenOf v)
  case atStart => exact ⟨n, Nat.le_refl _, rfl, by rw [List.take_of_length_le (by have := HN.out; omega)]; rfl⟩
  case round =>
    obtain ⟨k, hk, rfl, HI⟩ := hrel
    by_cases hk0 : k = 0
    · subst hk0
      go_wp2
      go_ret
      refine ⟨?_, rfl⟩
      have := HI.out
      rw [← this]; rfl
    · obtain ⟨j, rfl⟩ : ∃ j, k = j + 1 := ⟨k - 1, by omega⟩
      have hc := h.cell j (by omega)
      by_cases h0 : xs.getD j 0 = 0
      · rw [h0] at hc
        have H0 := Lib.hid h0
        clear h0
        go_wp2
        go_round
        case rel => exact ⟨j, by omega, rfl, (trimL_step (by have := HN.out; omega) H0.out).symm.trans HI.out⟩
        case measure => simp [lenOf]
      · have h1 : (((xs.getD j 0 : Nat) : Int) == 0) = false := by simpa using h0
        have h2 := trimL_stop (k := j) (xs := xs) (by have := HN.out; omega) h0
        have H2 := Lib.hid h2
        generalize xs.getD j 0 = x at *
        clear h2 h0
        go_wp2
        go_ret
        refine ⟨?_, rfl⟩
        rw [← HI.out, H2.out]; rfl
end Go.Proofs.YtebcmefbpfcgmaaGreatDoor
