/- Greater text, out of: Q5. -/
import Derived.Test.YtolnojkdalbppaaGreatDoorQ1
import Derived.Test.YtolnojkdalbppaaGreatDoorShelf
import Derived.Test.YtolnojkdalbppaaGreatDoorGb
import Derived.PlainAid
import Derived.Deep.DrawnRows
import Derived.RegionCalls
namespace Go.Proofs.YtolnojkdalbppaaGreatDoor
open Go.RowKit Go.PlainAid

theorem below_drewN (w : World) (q : Nat) : Below w.heap.size w (w.drewN q) := bel_drewN (Below.refl _ _) q
theorem take_len {xs : List Int} {n : Nat} (h : xs.length = n) : xs.take n = xs := List.take_of_length_le (by omega)
theorem InZ.cellsD {w : World} {A : Option Addr} {n cap : Nat} {xs : List Int} (h : InZ w A n cap xs) (h0 : 0 < n) : ∃ b off, A = some ⟨b, off, none⟩ ∧ ∀ j, j < xs.length → w.cell? ⟨b, off + j, none⟩ = some (.int .i64 (xs.getD j 0)) := by
  obtain ⟨b, off, e, _, hc⟩ := h.2.2.2 h0
  exact ⟨b, off, e, fun j hj => hc j (by rw [← h.1]; exact hj)⟩
/-- slices.Equal, at different lengths. -/
theorem equalP_lens (A1 A2 : Option Addr) (n1 c1 n2 c2 : Nat) (w : World) (h : n1 ≠ n2) :
    Calls Tryz.prog 13 #[.slice A1 n1 c1, .slice A2 n2 c2] w (SmallRes (.bool false) w) := by
  have h' : ¬ (n1 : Int) = (n2 : Int) := by omega
  go_enter Tryz.func13, Tryz.ntmps13
  go_wp2_with fail
  go_ret
  exact ⟨rfl, Below.refl _ _⟩
/-- slices.Equal. -/
theorem equalP_any (A1 A2 : Option Addr) (n1 c1 n2 c2 : Nat) (xs ys : List Int) (w : World) (h1 : InZ w A1 n1 c1 xs) (h2 : InZ w A2 n2 c2 ys) :
    Calls Tryz.prog 13 #[.slice A1 n1 c1, .slice A2 n2 c2] w (SmallRes (.bool (xs == ys)) w) := by
  have e1 := h1.1
  have e2 := h2.1
  have b1 : n1 ≤ 9223372036854775807 := by have := h1.2.1; have := h1.2.2.1; omega
  have b2 : n2 ≤ 9223372036854775807 := by have := h2.2.1; have := h2.2.2.1; omega
  by_cases hn : n1 = n2
  · subst hn
    by_cases h0 : n1 = 0
    · subst h0
      obtain rfl := List.length_eq_zero_iff.1 e1
      obtain rfl := List.length_eq_zero_iff.1 e2
      refine (Tryz.slices_Equal_int_empty_f13 A1 A2 c1 0 c2 w (by omega)).mono fun e w' ⟨he, hw⟩ => ⟨he, by rw [hw]; exact Below.refl _ _⟩
    · obtain ⟨p1, o1, rfl, hc1⟩ := h1.cellsD (by omega)
      obtain ⟨p2, o2, rfl, hc2⟩ := h2.cellsD (by omega)
      refine (Tryz.slices_Equal_int_f13 p1 o1 n1 c1 p2 o2 n1 c2 xs ys w (by omega) (by omega) b1 b1 hc1 hc2).mono fun e w' ⟨he, q, hw⟩ => ⟨by rw [he, take_len e1, take_len e2], by rw [hw]; exact below_drewN w q⟩
  · have hf : (xs == ys) = false := by
      rw [beq_eq_false_iff_ne]
      intro e; subst e; omega
    rw [hf]
    exact equalP_lens A1 A2 n1 c1 n2 c2 w hn
/-- slices.Equal, at different lengths. -/
theorem equalR_lens (A1 A2 : Option Addr) (n1 c1 n2 c2 : Nat) (w : World) (h : n1 ≠ n2) :
    Calls Tryz.prog 17 #[.slice A1 n1 c1, .slice A2 n2 c2] w (SmallRes (.bool false) w) := by
  have h' : ¬ (n1 : Int) = (n2 : Int) := by omega
  go_enter Tryz.func17, Tryz.ntmps17
  go_wp2_with fail
  go_ret
  exact ⟨rfl, Below.refl _ _⟩
/-- slices.Equal. -/
theorem equalR_any (A1 A2 : Option Addr) (n1 c1 n2 c2 : Nat) (xs ys : List Int) (w : World) (h1 : InZ w A1 n1 c1 xs) (h2 : InZ w A2 n2 c2 ys) :
    Calls Tryz.prog 17 #[.slice A1 n1 c1, .slice A2 n2 c2] w (SmallRes (.bool (xs == ys)) w) := by
  have e1 := h1.1
  have e2 := h2.1
  have b1 : n1 ≤ 9223372036854775807 := by have := h1.2.1; have := h1.2.2.1; omega
  have b2 : n2 ≤ 9223372036854775807 := by have := h2.2.1; have := h2.2.2.1; omega
  by_cases hn : n1 = n2
  · subst hn
    by_cases h0 : n1 = 0
    · subst h0
      obtain rfl := List.length_eq_zero_iff.1 e1
      obtain rfl := List.length_eq_zero_iff.1 e2
      refine (Tryz.slices_Equal_int_empty_f17 A1 A2 c1 0 c2 w (by omega)).mono fun e w' ⟨he, hw⟩ => ⟨he, by rw [hw]; exact Below.refl _ _⟩
    · obtain ⟨p1, o1, rfl, hc1⟩ := h1.cellsD (by omega)
      obtain ⟨p2, o2, rfl, hc2⟩ := h2.cellsD (by omega)
      refine (Tryz.slices_Equal_int_f17 p1 o1 n1 c1 p2 o2 n1 c2 xs ys w (by omega) (by omega) b1 b1 hc1 hc2).mono fun e w' ⟨he, q, hw⟩ => ⟨by rw [he, take_len e1, take_len e2], by rw [hw]; exact below_drewN w q⟩
  · have hf : (xs == ys) = false := by
      rw [beq_eq_false_iff_ne]
      intro e; subst e; omega
    rw [hf]
    exact equalR_lens A1 A2 n1 c1 n2 c2 w hn
end Go.Proofs.YtolnojkdalbppaaGreatDoor
