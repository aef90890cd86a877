/- Greater text, out of: K47. -/
import Derived.Test.YtfokdhpccajmbaaGreatDoorK43
namespace Go.Proofs.YtfokdhpccajmbaaGreatDoor
open Go.RowKit Go.PlainAid

theorem cv_at {l : List Int} {j : Nat} {a : Int} (h : l[j]? = some a) : cv (l.drop j) = (a * (cv (l.drop (j + 1))).1 + (cv (l.drop (j + 1))).2, (cv (l.drop (j + 1))).1) := by
  obtain ⟨hl, e⟩ := List.getElem?_eq_some_iff.1 h
  rw [List.drop_eq_getElem_cons hl, e]; rfl
set_option maxRecDepth 100000 in
set_option maxHeartbeats 4000000 in
/-- schismaref04.Value. -/
theorem r4value_any (A : Option Addr) (n cap : Nat) (l : List Int) (w : World) (h : InZ w A n cap l) (hn : 0 < n) (hn2 : n ≤ 1000000)
    (hbd : ∀ j, j ≤ n → (cv (l.drop j)).1.natAbs ≤ 4000000000000000000 ∧ (cv (l.drop j)).2.natAbs ≤ 4000000000000000000) :
    Calls Tryz.prog 50 #[.slice A n cap] w (SmallRes (.tuple #[.int .i64 (cv l).1, .int .i64 (cv l).2]) w) := by
  have HL := Lib.hid h.1
  have hle := h.2.1
  have hcap := h.2.2.1
  obtain ⟨g, off, rfl, hgl, hc⟩ := h.2.2.2 hn
  have HCS := Lib.hid hc
  have HBD := Lib.hid hbd
  obtain ⟨m, rfl⟩ : ∃ m, n = m + 1 := ⟨n - 1, by omega⟩
  have HAT := Lib.hid (fun j (hj : j < m + 1) => show l[j]? = some (l.getD j 0) by rw [List.getD_eq_getElem?_getD, List.getElem?_eq_getElem (by rw [HL.out]; exact hj)]; rfl)
  have hcm := hc m (by omega)
  have HST := Lib.hid (show cv (l.drop m) = (l.getD m 0, 1) by
    rw [cv_at (HAT.out m (by omega)), List.drop_of_length_le (by rw [HL.out]; exact Nat.le_refl _)]; simp [cv])
  obtain ⟨V, hV⟩ : ∃ V, Value.tuple #[.int .i64 (cv l).1, .int .i64 (cv l).2] = V := ⟨_, rfl⟩
  have HV := Lib.hid hV
  rw [hV]
  have hmi : ((m : Int) + 1 - 1) = (m : Int) := by omega
  have hmi2 : ((m : Int) + 1 - 2) = (m : Int) - 1 := by omega
  clear h hc hbd hV
  go_enter Tryz.func50, Tryz.ntmps50
  go_wp2_with fail
  try (go_quiet (fail); go_wp2_with fail)
  go_loopw [4, 5, 6] (fun va vb vi wr => ∃ j : Nat, j ≤ m ∧ vi = .int .i64 ((j : Int) - 1) ∧ va = .int .i64 (cv (l.drop j)).1 ∧ vb = .int .i64 (cv (l.drop j)).2 ∧ Below w.heap.size w wr) (fun _ _ vi _ => (intOf vi + 1).toNat)
  case atStart => exact ⟨m, Nat.le_refl _, by first | rfl | (simp; done) | (congr 1; omega), by rw [HST.out, ← List.getD_eq_getElem?_getD], by rw [HST.out], by first | exact Below.refl _ _ | exact bel_drewN (Below.refl _ _) _⟩
  case round =>
    obtain ⟨j, hj, rfl, rfl, rfl, hB⟩ := hrel
    by_cases h0 : j = 0
    · subst h0
      have hlt : ¬ (0 : Int) ≤ ((0 : Nat) : Int) - 1 := by omega
      have HVV := Lib.hid (show V = .tuple #[.int .i64 (cv (l.drop 0)).1, .int .i64 (cv (l.drop 0)).2] from HV.out.symm)
      go_wp2_with fail
      go_ret2
      rw [HVV.out]
      exact ⟨rfl, hB⟩
    · obtain ⟨k, rfl⟩ : ∃ k, j = k + 1 := ⟨j - 1, by omega⟩
      have hcell := (hB.cell (p := ⟨g, off + k, none⟩) hgl).trans (HCS.out k (by omega))
      have HCV := Lib.hid (cv_at (HAT.out k (by omega)))
      have b1 := HBD.out k (by omega)
      have b2 := HBD.out (k + 1) (by omega)
      rw [HCV.out] at b1
      obtain ⟨a, ha⟩ : ∃ a, l.getD k 0 = a := ⟨_, rfl⟩
      rw [ha] at hcell HCV b1
      obtain ⟨x, hx⟩ : ∃ x, (cv (l.drop (k + 1))).1 = x := ⟨_, rfl⟩
      obtain ⟨y, hy⟩ : ∃ y, (cv (l.drop (k + 1))).2 = y := ⟨_, rfl⟩
      rw [hx, hy] at HCV b1 b2
      simp only at b1
      rw [hx, hy]
      have v1 : IntKind.i64.wrap (a * x) = a * x := IntWalk.i64_in _ (by omega)
      have v2 : IntKind.i64.wrap (a * x + y) = a * x + y := IntWalk.i64_in _ (by omega)
      have hki : (((k + 1 : Nat) : Int) - 1) = (k : Int) := by omega
      rw [hki]
      have hge : (0 : Int) ≤ (k : Int) := by omega
      have hkl : (k : Int) < (m : Int) + 1 := by omega
      clear ha hx hy hki
      go_wp2_with fail
      go_roundw
      case rel => exact ⟨k, by omega, by first | rfl | go_num, by rw [HCV.out], by rw [HCV.out], hB⟩
      case measure => simp [intOf]
end Go.Proofs.YtfokdhpccajmbaaGreatDoor
