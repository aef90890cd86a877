/- The walk of the program's scaled: pieces times a small number. -/
import Derived.Test.YtebcmefbpfcgmaaGreatDoorTimes
namespace Go.Proofs.YtebcmefbpfcgmaaGreatDoor
open Go.RowKit
theorem NewPc.base {r : List Nat} {w W w' : World} {e : Ending} (h : NewPc r W e w') (hb : Below w.heap.size w W) : NewPc r w e w' := by
  obtain ⟨g, cap, he, hg, hp, hB⟩ := h
  exact ⟨g, cap, he, Nat.le_trans hb.size hg, hp, hb.trans (hB.mono hb.size)⟩
theorem lims_one (m : Nat) (hm : m < 1000000000) : trimL [m] = lims m := by rw [trimL_eq [m] (by intro x hx; rw [List.mem_singleton.1 hx]; exact hm), lv_one]
/-- (decimal.pieces).scaled: times a small number. -/
theorem scaled_any (g n cap : Nat) (xs : List Nat) (m : Nat) (w : World) (hp : Pc w g n cap xs) (hx : Lims xs) (hm : m < 1000000000) (hn : n ≤ 100000000) :
    Calls Tryz.prog 80 #[.slice (some ⟨g, 0, none⟩) n cap, .int .u64 (m : Int)] w (NewPc (lims (lv xs * m)) w) := by
  have hone := Pc.one w m
  have hal := hp.alloc (.cells #[.int .u64 (m : Int)] 70)
  have HT := Lib.hid (hone.take (trimL [m]).length (by rw [lims_one m hm]; exact (lims_len_le m 1).2 (by omega)))
  have hlen : (trimL [m]).length ≤ 1 := by rw [lims_one m hm]; exact (lims_len_le m 1).2 (by omega)
  have HLM := Lib.hid (lims_one m hm)
  go_enter Tryz.func80, Tryz.ntmps80
  go_wp2_with fail
  refine (trim_any _ _ _ [m] _ hone).mono ?_
  rintro e w' ⟨rfl, rfl⟩
  have hT := HT.out
  rw [← trimL_take] at hT
  go_wp2_with fail
  refine (times_any _ _ _ xs _ _ _ (trimL [m]) _ hal hT hx (by rw [HLM.out]; exact Lims_lims m) (by omega)).mono ?_
  rintro e w' ⟨g2, cap2, rfl, hg2, hp2, hb2⟩
  rw [HLM.out, lv_lims] at hp2 ⊢
  go_wp2
  go_ret
  refine NewPc.base (W := w.alloc (.cells #[.int .u64 (m : Int)] 70)) ⟨g2, cap2, rfl, hg2, hp2, hb2⟩ ((Below.refl _ _).alloc (Nat.le_refl _) _)
end Go.Proofs.YtebcmefbpfcgmaaGreatDoor
