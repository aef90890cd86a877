/- The walk of the program's small: quotient and rest of a division by a number up to 1000000000. -/
import Derived.Test.YtebcmefbpfcgmaaGreatDoorTrim
import Derived.Test.YtebcmefbpfcgmaaGreatDoorTimes
namespace Go.Proofs.YtebcmefbpfcgmaaGreatDoor
open Go.RowKit
/-- What small leaves: the quotient's pieces and the rest. -/
def SmallPost (q : List Nat) (r : Nat) (w : World) (e : Ending) (w' : World) : Prop :=
  ∃ g cap, e = .returned (.tuple #[.slice (some ⟨g, 0, none⟩) q.length cap, .int .u64 (r : Int)]) ∧ w.heap.size ≤ g ∧ Pc w' g q.length cap q ∧ Below w.heap.size w w'
def SmallRel (g n : Nat) (xs : List Nat) (m i r : Nat) (w wr : World) : Prop :=
  Below w.heap.size w wr ∧ ∃ o, Pc wr g n n o ∧ Lims o ∧ lv (xs.drop i) = m * lv (o.drop i) + r

/-- (decimal.pieces).small: quotient and rest of a division by one small number. -/
theorem small_any (g n cap : Nat) (xs : List Nat) (m : Nat) (w : World) (hp : Pc w g n cap xs) (hx : Lims xs) (hm : m ≤ 1000000000) (hm0 : 0 < m) (hn : n ≤ 1000000000) :
    Calls Tryz.prog 64 #[.slice (some ⟨g, 0, none⟩) n cap, .int .u64 (m : Int)] w (SmallPost (lims (lv xs / m)) (lv xs % m) w) := by
  have hcap := hp.cap_le
  have hle := hp.le
  have hg := hp.lt
  have HL := Lib.hid hp.len
  have hmk := make_Pc 75 Tryz.underlying75 n n (Nat.le_refl _) (by omega)
  have HM := Lib.hid (Pc.made w n n (Nat.le_refl _) (by omega))
  go_enter Tryz.func64, Tryz.ntmps64
  go_wp2
  clear hmk
  go_loopw [7, 8] (fun vr vi wr => ∃ i r : Nat, i ≤ n ∧ r < m ∧ vi = .int .i64 ((i : Int) - 1) ∧ vr = .int .u64 (r : Int) ∧ SmallRel w.heap.size n xs m i r w wr) (fun _ vi _ => (intOf vi + 1).toNat)
  case atStart =>
    refine ⟨n, 0, Nat.le_refl _, hm0, by go_num, rfl, (Below.refl _ _).alloc (Nat.le_refl _) _, _, HM.out, fun x hx => ?_, ?_⟩
    · rw [List.eq_of_mem_replicate hx]; omega
    · rw [List.drop_of_length_le (by rw [HL.out]; omega), List.drop_of_length_le (by simp)]; simp [lv]
  case round =>
    obtain ⟨i, r, hi, hr, rfl, rfl, hb, o, ho, hoL, hov⟩ := hrel
    have hGn := ho.lt
    obtain ⟨wo, rfl⟩ : ∃ wo : World, wo = wr := ⟨_, rfl⟩
    by_cases hin : i = 0
    · subst hin
      have hend := small_end hr hov
      have hfin : trimL o = lims (lv xs / m) := by rw [trimL_eq o hoL, hend.1]
      have HF := Lib.hid hfin
      have HR := Lib.hid hend.2
      clear hfin hoL hov hend
      go_wp2_with (go_at_call 57; refine (trim_any _ _ _ o _ ho).mono ?_; rintro e w' ⟨rfl, rfl⟩)
      go_ret2
      refine ⟨w.heap.size, n, ?_, Nat.le_refl _, ?_, hb⟩
      · rw [← HF.out, ← HR.out]; rfl
      · have h3 := ho.take (trimL o).length (by rw [trimL_take o, List.length_take, ho.len]; omega)
        rw [← trimL_take o] at h3
        rw [← HF.out]; exact h3
    · obtain ⟨j, rfl⟩ : ∃ j, i = j + 1 := ⟨i - 1, by omega⟩
      have ec : ((j + 1 : Nat) : Int) - 1 = (j : Int) := by omega
      rw [ec]
      have hc1 := (hp.below hb hg).cell j (by omega)
      have hcell := ho.cell j (by omega)
      have hfr := ho.free j
      have hxL := Lims_getD hx j
      have hstep := small_step (n := m) (r := r) (p := xs) (o := o) hm0 (by rw [HL.out]; omega) (by rw [ho.len]; omega) hov
      have hlt := small_lt hr hxL
      have HLt := Lib.hid hlt
      have HS := Lib.hid hstep
      have HSet := Lib.hid (fun v => ho.set j v)
      have HOL := Lib.hid hoL
      have hdm := Nat.mod_lt (r * 1000000000 + xs.getD j 0) hm0
      have HDM := Lib.hid hdm
      clear hstep hov ho hoL hlt hdm ec
      generalize xs.getD j 0 = x at *
      generalize o.getD j 0 = z at *
      go_wp2
      go_roundw
      case rel =>
        refine ⟨j, (r * 1000000000 + x) % m, by omega, HDM.out, rfl, by go_num, hb.setCell (by simp) _, _, ?_, Lims_set HOL.out _ _ HLt.out, HS.out⟩
        have := HSet.out ((r * 1000000000 + x) / m)
        exact this
      case measure => simp [intOf]
end Go.Proofs.YtebcmefbpfcgmaaGreatDoor
