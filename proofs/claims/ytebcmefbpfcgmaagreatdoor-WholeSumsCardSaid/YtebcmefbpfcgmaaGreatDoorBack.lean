/- The walk of the program's back: it adds pieces in place, for any pieces that fit. -/
import Derived.Test.YtebcmefbpfcgmaaGreatDoorBase
namespace Go.Proofs.YtebcmefbpfcgmaaGreatDoor
open Go.RowKit
/-- What back leaves. -/
def BackPost (g n cap : Nat) (xs ys : List Nat) (t : Nat) (w : World) (e : Ending) (w' : World) : Prop :=
  e = .returned (.tuple #[]) ∧ Only g w w' ∧ ∃ c zs, BackAt xs ys t (ys.length + 1) c zs ∧ Pc w' g n cap zs
def BackRel (g n cap : Nat) (xs ys : List Nat) (t k c : Nat) (w wr : World) : Prop := Only g w wr ∧ ∃ zs, BackAt xs ys t k c zs ∧ Pc wr g n cap zs

/-- (decimal.pieces).back: adds other pieces, moved by t places. -/
theorem back_any (g n cap : Nat) (xs : List Nat) (g2 n2 cap2 : Nat) (ys : List Nat) (t : Nat) (w : World) (hp : Pc w g n cap xs) (hq : Pc w g2 n2 cap2 ys) (hne : g2 ≠ g) (ht : t + n2 < n) (hx : Lims xs) (hy : Lims ys) :
    Calls Tryz.prog 56 #[.slice (some ⟨g, 0, none⟩) n cap, .slice (some ⟨g2, 0, none⟩) n2 cap2, .int .i64 (t : Int)] w (BackPost g n cap xs ys t w) := by
  have hcap := hp.cap_le
  have hle := hp.le
  have hle2 := hq.le
  have hcap2 := hq.cap_le
  have HL := Lib.hid hp.len
  have HL2 := Lib.hid hq.len
  go_enter Tryz.func56, Tryz.ntmps56
  go_wp2
  go_loopw [6, 7] (fun vc vk wr => ∃ k c : Nat, k ≤ n2 + 1 ∧ c ≤ 1 ∧ vk = .int .i64 (k : Int) ∧ vc = .int .u64 (c : Int) ∧ BackRel g n cap xs ys t k c w wr) (fun _ vk _ => n2 + 1 - (intOf vk).toNat)
  case atStart => exact ⟨0, 0, by omega, by omega, rfl, rfl, Only.refl _ _, xs, BackAt.start hx, hp⟩
  case round =>
    obtain ⟨k, c, hk, hc, rfl, rfl, ho, zs, hb, hz⟩ := hrel
    have hz1 := hz.len
    by_cases hk2 : k = n2 + 1
    · subst hk2
      have HB := Lib.hid hb
      clear hb hz1
      go_wp2
      go_end0
      exact ⟨rfl, ho, c, zs, by rw [HL2.out]; exact HB.out, hz⟩
    · have hzL := Lims_getD hb.lims (t + k)
      have hcell := hz.cell (t + k) (by omega)
      have hfr := hz.free (t + k)
      have hyL := Lims_getD hy k
      have hyn : ¬ k < n2 → ys.getD k 0 = 0 := fun h => by rw [List.getD_eq_getElem?_getD, List.getElem?_eq_none (by have := HL2.out; omega)]; rfl
      have hcell2 : k < n2 → wr.cell? ⟨g2, k, none⟩ = some (.int .u64 ((ys.getD k 0 : Nat) : Int)) := fun h => (ho.Pc hq hne).cell k h
      have hstep := hb.step (by rw [HL.out]; omega) hy _ rfl
      have hset := fun v => hz.set (t + k) v
      have HS := Lib.hid hstep
      have HT := Lib.hid hset
      have HO := Lib.hid ho
      clear hstep hset hz hb hz1 ho
      generalize zs.getD (t + k) 0 = z at *
      generalize ys.getD k 0 = y at *
      by_cases hkn : k < n2
      · have hcell3 := hcell2 hkn
        clear hcell2 hyn
        go_wp2
        go_roundw
        case rel =>
          refine ⟨k + 1, (c + z + y) / 1000000000, by omega, by omega, by go_num, ?_, HO.out.setCell _ _, zs.set (t + k) ((c + z + y) % 1000000000), HS.out, ?_⟩
          · congr 1
          · exact HT.out _
        case measure => simp [intOf]; omega
      · have hy0 := Lib.hid (hyn hkn)
        clear hcell2 hyn
        go_wp2
        go_roundw
        case rel =>
          have e0 := hy0.out
          refine ⟨k + 1, (c + z) / 1000000000, by omega, by omega, by go_num, ?_, HO.out.setCell _ _, zs.set (t + k) ((c + z) % 1000000000), ?_, ?_⟩
          · congr 1
          · have := HS.out; rw [e0, Nat.add_zero] at this; exact this
          · exact HT.out _
        case measure => simp [intOf]; omega
end Go.Proofs.YtebcmefbpfcgmaaGreatDoor
