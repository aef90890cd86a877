/- The walk of the program's take: it subtracts a multiple in place, for any pieces that fit. -/
import Derived.Test.YtebcmefbpfcgmaaGreatDoorBase
namespace Go.Proofs.YtebcmefbpfcgmaaGreatDoor
open Go.RowKit
/-- What take leaves. -/
def TakePost (g n cap : Nat) (xs ys : List Nat) (m t : Nat) (w : World) (e : Ending) (w' : World) : Prop :=
  Only g w w' ∧ ∃ (c b : Nat) (zs : List Nat), e = .returned (.bool (decide (0 < b))) ∧ TakeAt xs ys m t (ys.length + 1) c b zs ∧ c = 0 ∧ Pc w' g n cap zs
def TakeRel (g n cap : Nat) (xs ys : List Nat) (m t k c b : Nat) (w wr : World) : Prop := Only g w wr ∧ ∃ zs, TakeAt xs ys m t k c b zs ∧ (k = ys.length + 1 → c = 0) ∧ Pc wr g n cap zs

/-- (decimal.pieces).take: takes a multiple of other pieces away, moved by t places; it reports whether it was too much. -/
theorem take_any (g n cap : Nat) (xs : List Nat) (g2 n2 cap2 : Nat) (ys : List Nat) (m t : Nat) (w : World) (hp : Pc w g n cap xs) (hq : Pc w g2 n2 cap2 ys) (hne : g2 ≠ g) (ht : t + n2 < n) (hx : Lims xs) (hy : Lims ys) (hm : m < 1000000000) :
    Calls Tryz.prog 59 #[.slice (some ⟨g, 0, none⟩) n cap, .slice (some ⟨g2, 0, none⟩) n2 cap2, .int .u64 (m : Int), .int .i64 (t : Int)] w (TakePost g n cap xs ys m t w) := by
  have hcap := hp.cap_le
  have hle := hp.le
  have hle2 := hq.le
  have hcap2 := hq.cap_le
  have HL := Lib.hid hp.len
  have HL2 := Lib.hid hq.len
  go_enter Tryz.func59, Tryz.ntmps59
  go_wp2
  go_loopw [9, 10, 11] (fun vb vc vk wr => ∃ k c b : Nat, k ≤ n2 + 1 ∧ c ≤ m ∧ b ≤ 1 ∧ vk = .int .i64 (k : Int) ∧ vc = .int .u64 (c : Int) ∧ vb = .int .i64 (b : Int) ∧ TakeRel g n cap xs ys m t k c b w wr) (fun _ _ vk _ => n2 + 1 - (intOf vk).toNat)
  case atStart => exact ⟨0, 0, 0, by omega, by omega, by omega, rfl, rfl, rfl, Only.refl _ _, xs, TakeAt.start hx, fun h => by omega, hp⟩
  case round =>
    obtain ⟨k, c, b, hk, hc, hb1, rfl, rfl, rfl, ho, zs, hb, hc0, hz⟩ := hrel
    have hz1 := hz.len
    by_cases hk2 : k = n2 + 1
    · subst hk2
      have HB := Lib.hid hb
      have HC := Lib.hid hc0
      clear hb hz1 hc0
      go_wp2
      go_ret
      exact ⟨ho, c, b, zs, rfl, by rw [HL2.out]; exact HB.out, HC.out (by rw [HL2.out]), hz⟩
    · have hzL := Lims_getD hb.lims (t + k)
      have hcell := hz.cell (t + k) (by omega)
      have hfr := hz.free (t + k)
      have hyL := Lims_getD hy k
      have hyn : ¬ k < n2 → ys.getD k 0 = 0 := fun h => by rw [List.getD_eq_getElem?_getD, List.getElem?_eq_none (by have := HL2.out; omega)]; rfl
      have hcell2 : k < n2 → wr.cell? ⟨g2, k, none⟩ = some (.int .u64 ((ys.getD k 0 : Nat) : Int)) := fun h => (ho.Pc hq hne).cell k h
      have hstep := fun (c1 d b' : Nat) => hb.step (by rw [HL.out]; omega) hy c1 d b'
      have hset := fun v => hz.set (t + k) v
      have hbd := take_bound hc hm hyL
      have HS := Lib.hid hstep
      have HT := Lib.hid hset
      have HO := Lib.hid ho
      clear hstep hset hz hb hz1 ho hc0
      generalize zs.getD (t + k) 0 = z at *
      generalize ys.getD k 0 = y at *
      have hnn : (0 : Int) ≤ (m : Int) * (y : Int) := Int.mul_nonneg (by omega) (by omega)
      have hbd' : (c : Int) + (m : Int) * (y : Int) ≤ 999999999999999999 := by
        have : ((c + m * y : Nat) : Int) ≤ 999999999999999999 := by omega
        rwa [Int.natCast_add, Int.natCast_mul] at this
      by_cases hkn : k < n2
      · have hcell3 := hcell2 hkn
        have HCAST := Lib.hid (show ((c + m * y : Nat) : Int) = (c : Int) + (m : Int) * (y : Int) from by rw [Int.natCast_add, Int.natCast_mul])
        clear hcell2 hyn hbd
        by_cases hs : (z : Int) - ((c : Int) + (m : Int) * (y : Int)) % 1000000000 - (b : Int) < 0
        · go_wp2
          go_roundw
          case rel =>
            have hcast := HCAST.out
            have hstep := HS.out (c + m * y) (z - (c + m * y) % 1000000000 - b + 1000000000 : Int).toNat 1 rfl (by omega) (by omega) (by omega)
            refine ⟨k + 1, (c + m * y) / 1000000000, 1, by omega, hstep.carry, by omega, by go_num, ?_, rfl, HO.out.setCell _ _, _, hstep, fun h => ?_, ?_⟩
            · congr 1
            · have := HL2.out; omega
            · have := HT.out (z - (c + m * y) % 1000000000 - b + 1000000000 : Int).toNat
              rw [Int.toNat_of_nonneg (by omega)] at this
              exact this
          case measure => simp [intOf]; omega
        · go_wp2
          go_roundw
          case rel =>
            have hcast := HCAST.out
            have hstep := HS.out (c + m * y) (z - (c + m * y) % 1000000000 - b : Int).toNat 0 rfl (by omega) (by omega) (by omega)
            refine ⟨k + 1, (c + m * y) / 1000000000, 0, by omega, hstep.carry, by omega, by go_num, ?_, rfl, HO.out.setCell _ _, _, hstep, fun h => ?_, ?_⟩
            · congr 1
            · have := HL2.out; omega
            · have := HT.out (z - (c + m * y) % 1000000000 - b : Int).toNat
              rw [Int.toNat_of_nonneg (by omega)] at this
              exact this
          case measure => simp [intOf]; omega
      · have hy0 := Lib.hid (hyn hkn)
        clear hcell2 hyn hbd hbd' hnn
        by_cases hs : (z : Int) - (c : Int) % 1000000000 - (b : Int) < 0
        · go_wp2
          go_roundw
          case rel =>
            have e0 := hy0.out
            subst e0
            have hstep := HS.out (c + m * 0) (z - c - b + 1000000000 : Int).toNat 1 rfl (by omega) (by omega) (by omega)
            have e : (c + m * 0) / 1000000000 = 0 := by omega
            rw [e] at hstep
            refine ⟨k + 1, 0, 1, by omega, by omega, by omega, by go_num, ?_, rfl, HO.out.setCell _ _, _, hstep, fun h => rfl, ?_⟩
            · congr 1; omega
            · have := HT.out (z - c - b + 1000000000 : Int).toNat
              rw [Int.toNat_of_nonneg (by omega)] at this
              have e2 : (c : Int) % 1000000000 = c := by omega
              rw [e2]
              exact this
          case measure => simp [intOf]; omega
        · go_wp2
          go_roundw
          case rel =>
            have e0 := hy0.out
            subst e0
            have hstep := HS.out (c + m * 0) (z - c - b : Int).toNat 0 rfl (by omega) (by omega) (by omega)
            have e : (c + m * 0) / 1000000000 = 0 := by omega
            rw [e] at hstep
            refine ⟨k + 1, 0, 0, by omega, by omega, by omega, by go_num, ?_, rfl, HO.out.setCell _ _, _, hstep, fun h => rfl, ?_⟩
            · congr 1; omega
            · have := HT.out (z - c - b : Int).toNat
              rw [Int.toNat_of_nonneg (by omega)] at this
              have e2 : (c : Int) % 1000000000 = c := by omega
              rw [e2]
              exact this
          case measure => simp [intOf]; omega
end Go.Proofs.YtebcmefbpfcgmaaGreatDoor
