/- The walk of the program's times: the product's pieces, for pieces of at most 1000000000 together. -/
import Derived.Test.YtebcmefbpfcgmaaGreatDoorTrim
namespace Go.Proofs.YtebcmefbpfcgmaaGreatDoor
open Go.RowKit
def TimesRow (g m : Nat) (xs ys : List Nat) (i : Nat) (w wr : World) : Prop :=
  Below w.heap.size w wr ∧ ∃ o, Pc wr g m m o ∧ Lims o ∧ lv o = lv (xs.take i) * lv ys ∧ ∀ j, i + ys.length ≤ j → o.getD j 0 = 0
def TimesIn (g m : Nat) (ys : List Nat) (v0 i a k c : Nat) (w wr : World) : Prop := Below w.heap.size w wr ∧ ∃ o, Pc wr g m m o ∧ TimesAt v0 i a ys k c o

/-- (decimal.pieces).times: the product. -/
theorem times_any (g1 n1 cap1 : Nat) (xs : List Nat) (g2 n2 cap2 : Nat) (ys : List Nat) (w : World) (hp : Pc w g1 n1 cap1 xs) (hq : Pc w g2 n2 cap2 ys) (hx : Lims xs) (hy : Lims ys) (hn : n1 + n2 ≤ 1000000000) :
    Calls Tryz.prog 61 #[.slice (some ⟨g1, 0, none⟩) n1 cap1, .slice (some ⟨g2, 0, none⟩) n2 cap2] w (NewPc (lims (lv xs * lv ys)) w) := by
  have hcap := hp.cap_le
  have hle := hp.le
  have hle2 := hq.le
  have hcap2 := hq.cap_le
  have hg1 := hp.lt
  have hg2 := hq.lt
  have HL := Lib.hid hp.len
  have HL2 := Lib.hid hq.len
  have hmk := make_Pc 75 Tryz.underlying75 (n1 + n2) (n1 + n2) (Nat.le_refl _) (by omega)
  rw [Int.natCast_add] at hmk
  have hmade := Pc.made w (n1 + n2) (n1 + n2) (Nat.le_refl _) (by omega)
  have HM := Lib.hid hmade
  clear hmade
  go_enter Tryz.func61, Tryz.ntmps61
  go_wp2
  clear hmk
  go_loopw [19] (fun vi wr => ∃ i : Nat, i ≤ n1 ∧ vi = .int .i64 (i : Int) ∧ TimesRow w.heap.size (n1 + n2) xs ys i w wr) (fun vi _ => n1 - (intOf vi).toNat)
  case atStart =>
    refine ⟨0, by omega, rfl, (Below.refl _ _).alloc (Nat.le_refl _) _, _, HM.out, fun x hx => ?_, ?_, fun j _ => ?_⟩
    · rw [List.eq_of_mem_replicate hx]; omega
    · rw [lv_zeros]; simp [lv]
    · rw [List.getD_eq_getElem?_getD, List.getElem?_replicate]; split <;> rfl
  case round =>
    obtain ⟨i, hi, rfl, hb, o, ho, hoL, hov, hoz⟩ := hrel
    have hGn := ho.lt
    obtain ⟨wo, rfl⟩ : ∃ wo : World, wo = wr := ⟨_, rfl⟩
    by_cases hin : i = n1
    · subst hin
      have hfin : trimL o = lims (lv xs * lv ys) := by rw [trimL_eq o hoL, hov, List.take_of_length_le (by rw [HL.out]; omega)]
      have HF := Lib.hid hfin
      clear hfin hoL hov hoz
      go_wp2_with (go_at_call 57; refine (trim_any _ _ _ o _ ho).mono ?_; rintro e w' ⟨rfl, rfl⟩)
      go_ret
      refine ⟨w.heap.size, i + n2, ?_, Nat.le_refl _, ?_, hb⟩
      · rw [← HF.out]; rfl
      · have h3 := ho.take (trimL o).length (by rw [trimL_take o, List.length_take, ho.len]; omega)
        rw [← trimL_take o] at h3
        rw [← HF.out]; exact h3
    · have hin' : i < n1 := by omega
      have hc1 := (hp.below hb hg1).cell i hin'
      have hstart := TimesAt.start (i := i) (a := xs.getD i 0) (q := ys) hoL hoz
      have HS := Lib.hid hstart
      have hrow := times_row (p := xs) (q := ys) (i := i)
      rw [← hov] at hrow
      have HR := Lib.hid hrow
      have ha := Lims_getD hx i
      have HOL := Lib.hid (And.intro hoL (And.intro hov hoz))
      clear hstart hrow hoL hov hoz
      generalize xs.getD i 0 = a at *
      go_wp2
      go_loopw [8, 26] (fun vc vk wr => ∃ k c : Nat, k ≤ n2 ∧ c < 1000000000 ∧ vk = .int .i64 (k : Int) ∧ vc = .int .u64 (c : Int) ∧ TimesIn w.heap.size (n1 + n2) ys (lv o) i a k c w wr) (fun _ vk _ => n2 - (intOf vk).toNat)
      case atStart => exact ⟨0, 0, by omega, by omega, rfl, rfl, hb, o, ho, HS.out⟩
      case round =>
        obtain ⟨k, c, hk, hcc, rfl, rfl, hb2, o2, ho2, hT⟩ := hrel
        by_cases hkn : k = n2
        · subst hkn
          have hlen2 := ho2.len
          have HT := Lib.hid hT
          have hfr := ho2.free (i + k)
          have hcell := ho2.cell (i + k) (by omega)
          have HP2 := Lib.hid ho2
          clear hT hlen2 ho2
          go_wp2
          go_roundw
          case rel =>
            have hT := HT.out
            have e1 := HL2.out
            subst e1
            have hf := hT.finish (by have := HP2.out.len; omega)
            refine ⟨i + 1, by omega, by go_num, hb2.setCell (by simp) _, o2.set (i + ys.length) c, HP2.out.set _ _, hf.2.1, ?_, hf.2.2⟩
            rw [hf.1, HR.out]
          case measure => simp [intOf]; omega
        · have hkn' : k < n2 := by omega
          have hc2 := (hq.below hb2 hg2).cell k hkn'
          have hcell := ho2.cell (i + k) (by omega)
          have hfr := ho2.free (i + k)
          have hyL := Lims_getD hy k
          have hzL := Lims_getD hT.lims (i + k)
          have hstep := hT.step (by rw [HL2.out]; exact hkn') (by rw [ho2.len]; omega) ha hy
          have hset := fun v => ho2.set (i + k) v
          have hbd := times_bound ha hyL hcc hzL
          have HS := Lib.hid hstep
          have HSet := Lib.hid hset
          clear hstep hset hT ho2
          generalize ys.getD k 0 = y at *
          generalize o2.getD (i + k) 0 = z at *
          have hnn : (0 : Int) ≤ (a : Int) * (y : Int) := Int.mul_nonneg (by omega) (by omega)
          have hbd' : (c : Int) + ((z : Int) + (a : Int) * (y : Int)) ≤ 999999999999999999 := by
            have : ((c + (z + a * y) : Nat) : Int) ≤ 999999999999999999 := by omega
            rwa [Int.natCast_add, Int.natCast_add, Int.natCast_mul] at this
          have HCAST := Lib.hid (show ((c + (z + a * y) : Nat) : Int) = (c : Int) + ((z : Int) + (a : Int) * (y : Int)) from by rw [Int.natCast_add, Int.natCast_add, Int.natCast_mul])
          clear hbd
          go_wp2
          go_roundw
          case rel =>
            have hcast := HCAST.out
            have hstep := HS.out
            refine ⟨k + 1, (c + (z + a * y)) / 1000000000, by omega, hstep.carry, by go_num, ?_, hb2.setCell (by simp) _, _, ?_, hstep⟩
            · congr 1
            · have := HSet.out ((c + (z + a * y)) % 1000000000)
              exact this
          case measure => simp [intOf]; omega
end Go.Proofs.YtebcmefbpfcgmaaGreatDoor
