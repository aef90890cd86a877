/- The walk of the program's Sum. -/
import Derived.Test.YtebcmefbpfcgmaaGreatDoorW2
import Derived.Test.YtebcmefbpfcgmaaGreatDoorWords2
namespace Go.Proofs.YtebcmefbpfcgmaaGreatDoor
open Go.RowKit Go.PlainAid

def sumZ (zs : List Int) (i : Nat) : Int := (zs.take i).foldl (· + ·) 0
theorem sumZ_zero (zs : List Int) : sumZ zs 0 = 0 := by simp [sumZ]
theorem sumZ_succ (zs : List Int) (i : Nat) (h : i < zs.length) : sumZ zs (i + 1) = sumZ zs i + zs.getD i 0 := by
  unfold sumZ
  rw [List.take_succ_eq_append_getElem h, List.foldl_append, List.getD_eq_getElem?_getD, List.getElem?_eq_getElem h]; rfl
theorem itx_getD (zs : List Int) (i : Nat) (h : i < zs.length) : (zs.map itx).getD i ⟨#[]⟩ = itx (zs.getD i 0) := by
  rw [List.getD_eq_getElem?_getD, List.getElem?_map, List.getD_eq_getElem?_getD, List.getElem?_eq_getElem h]; rfl
set_option maxRecDepth 100000 in
set_option maxHeartbeats 1000000 in
/-- whole.Sum. -/
theorem wsum_any (A : Option Addr) (n cap : Nat) (zs : List Int) (w : World) (hamb : Amb w) (h : Ss w A n cap (zs.map itx)) (hn : n ≤ 1000000) (hz : ∀ i, i ≤ n → nz (sumZ zs i) ≤ 1000000) (hz1 : ∀ i, i < n → nz (zs.getD i 0) ≤ 1000000) :
    Calls Tryz.prog 11 #[.slice A n cap] w (SmallRes (.string (itx (sumZ zs n))) w) := by
  have hlen : zs.length = n := by have := h.len; rwa [List.length_map] at this
  have HLEN := Lib.hid hlen
  have HZ := Lib.hid hz
  have HZ1 := Lib.hid hz1
  have H := Lib.hid h
  have hcap := h.cap_le
  have hle := h.le
  have HL0 := Lib.hid itx_lit_zero
  clear hlen hz hz1 h
  go_enter Tryz.func11, Tryz.ntmps11
  go_wp2_with fail
  go_loopw [3, 8] (fun vs vi wr => ∃ i : Nat, i ≤ n ∧ vi = .int .i64 (i : Int) ∧ vs = .string (itx (sumZ zs i)) ∧ Below w.heap.size w wr) (fun _ vi _ => n - (intOf vi).toNat)
  case atStart => exact ⟨0, Nat.zero_le _, rfl, by rw [sumZ_zero, HL0.out], Below.refl _ _⟩
  case round =>
    obtain ⟨i, hi, rfl, rfl, hB⟩ := hrel
    obtain ⟨wo, rfl⟩ : ∃ wo : World, wo = wr := ⟨_, rfl⟩
    have hA1 := hamb.below hB
    by_cases hin : i = n
    · subst hin
      go_wp2_with fail
      go_ret
      exact ⟨rfl, hB⟩
    · have hin' : i < n := by omega
      obtain ⟨g, rfl, hp⟩ := H.out.at_ hin'
      have hcell := (hp.below hB hp.lt).cell i hin'
      rw [itx_getD zs i (by rw [HLEN.out]; exact hin')] at hcell
      have hzi := HZ.out i hi
      have hz1 := HZ1.out i hin'
      have HS := Lib.hid (sumZ_succ zs i (by rw [HLEN.out]; exact hin'))
      clear hp hin
      generalize zs.getD i 0 = z at *
      go_wp2_with fail
      refine (wadd_any (sumZ zs i) z _ hA1 hzi hz1).mono ?_
      rintro e w2 ⟨rfl, hb2⟩
      rw [← HS.out]
      go_wp2_with fail
      go_roundw
      case rel => exact ⟨i + 1, by omega, by go_num, rfl, bel_chain hB hb2⟩
      case measure => simp [intOf]; omega
end Go.Proofs.YtebcmefbpfcgmaaGreatDoor
