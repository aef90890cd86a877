/- The walk of slices.Reverse at bytes, for any row of the call's own. -/
import Derived.Test.YtebcmefbpfcgmaaGreatDoorBase
namespace Go.Proofs.YtebcmefbpfcgmaaGreatDoor
open Go.RowKit

/-- k bytes at each end have been exchanged. -/
def RevAt (l : List UInt8) (n k : Nat) (m : List UInt8) : Prop := m.length = n ∧ ∀ t, t < n → m.getD t 0 = if t < k ∨ n ≤ t + k then l.getD (n - 1 - t) 0 else l.getD t 0
theorem RevAt.start (l : List UInt8) : RevAt l l.length 0 l := ⟨rfl, fun t ht => by rw [if_neg (by omega)]⟩
theorem getD_set8 (m : List UInt8) (i t : Nat) (x : UInt8) (hi : i < m.length) : (m.set i x).getD t 0 = if t = i then x else m.getD t 0 := by
  rw [List.getD_eq_getElem?_getD, List.getElem?_set, List.getD_eq_getElem?_getD]
  by_cases h : i = t
  · subst h; rw [if_pos rfl, if_pos hi, if_pos rfl]; rfl
  · rw [if_neg h, if_neg (Ne.symm h)]
theorem RevAt.step {l m : List UInt8} {n k j : Nat} (h : RevAt l n k m) (hj : n = k + j + 1) (hk : k < j) : RevAt l n (k + 1) ((m.set k (m.getD j 0)).set j (m.getD k 0)) := by
  have h1 := h.1
  refine ⟨by simp [h1], fun t ht => ?_⟩
  rw [getD_set8 _ _ _ _ (by simp; omega), getD_set8 _ _ _ _ (by omega), h.2 j (by omega), h.2 k (by omega), h.2 t ht]
  by_cases e1 : t = j
  · subst e1; rw [if_pos rfl, if_neg (by omega), if_pos (by omega), show n - 1 - t = k by omega]
  · rw [if_neg e1]
    by_cases e2 : t = k
    · subst e2; rw [if_pos rfl, if_neg (by omega), if_pos (by omega), show n - 1 - t = j by omega]
    · rw [if_neg e2]
      by_cases e3 : t < k ∨ n ≤ t + k
      · rw [if_pos e3, if_pos (by omega)]
      · rw [if_neg e3, if_neg (by omega)]
theorem RevAt.end_ {l m : List UInt8} {n k : Nat} (h : RevAt l n k m) (hl : l.length = n) (hk : n ≤ k + k + 1) : m = l.reverse := by
  apply List.ext_getElem?
  intro t
  have h1 := h.1
  by_cases ht : t < n
  · have h2 := h.2 t ht
    rw [List.getD_eq_getElem?_getD, List.getElem?_eq_getElem (by omega)] at h2
    rw [List.getElem?_reverse (by omega), List.getElem?_eq_getElem (by omega), List.getElem?_eq_getElem (by omega)]
    have h3 : m[t] = (l.getD (n - 1 - t) 0) := by
      have h2' : m[t] = _ := h2
      rw [h2']
      by_cases e : t < k ∨ n ≤ t + k
      · rw [if_pos e]
      · rw [if_neg e, show n - 1 - t = t by omega]
    rw [h3, List.getD_eq_getElem?_getD, List.getElem?_eq_getElem (by omega)]
    simp [hl]
  · rw [List.getElem?_eq_none (by omega), List.getElem?_eq_none (by simp; omega)]

def RevPost (g n cap : Nat) (l : List UInt8) (w : World) (e : Ending) (w' : World) : Prop := e = .returned (.tuple #[]) ∧ Only g w w' ∧ Bc w' g n cap l.reverse
def RevRel (g n cap : Nat) (l : List UInt8) (k : Nat) (w wr : World) : Prop := Only g w wr ∧ ∃ m, RevAt l n k m ∧ Bc wr g n cap m

/-- slices.Reverse of bytes. -/
theorem rev_any (g n cap : Nat) (l : List UInt8) (w : World) (hp : Bc w g n cap l) :
    Calls Tryz.prog 78 #[.slice (some ⟨g, 0, none⟩) n cap] w (RevPost g n cap l w) := by
  have hcap := hp.cap_le
  have hle := hp.le
  have HL := Lib.hid hp.len
  go_enter Tryz.func78, Tryz.ntmps78
  go_wp2
  go_loopw [2, 3] (fun vi vj wr => ∃ k : Nat, k + k ≤ n + 1 ∧ vi = .int .i64 (k : Int) ∧ vj = .int .i64 ((n : Int) - 1 - (k : Int)) ∧ RevRel g n cap l k w wr) (fun vi _ _ => n - (intOf vi).toNat)
  case atStart => exact ⟨0, by omega, rfl, by congr 1; omega, Only.refl _ _, l, by rw [← HL.out]; exact RevAt.start l, hp⟩
  case round =>
    obtain ⟨k, hk, rfl, rfl, ho, m, hm, hb⟩ := hrel
    by_cases hlt : (k : Int) < (n : Int) - 1 - (k : Int)
    · obtain ⟨j, hj⟩ : ∃ j : Nat, n = k + j + 1 := ⟨n - 1 - k, by omega⟩
      have ej : (n : Int) - 1 - (k : Int) = (j : Int) := by omega
      rw [ej]
      have hkj : k < j := by omega
      have hc1 := hb.cell k (by omega)
      have hc2 := hb.cell j (by omega)
      have hf1 := hb.free k
      have hf2 := hb.free j
      have HS := Lib.hid (hm.step hj hkj)
      have HSet := Lib.hid ((hb.set k (m.getD j 0)).set j (m.getD k 0))
      have hb1 : (k : Int) < (n : Int) := by omega
      have hb2 : (j : Int) < (n : Int) := by omega
      have HJ := Lib.hid hj
      clear hj ej hm hb hlt
      generalize (m.getD k 0).toNat = x at *
      generalize (m.getD j 0).toNat = y at *
      go_wp2
      go_region
      all_goals go_wp2
      have h1 := HJ.out
      refine ⟨⟨k + 1, by omega, by go_num, by congr 1; omega, (((ho.setCell _ _).setCell _ _).drew), _, HS.out, HSet.out.drew⟩, by simp [intOf]; omega⟩
    · have HR := Lib.hid hm
      clear hm
      go_wp2
      go_end0
      refine ⟨rfl, ho, ?_⟩
      rw [← HR.out.end_ HL.out (by omega)]; exact hb
end Go.Proofs.YtebcmefbpfcgmaaGreatDoor
