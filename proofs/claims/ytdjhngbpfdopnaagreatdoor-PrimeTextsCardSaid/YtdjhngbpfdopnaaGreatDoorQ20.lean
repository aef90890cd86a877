/- Greater text, out of: Q20. -/
import Derived.Test.YtdjhngbpfdopnaaGreatDoorQ19
namespace Go.Proofs.YtdjhngbpfdopnaaGreatDoor
open Go.RowKit Go.PlainAid

/-- A piece is the canonical text of a number up to 999. -/
def Pcv (t : ByteArray) (v : Int) : Prop := Lib.atoiAll t.data.toList = .ok v ∧ 0 ≤ v ∧ v ≤ 999 ∧ itx v = t
theorem Pcv.one {t : ByteArray} {v u : Int} (h : Pcv t v) (h2 : Pcv t u) : v = u := by
  have := h.1.symm.trans h2.1
  injection this
/-- The first i pieces are these numbers. -/
def Pcs (l : List ByteArray) (i : Nat) (xs : List Int) : Prop := xs.length = i ∧ ∀ j, j < i → Pcv (l.getD j ⟨#[]⟩) (xs.getD j 0)
theorem Pcs.zero (l : List ByteArray) : Pcs l 0 [] := ⟨rfl, fun _ hj => absurd hj (Nat.not_lt_zero _)⟩
theorem Pcs.snoc {l : List ByteArray} {i : Nat} {xs : List Int} {v : Int} (h : Pcs l i xs) (hv : Pcv (l.getD i ⟨#[]⟩) v) : Pcs l (i + 1) (xs ++ [v]) := by
  refine ⟨by rw [List.length_append, h.1]; rfl, fun j hj => ?_⟩
  by_cases e : j = i
  · subst e
    have hg : (xs ++ [v]).getD j 0 = v := by
      rw [List.getD_eq_getElem?_getD, List.getElem?_append_right (by rw [h.1]; exact Nat.le_refl _), h.1, Nat.sub_self]; rfl
    rw [hg]; exact hv
  · have hj2 : j < i := by omega
    have hg : (xs ++ [v]).getD j 0 = xs.getD j 0 := by
      rw [List.getD_eq_getElem?_getD, List.getElem?_append_left (by rw [h.1]; exact hj2), List.getD_eq_getElem?_getD]
    rw [hg]; exact h.2 j hj2
theorem Pcs.same {l : List ByteArray} {i : Nat} {xs ys : List Int} (h : Pcs l i xs) (h2 : Pcs l i ys) : xs = ys := by
  have hl : xs.length = ys.length := by rw [h.1, h2.1]
  apply List.ext_getElem hl
  intro j h3 h4
  have a := h.2 j (by rw [← h.1]; exact h3)
  have b := h2.2 j (by rw [← h2.1]; exact h4)
  have := a.one b
  rw [getD_of h3, getD_of h4] at this
  exact this
theorem Pcs.miss {l : List ByteArray} {i m : Nat} {xs : List Int} (h : Pcs l m xs) (hi : i < m) (hn : ∀ v, ¬ Pcv (l.getD i ⟨#[]⟩) v) : False := hn _ (h.2 i hi)
/-- How long a canonical text of a natural is, and what it is worth. -/
theorem itx_three {v : Int} (h0 : 0 ≤ v) : ((itx v).size ≤ 3) ↔ v ≤ 999 := by
  rw [itx_size, if_neg (by omega)]
  have h := nz_le_iff v 2
  have e : (10 : Nat) ^ (2 + 1) = 1000 := by decide
  rw [e] at h
  constructor
  · intro h1
    have := h.1 (by omega)
    omega
  · intro h1
    have := h.2 (by omega)
    omega
theorem itx_ne_test {v : Int} {t : ByteArray} (h : itx v ≠ t) : ((itx v).toList == t.toList) = false := by
  rw [beq_eq_false_iff_ne]
  intro e
  rw [ByteArray.toList_eq, ByteArray.toList_eq] at e
  exact h (ba_ext e)
end Go.Proofs.YtdjhngbpfdopnaaGreatDoor
