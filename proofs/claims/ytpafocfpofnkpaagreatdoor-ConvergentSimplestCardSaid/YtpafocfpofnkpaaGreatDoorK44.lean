/- Greater text, out of: K44. -/
import Derived.Test.YtpafocfpofnkpaaGreatDoorK43
import Derived.Test.YtpafocfpofnkpaaGreatDoorK9
namespace Go.Proofs.YtpafocfpofnkpaaGreatDoor
open Go.RowKit Go.PlainAid
attribute [local go_sem] field_rat0 field_rat1
/-- How great a state's numbers are. -/
def Bd4 (c : P4) : Prop := c.p.natAbs ≤ 1000000000000000 ∧ 1 ≤ c.q ∧ c.q ≤ 1000000000000000 ∧ c.b.natAbs ≤ 1000000000000000 ∧ 0 ≤ c.u ∧ c.u ≤ 1000000000000000
theorem bd4_tms {n d : Int} (hd : 0 < d) (hg : Int.gcd n d = 1) (hn : n.natAbs ≤ 100000000000000) (hdd : d ≤ 100000000000000) : ∀ i, 1 ≤ i → i ≤ (tms n d).length → Bd4 (runC beg ((tms n d).take i)) := by
  intro i h1 h2
  obtain ⟨i, rfl⟩ : ∃ k, i = k + 1 := ⟨i - 1, by omega⟩
  have hcv := cv_take hd hg i
  have hrb := runC_beg ((tms n d).take (i + 1))
  have hsn : ∃ a, (tms n d).take (i + 1) = (tms n d).take i ++ [a] := ⟨(tms n d)[i], by rw [List.take_add_one, List.getElem?_eq_getElem (by omega)]; rfl⟩
  obtain ⟨a, ha⟩ := hsn
  have hbu : (runC beg ((tms n d).take (i + 1))).b = (runC beg ((tms n d).take i)).p ∧ (runC beg ((tms n d).take (i + 1))).u = (runC beg ((tms n d).take i)).q := by
    rw [ha, runC_append]; exact ⟨rfl, rfl⟩
  have hprev : (runC beg ((tms n d).take i)).p.natAbs ≤ 1000000000000000 ∧ 0 ≤ (runC beg ((tms n d).take i)).q ∧ (runC beg ((tms n d).take i)).q ≤ 1000000000000000 := by
    cases i with
    | zero => simp [runC, beg]
    | succ k =>
      have hcv := cv_take hd hg k
      have hrb := runC_beg ((tms n d).take (k + 1))
      rw [hrb.1, hrb.2]
      omega
  unfold Bd4
  rw [hbu.1, hbu.2, hrb.1, hrb.2]
  omega
theorem semis4_snoc (c : P4) {j : Int} (h : 1 ≤ j) : c.semis 1 j = c.semis 1 (j - 1) ++ [(c.num j, c.den j)] := by
  unfold P4.semis
  have := rng_snoc (lo := 1) (hi := j - 1) (by omega)
  rw [show j - 1 + 1 = j by omega] at this
  rw [this, List.map_append]; rfl
theorem semis4_zero (c : P4) {j : Int} (h : j ≤ 0) : c.semis 1 j = [] := by
  unfold P4.semis; rw [rng_none (by omega)]; rfl
/-- The inner loop's question. -/
theorem most_iff {c : P4} {a b j : Int} (hq : 1 ≤ c.q) : (j ≤ a ∧ c.u + j * c.q ≤ b) ↔ j ≤ c.most a b := by
  rw [most_eq hq]
  have he : j ≤ (b - c.u) / c.q ↔ j * c.q ≤ b - c.u := Int.le_ediv_iff_mul_le (by omega)
  split <;> constructor <;> intro h <;> omega
theorem pr4 {a b : Int} {A B : Nat} (ha : a.natAbs ≤ A) (hb : b.natAbs ≤ B) : (a * b).natAbs ≤ A * B := by
  rw [Int.natAbs_mul]; exact Nat.mul_le_mul ha hb
theorem semis4_end (c : P4) {j M : Int} (h : j ≤ M + 1 ∨ j = 1) (hn : ¬ j ≤ M) : c.semis 1 (j - 1) = c.semis 1 M := by
  by_cases e : j = M + 1
  · rw [e, show M + 1 - 1 = M by omega]
  · rw [semis4_zero c (by omega), semis4_zero c (by omega)]
end Go.Proofs.YtpafocfpofnkpaaGreatDoor
