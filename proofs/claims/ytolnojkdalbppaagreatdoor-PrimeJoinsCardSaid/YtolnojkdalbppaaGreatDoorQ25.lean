/- Greater text, out of: Q25. -/
import Derived.Test.YtolnojkdalbppaaGreatDoorQ17
import Derived.Lib.SlicesCompact
namespace Go.Proofs.YtolnojkdalbppaaGreatDoor
open Go.RowKit Go.PlainAid

/-- Both lists, sorted. -/
def sj (ps qs : List Int) : List Int := (ps ++ qs).mergeSort fun x y => decide (x ≤ y)
/-- Both lists, sorted, each number once. -/
def jn (ps qs : List Int) : List Int := Lib.compact (sj ps qs)
/-- Whether all of the first list are in the second one. -/
def inn (ps qs : List Int) : Bool := !(ps.any fun x => !(qs.contains x))
theorem sj_len (ps qs : List Int) : (sj ps qs).length = ps.length + qs.length := by
  unfold sj
  rw [List.length_mergeSort, List.length_append]
theorem sj_mem {ps qs : List Int} {x : Int} : x ∈ sj ps qs ↔ x ∈ ps ∨ x ∈ qs := by
  unfold sj
  rw [List.mem_mergeSort, List.mem_append]
theorem sj_sorted (ps qs : List Int) : (sj ps qs).Pairwise (· ≤ ·) := by
  have h := List.pairwise_mergeSort (le := fun (x y : Int) => decide (x ≤ y)) (fun a b c => by simp only [decide_eq_true_eq]; omega) (fun a b => by simp only [Bool.or_eq_true, decide_eq_true_eq]; omega) (ps ++ qs)
  exact h.imp fun h => by simpa using h
theorem bang_of {zs : List Int} {j : Nat} (h : j < zs.length) : zs.toArray[j]! = zs[j] := by simp [h]
theorem cmp_mem {zs : List Int} {x : Int} : x ∈ Lib.compact zs ↔ x ∈ zs := by
  unfold Lib.compact Lib.compactUpTo
  rw [List.mem_map]
  constructor
  · rintro ⟨j, hj, rfl⟩
    have hj' : j < zs.length := by simpa using (List.mem_filter.1 hj).1
    rw [bang_of hj']
    exact List.getElem_mem hj'
  · intro hx
    obtain ⟨i, hi, rfl⟩ := List.mem_iff_getElem.1 hx
    have key : ∀ i, (hi : i < zs.length) → ∃ j, j < zs.length ∧ Lib.keeps zs.toArray j = true ∧ zs.toArray[j]! = zs.toArray[i]! := by
      intro i
      induction i with
      | zero => intro hi; exact ⟨0, hi, Lib.keeps_lt_one _ 0 (by omega), rfl⟩
      | succ i ih =>
        intro hi
        by_cases e : zs.toArray[i + 1]! = zs.toArray[i]!
        · obtain ⟨j, h1, h2, h3⟩ := ih (by omega)
          exact ⟨j, h1, h2, h3.trans e.symm⟩
        · exact ⟨i + 1, hi, Lib.keeps_pos e, rfl⟩
    obtain ⟨j, h1, h2, h3⟩ := key i hi
    exact ⟨j, List.mem_filter.2 ⟨List.mem_range.2 h1, h2⟩, by rw [h3, bang_of hi]⟩
theorem cmp_nodup {zs : List Int} (h : zs.Pairwise (· ≤ ·)) : (Lib.compact zs).Nodup := by
  have hle : ∀ i j, i ≤ j → j < zs.length → zs.toArray[i]! ≤ zs.toArray[j]! := by
    intro i j hij hj
    rw [bang_of hj, bang_of (by omega)]
    rcases Nat.lt_or_ge i j with h1 | h1
    · exact List.pairwise_iff_getElem.1 h i j (by omega) hj h1
    · obtain rfl : i = j := by omega
      exact Int.le_refl _
  unfold Lib.compact Lib.compactUpTo List.Nodup
  rw [List.pairwise_map]
  have hp : ((List.range zs.length).filter (Lib.keeps zs.toArray)).Pairwise (· < ·) := List.pairwise_lt_range.filter _
  refine hp.imp_of_mem ?_
  intro a b _ hb hab
  obtain ⟨h1, h2⟩ := List.mem_filter.1 hb
  have h1' : b < zs.length := List.mem_range.1 h1
  simp only [Lib.keeps, decide_eq_true_eq] at h2
  rcases h2 with h2 | h2
  · omega
  · have e1 := hle a (b - 1) (by omega) (by omega)
    have e2 := hle (b - 1) b (by omega) h1'
    omega
theorem nd_len {ys : List Int} : ∀ {xs : List Int}, ys.Nodup → (∀ y ∈ ys, y ∈ xs) → ys.length ≤ xs.length := by
  induction ys with
  | nil => intro xs _ _; exact Nat.zero_le _
  | cons y ys ih =>
    intro xs hn hs
    rw [List.nodup_cons] at hn
    have hy : y ∈ xs := hs y (List.mem_cons_self ..)
    have h1 : ys.length ≤ (xs.erase y).length := ih hn.2 fun z hz => (List.mem_erase_of_ne (fun (e : z = y) => hn.1 (e ▸ hz))).2 (hs z (List.mem_cons_of_mem _ hz))
    have h2 := List.length_erase_of_mem hy
    have h3 := List.length_pos_of_mem hy
    simp only [List.length_cons]
    omega
theorem nd_sub {ys xs : List Int} (hn : ys.Nodup) (hs : ∀ y ∈ ys, y ∈ xs) (hl : xs.length ≤ ys.length) : ∀ x ∈ xs, x ∈ ys := by
  intro x hx
  by_cases h : x ∈ ys
  · exact h
  · have h1 : ys.length ≤ (xs.erase x).length := nd_len hn fun z hz => (List.mem_erase_of_ne (fun (e : z = x) => h (e ▸ hz))).2 (hs z hz)
    have h2 := List.length_erase_of_mem hx
    have h3 := List.length_pos_of_mem hx
    omega
theorem Okl.nodup {ps : List Int} (h : Okl ps) : ps.Nodup := by
  unfold List.Nodup
  rw [List.pairwise_iff_getElem]
  intro i j hi hj hij e
  have := h.inj hi hj (by rw [getD_of hi, getD_of hj]; exact e)
  omega
theorem jn_mem {ps qs : List Int} {x : Int} : x ∈ jn ps qs ↔ x ∈ ps ∨ x ∈ qs := by
  unfold jn
  rw [cmp_mem, sj_mem]
theorem jn_nodup (ps qs : List Int) : (jn ps qs).Nodup := cmp_nodup (sj_sorted ps qs)
theorem inn_iff {ps qs : List Int} : inn ps qs = true ↔ ∀ x ∈ ps, x ∈ qs := by
  unfold inn
  simp
theorem jn_len_le (ps qs : List Int) : (jn ps qs).length ≤ ps.length + qs.length := by
  have h := nd_len (xs := ps ++ qs) (jn_nodup ps qs) fun y hy => List.mem_append.2 (jn_mem.1 hy)
  rw [List.length_append] at h
  exact h
/-- All of the first list are in the second one just if both together are no more than the second one. -/
theorem jn_inn {ps qs : List Int} (hq : Okl qs) : inn ps qs = decide ((jn ps qs).length = qs.length) := by
  rw [Bool.eq_iff_iff, inn_iff, decide_eq_true_eq]
  have h1 : qs.length ≤ (jn ps qs).length := nd_len hq.nodup fun y hy => jn_mem.2 (.inr hy)
  constructor
  · intro h
    have h2 : (jn ps qs).length ≤ qs.length := nd_len (jn_nodup ps qs) fun y hy => by
      rcases jn_mem.1 hy with h3 | h3
      · exact h y h3
      · exact h3
    omega
  · intro h x hx
    exact nd_sub hq.nodup (fun y hy => jn_mem.2 (.inr hy)) (by omega) x (jn_mem.2 (.inl hx))
end Go.Proofs.YtolnojkdalbppaaGreatDoor
