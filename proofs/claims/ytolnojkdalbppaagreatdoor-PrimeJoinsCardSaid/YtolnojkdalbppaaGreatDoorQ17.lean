/- Greater text, out of: Q17. -/
import Derived.Test.YtolnojkdalbppaaGreatDoorQ13
namespace Go.Proofs.YtolnojkdalbppaaGreatDoor
open Go.RowKit Go.PlainAid

theorem idx_upto (qs : List Int) (x : Int) : ∀ m, m ≤ qs.length → (∀ j, j < m → qs.getD j 0 ≠ x) ∨ ∃ k, k < m ∧ qs.getD k 0 = x ∧ ∀ j, j < k → qs.getD j 0 ≠ x := by
  intro m
  induction m with
  | zero => intro _; exact .inl fun j hj => absurd hj (Nat.not_lt_zero _)
  | succ m ih =>
    intro hm
    rcases ih (by omega) with h | ⟨k, h1, h2, h3⟩
    · by_cases e : qs.getD m 0 = x
      · exact .inr ⟨m, Nat.lt_succ_self _, e, h⟩
      · refine .inl fun j hj => ?_
        by_cases ej : j = m
        · subst ej; exact e
        · exact h j (by omega)
    · exact .inr ⟨k, by omega, h2, h3⟩
theorem idx_cases (qs : List Int) (x : Int) : (Lib.idxOf qs x = -1 ∧ ∀ j, j < qs.length → qs.getD j 0 ≠ x) ∨ ∃ k : Nat, k < qs.length ∧ Lib.idxOf qs x = (k : Int) ∧ qs.getD k 0 = x := by
  have ht : qs.take qs.length = qs := List.take_of_length_le (Nat.le_refl _)
  rcases idx_upto qs x qs.length (Nat.le_refl _) with h | ⟨k, h1, h2, h3⟩
  · have := Lib.idxOf_miss qs qs.length x h
    rw [ht] at this
    exact .inl ⟨this, h⟩
  · have := Lib.idxOf_hit qs qs.length k x h1 (Nat.le_refl _) h2 h3
    rw [ht] at this
    exact .inr ⟨k, h1, this, h2⟩
/-- The row over another list, and whether something was lost, behind the first i. -/
def mv (qs ps xs : List Int) : Nat → List Int × Bool
  | 0 => (List.replicate qs.length 0, false)
  | i + 1 => if 0 ≤ Lib.idxOf qs (ps.getD i 0) then ((mv qs ps xs i).1.set (Lib.idxOf qs (ps.getD i 0)).toNat (xs.getD i 0), (mv qs ps xs i).2) else ((mv qs ps xs i).1, (mv qs ps xs i).2 || decide (xs.getD i 0 ≠ 0))
theorem mv_zero (qs ps xs : List Int) : mv qs ps xs 0 = (List.replicate qs.length 0, false) := rfl
theorem mv_hit {qs ps xs : List Int} {i k : Nat} (h : Lib.idxOf qs (ps.getD i 0) = (k : Int)) : mv qs ps xs (i + 1) = ((mv qs ps xs i).1.set k (xs.getD i 0), (mv qs ps xs i).2) := by
  show (if _ then _ else _) = _
  rw [if_pos (by rw [h]; omega), h, Int.toNat_natCast]
theorem mv_miss {qs ps xs : List Int} {i : Nat} (h : Lib.idxOf qs (ps.getD i 0) = -1) : mv qs ps xs (i + 1) = ((mv qs ps xs i).1, (mv qs ps xs i).2 || decide (xs.getD i 0 ≠ 0)) := by
  show (if _ then _ else _) = _
  rw [if_neg (by rw [h]; omega)]
theorem mv_len (qs ps xs : List Int) : ∀ i, (mv qs ps xs i).1.length = qs.length := by
  intro i
  induction i with
  | zero => rw [mv_zero]; simp
  | succ i ih =>
    rcases idx_cases qs (ps.getD i 0) with ⟨h, _⟩ | ⟨k, _, h, _⟩
    · rw [mv_miss h]; exact ih
    · rw [mv_hit h, List.length_set]; exact ih
theorem Okl.inj {ps : List Int} (h : Okl ps) {i j : Nat} (hi : i < ps.length) (hj : j < ps.length) (e : ps.getD i 0 = ps.getD j 0) : i = j := by
  rcases Nat.lt_trichotomy i j with h1 | h1 | h1
  · have := h.lt j i h1 hj; omega
  · exact h1
  · have := h.lt i j h1 hi; omega
theorem zgetD_set_same {l : List Int} {k : Nat} (h : k < l.length) (x : Int) : (l.set k x).getD k 0 = x := by
  rw [List.getD_eq_getElem?_getD, List.getElem?_set_self h]; rfl
theorem zgetD_set_other {l : List Int} {k j : Nat} (h : j ≠ k) (x : Int) : (l.set k x).getD j 0 = l.getD j 0 := by
  rw [List.getD_eq_getElem?_getD, List.getElem?_set_ne (Ne.symm h), List.getD_eq_getElem?_getD]
theorem mv_spec {qs ps xs : List Int} (hq : Okl qs) (hp : Okl ps) : ∀ i, i ≤ ps.length →
    (∀ k, k < i → ∀ j, j < qs.length → qs.getD j 0 = ps.getD k 0 → (mv qs ps xs i).1.getD j 0 = xs.getD k 0) ∧
    (∀ j, j < qs.length → (∀ k, k < i → qs.getD j 0 ≠ ps.getD k 0) → (mv qs ps xs i).1.getD j 0 = 0) ∧
    ((mv qs ps xs i).2 = false → ∀ k, k < i → (∀ j, j < qs.length → qs.getD j 0 ≠ ps.getD k 0) → xs.getD k 0 = 0) ∧
    ((∀ k, k < i → (∀ j, j < qs.length → qs.getD j 0 ≠ ps.getD k 0) → xs.getD k 0 = 0) → (mv qs ps xs i).2 = false) := by
  intro i
  induction i with
  | zero =>
    intro _
    rw [mv_zero]
    refine ⟨fun k hk => absurd hk (Nat.not_lt_zero _), fun j hj _ => ?_, fun _ k hk => absurd hk (Nat.not_lt_zero _), fun _ => rfl⟩
    rw [List.getD_eq_getElem?_getD, List.getElem?_replicate, if_pos hj]; rfl
  | succ i ih =>
    intro hi
    obtain ⟨a1, a2, a3, a4⟩ := ih (by omega)
    rcases idx_cases qs (ps.getD i 0) with ⟨h, hm⟩ | ⟨j0, hj0, h, he⟩
    · rw [mv_miss h]
      refine ⟨fun k hk j hj e => ?_, fun j hj hn => ?_, fun hl k hk hn => ?_, fun hl => ?_⟩
      · by_cases ek : k = i
        · subst ek; exact absurd e (hm j hj)
        · exact a1 k (by omega) j hj e
      · exact a2 j hj fun k hk => hn k (by omega)
      · simp only [Bool.or_eq_false_iff, decide_eq_false_iff_not, Decidable.not_not] at hl
        by_cases ek : k = i
        · subst ek; exact hl.2
        · exact a3 hl.1 k (by omega) hn
      · simp only [Bool.or_eq_false_iff, decide_eq_false_iff_not, Decidable.not_not]
        exact ⟨a4 fun k hk hn => hl k (by omega) hn, hl i (by omega) hm⟩
    · rw [mv_hit h]
      have hlen := mv_len qs ps xs i
      refine ⟨fun k hk j hj e => ?_, fun j hj hn => ?_, fun hl k hk hn => ?_, fun hl => ?_⟩
      · by_cases ek : k = i
        · subst ek
          obtain rfl : j = j0 := hq.inj hj hj0 (by rw [e, he])
          exact zgetD_set_same (by rw [hlen]; exact hj) _
        · have hne : j ≠ j0 := fun ej => by
            subst ej
            exact ek (hp.inj (by omega) (by omega) (by rw [← e, he]))
          show ((mv qs ps xs i).1.set j0 (xs.getD i 0)).getD j 0 = _
          rw [zgetD_set_other hne]
          exact a1 k (by omega) j hj e
      · have hne : j ≠ j0 := fun ej => by subst ej; exact hn i (by omega) he
        show ((mv qs ps xs i).1.set j0 (xs.getD i 0)).getD j 0 = _
        rw [zgetD_set_other hne]
        exact a2 j hj fun k hk => hn k (by omega)
      · by_cases ek : k = i
        · subst ek; exact absurd he (hn j0 hj0)
        · exact a3 hl k (by omega) hn
      · exact a4 fun k hk hn => hl k (by omega) hn
theorem ext_getD {a b : List Int} (hl : a.length = b.length) (h : ∀ i, i < a.length → a.getD i 0 = b.getD i 0) : a = b := by
  apply List.ext_getElem hl
  intro i h1 h2
  have := h i h1
  rw [getD_of h1, getD_of h2] at this
  exact this
/-- What was not lost comes back. -/
theorem mv_back {qs ps xs : List Int} (hq : Okl qs) (hp : Okl ps) (hx : xs.length = ps.length) (hl : (mv qs ps xs ps.length).2 = false) : mv ps qs (mv qs ps xs ps.length).1 qs.length = (xs, false) := by
  obtain ⟨a1, a2, a3, _⟩ := mv_spec (xs := xs) hq hp ps.length (Nat.le_refl _)
  obtain ⟨b1, b2, _, b4⟩ := mv_spec (xs := (mv qs ps xs ps.length).1) hp hq qs.length (Nat.le_refl _)
  refine Prod.ext ?_ ?_
  · refine ext_getD (by rw [mv_len, hx]) fun i hi => ?_
    rw [mv_len] at hi
    rcases idx_cases qs (ps.getD i 0) with ⟨_, hm⟩ | ⟨j, hj, _, he⟩
    · rw [b2 i hi fun k hk e => hm k hk e.symm, a3 hl i hi hm]
    · rw [b1 j hj i hi he.symm, a1 i hi j hj he]
  · exact b4 fun k hk hn => a2 k hk fun j hj e => hn j hj e.symm
theorem mv_far {qs ps xs : List Int} (hq : Okl qs) (hp : Okl ps) (hx : xs.length = ps.length) (hf : farB xs = false) : farB (mv qs ps xs ps.length).1 = false := by
  obtain ⟨a1, a2, _, _⟩ := mv_spec (xs := xs) hq hp ps.length (Nat.le_refl _)
  unfold farB
  rw [List.any_eq_false]
  intro y hy
  obtain ⟨j, hj, rfl⟩ := List.mem_iff_getElem.1 hy
  have hj2 : j < qs.length := by rw [mv_len] at hj; exact hj
  rw [← getD_of hj]
  have hb : -1000 ≤ (mv qs ps xs ps.length).1.getD j 0 ∧ (mv qs ps xs ps.length).1.getD j 0 ≤ 1000 := by
    rcases idx_cases ps (qs.getD j 0) with ⟨_, hm⟩ | ⟨k, hk, _, he⟩
    · rw [a2 j hj2 fun k hk e => hm k hk e.symm]; omega
    · rw [a1 k hk j hj2 he.symm]; exact farB_no hf (by omega)
  simp only [Bool.or_eq_true, decide_eq_true_eq]
  omega

/-- slices.Index, of a list that is not empty. -/
theorem sindex_any (A : Option Addr) (n cap : Nat) (qs : List Int) (x : Int) (w : World) (h : InZ w A n cap qs) (h0 : 0 < n) :
    Calls Tryz.prog 7 #[.slice A n cap, .int .i64 x] w (SmallRes (.int .i64 (Lib.idxOf qs x)) w) := by
  obtain ⟨b, off, rfl, hc⟩ := h.cellsD h0
  have b1 : n ≤ 9223372036854775807 := by have := h.2.1; have := h.2.2.1; omega
  refine (Tryz.slices_Index_int b off n cap qs x w (by rw [h.1]; exact Nat.le_refl _) b1 hc).mono fun e w' ⟨he, hw⟩ => ⟨by rw [he, take_len h.1], by rw [hw]; exact Below.refl _ _⟩
/-- prime.Index. -/
theorem pindex_hit (A : Option Addr) (n cap : Nat) (qs : List Int) (x : Int) (k : Nat) (w : World) (h : InZ w A n cap qs) (h0 : 0 < n) (hk : Lib.idxOf qs x = (k : Int)) :
    Calls Tryz.prog 6 #[.slice A n cap, .int .i64 x] w (SmallRes (.tuple #[.int .i64 (k : Int), .bool true]) w) := by
  have HC := Lib.hid (hk ▸ sindex_any A n cap qs x w h h0)
  have hm : max (k : Int) 0 = (k : Int) := by omega
  clear h hk
  go_enter Tryz.func6, Tryz.ntmps6
  go_wp2_with fail
  refine HC.out.mono ?_
  rintro e w1 ⟨rfl, hb1⟩
  go_wp2_with fail
  go_ret2
  exact ⟨rfl, hb1⟩
theorem pindex_miss (A : Option Addr) (n cap : Nat) (qs : List Int) (x : Int) (w : World) (h : InZ w A n cap qs) (h0 : 0 < n) (hk : Lib.idxOf qs x = -1) :
    Calls Tryz.prog 6 #[.slice A n cap, .int .i64 x] w (SmallRes (.tuple #[.int .i64 0, .bool false]) w) := by
  have HC := Lib.hid (hk ▸ sindex_any A n cap qs x w h h0)
  clear h hk
  go_enter Tryz.func6, Tryz.ntmps6
  go_wp2_with fail
  refine HC.out.mono ?_
  rintro e w1 ⟨rfl, hb1⟩
  go_wp2_with fail
  go_ret2
  exact ⟨rfl, hb1⟩
end Go.Proofs.YtolnojkdalbppaaGreatDoor
