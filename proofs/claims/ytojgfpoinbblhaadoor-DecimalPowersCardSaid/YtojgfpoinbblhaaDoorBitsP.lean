/- Binary lengths: the plain part. -/
import Derived.Test.YtojgfpoinbblhaaDoorLimbOps
import Derived.Test.YtojgfpoinbblhaaDoorNum
import Derived.Lib.BitFns
namespace Go.Proofs.YtojgfpoinbblhaaDoor

def bitsN (n : Nat) : Nat := if n = 0 then 0 else 1 + bitsN (n / 2)
  termination_by n
  decreasing_by omega
theorem bitsN_zero : bitsN 0 = 0 := by rw [bitsN, if_pos rfl]
theorem bitsN_pos {n : Nat} (h : n ≠ 0) : bitsN n = 1 + bitsN (n / 2) := by rw [bitsN, if_neg h]
theorem bitsN_lt (n : Nat) : n < 2 ^ bitsN n := by
  induction n using Nat.strongRecOn with
  | _ n ih =>
    by_cases h : n = 0
    · subst h; rw [bitsN_zero]; decide
    · rw [bitsN_pos h, Nat.add_comm, Nat.pow_succ]; have := ih (n / 2) (by omega); omega
theorem bitsN_ge (n : Nat) (h : n ≠ 0) : 2 ^ (bitsN n - 1) ≤ n := by
  induction n using Nat.strongRecOn with
  | _ n ih =>
    rw [bitsN_pos h]
    by_cases h2 : n / 2 = 0
    · rw [h2, bitsN_zero]; simp; omega
    · have := ih (n / 2) (by omega) h2
      have hp : bitsN (n / 2) ≠ 0 := by rw [bitsN_pos h2]; omega
      rw [show 1 + bitsN (n / 2) - 1 = bitsN (n / 2) - 1 + 1 by omega, Nat.pow_succ]; omega
theorem bitsN_unique (n k : Nat) (h1 : 2 ^ k ≤ n) (h2 : n < 2 ^ (k + 1)) : bitsN n = k + 1 := by
  have hn : n ≠ 0 := by have := Nat.pow_pos (n := k) (show 0 < 2 by decide); omega
  have h3 := bitsN_lt n
  have h4 := bitsN_ge n hn
  have h5 : k < bitsN n := (Nat.pow_lt_pow_iff_right (show 1 < 2 by decide)).1 (by omega)
  have h6 : bitsN n - 1 < k + 1 := (Nat.pow_lt_pow_iff_right (show 1 < 2 by decide)).1 (by omega)
  omega
theorem bitsN_shift (k x low : Nat) (hx : x ≠ 0) (hl : low < 2 ^ k) : bitsN (low + 2 ^ k * x) = k + bitsN x := by
  have h1 := bitsN_lt x
  have h2 := bitsN_ge x hx
  have hp : bitsN x ≠ 0 := by rw [bitsN_pos hx]; omega
  have h3 : 2 ^ k * 2 ^ (bitsN x - 1) ≤ 2 ^ k * x := Nat.mul_le_mul_left _ h2
  have h4 : 2 ^ k * (x + 1) ≤ 2 ^ k * 2 ^ bitsN x := Nat.mul_le_mul_left _ h1
  rw [← Nat.pow_add] at h3 h4
  rw [Nat.mul_add, Nat.mul_one] at h4
  have := bitsN_unique (low + 2 ^ k * x) (k + bitsN x - 1) (by rw [show k + bitsN x - 1 = k + (bitsN x - 1) by omega]; omega) (by rw [show k + bitsN x - 1 + 1 = k + bitsN x by omega]; omega)
  omega
theorem bitLen_eq (x : Nat) (h : x < 18446744073709551616) : Lib.bitLen x = bitsN x := by
  have key : ∀ f x, x < 2 ^ f → Lib.bitLenAux f x = bitsN x := by
    intro f
    induction f with
    | zero => intro x h; have : x = 0 := by simpa using h
              subst this; rw [bitsN_zero]; rfl
    | succ f ih =>
      intro x h
      rw [Lib.bitLenAux]
      by_cases h0 : x = 0
      · subst h0; rw [if_pos rfl, bitsN_zero]
      · rw [if_neg h0, bitsN_pos h0, ih (x / 2) (by rw [Nat.pow_succ] at h; omega)]
  exact key 64 x (by simpa using h)
theorem bitsN_mono {a b : Nat} (h : a ≤ b) : bitsN a ≤ bitsN b := by
  by_cases ha : a = 0
  · subst ha; rw [bitsN_zero]; omega
  · have h1 := bitsN_ge a ha
    have h2 := bitsN_lt b
    have := (Nat.pow_lt_pow_iff_right (show 1 < 2 by decide)).1 (show 2 ^ (bitsN a - 1) < 2 ^ bitsN b by omega)
    omega

/-! Pieces to the base 2 to the power 32. -/
def bv : List Nat → Nat
  | [] => 0
  | x :: xs => x + 4294967296 * bv xs
def L32 (xs : List Nat) : Prop := ∀ x ∈ xs, x < 4294967296
theorem bv_append (xs ys : List Nat) : bv (xs ++ ys) = bv xs + 4294967296 ^ xs.length * bv ys := by
  induction xs with
  | nil => simp [bv]
  | cons x xs ih => rw [List.cons_append, bv, ih, bv, List.length_cons, Nat.pow_succ, Nat.mul_add, Nat.mul_comm (4294967296 ^ xs.length) 4294967296, Nat.mul_assoc]; omega
theorem bv_snoc (xs : List Nat) (y : Nat) : bv (xs ++ [y]) = bv xs + 4294967296 ^ xs.length * y := by rw [bv_append]; simp [bv]
theorem bv_lt (xs : List Nat) (h : L32 xs) : bv xs < 4294967296 ^ xs.length := by
  induction xs with
  | nil => simp [bv]
  | cons x xs ih =>
    have h1 := h x (by simp)
    have := ih (fun y hy => h y (by simp [hy]))
    rw [bv, List.length_cons, Nat.pow_succ]
    omega
theorem L32_getD {xs : List Nat} (h : L32 xs) (j : Nat) : xs.getD j 0 < 4294967296 := by
  rw [List.getD_eq_getElem?_getD]
  cases e : xs[j]? with
  | none => simp
  | some y => exact h y (List.mem_of_getElem? e)
theorem bv_take_succ (xs : List Nat) (k : Nat) (h : k < xs.length) : bv (xs.take (k + 1)) = bv (xs.take k) + xs.getD k 0 * 4294967296 ^ k := by
  rw [List.take_succ_eq_append_getElem h, bv_snoc, List.length_take, Nat.min_eq_left (Nat.le_of_lt h), List.getD_eq_getElem?_getD, List.getElem?_eq_getElem h, Nat.mul_comm]; rfl
theorem getD_drop_eq {xs zs : List Nat} {j : Nat} (h : zs.drop j = xs.drop j) : zs.getD j 0 = xs.getD j 0 := by
  have e : ∀ l : List Nat, l.getD j 0 = (l.drop j).getD 0 0 := fun l => by simp [List.getD_eq_getElem?_getD, List.getElem?_drop]
  rw [e zs, e xs, h]
/-- Every piece up to k has been multiplied. xs: as they were; p0: what is added. -/
structure MulAt (xs : List Nat) (p0 k c : Nat) (zs : List Nat) : Prop where
  sum : bv (zs.take k) + c * 4294967296 ^ k = bv (xs.take k) * 1000000000 + p0
  lims : L32 zs
  len : zs.length = xs.length
  rest : zs.drop k = xs.drop k
  carry : c ≤ 1000000000
theorem MulAt.start {xs : List Nat} {p0 : Nat} (h : L32 xs) (hp : p0 ≤ 1000000000) : MulAt xs p0 0 p0 xs := ⟨by simp [bv], h, rfl, rfl, hp⟩
theorem MulAt.step {xs : List Nat} {p0 k c : Nat} {zs : List Nat} (h : MulAt xs p0 k c zs) (hk : k < xs.length) :
    MulAt xs p0 (k + 1) ((c + zs.getD k 0 * 1000000000) / 4294967296) (zs.set k ((c + zs.getD k 0 * 1000000000) % 4294967296)) := by
  have hz := L32_getD h.lims k
  have hc := h.carry
  have hkz : k < zs.length := by rw [h.len]; exact hk
  refine ⟨?_, ?_, by rw [List.length_set, h.len], ?_, by omega⟩
  · have h1 : bv ((zs.set k ((c + zs.getD k 0 * 1000000000) % 4294967296)).take (k + 1)) = bv (zs.take k) + (c + zs.getD k 0 * 1000000000) % 4294967296 * 4294967296 ^ k := by
      rw [bv_take_succ _ k (by simpa using hkz), getD_set_same _ _ _ hkz, List.take_set_of_le (Nat.le_refl k)]
    have h2 := h.sum
    have h3 := bv_take_succ xs k hk
    rw [h1, h3, Nat.pow_succ, ← getD_drop_eq h.rest]
    generalize zs.getD k 0 = z at *
    generalize 4294967296 ^ k = P at *
    generalize ht : c + z * 1000000000 = t at *
    have e1 : t / 4294967296 * (P * 4294967296) + t % 4294967296 * P = t * P := by
      have : t / 4294967296 * (P * 4294967296) = t / 4294967296 * 4294967296 * P := by rw [Nat.mul_comm P, Nat.mul_assoc]
      rw [this, ← Nat.add_mul]; congr 1; omega
    have e2 : t * P = c * P + z * P * 1000000000 := by rw [← ht, Nat.add_mul, Nat.mul_right_comm]
    rw [Nat.add_mul]
    omega
  · intro x hx
    rcases List.mem_or_eq_of_mem_set hx with hx | rfl
    · exact h.lims x hx
    · exact Nat.mod_lt _ (by decide)
  · rw [List.drop_set_of_lt (by omega), ← List.drop_drop, h.rest, List.drop_drop]
/-- The pieces hold v; the last one is not 0. -/
structure BitAt (v : Nat) (xs : List Nat) : Prop where
  sum : bv xs = v
  lims : L32 xs
  top : xs ≠ [] → 4294967296 ^ (xs.length - 1) ≤ v
theorem BitAt.same {v p0 : Nat} {xs zs : List Nat} (h : BitAt v xs) (hm : MulAt xs p0 xs.length 0 zs) : BitAt (v * 1000000000 + p0) zs := by
  have hs := hm.sum
  rw [List.take_length, List.take_of_length_le (by rw [hm.len]; omega), h.sum] at hs
  refine ⟨by omega, hm.lims, fun hn => ?_⟩
  have hx : xs ≠ [] := by intro e; apply hn; apply List.eq_nil_of_length_eq_zero; rw [hm.len, e]; rfl
  have := h.top hx
  rw [hm.len]
  omega
theorem BitAt.more {v p0 c : Nat} {xs zs : List Nat} (h : BitAt v xs) (hm : MulAt xs p0 xs.length c zs) (hc : 0 < c) : BitAt (v * 1000000000 + p0) (zs ++ [c]) := by
  have hs := hm.sum
  rw [List.take_length, List.take_of_length_le (by rw [hm.len]; omega), h.sum] at hs
  have hcc := hm.carry
  have e : bv (zs ++ [c]) = v * 1000000000 + p0 := by rw [bv_snoc, hm.len, Nat.mul_comm]; omega
  refine ⟨e, ?_, fun _ => ?_⟩
  · intro x hx
    rcases List.mem_append.1 hx with hx | hx
    · exact hm.lims x hx
    · rw [List.mem_singleton.1 hx]; omega
  · rw [← e, bv_snoc, List.length_append, List.length_singleton, Nat.add_sub_cancel]
    have := Nat.mul_le_mul_left (4294967296 ^ zs.length) hc
    omega
theorem BitAt.fin {v : Nat} {xs : List Nat} (h : BitAt v xs) (hn : xs ≠ []) : bitsN v = 32 * (xs.length - 1) + bitsN (xs.getD (xs.length - 1) 0) ∧ xs.getD (xs.length - 1) 0 < 4294967296 := by
  obtain ⟨m, y, e⟩ : ∃ m y, xs = m ++ [y] := ⟨_, _, (List.dropLast_concat_getLast hn).symm⟩
  have hy : xs.getD (xs.length - 1) 0 = y := by rw [e, List.length_append, List.length_singleton, Nat.add_sub_cancel, List.getD_eq_getElem?_getD]; simp
  have hl : xs.length - 1 = m.length := by rw [e]; simp
  have ht := h.top hn
  have hs := h.sum
  rw [e, bv_snoc] at hs
  have hm := bv_lt m (fun x hx => h.lims x (by rw [e]; simp [hx]))
  rw [hl] at ht
  have hy0 : y ≠ 0 := by intro e0; rw [e0] at hs; omega
  have h32 : 4294967296 ^ m.length = 2 ^ (32 * m.length) := by rw [Nat.pow_mul]
  rw [hy, hl]
  refine ⟨?_, by rw [← hy]; exact L32_getD h.lims _⟩
  rw [← hs, h32, bitsN_shift _ _ _ hy0 (by rw [← h32]; exact hm)]
end Go.Proofs.YtojgfpoinbblhaaDoor
