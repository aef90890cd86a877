/- One step of each operation on pieces. Plain lemmas, no program. -/
import Derived.Test.YtebcmefbpfcgmaaGreatDoorLimb
namespace Go.Proofs.YtebcmefbpfcgmaaGreatDoor

theorem lv_take_succ' (xs : List Nat) (k : Nat) : lv (xs.take (k + 1)) = lv (xs.take k) + xs.getD k 0 * 1000000000 ^ k := by
  rcases Nat.lt_or_ge k xs.length with h | h
  · exact lv_take_succ xs k h
  · rw [List.take_of_length_le (by omega), List.take_of_length_le h, List.getD_eq_getElem?_getD, List.getElem?_eq_none h]; simp
theorem pow_step (k : Nat) : 1000000000 ^ (k + 1) = 1000000000 * 1000000000 ^ k := by rw [Nat.pow_succ, Nat.mul_comm]
theorem take_set_succ (xs : List Nat) (j v : Nat) (h : j < xs.length) : lv ((xs.set j v).take (j + 1)) = lv (xs.take j) + v * 1000000000 ^ j := by
  rw [lv_take_succ', getD_set_same xs j v h, List.take_set_of_le (Nat.le_refl j)]
theorem drop_set_succ (xs : List Nat) (j v : Nat) : (xs.set j v).drop (j + 1) = xs.drop (j + 1) := by
  rw [List.drop_set_of_lt (by omega)]
theorem drop_of_drop {xs zs : List Nat} {j : Nat} (h : zs.drop j = xs.drop j) : zs.drop (j + 1) = xs.drop (j + 1) := by
  rw [← List.drop_drop, h, List.drop_drop]
theorem getD_of_drop {xs zs : List Nat} {j : Nat} (h : zs.drop j = xs.drop j) : zs.getD j 0 = xs.getD j 0 := by
  have e : ∀ l : List Nat, l.getD j 0 = (l.drop j).getD 0 0 := fun l => by simp [List.getD_eq_getElem?_getD, List.getElem?_drop]
  rw [e zs, e xs, h]

/-! ### times -/
/-- The state of a row of a multiplication: q's first k pieces times a are in. -/
structure TimesAt (v0 i a : Nat) (q : List Nat) (k c : Nat) (o : List Nat) : Prop where
  sum : lv o + c * 1000000000 ^ (i + k) = v0 + a * lv (q.take k) * 1000000000 ^ i
  lims : Lims o
  carry : c < 1000000000
  zero : ∀ j, i + q.length ≤ j → o.getD j 0 = 0
theorem TimesAt.start {i a : Nat} {q o : List Nat} (hL : Lims o) (hz : ∀ j, i + q.length ≤ j → o.getD j 0 = 0) : TimesAt (lv o) i a q 0 0 o :=
  ⟨by simp [lv], hL, by omega, hz⟩
theorem times_bound {a b c d : Nat} (ha : a < 1000000000) (hb : b < 1000000000) (hc : c < 1000000000) (hd : d < 1000000000) : c + (d + a * b) ≤ 999999999999999999 := by
  have h1 : a * b ≤ 999999999 * 999999999 := Nat.mul_le_mul (by omega) (by omega)
  omega
theorem TimesAt.step {v0 i a : Nat} {q : List Nat} {k c : Nat} {o : List Nat} (h : TimesAt v0 i a q k c o) (hk : k < q.length) (hl : i + k < o.length) (ha : a < 1000000000) (hq : Lims q) :
    TimesAt v0 i a q (k + 1) ((c + (o.getD (i + k) 0 + a * q.getD k 0)) / 1000000000) (o.set (i + k) ((c + (o.getD (i + k) 0 + a * q.getD k 0)) % 1000000000)) := by
  have hb := times_bound ha (Lims_getD hq k) h.carry (Lims_getD h.lims (i + k))
  refine ⟨?_, Lims_set h.lims _ _ (Nat.mod_lt _ (by decide)), by omega, fun j hj => ?_⟩
  · have h1 := lv_set o (i + k) ((c + (o.getD (i + k) 0 + a * q.getD k 0)) % 1000000000) hl
    have h2 := h.sum
    have h3 := lv_take_succ' q k
    generalize ht : c + (o.getD (i + k) 0 + a * q.getD k 0) = t at h1 ⊢
    rw [show i + (k + 1) = i + k + 1 by omega, pow_step, h3, Nat.mul_add, Nat.add_mul]
    have e1 : a * (q.getD k 0 * 1000000000 ^ k) * 1000000000 ^ i = a * q.getD k 0 * 1000000000 ^ (i + k) := by
      rw [Nat.pow_add, ← Nat.mul_assoc, Nat.mul_assoc, Nat.mul_comm (1000000000 ^ k)]
    have e2 : t / 1000000000 * (1000000000 * 1000000000 ^ (i + k)) + t % 1000000000 * 1000000000 ^ (i + k) = t * 1000000000 ^ (i + k) := by
      rw [← Nat.mul_assoc, ← Nat.add_mul]; congr 1; omega
    have e3 : t * 1000000000 ^ (i + k) = c * 1000000000 ^ (i + k) + (o.getD (i + k) 0 * 1000000000 ^ (i + k) + a * q.getD k 0 * 1000000000 ^ (i + k)) := by
      rw [← ht, Nat.add_mul, Nat.add_mul]
    omega
  · rw [getD_set_other _ _ _ _ (by omega)]; exact h.zero j hj
theorem TimesAt.finish {v0 i a : Nat} {q : List Nat} {c : Nat} {o : List Nat} (h : TimesAt v0 i a q q.length c o) (hl : i + q.length < o.length) :
    lv (o.set (i + q.length) c) = v0 + a * lv q * 1000000000 ^ i ∧ Lims (o.set (i + q.length) c) ∧ ∀ j, i + 1 + q.length ≤ j → (o.set (i + q.length) c).getD j 0 = 0 := by
  refine ⟨?_, Lims_set h.lims _ _ h.carry, fun j hj => ?_⟩
  · have h1 := lv_set o (i + q.length) c hl
    have h2 := h.sum
    rw [List.take_length] at h2
    rw [h.zero _ (Nat.le_refl _)] at h1
    omega
  · rw [getD_set_other _ _ _ _ (by omega)]; exact h.zero j (by omega)
/-- Rows 0 .. i-1 are in. -/
theorem times_row {p q : List Nat} {i : Nat} : lv (p.take i) * lv q + p.getD i 0 * lv q * 1000000000 ^ i = lv (p.take (i + 1)) * lv q := by
  rw [lv_take_succ', Nat.add_mul, Nat.mul_right_comm]

/-! ### small -/
theorem small_step {p o : List Nat} {i n r : Nat} (_hn : 0 < n) (hl : i < p.length) (ho : i < o.length) (h : lv (p.drop (i + 1)) = n * lv (o.drop (i + 1)) + r) :
    lv (p.drop i) = n * lv ((o.set i ((r * 1000000000 + p.getD i 0) / n)).drop i) + (r * 1000000000 + p.getD i 0) % n := by
  rw [lv_drop_pred p i hl, h, lv_drop_pred (o.set i _) i (by simpa using ho), drop_set_succ, getD_set_same _ _ _ ho]
  have := Nat.div_add_mod (r * 1000000000 + p.getD i 0) n
  generalize lv (o.drop (i + 1)) = z at *
  have e : n * ((r * 1000000000 + p.getD i 0) / n + 1000000000 * z) = n * ((r * 1000000000 + p.getD i 0) / n) + 1000000000 * (n * z) := by
    rw [Nat.mul_add]; congr 1; rw [← Nat.mul_assoc, ← Nat.mul_assoc, Nat.mul_comm n]
  rw [e]
  omega
theorem small_lt {r n x : Nat} (hr : r < n) (hx : x < 1000000000) : (r * 1000000000 + x) / n < 1000000000 := by
  rw [Nat.div_lt_iff_lt_mul (by omega)]
  have := Nat.mul_le_mul_left 1000000000 (show r + 1 ≤ n by omega)
  omega
theorem small_end {p o : List Nat} {n r : Nat} (hr : r < n) (h : lv (p.drop 0) = n * lv (o.drop 0) + r) : lv o = lv p / n ∧ r = lv p % n := by
  simp only [List.drop_zero] at h
  rw [h]
  have hn : 0 < n := by omega
  constructor
  · rw [Nat.mul_add_div hn, Nat.div_eq_of_lt hr, Nat.add_zero]
  · rw [Nat.mul_add_mod, Nat.mod_eq_of_lt hr]

/-! ### take -/
/-- The first k pieces of n times ys have been taken away from xs, moved by t places. c: what is still to be taken; b: the borrow. -/
structure TakeAt (xs ys : List Nat) (n t : Nat) (k c b : Nat) (zs : List Nat) : Prop where
  sum : lv (zs.take (t + k)) + n * lv (ys.take k) * 1000000000 ^ t = lv (xs.take (t + k)) + (c + b) * 1000000000 ^ (t + k)
  lims : Lims zs
  len : zs.length = xs.length
  rest : zs.drop (t + k) = xs.drop (t + k)
  carry : c ≤ n
  borrow : b ≤ 1
theorem TakeAt.start {xs ys : List Nat} {n t : Nat} (h : Lims xs) : TakeAt xs ys n t 0 0 0 xs := ⟨by simp [lv], h, rfl, rfl, by omega, by omega⟩
theorem take_bound {c n y : Nat} (hc : c ≤ n) (_hn : n < 1000000000) (hy : y < 1000000000) : c + n * y ≤ 999999999999999999 := by
  have h1 : n * y ≤ n * 999999999 := Nat.mul_le_mul_left _ (by omega)
  omega
theorem TakeAt.step {xs ys : List Nat} {n t k c b : Nat} {zs : List Nat} (h : TakeAt xs ys n t k c b zs) (hl : t + k < xs.length) (hy : Lims ys) (c1 d b' : Nat) (hc1 : c1 = c + n * ys.getD k 0)
    (hd : d + c1 % 1000000000 + b = zs.getD (t + k) 0 + b' * 1000000000) (hd' : d < 1000000000) (hb' : b' ≤ 1) :
    TakeAt xs ys n t (k + 1) (c1 / 1000000000) b' (zs.set (t + k) d) := by
  have hl' : t + k < zs.length := by rw [h.len]; exact hl
  refine ⟨?_, Lims_set h.lims _ _ hd', by rw [List.length_set, h.len], ?_, ?_, hb'⟩
  · have h1 := take_set_succ zs (t + k) d hl'
    have h2 := h.sum
    have h3 := lv_take_succ' ys k
    have h4 := lv_take_succ' xs (t + k)
    rw [show t + (k + 1) = t + k + 1 by omega, h1, h3, h4, pow_step, Nat.mul_add, Nat.add_mul]
    have e1 : n * (ys.getD k 0 * 1000000000 ^ k) * 1000000000 ^ t = n * ys.getD k 0 * 1000000000 ^ (t + k) := by
      rw [Nat.pow_add, ← Nat.mul_assoc, Nat.mul_assoc, Nat.mul_comm (1000000000 ^ k)]
    rw [e1]
    rw [getD_of_drop h.rest] at hd
    generalize 1000000000 ^ (t + k) = P at *
    have e2 : d * P + (c1 % 1000000000) * P + b * P = xs.getD (t + k) 0 * P + b' * 1000000000 * P := by rw [← Nat.add_mul, ← Nat.add_mul, hd, Nat.add_mul]
    have e3 : c1 * P = c * P + n * ys.getD k 0 * P := by rw [hc1, Nat.add_mul]
    have e4 : c1 * P = (c1 / 1000000000) * (1000000000 * P) + (c1 % 1000000000) * P := by rw [← Nat.mul_assoc, ← Nat.add_mul]; congr 1; omega
    have e5 : (c1 / 1000000000 + b') * (1000000000 * P) = (c1 / 1000000000) * (1000000000 * P) + b' * 1000000000 * P := by rw [Nat.add_mul, ← Nat.mul_assoc b']
    have e6 : (c + b) * P = c * P + b * P := Nat.add_mul _ _ _
    omega
  · rw [show t + (k + 1) = t + k + 1 by omega, drop_set_succ]; exact drop_of_drop h.rest
  · have h1 : n * ys.getD k 0 ≤ n * 999999999 := Nat.mul_le_mul_left _ (by have := Lims_getD hy k; omega)
    have := h.carry
    omega
theorem TakeAt.finish {xs ys : List Nat} {n t c b : Nat} {zs : List Nat} (h : TakeAt xs ys n t (ys.length + 1) c b zs) (hc : c = 0) :
    lv (zs.take (t + ys.length + 1)) + n * lv ys * 1000000000 ^ t = lv (xs.take (t + ys.length + 1)) + b * 1000000000 ^ (t + ys.length + 1) := by
  have := h.sum
  rw [List.take_of_length_le (by omega : ys.length ≤ ys.length + 1), hc] at this
  simpa [Nat.add_assoc] using this

/-! ### back -/
structure BackAt (xs ys : List Nat) (t : Nat) (k c : Nat) (zs : List Nat) : Prop where
  sum : lv (zs.take (t + k)) + c * 1000000000 ^ (t + k) = lv (xs.take (t + k)) + lv (ys.take k) * 1000000000 ^ t
  lims : Lims zs
  len : zs.length = xs.length
  rest : zs.drop (t + k) = xs.drop (t + k)
  carry : c ≤ 1
theorem BackAt.start {xs ys : List Nat} {t : Nat} (h : Lims xs) : BackAt xs ys t 0 0 xs := ⟨by simp [lv], h, rfl, rfl, by omega⟩
theorem BackAt.step {xs ys : List Nat} {t k c : Nat} {zs : List Nat} (h : BackAt xs ys t k c zs) (hl : t + k < xs.length) (hy : Lims ys) (c1 : Nat) (hc1 : c1 = c + zs.getD (t + k) 0 + ys.getD k 0) :
    BackAt xs ys t (k + 1) (c1 / 1000000000) (zs.set (t + k) (c1 % 1000000000)) := by
  have hl' : t + k < zs.length := by rw [h.len]; exact hl
  have hy' := Lims_getD hy k
  have hz' := Lims_getD h.lims (t + k)
  have hcc := h.carry
  refine ⟨?_, Lims_set h.lims _ _ (Nat.mod_lt _ (by decide)), by rw [List.length_set, h.len], ?_, by omega⟩
  · have h1 := take_set_succ zs (t + k) (c1 % 1000000000) hl'
    have h2 := h.sum
    have h3 := lv_take_succ' ys k
    have h4 := lv_take_succ' xs (t + k)
    rw [show t + (k + 1) = t + k + 1 by omega, h1, h3, h4, pow_step, Nat.add_mul (lv (ys.take k))]
    have e1 : ys.getD k 0 * 1000000000 ^ k * 1000000000 ^ t = ys.getD k 0 * 1000000000 ^ (t + k) := by rw [Nat.pow_add, Nat.mul_assoc, Nat.mul_comm (1000000000 ^ k)]
    rw [e1]
    rw [getD_of_drop h.rest] at hc1
    generalize 1000000000 ^ (t + k) = P at *
    have e3 : c1 * P = c * P + xs.getD (t + k) 0 * P + ys.getD k 0 * P := by rw [hc1, Nat.add_mul, Nat.add_mul]
    have e4 : c1 * P = (c1 / 1000000000) * (1000000000 * P) + (c1 % 1000000000) * P := by rw [← Nat.mul_assoc, ← Nat.add_mul]; congr 1; omega
    omega
  · rw [show t + (k + 1) = t + k + 1 by omega, drop_set_succ]; exact drop_of_drop h.rest
theorem BackAt.finish {xs ys : List Nat} {t c : Nat} {zs : List Nat} (h : BackAt xs ys t (ys.length + 1) c zs) :
    lv (zs.take (t + ys.length + 1)) + c * 1000000000 ^ (t + ys.length + 1) = lv (xs.take (t + ys.length + 1)) + lv ys * 1000000000 ^ t := by
  have := h.sum
  rw [List.take_of_length_le (by omega : ys.length ≤ ys.length + 1)] at this
  simpa [Nat.add_assoc] using this

/-! ### compare -/
theorem lv_less {xs ys : List Nat} (hx : Lims xs) (i : Nat) (hi : i < ys.length) (hd : xs.drop (i + 1) = ys.drop (i + 1)) (hl : xs.length = ys.length) (h : xs.getD i 0 < ys.getD i 0) : lv xs < lv ys := by
  have e1 := lv_append (xs.take i) (xs.drop i)
  have e2 := lv_append (ys.take i) (ys.drop i)
  rw [List.take_append_drop] at e1 e2
  have l1 : (xs.take i).length = i := by rw [List.length_take]; omega
  have l2 : (ys.take i).length = i := by rw [List.length_take]; omega
  rw [lv_drop_pred xs i (by omega), l1] at e1
  rw [lv_drop_pred ys i hi, l2, ← hd] at e2
  have b1 := lv_lt (xs.take i) (fun x hx' => hx x (List.mem_of_mem_take hx'))
  rw [l1] at b1
  generalize 1000000000 ^ i = P at *
  generalize lv (xs.drop (i + 1)) = Z at *
  have := Nat.mul_le_mul_left P (show xs.getD i 0 + 1000000000 * Z + 1 ≤ ys.getD i 0 + 1000000000 * Z by omega)
  rw [Nat.mul_add P _ 1] at this
  omega
end Go.Proofs.YtebcmefbpfcgmaaGreatDoor
