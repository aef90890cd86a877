/- Division of pieces: the plain arithmetic of a step. -/
import Derived.Test.YtebcmefbpfcgmaaGreatDoorLimbOps
namespace Go.Proofs.YtebcmefbpfcgmaaGreatDoor

/-- The quotient's pieces from k on are in out; a is what is left of N. -/
structure DivAt (N : Nat) (ys : List Nat) (k : Nat) (a out : List Nat) : Prop where
  limA : Lims a
  limO : Lims out
  sum : N = lv (out.drop k) * 1000000000 ^ k * lv ys + lv a
  lt : lv a < lv ys * 1000000000 ^ k

theorem pow_pos9 (k : Nat) : 0 < 1000000000 ^ k := Nat.pow_pos (by decide)

/-- The three greatest pieces of a window of n + 1 pieces at i. -/
theorem top3 {a : List Nat} {i n : Nat} (hn : 2 ≤ n) (hL : Lims a) (hl : i + n < a.length) (hz : lv a < 1000000000 ^ (i + n + 1)) :
    ∃ low, low < 1000000000 ^ (n - 2) ∧ lv (a.drop i) = ((a.getD (i + n) 0 * 1000000000 + a.getD (i + n - 1) 0) * 1000000000 + a.getD (i + n - 2) 0) * 1000000000 ^ (n - 2) + low := by
  refine ⟨lv ((a.drop i).take (n - 2)), ?_, ?_⟩
  · have h := lv_lt ((a.drop i).take (n - 2)) (fun x hx => hL x (List.mem_of_mem_drop (List.mem_of_mem_take hx)))
    rw [List.length_take, List.length_drop, Nat.min_eq_left (by omega)] at h
    exact h
  · have e := lv_append ((a.drop i).take (n - 2)) ((a.drop i).drop (n - 2))
    rw [List.take_append_drop, List.length_take, List.length_drop, Nat.min_eq_left (by omega), List.drop_drop] at e
    rw [e]
    have h0 : lv (a.drop (i + n + 1)) = 0 := by rw [lv_drop a hL _ (by omega), Nat.div_eq_of_lt hz]
    have h1 := lv_drop_pred a (i + n) hl
    have h2 := lv_drop_pred a (i + n - 1) (by omega)
    have h3 := lv_drop_pred a (i + n - 2) (by omega)
    rw [show i + n - 1 + 1 = i + n by omega] at h2
    rw [show i + n - 2 + 1 = i + n - 1 by omega] at h3
    rw [show i + (n - 2) = i + n - 2 by omega, h3, h2, h1, h0, Nat.mul_comm]
    generalize 1000000000 ^ (n - 2) = P
    have e2 : a.getD (i + n - 2) 0 + 1000000000 * (a.getD (i + n - 1) 0 + 1000000000 * (a.getD (i + n) 0 + 1000000000 * 0)) = (a.getD (i + n) 0 * 1000000000 + a.getD (i + n - 1) 0) * 1000000000 + a.getD (i + n - 2) 0 := by omega
    rw [e2]; omega
theorem top2 {ys : List Nat} (hn : 2 ≤ ys.length) (hL : Lims ys) :
    ∃ low, low < 1000000000 ^ (ys.length - 2) ∧ lv ys = (ys.getD (ys.length - 1) 0 * 1000000000 + ys.getD (ys.length - 2) 0) * 1000000000 ^ (ys.length - 2) + low := by
  refine ⟨lv (ys.take (ys.length - 2)), ?_, ?_⟩
  · have h := lv_lt (ys.take (ys.length - 2)) (fun x hx => hL x (List.mem_of_mem_take hx))
    rw [List.length_take, Nat.min_eq_left (by omega)] at h
    exact h
  · have e := lv_append (ys.take (ys.length - 2)) (ys.drop (ys.length - 2))
    rw [List.take_append_drop, List.length_take, Nat.min_eq_left (by omega)] at e
    rw [e]
    have h2 := lv_drop_pred ys (ys.length - 1) (by omega)
    have h3 := lv_drop_pred ys (ys.length - 2) (by omega)
    rw [show ys.length - 1 + 1 = ys.length by omega, List.drop_length] at h2
    rw [show ys.length - 2 + 1 = ys.length - 1 by omega] at h3
    rw [h3, h2, Nat.mul_comm]
    have e2 : ys.getD (ys.length - 2) 0 + 1000000000 * (ys.getD (ys.length - 1) 0 + 1000000000 * lv []) = ys.getD (ys.length - 1) 0 * 1000000000 + ys.getD (ys.length - 2) 0 := by simp only [lv]; omega
    rw [e2]; omega

/-- A guess at one piece of the quotient: high = guess b1 + rest, and it is not too small. A: the window; b: the divisor. -/
structure Guess (A b high b1 g r : Nat) : Prop where
  sum : high = g * b1 + r
  ge : A / b ≤ g
theorem Guess.start {A b high b1 b2 a2 P low blow : Nat} (_hP : 0 < P) (hb1 : 0 < b1) (hA : A = (high * 1000000000 + a2) * P + low) (hlow : low < P) (ha2 : a2 < 1000000000) (hb : b = (b1 * 1000000000 + b2) * P + blow) : Guess A b high b1 (high / b1) (high % b1) := by
  refine ⟨by rw [Nat.mul_comm]; exact (Nat.div_add_mod high b1).symm, ?_⟩
  rw [Nat.le_div_iff_mul_le hb1]
  have h1 : A / b * b ≤ A := Nat.div_mul_le_self A b
  generalize A / b = q at *
  -- q b1 1e9 P ≤ q b ≤ A < (high + 1) 1e9 P
  have h2 : q * b1 * (1000000000 * P) ≤ q * b := by
    rw [hb, Nat.mul_assoc]
    refine Nat.mul_le_mul_left q ?_
    rw [← Nat.mul_assoc, Nat.add_mul]; omega
  have h3 : A < (high + 1) * (1000000000 * P) := by
    have h4 : (high * 1000000000 + a2 + 1) * P ≤ (high * 1000000000 + 1000000000) * P := Nat.mul_le_mul_right P (by omega)
    rw [Nat.add_mul _ 1, Nat.one_mul] at h4
    have h5 : (high + 1) * (1000000000 * P) = (high * 1000000000 + 1000000000) * P := by rw [← Nat.mul_assoc, Nat.add_mul high 1, Nat.one_mul]
    rw [h5, hA]; omega
  have h6 : q * b1 * (1000000000 * P) < (high + 1) * (1000000000 * P) := by omega
  have := Nat.lt_of_mul_lt_mul_right h6
  omega
theorem Guess.less {A b high b1 b2 a2 P low blow g r : Nat} (h : Guess A b high b1 g r) (_hP : 0 < P) (hb0 : 0 < b) (hA : A = (high * 1000000000 + a2) * P + low) (hlow : low < P) (hb : b = (b1 * 1000000000 + b2) * P + blow)
    (hq : A < b * 1000000000) (hc : 1000000000 ≤ g ∨ r * 1000000000 + a2 < g * b2) : 0 < g ∧ Guess A b high b1 (g - 1) (r + b1) := by
  have hlt : A / b < g := by
    rcases hc with hc | hc
    · have : A / b < 1000000000 := Nat.div_lt_of_lt_mul hq
      omega
    · rw [Nat.div_lt_iff_lt_mul hb0]
      have h1 : (high * 1000000000 + a2 + 1) * P ≤ (g * (b1 * 1000000000 + b2)) * P := by
        refine Nat.mul_le_mul_right P ?_
        have := h.sum
        rw [Nat.mul_add, ← Nat.mul_assoc]
        omega
      rw [Nat.add_mul _ 1, Nat.one_mul] at h1
      have h2 : g * b = g * (b1 * 1000000000 + b2) * P + g * blow := by rw [hb, Nat.mul_add, Nat.mul_assoc]
      omega
  have h0 : 0 < g := Nat.lt_of_le_of_lt (Nat.zero_le _) hlt
  refine ⟨h0, ?_, by omega⟩
  have := h.sum
  have e : g * b1 = (g - 1) * b1 + b1 := by
    have : g = (g - 1) + 1 := by omega
    rw [this, Nat.add_mul, Nat.one_mul]; simp
  omega
theorem Guess.stop {A b high b1 b2 a2 P low blow g r : Nat} (h : Guess A b high b1 g r) (hb0 : 0 < b) (hA : A = (high * 1000000000 + a2) * P + low) (hb : b = (b1 * 1000000000 + b2) * P + blow) (hblow : blow < P) (hb2 : b2 < 1000000000)
    (hb1 : 0 < b1) (hg : g < 1000000000) (hc : ¬ (r < 1000000000 ∧ r * 1000000000 + a2 < g * b2)) : g = A / b ∨ g = A / b + 1 := by
  have h1 : g * (b1 * 1000000000 + b2) ≤ high * 1000000000 + a2 := by
    have hs := h.sum
    rw [Nat.mul_add, ← Nat.mul_assoc]
    by_cases hr : r < 1000000000
    · have : ¬ r * 1000000000 + a2 < g * b2 := fun h2 => hc ⟨hr, h2⟩
      omega
    · have h3 : g * b2 ≤ 999999999 * 999999999 := Nat.mul_le_mul (by omega) (by omega)
      omega
  have h2 : g * b ≤ (high * 1000000000 + a2) * P + g * blow := by
    rw [hb, Nat.mul_add, ← Nat.mul_assoc]
    have := Nat.mul_le_mul_right P h1
    omega
  have h3 : g * blow < b := by
    have h4 : g * blow ≤ 1000000000 * blow := Nat.mul_le_mul_right _ (by omega)
    have h5 : 1000000000 * P ≤ b1 * 1000000000 * P := by
      refine Nat.mul_le_mul_right P ?_
      omega
    rw [hb, Nat.add_mul]; omega
  have h6 : g * b < A + b := by omega
  have h7 : g ≤ A / b + 1 := by
    have h8 : (g - 1) * b ≤ A := by
      rcases Nat.eq_zero_or_pos g with h0 | h0
      · subst h0; simp
      · have e : g * b = (g - 1) * b + b := by
          have : g = (g - 1) + 1 := by omega
          rw [this, Nat.add_mul, Nat.one_mul]; simp
        omega
    have := (Nat.le_div_iff_mul_le hb0).2 h8
    omega
  have := h.ge
  omega

/-- One piece of the quotient: what is left is less than the divisor at that place. -/
theorem DivAt.next {N : Nat} {ys : List Nat} {i : Nat} {a a' out : List Nat} (h : DivAt N ys (i + 1) a out) (hi : i < out.length) (hy : 0 < lv ys) (ha' : Lims a')
    (e : lv a' + lv a / (lv ys * 1000000000 ^ i) * (lv ys * 1000000000 ^ i) = lv a) : lv a / (lv ys * 1000000000 ^ i) < 1000000000 ∧ DivAt N ys i a' (out.set i (lv a / (lv ys * 1000000000 ^ i))) := by
  have hM : 0 < lv ys * 1000000000 ^ i := Nat.mul_pos hy (pow_pos9 i)
  have hq : lv a / (lv ys * 1000000000 ^ i) < 1000000000 := by
    rw [Nat.div_lt_iff_lt_mul hM]
    have := h.lt
    rw [pow_step] at this
    rw [show 1000000000 * (lv ys * 1000000000 ^ i) = lv ys * (1000000000 * 1000000000 ^ i) by rw [← Nat.mul_assoc, ← Nat.mul_assoc, Nat.mul_comm 1000000000]]
    exact this
  refine ⟨hq, ha', Lims_set h.limO _ _ hq, ?_, ?_⟩
  · have hs := h.sum
    rw [lv_drop_pred _ i (by simpa using hi), getD_set_same _ _ _ hi, drop_set_succ]
    generalize lv a / (lv ys * 1000000000 ^ i) = q at *
    generalize lv (out.drop (i + 1)) = Z at *
    rw [hs, ← e, pow_step, Nat.add_mul, Nat.add_mul]
    have e1 : Z * (1000000000 * 1000000000 ^ i) * lv ys = 1000000000 * Z * 1000000000 ^ i * lv ys := by rw [← Nat.mul_assoc, Nat.mul_comm Z]
    have e2 : q * (lv ys * 1000000000 ^ i) = q * 1000000000 ^ i * lv ys := by rw [Nat.mul_comm (lv ys), Nat.mul_assoc]
    rw [e1, e2]; omega
  · have h1 : lv a' = lv a % (lv ys * 1000000000 ^ i) := by
      have := Nat.div_add_mod (lv a) (lv ys * 1000000000 ^ i)
      rw [Nat.mul_comm] at this
      omega
    rw [h1]; exact Nat.mod_lt _ hM
theorem DivAt.fin {N : Nat} {ys a out : List Nat} (h : DivAt N ys 0 a out) : lv out = N / lv ys ∧ lv a = N % lv ys := by
  have hs := h.sum
  have hl := h.lt
  rw [List.drop_zero, Nat.pow_zero, Nat.mul_one] at hs
  rw [Nat.pow_zero, Nat.mul_one] at hl
  have hy : 0 < lv ys := by omega
  constructor
  · rw [hs, Nat.mul_comm, Nat.mul_add_div hy, Nat.div_eq_of_lt hl, Nat.add_zero]
  · rw [hs, Nat.mul_comm, Nat.mul_add_mod, Nat.mod_eq_of_lt hl]

/-- The window's quotient is the whole's. -/
theorem win_div {a : List Nat} {i b : Nat} (hL : Lims a) (hi : i ≤ a.length) : lv (a.drop i) / b = lv a / (b * 1000000000 ^ i) := by
  rw [lv_drop a hL i hi, Nat.div_div_eq_div_mul, Nat.mul_comm]

/-- What take leaves, if the guess was right. -/
theorem take_right {a ys zs : List Nat} {i m bo : Nat} (hz : Lims zs) (_hlen : zs.length = a.length) (hl : i + ys.length < a.length) (hlt : lv a < lv ys * 1000000000 ^ (i + 1)) (hyl : lv ys < 1000000000 ^ ys.length)
    (hd : zs.drop (i + ys.length + 1) = a.drop (i + ys.length + 1)) (hm : m = lv a / (lv ys * 1000000000 ^ i)) (hbo : bo ≤ 1) (hL : Lims a)
    (h : lv (zs.take (i + ys.length + 1)) + m * lv ys * 1000000000 ^ i = lv (a.take (i + ys.length + 1)) + bo * 1000000000 ^ (i + ys.length + 1)) : bo = 0 ∧ lv zs + m * (lv ys * 1000000000 ^ i) = lv a := by
  have hA : lv a < 1000000000 ^ (i + ys.length + 1) := by
    have : lv ys * 1000000000 ^ (i + 1) ≤ 1000000000 ^ ys.length * 1000000000 ^ (i + 1) := Nat.mul_le_mul_right _ (by omega)
    rw [← Nat.pow_add, show ys.length + (i + 1) = i + ys.length + 1 by omega] at this
    omega
  have h0 : lv (a.drop (i + ys.length + 1)) = 0 := by rw [lv_drop a hL _ (by omega), Nat.div_eq_of_lt hA]
  have ea := lv_append (a.take (i + ys.length + 1)) (a.drop (i + ys.length + 1))
  have ez := lv_append (zs.take (i + ys.length + 1)) (zs.drop (i + ys.length + 1))
  rw [List.take_append_drop, h0] at ea
  rw [List.take_append_drop, hd, h0] at ez
  have hzt := lv_lt (zs.take (i + ys.length + 1)) (fun x hx => hz x (List.mem_of_mem_take hx))
  rw [List.length_take, Nat.min_eq_left (by omega)] at hzt
  rw [Nat.mul_assoc] at h
  have hmle : m * (lv ys * 1000000000 ^ i) ≤ lv a := by rw [hm]; exact Nat.div_mul_le_self _ _
  simp only [Nat.mul_zero, Nat.add_zero] at ea ez
  generalize m * (lv ys * 1000000000 ^ i) = X at *
  have hbo0 : bo = 0 := by
    rcases Nat.eq_zero_or_pos bo with hb | hb
    · exact hb
    · have : bo = 1 := by omega
      subst this
      omega
  subst hbo0
  exact ⟨rfl, by omega⟩
/-- If the guess was too great by one, take says so. -/
theorem take_bo {a ys zs : List Nat} {i m bo : Nat} (hl : i + ys.length < a.length) (hlt : lv a < lv ys * 1000000000 ^ (i + 1)) (hyl : lv ys < 1000000000 ^ ys.length)
    (hm : m = lv a / (lv ys * 1000000000 ^ i) + 1) (hbo : bo ≤ 1) (hL : Lims a) (hy : 0 < lv ys)
    (h : lv (zs.take (i + ys.length + 1)) + m * lv ys * 1000000000 ^ i = lv (a.take (i + ys.length + 1)) + bo * 1000000000 ^ (i + ys.length + 1)) : bo = 1 := by
  have hA : lv a < 1000000000 ^ (i + ys.length + 1) := by
    have : lv ys * 1000000000 ^ (i + 1) ≤ 1000000000 ^ ys.length * 1000000000 ^ (i + 1) := Nat.mul_le_mul_right _ (by omega)
    rw [← Nat.pow_add, show ys.length + (i + 1) = i + ys.length + 1 by omega] at this
    omega
  have h0 : lv (a.drop (i + ys.length + 1)) = 0 := by rw [lv_drop a hL _ (by omega), Nat.div_eq_of_lt hA]
  have ea := lv_append (a.take (i + ys.length + 1)) (a.drop (i + ys.length + 1))
  rw [List.take_append_drop, h0] at ea
  rw [Nat.mul_assoc] at h
  have hM : 0 < lv ys * 1000000000 ^ i := Nat.mul_pos hy (pow_pos9 i)
  have hdm := Nat.div_add_mod (lv a) (lv ys * 1000000000 ^ i)
  have hml := Nat.mod_lt (lv a) hM
  rw [Nat.mul_comm] at hdm
  have e1 : m * (lv ys * 1000000000 ^ i) = lv a / (lv ys * 1000000000 ^ i) * (lv ys * 1000000000 ^ i) + lv ys * 1000000000 ^ i := by rw [hm, Nat.add_mul, Nat.one_mul]
  simp only [Nat.mul_zero, Nat.add_zero] at ea
  rw [e1] at h
  generalize lv a / (lv ys * 1000000000 ^ i) * (lv ys * 1000000000 ^ i) = X at *
  generalize lv ys * 1000000000 ^ i = Y at *
  generalize lv a % Y = Z at *
  rcases Nat.eq_zero_or_pos bo with hb0 | hb0
  · subst hb0; omega
  · omega
/-- What take leaves, if the guess was too great by one; and what back makes of it. -/
theorem take_over {a ys zs us : List Nat} {i m bo c : Nat} (hz : Lims zs) (hu : Lims us) (_hlen : zs.length = a.length) (hlenu : us.length = a.length) (hl : i + ys.length < a.length) (hlt : lv a < lv ys * 1000000000 ^ (i + 1)) (hyl : lv ys < 1000000000 ^ ys.length)
    (hd : zs.drop (i + ys.length + 1) = a.drop (i + ys.length + 1)) (hdu : us.drop (i + ys.length + 1) = zs.drop (i + ys.length + 1)) (hm : m = lv a / (lv ys * 1000000000 ^ i) + 1) (hbo : bo ≤ 1) (hL : Lims a) (hy : 0 < lv ys)
    (h : lv (zs.take (i + ys.length + 1)) + m * lv ys * 1000000000 ^ i = lv (a.take (i + ys.length + 1)) + bo * 1000000000 ^ (i + ys.length + 1)) (hc : c ≤ 1)
    (hb : lv (us.take (i + ys.length + 1)) + c * 1000000000 ^ (i + ys.length + 1) = lv (zs.take (i + ys.length + 1)) + lv ys * 1000000000 ^ i) :
    lv us + (m - 1) * (lv ys * 1000000000 ^ i) = lv a := by
  have hA : lv a < 1000000000 ^ (i + ys.length + 1) := by
    have : lv ys * 1000000000 ^ (i + 1) ≤ 1000000000 ^ ys.length * 1000000000 ^ (i + 1) := Nat.mul_le_mul_right _ (by omega)
    rw [← Nat.pow_add, show ys.length + (i + 1) = i + ys.length + 1 by omega] at this
    omega
  have h0 : lv (a.drop (i + ys.length + 1)) = 0 := by rw [lv_drop a hL _ (by omega), Nat.div_eq_of_lt hA]
  have ea := lv_append (a.take (i + ys.length + 1)) (a.drop (i + ys.length + 1))
  have eu := lv_append (us.take (i + ys.length + 1)) (us.drop (i + ys.length + 1))
  rw [List.take_append_drop, h0] at ea
  rw [List.take_append_drop, hdu, hd, h0] at eu
  have hut := lv_lt (us.take (i + ys.length + 1)) (fun x hx => hu x (List.mem_of_mem_take hx))
  have hzt := lv_lt (zs.take (i + ys.length + 1)) (fun x hx => hz x (List.mem_of_mem_take hx))
  rw [List.length_take, Nat.min_eq_left (by omega)] at hut hzt
  rw [Nat.mul_assoc] at h
  have hM : 0 < lv ys * 1000000000 ^ i := Nat.mul_pos hy (pow_pos9 i)
  have hdm := Nat.div_add_mod (lv a) (lv ys * 1000000000 ^ i)
  have hml := Nat.mod_lt (lv a) hM
  rw [Nat.mul_comm] at hdm
  have e1 : m * (lv ys * 1000000000 ^ i) = lv a / (lv ys * 1000000000 ^ i) * (lv ys * 1000000000 ^ i) + lv ys * 1000000000 ^ i := by rw [hm, Nat.add_mul, Nat.one_mul]
  have e2 : (m - 1) * (lv ys * 1000000000 ^ i) = lv a / (lv ys * 1000000000 ^ i) * (lv ys * 1000000000 ^ i) := by rw [hm, Nat.add_sub_cancel]
  simp only [Nat.mul_zero, Nat.add_zero] at ea eu
  rw [e2]
  rw [e1] at h
  generalize lv a / (lv ys * 1000000000 ^ i) * (lv ys * 1000000000 ^ i) = X at *
  generalize lv ys * 1000000000 ^ i = Y at *
  generalize lv a % Y = Z at *
  have hbo1 : bo = 1 := by
    rcases Nat.eq_zero_or_pos bo with hb0 | hb0
    · subst hb0; omega
    · omega
  subst hbo1
  have hc1 : c = 1 := by
    rcases Nat.eq_zero_or_pos c with hc0 | hc0
    · subst hc0; omega
    · omega
  subst hc1
  omega
end Go.Proofs.YtebcmefbpfcgmaaGreatDoor
