/- Integers in canonical decimal text. Plain lemmas, no program. -/
import Derived.Test.YtebcmefbpfcgmaaGreatDoorNum
import Derived.Lib.ParseIntB
import Derived.Lib.Atoi
namespace Go.Proofs.YtebcmefbpfcgmaaGreatDoor

/-- The canonical text of an integer. -/
def itx (z : Int) : ByteArray := ⟨(Lib.itoa z).toArray⟩
/-- How many digits the magnitude has. -/
def nz (z : Int) : Nat := Lib.nDigits z.natAbs
theorem itx_data (z : Int) : (itx z).data.toList = Lib.itoa z := by simp [itx]
theorem itoa_neg {z : Int} (h : z < 0) : Lib.itoa z = 45 :: Lib.decDigits z.natAbs := by rw [Lib.itoa, if_pos h]
theorem itoa_pos {z : Int} (h : 0 ≤ z) : Lib.itoa z = Lib.decDigits z.natAbs := by
  rw [Lib.itoa, if_neg (by omega), show z.toNat = z.natAbs by omega]
theorem itx_of_pos {z : Int} (h : 0 ≤ z) : itx z = dec z.natAbs := by unfold itx dec; rw [itoa_pos h]
theorem itx_nat (n : Nat) : itx (n : Int) = dec n := by rw [itx_of_pos (by omega), Int.natAbs_natCast]
theorem itx_of_neg {z : Int} (h : z < 0) : itx z = ⟨(45 :: Lib.decDigits z.natAbs).toArray⟩ := by unfold itx; rw [itoa_neg h]
theorem itx_toList (z : Int) : (itx z).toList = Lib.itoa z := by rw [ByteArray.toList_eq, itx_data]
theorem itx_size (z : Int) : (itx z).size = nz z + (if z < 0 then 1 else 0) := by
  show (itx z).data.toList.length = _
  rw [itx_data]
  by_cases h : z < 0
  · rw [itoa_neg h, List.length_cons, Lib.decDigits_length, if_pos h, nz]
  · rw [itoa_pos (by omega), Lib.decDigits_length, if_neg h, nz, Nat.add_zero]
theorem itx_size_le (z : Int) : (itx z).size ≤ nz z + 1 := by rw [itx_size]; split <;> omega
theorem itx_size_ge (z : Int) : nz z ≤ (itx z).size := by rw [itx_size]; omega
theorem itx_size_pos (z : Int) : 0 < (itx z).size := by have := itx_size_ge z; have := Lib.nDigits_pos z.natAbs; unfold nz at *; omega
theorem nz_pos (z : Int) : 1 ≤ nz z := Lib.nDigits_pos _
theorem nz_neg (z : Int) : nz (-z) = nz z := by unfold nz; rw [Int.natAbs_neg]
theorem nz_nat (n : Nat) : nz (n : Int) = Lib.nDigits n := by unfold nz; rw [Int.natAbs_natCast]
theorem nz_mono {a b : Int} (h : a.natAbs ≤ b.natAbs) : nz a ≤ nz b := nd_mono h
theorem nz_add (a b : Int) : nz (a + b) ≤ max (nz a) (nz b) + 1 := by
  unfold nz
  refine Nat.le_trans (nd_mono (Int.natAbs_add_le a b)) ?_
  have h1 := Lib.lt_pow_nDigits a.natAbs
  have h2 := Lib.lt_pow_nDigits b.natAbs
  rw [nd_le_iff]
  have h3 : 10 ^ Lib.nDigits a.natAbs ≤ 10 ^ max (Lib.nDigits a.natAbs) (Lib.nDigits b.natAbs) := Nat.pow_le_pow_right (by decide) (by omega)
  have h4 : 10 ^ Lib.nDigits b.natAbs ≤ 10 ^ max (Lib.nDigits a.natAbs) (Lib.nDigits b.natAbs) := Nat.pow_le_pow_right (by decide) (by omega)
  rw [Nat.pow_succ]; omega
theorem nz_sub (a b : Int) : nz (a - b) ≤ max (nz a) (nz b) + 1 := by
  rw [Int.sub_eq_add_neg, ← nz_neg b]; exact nz_add a (-b)
theorem nz_mul (a b : Int) : nz (a * b) ≤ nz a + nz b := by
  unfold nz
  rw [Int.natAbs_mul]
  have h1 := Lib.lt_pow_nDigits a.natAbs
  have h2 := Lib.lt_pow_nDigits b.natAbs
  have h3 := Lib.nDigits_pos a.natAbs
  have h5 := (nd_le_iff (a.natAbs * b.natAbs) (Lib.nDigits a.natAbs + Lib.nDigits b.natAbs - 1)).2
  rw [show Lib.nDigits a.natAbs + Lib.nDigits b.natAbs - 1 + 1 = Lib.nDigits a.natAbs + Lib.nDigits b.natAbs by omega] at h5
  refine h5 ?_
  rw [Nat.pow_add]
  exact Nat.mul_lt_mul'' h1 h2
theorem nz_le_iff (z : Int) (k : Nat) : nz z ≤ k + 1 ↔ z.natAbs < 10 ^ (k + 1) := nd_le_iff _ _

theorem dd_head_ge (n : Nat) : ∃ c r, Lib.decDigits n = c :: r ∧ 48 ≤ c.toNat ∧ c.toNat ≤ 57 := by
  cases h : Lib.decDigits n with
  | nil => exact absurd h (dd_ne_nil n)
  | cons c r =>
    have ha := all_dd n
    rw [h, List.all_cons, Bool.and_eq_true, isDig_iff] at ha
    exact ⟨c, r, rfl, ha.1⟩
theorem itoa_inj {a b : Int} (h : Lib.itoa a = Lib.itoa b) : a = b := by
  obtain ⟨c, r, hc, h1, h2⟩ := dd_head_ge a.natAbs
  obtain ⟨d, s, hd, h3, h4⟩ := dd_head_ge b.natAbs
  have h45 : (45 : UInt8).toNat = 45 := rfl
  by_cases ha : a < 0
  · by_cases hb : b < 0
    · rw [itoa_neg ha, itoa_neg hb] at h
      injection h with _ h
      have := dd_inj h
      omega
    · rw [itoa_neg ha, itoa_pos (by omega), hd] at h
      injection h with h _
      rw [← h] at h3; omega
  · by_cases hb : b < 0
    · rw [itoa_pos (by omega), itoa_neg hb, hc] at h
      injection h with h _
      rw [h] at h1; omega
    · rw [itoa_pos (by omega), itoa_pos (by omega)] at h
      have := dd_inj h
      omega
theorem itx_inj {a b : Int} (h : itx a = itx b) : a = b := itoa_inj (by rw [← itx_data, h, itx_data])
theorem itx_beq (a b : Int) : ((itx a).toList == (itx b).toList) = decide (a = b) := by
  rw [itx_toList, itx_toList, Bool.eq_iff_iff, beq_iff_eq, decide_eq_true_eq]
  exact ⟨itoa_inj, fun h => by rw [h]⟩
theorem itx_zero : itx 0 = dec 0 := itx_nat 0
theorem itoa_zero : Lib.itoa 0 = [48] := by rw [itoa_pos (by omega)]; exact dd_small (by omega)
theorem itoa_one : Lib.itoa 1 = [49] := by rw [itoa_pos (by omega)]; exact dd_small (by omega)
theorem itx_lit_zero : itx 0 = ⟨#[48]⟩ := by unfold itx; rw [itoa_zero]
theorem itx_lit_one : itx 1 = ⟨#[49]⟩ := by unfold itx; rw [itoa_one]
theorem itx_zero_test {z : Int} (h : z ≠ 0) : ((itx z).toList == [48]) = false := by
  rw [itx_toList, beq_eq_false_iff_ne, ← itoa_zero]
  exact fun e => h (itoa_inj e)
theorem itx_zero_same : ((itx 0).toList == [48]) = true := by rw [itx_toList, itoa_zero]; rfl
theorem itx_one_test {z : Int} (h : z ≠ 1) : ((itx z).toList == [49]) = false := by
  rw [itx_toList, beq_eq_false_iff_ne, ← itoa_one]
  exact fun e => h (itoa_inj e)
theorem itx_one_same : ((itx 1).toList == [49]) = true := by rw [itx_toList, itoa_one]; rfl

/-! The library's words at canonical texts. -/
theorem parseU' (l : List UInt8) (h : l.all isDig = true) : ∀ acc : Nat, acc < 18446744073709551616 →
    Lib.parseUintM 18446744073709551615 acc l = if acc * 10 ^ l.length + val l < 18446744073709551616 then .ok (acc * 10 ^ l.length + val l) else .range := by
  induction l with
  | nil => intro acc ha; simp only [Lib.parseUintM, List.length_nil, Nat.pow_zero, Nat.mul_one, val_nil, Nat.add_zero]; rw [if_pos ha]
  | cons c r ih =>
    intro acc ha
    rw [List.all_cons, Bool.and_eq_true, isDig_iff] at h
    have hp : 0 < 10 ^ r.length := Nat.pow_pos (by decide)
    have hv := val_cons c r
    have e : acc * 10 ^ (c :: r).length + val (c :: r) = (acc * 10 + (c.toNat - 48)) * 10 ^ r.length + val r := by
      rw [hv, List.length_cons, Nat.pow_succ, Nat.add_mul, Nat.mul_comm (10 ^ r.length) 10, Nat.mul_assoc]; omega
    rw [Lib.parseUintM, if_pos h.1, e]
    have hge : acc * 10 + (c.toNat - 48) ≤ (acc * 10 + (c.toNat - 48)) * 10 ^ r.length + val r := by
      have := Nat.le_mul_of_pos_right (acc * 10 + (c.toNat - 48)) hp
      omega
    by_cases h1 : 1844674407370955162 ≤ acc
    · rw [if_pos h1, if_neg (by omega)]
    · rw [if_neg h1]
      by_cases h2 : 18446744073709551615 < acc * 10 + (c.toNat - 48)
      · rw [if_pos h2, if_neg (by omega)]
      · rw [if_neg h2, ih h.2 _ (by omega)]
theorem parseU_dd (n : Nat) : Lib.parseUintB 64 (Lib.decDigits n) = if n < 18446744073709551616 then .ok n else .range := by
  have h := parseU' (Lib.decDigits n) (all_dd n) 0 (by decide)
  rw [Nat.zero_mul, Nat.zero_add, val_dd] at h
  unfold Lib.parseUintB
  rw [if_neg (dd_ne_nil n)]
  exact h
/-- ParseInt at 64 bits of a canonical text. -/
theorem parseI_itoa (z : Int) : Lib.parseIntB 64 (Lib.itoa z) = if -9223372036854775808 ≤ z ∧ z ≤ 9223372036854775807 then .ok z else .range := by
  have h45 : (45 : UInt8).toNat = 45 := rfl
  by_cases h : z < 0
  · rw [itoa_neg h]
    unfold Lib.parseIntB
    simp only [h45, or_true, if_true]
    rw [parseU_dd]
    by_cases h1 : z.natAbs < 18446744073709551616
    · simp only [if_pos h1, not_true_eq_false, false_and, if_false, true_and]
      by_cases h2 : (2 : Nat) ^ (64 - 1) < z.natAbs
      · rw [if_pos h2, if_neg (by omega)]
      · rw [if_neg h2, if_pos (by omega)]
        congr 1; omega
    · simp only [if_neg h1]
      rw [if_neg (by omega)]
  · rw [itoa_pos (by omega)]
    obtain ⟨c, r, hc, h1, h2⟩ := dd_head_ge z.natAbs
    have hp := parseU_dd z.natAbs
    rw [hc] at hp ⊢
    unfold Lib.parseIntB
    have e1 : ¬ c.toNat = 43 := by omega
    have e2 : ¬ c.toNat = 45 := by omega
    simp only [e1, e2, or_self, if_false, hp, not_false_eq_true, true_and, false_and]
    by_cases h3 : z.natAbs < 18446744073709551616
    · simp only [if_pos h3]
      by_cases h4 : (2 : Nat) ^ (64 - 1) ≤ z.natAbs
      · rw [if_pos h4, if_neg (by omega)]
      · rw [if_neg h4, if_pos (by omega)]
        congr 1; omega
    · simp only [if_neg h3]
      rw [if_neg (by omega)]
theorem digitVal_dig (c : UInt8) (h : isDig c = true) : Lib.digitVal c = some (c.toNat - 48) := by
  rw [isDig_iff] at h
  unfold Lib.digitVal
  rw [if_pos (by simpa using h)]
theorem decFrom_val (l : List UInt8) (h : l.all isDig = true) : ∀ acc, Lib.decFrom acc l = some (acc * 10 ^ l.length + val l) := by
  induction l with
  | nil => intro acc; simp [Lib.decFrom, val_nil]
  | cons c r ih =>
    intro acc
    rw [List.all_cons, Bool.and_eq_true] at h
    rw [Lib.decFrom, digitVal_dig c h.1]
    show Lib.decFrom (acc * 10 + (c.toNat - 48)) r = _
    rw [ih h.2, val_cons, List.length_cons, Nat.pow_succ, Nat.add_mul, Nat.mul_comm (10 ^ r.length) 10, Nat.mul_assoc]
    congr 1; omega
theorem atoi_itoa (z : Int) : Lib.atoi (Lib.itoa z) = some z := by
  have key : ∀ n, Lib.decNat (Lib.decDigits n) = some n := by
    intro n
    unfold Lib.decNat
    have : (Lib.decDigits n).isEmpty = false := by
      cases h : Lib.decDigits n with
      | nil => exact absurd h (dd_ne_nil n)
      | cons c r => rfl
    rw [this, decFrom_val _ (all_dd n), val_dd]; simp
  by_cases h : z < 0
  · rw [itoa_neg h]
    unfold Lib.atoi
    simp only [beq_self_eq_true, if_true, key, Option.map_some]
    congr 1; omega
  · rw [itoa_pos (by omega)]
    obtain ⟨c, r, hc, h1, h2⟩ := dd_head_ge z.natAbs
    have hk := key z.natAbs
    rw [hc] at hk ⊢
    unfold Lib.atoi
    have e1 : (c == 45) = false := by rw [beq_eq_false_iff_ne]; intro e; rw [e] at h1; exact absurd h1 (by decide)
    have e2 : (c == 43) = false := by rw [beq_eq_false_iff_ne]; intro e; rw [e] at h1; exact absurd h1 (by decide)
    simp only [e1, e2, Bool.false_eq_true, if_false, hk, Option.map_some]
    congr 1; omega
end Go.Proofs.YtebcmefbpfcgmaaGreatDoor
