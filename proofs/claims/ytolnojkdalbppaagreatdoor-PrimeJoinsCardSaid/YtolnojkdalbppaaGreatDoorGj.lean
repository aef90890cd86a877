/- Greater text, out of: T19, T20. -/
import Derived.Test.YtolnojkdalbppaaGreatDoorGg
import Derived.Test.YtolnojkdalbppaaGreatDoorGd
import Derived.Test.YtolnojkdalbppaaGreatDoorGh
namespace Go.Proofs.YtolnojkdalbppaaGreatDoor
section
open Go.RowKit Go.PlainAid

/-- A canonical integer of at most 400 digits. -/
def canonR (l : List UInt8) : Bool := canonT l && decide ((magT l).length ≤ 400)
theorem neg_mag {l : List UInt8} (h : negT l = true) : l = 45 :: magT l := by
  cases l with
  | nil => exact absurd h (by decide)
  | cons c r =>
    have hc : c = 45 := by
      have h2 : ([45] : List UInt8).isPrefixOf (c :: r) = true := h
      simp [List.isPrefixOf] at h2
      exact h2.symm
    subst hc
    have e : magT (45 :: r) = r := by
      unfold magT Lib.trimPrefix
      have h2 : Lib.hasPrefix (45 :: r) [45] = true := h
      rw [if_pos h2]; rfl
    rw [e]
theorem pos_mag {l : List UInt8} (h : negT l = false) : magT l = l := by
  unfold magT Lib.trimPrefix
  have h2 : ¬ Lib.hasPrefix l [45] = true := by
    have h3 : Lib.hasPrefix l [45] = false := h
    rw [h3]; decide
  rw [if_neg h2]
theorem canonR_at (l m : List UInt8) (hm : magT l = m) (h1 : m ≠ []) (h2 : m.length ≤ 400) (h3 : m.getD 0 0 = 48 → l = [48]) : canonR l = m.all isDig := by
  unfold canonR canonT
  rw [hm, decide_eq_true h2, Bool.and_true]
  have hk : (!(negT l && m == [48])) = true := by
    cases hn : negT l with
    | false => rfl
    | true =>
      have e := neg_mag hn
      rw [hm] at e
      have : ¬ m = [48] := fun k => by
        have := h3 (by rw [k]; rfl)
        rw [this] at e
        injection e with e1 _
        exact absurd e1 (by decide)
      simp [this]
  rw [hk, Bool.true_and]
  unfold canon
  have hl : (m.length == 1 || (decide (1 < m.length) && !(m.getD 0 0 == 48))) = true := by
    by_cases h48 : m.getD 0 0 = 48
    · have e := h3 h48
      have : m = [48] := by
        have hn : negT l = false := by rw [e]; decide
        rw [← hm, pos_mag hn, e]
      rw [this]; rfl
    · have hp := List.length_pos_iff.2 h1
      by_cases h : m.length = 1
      · simp [h]
      · have : 1 < m.length := by omega
        have h4 : (m.getD 0 0 == 48) = false := by rw [beq_eq_false_iff_ne]; exact h48
        rw [h4]; simp [this]
  rw [hl, Bool.and_true]
theorem canonR_no (l m : List UInt8) (hm : magT l = m) (h : m = [] ∨ 400 < m.length ∨ (m.getD 0 0 = 48 ∧ l ≠ [48])) : canonR l = false := by
  unfold canonR
  rw [hm]
  rcases h with h | h | ⟨h, h2⟩
  · unfold canonT; rw [hm, h]; simp [canon]
  · rw [decide_eq_false (by omega)]; simp
  · have : canonT l = false := by
      unfold canonT canon
      rw [hm]
      by_cases h1 : m.length = 1
      · have e : m = [48] := by
          cases m with
          | nil => simp at h1
          | cons c r =>
            simp at h1 h
            rw [h1, h]
        cases hn : negT l with
        | true => rw [e]; rfl
        | false => exact absurd (by rw [← pos_mag hn, hm, e]) h2
      · have h3 : (m.length == 1) = false := by simpa using h1
        have h4 : (m.getD 0 0 == 48) = true := by rw [h]; rfl
        rw [h3, h4]; simp
    rw [this]; rfl
end
section
open Go.RowKit Go.PlainAid
attribute [local go_sem] field_rat0 field_rat1
/-- The integer of a canonical text. -/
def ivalT (l : List UInt8) : Int := if negT l = true then -((val (magT l) : Nat) : Int) else ((val (magT l) : Nat) : Int)
theorem canonT_itoa {l : List UInt8} (h : canonT l = true) : l = Lib.itoa (ivalT l) := by
  unfold canonT at h
  rw [Bool.and_eq_true] at h
  obtain ⟨h1, h2⟩ := h
  have hd := dd_val _ h2
  unfold ivalT
  cases hn : negT l with
  | true =>
    rw [if_pos rfl]
    have hm : magT l ≠ [48] := fun e => by rw [hn, e] at h1; exact absurd h1 (by decide)
    have hv : val (magT l) ≠ 0 := fun e => by
      rw [e] at hd
      exact hm (by rw [← hd]; exact dd_small (by omega))
    rw [itoa_neg (by omega), Int.natAbs_neg, Int.natAbs_natCast, hd]
    exact neg_mag hn
  | false =>
    rw [if_neg (by decide), itoa_pos (by omega), Int.natAbs_natCast, hd]
    exact (pos_mag hn).symm
theorem canonR_itx {s : ByteArray} (h : canonR s.data.toList = true) : s = itx (ivalT s.data.toList) ∧ nz (ivalT s.data.toList) ≤ 400 := by
  unfold canonR at h
  rw [Bool.and_eq_true] at h
  have e := canonT_itoa h.1
  have hl := of_decide_eq_true h.2
  refine ⟨ba_ext (by rw [itx_data, ← e]), ?_⟩
  have h2 : (magT (Lib.itoa (ivalT s.data.toList))).length ≤ 400 := by rw [← e]; exact hl
  rw [(mag_itoa _).1, Lib.decDigits_length] at h2
  exact h2
/-- Two texts are those of a fraction in lowest terms, each with at most 400 digits. -/
def rightB (n d : List UInt8) : Bool := canonR n && (canonR d && (decide (0 < ivalT d) && decide (Int.gcd (ivalT n) (ivalT d) = 1)))
theorem rightB_rat {n d : ByteArray} (h : rightB n.data.toList d.data.toList = true) : ∃ q : Rat, n = itx q.num ∧ d = itx (q.den : Int) ∧ NQ q 400 := by
  unfold rightB at h
  simp only [Bool.and_eq_true, decide_eq_true_eq] at h
  obtain ⟨h1, h2, h3, h4⟩ := h
  obtain ⟨e1, n1⟩ := canonR_itx h1
  obtain ⟨e2, n2⟩ := canonR_itx h2
  have hr := rat_of_right h3 h4
  exact ⟨Rat.divInt (ivalT n.data.toList) (ivalT d.data.toList), by rw [hr.1]; exact e1, by rw [hr.2]; exact e2, by unfold NQ; rw [hr.1, hr.2]; exact ⟨n1, n2⟩⟩
end
end Go.Proofs.YtolnojkdalbppaaGreatDoor
