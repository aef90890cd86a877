/- Greater text, out of: U1, U2, U3. -/
import Derived.Test.YtolnojkdalbppaaGreatDoorGg
import Derived.Test.YtolnojkdalbppaaGreatDoorGd
import Derived.Deep.DrawnRows
import Derived.IntWalk
namespace Go.Proofs.YtolnojkdalbppaaGreatDoor
section
open Go.RowKit Go.PlainAid
attribute [local go_sem] field_rat0 field_rat1
/-- Both terms have at most nine bytes. -/
def ShortQ (q : Rat) : Prop := ((itx q.num).size : Int) ≤ 9 ∧ ((itx (q.den : Int)).size : Int) ≤ 9
theorem ShortQ.bd {q : Rat} (h : ShortQ q) : -999999999 ≤ q.num ∧ q.num ≤ 999999999 ∧ 1 ≤ (q.den : Int) ∧ (q.den : Int) ≤ 999999999 := by
  have h1 := short9 (z := q.num) (by have := h.1; omega)
  have h2 := short9 (z := (q.den : Int)) (by have := h.2; omega)
  have := rden_pos q
  omega
/-- What fraction.both leaves where a term is long. -/
def NotBoth (w : World) (e : Ending) (w' : World) : Prop := ∃ n d : Int, e = .returned (.tuple #[.int .i64 n, .int .i64 d, .bool false]) ∧ Below w.heap.size w w'
theorem gcd_tmod (a b : Int) : Int.gcd b (a.tmod b) = Int.gcd a b := by
  show Nat.gcd b.natAbs (a.tmod b).natAbs = Nat.gcd a.natAbs b.natAbs
  rw [Int.natAbs_tmod, Nat.gcd_comm a.natAbs, Nat.gcd_rec b.natAbs a.natAbs, Nat.gcd_comm]
end
section
open Go.RowKit Go.PlainAid
attribute [local go_sem] field_rat0 field_rat1
/-- Behind the change of signs: a numerator and a positive denominator of the same fraction. -/
def LowMid (Q : Rat) (k : Nat) (W : World) (s0 s1 : Value) (wx : World) : Prop := ∃ n d : Int, s0 = .string (itx n) ∧ s1 = .string (itx d) ∧ 0 < d ∧ Rat.divInt n d = Q ∧ nz n ≤ k ∧ nz d ≤ k ∧ Below W.heap.size W wx
/-- A fraction that is none, and an error. -/
abbrev noRat : Value := .agg #[.string ⟨#[]⟩, .string ⟨#[]⟩]
theorem nz_i64' {z : Int} (h0 : -9223372036854775808 ≤ z) (h1 : z ≤ 9223372036854775807) : nz z ≤ 100 :=
  Nat.le_trans ((nz_le_iff z 19).2 (by
    have : (10 : Nat) ^ (19 + 1) = 100000000000000000000 := by decide
    omega)) (by omega)
end
section
open Go.RowKit Go.PlainAid
attribute [local go_sem] field_rat0 field_rat1
theorem mul_bd9 {a b : Int} (ha : -999999999 ≤ a ∧ a ≤ 999999999) (hb : -999999999 ≤ b ∧ b ≤ 999999999) : -999999998000000001 ≤ a * b ∧ a * b ≤ 999999998000000001 := by
  have h3 : (a * b).natAbs ≤ 999999999 * 999999999 := by rw [Int.natAbs_mul]; exact Nat.mul_le_mul (by omega) (by omega)
  omega
theorem rat_abs_num (p : Rat) : p.abs.num = ((p.num.natAbs : Nat) : Int) ∧ p.abs.den = p.den := by
  by_cases h : 0 ≤ p
  · rw [Rat.abs_of_nonneg h]
    have := Rat.num_nonneg.2 h
    exact ⟨by omega, rfl⟩
  · have h2 : p ≤ 0 := Rat.le_of_lt (Rat.not_le.1 h)
    rw [Rat.abs_of_nonpos h2, Rat.neg_num, Rat.neg_den]
    have : ¬ 0 ≤ p.num := fun k => h (Rat.num_nonneg.1 k)
    exact ⟨by omega, rfl⟩
theorem lit_one : (⟨#[49]⟩ : ByteArray) = itx 1 := itx_lit_one.symm
theorem den_one_yes {p : Rat} (h : p.den = 1) : ((itx (p.den : Int)).toList == [49]) = true := by rw [h]; exact itx_one_same
theorem den_one_no {p : Rat} (h : ¬ p.den = 1) : ((itx (p.den : Int)).toList == [49]) = false := itx_one_test (by omega)
set_option maxRecDepth 100000 in
set_option maxHeartbeats 4000000 in
/-- fraction.Sign. -/
theorem fsign_any (p : Rat) (w : World) (hp : NQ p 20000) :
    Calls Tryz.prog 29 #[rv p] w (SmallRes (.int .i64 p.num.sign) w) := by
  obtain ⟨hp1, hp2⟩ := hp
  go_enter Tryz.func29, Tryz.ntmps29
  go_wp2_with fail
  obtain ⟨W, hW⟩ : ∃ W, (w.alloc (.cells #[.string (itx p.num), .string (itx (p.den : Int))] 48)) = W := ⟨_, rfl⟩
  rw [hW]
  obtain ⟨hX, hBW⟩ := B1.of hW
  clear hW
  have HX := Lib.hid (fun wz (hb : Below W.heap.size W wz) => hX.later hb)
  have HB := Lib.hid hBW
  have hz0 : Below W.heap.size W W := Below.refl _ _
  clear hBW
  obtain ⟨_, c000, c001, f000, f001⟩ := hX
  go_wp2_with fail
  refine (sign_any p.num _ (by omega)).mono ?_
  rintro e w1 ⟨rfl, hb1⟩
  have hz1 := bel_chain hz0 hb1
  obtain ⟨_, c100, c101, f100, f101⟩ := HX.out _ hz1
  go_wp2_with fail
  go_ret
  exact ⟨rfl, bel_chain HB.out hz1⟩

end
end Go.Proofs.YtolnojkdalbppaaGreatDoor
