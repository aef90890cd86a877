/- What the laws of chapter 02 say of integers, plain; Gcd, Lcm and Abs with their results as integers. -/
import Derived.Test.YtjglooeljdpadaaDoorMake2
import Derived.Test.YtjglooeljdpadaaDoorWC
namespace Go.Proofs.YtjglooeljdpadaaDoor
open Go.RowKit Go.PlainAid

theorem parse_itx (z : Int) (h : nz z ≤ 400) : ParseRes (itx z).data.toList = .tuple #[.string (itx z), .int .i64 0] := by
  have h1 := parse_digits (Lib.decDigits z.natAbs) (dd_ne_nil _) (all_dd _) (by rw [Lib.decDigits_length]; exact h)
  rw [val_dd] at h1
  rw [itx_data]
  by_cases hz : z < 0
  · rw [itoa_neg hz, h1.2, show -((z.natAbs : Nat) : Int) = z by omega]
  · rw [itoa_pos (by omega), h1.1, show ((z.natAbs : Nat) : Int) = z by omega]
theorem cmpZ_add (a b c : Int) : cmpZ (a + c) (b + c) = cmpZ a b := by
  unfold cmpZ
  repeat' split
  all_goals omega
theorem gcd_lcm (a b : Int) : ((Int.gcd a b : Nat) : Int) * ((Int.lcm a b : Nat) : Int) = (((a * b).natAbs : Nat) : Int) := by
  rw [Int.natAbs_mul, ← Int.natCast_mul]
  congr 1
  exact Nat.gcd_mul_lcm a.natAbs b.natAbs
theorem nz_gcd (a b : Int) : nz ((Int.gcd a b : Nat) : Int) ≤ max (nz a) (nz b) := by
  rw [nz_nat]
  by_cases ha : a = 0
  · subst ha
    rw [Int.gcd_zero_left]
    unfold nz; omega
  · have := nd_mono (Nat.gcd_le_left b.natAbs (show 0 < a.natAbs by omega))
    have e : Int.gcd a b = Nat.gcd a.natAbs b.natAbs := rfl
    rw [e]; unfold nz; omega
theorem nz_lcm (a b : Int) : nz ((Int.lcm a b : Nat) : Int) ≤ nz a + nz b := by
  have h := nz_mul a b
  refine Nat.le_trans ?_ h
  rw [nz_nat]
  unfold nz
  refine nd_mono ?_
  rw [Int.natAbs_mul, ← Nat.gcd_mul_lcm a.natAbs b.natAbs]
  by_cases hg : Nat.gcd a.natAbs b.natAbs = 0
  · have := Nat.gcd_eq_zero_iff.1 hg
    have e : Int.lcm a b = 0 := by
      show Nat.lcm a.natAbs b.natAbs = 0
      rw [this.1, Nat.lcm_zero_left]
    rw [e]; omega
  · exact Nat.le_mul_of_pos_left _ (Nat.pos_of_ne_zero hg)
theorem wgcd_itx (a b : Int) (w : World) (hamb : Amb w) (ha : nz a ≤ 1000000) (hb : nz b ≤ 1000000) :
    Calls Tryd.prog 26 #[.string (itx a), .string (itx b)] w (SmallRes (.string (itx ((Int.gcd a b : Nat) : Int))) w) := by
  rw [itx_nat]; exact wgcd_any a b w hamb ha hb
theorem wlcm_itx (a b : Int) (w : World) (hamb : Amb w) (ha : nz a ≤ 1000000) (hb : nz b ≤ 1000000) :
    Calls Tryd.prog 27 #[.string (itx a), .string (itx b)] w (SmallRes (.string (itx ((Int.lcm a b : Nat) : Int))) w) := by
  rw [itx_nat]; exact wlcm_any a b w hamb ha hb
theorem abs_itx (z : Int) (w : World) (hz : nz z ≤ 1000000000) :
    Calls Tryd.prog 21 #[.string (itx z)] w (SmallRes (.string (itx ((z.natAbs : Nat) : Int))) w) := by
  rw [itx_nat]; exact abs_any z w hz
theorem bezG_gcd (a b : Int) : bezG a b = ((Int.gcd a b : Nat) : Int) := by
  by_cases hb : b = 0
  · subst hb; rw [bezG_zero, Int.gcd_zero_right]
  · exact bezG_eq hb
theorem bezX_nz (a b : Int) : nz (bezX a b) ≤ nz b + 1 := by
  by_cases hb : b = 0
  · subst hb
    unfold bezX
    rw [if_pos rfl]
    have := sign_bd a
    refine Nat.le_trans ((nz_le_iff _ 0).2 (by omega)) (by omega)
  · exact Nat.le_trans (nz_mono (bezX_le hb)) (by omega)
theorem bezY_nz (a b : Int) : nz (bezY a b) ≤ nz a + nz b + max (nz a) (nz b) + 3 := by
  by_cases hb : b = 0
  · subst hb
    unfold bezY
    rw [if_pos rfl]
    refine Nat.le_trans ((nz_le_iff _ 0).2 (by decide)) (by have := nz_pos a; omega)
  · unfold bezY
    rw [if_neg hb]
    refine Nat.le_trans (nz_succ (fq_le _ _)) ?_
    have h1 := nz_sub (bezG a b) (a * bezX a b)
    have h2 := nz_mul a (bezX a b)
    have h3 := bezX_nz a b
    have h4 := nz_gcd a b
    rw [← bezG_gcd] at h4
    omega
theorem fd_back (a : Int) {b : Int} (h : b ≠ 0) : b * fq a b + fr a b = a := by
  have := (FD_self a h).1
  rw [Int.mul_comm]; exact this.symm
theorem fr_sign (a : Int) {b : Int} (h : b ≠ 0) : fr a b ≠ 0 → (fr a b).sign = b.sign ∧ cmpZ (((fr a b).natAbs : Nat) : Int) ((b.natAbs : Nat) : Int) = -1 := by
  intro h0
  have h1 := (FD_self a h).2
  generalize fr a b = r at *
  constructor
  · rcases h1 with h1 | h1
    · rw [Int.sign_eq_one_of_pos (by omega), Int.sign_eq_one_of_pos (by omega)]
    · rw [Int.sign_eq_neg_one_of_neg (by omega), Int.sign_eq_neg_one_of_neg (by omega)]
  · unfold cmpZ
    rw [if_pos (by omega)]
end Go.Proofs.YtjglooeljdpadaaDoor
