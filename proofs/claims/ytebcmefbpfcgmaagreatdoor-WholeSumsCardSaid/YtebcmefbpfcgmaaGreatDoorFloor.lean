/- Floor division of integers, Euclid's way with the number of the first one. Plain lemmas, no program. -/
import Derived.Test.YtebcmefbpfcgmaaGreatDoorInt
namespace Go.Proofs.YtebcmefbpfcgmaaGreatDoor

/-- Quotient and remainder, rounded down; the remainder has the divisor's sign. -/
def fq (x y : Int) : Int := if 0 ≤ y then x / y else (-x) / (-y)
def fr (x y : Int) : Int := if 0 ≤ y then x % y else -((-x) % (-y))
def FD (x y q r : Int) : Prop := x = q * y + r ∧ (0 ≤ r ∧ r < y ∨ y < r ∧ r ≤ 0)
theorem FD_self (x : Int) {y : Int} (h : y ≠ 0) : FD x y (fq x y) (fr x y) := by
  unfold FD fq fr
  by_cases h0 : 0 ≤ y
  · rw [if_pos h0, if_pos h0]
    have h1 := Int.emod_nonneg x h
    have h2 := Int.emod_lt_of_pos x (show 0 < y by omega)
    have h3 := Int.mul_ediv_add_emod x y
    exact ⟨by rw [Int.mul_comm]; omega, by omega⟩
  · rw [if_neg h0, if_neg h0]
    have h1 := Int.emod_nonneg (-x) (show -y ≠ 0 by omega)
    have h2 := Int.emod_lt_of_pos (-x) (show 0 < -y by omega)
    have h3 := Int.mul_ediv_add_emod (-x) (-y)
    have h4 : -x / -y * y = -(-y * (-x / -y)) := by rw [Int.neg_mul, Int.neg_neg, Int.mul_comm]
    exact ⟨by rw [h4]; omega, by omega⟩
theorem FD.eq {x y q r : Int} (h : FD x y q r) : fq x y = q ∧ fr x y = r := by
  obtain ⟨h1, h2⟩ := h
  unfold fq fr
  rcases h2 with h2 | h2
  · rw [if_pos (by omega), if_pos (by omega)]
    exact (Int.ediv_emod_unique (by omega)).2 ⟨by rw [Int.mul_comm]; omega, h2.1, h2.2⟩
  · rw [if_neg (by omega), if_neg (by omega)]
    have h3 : -x = -r + -y * q := by rw [h1, Int.mul_comm, Int.neg_mul]; omega
    have h4 := (Int.ediv_emod_unique (a := -x) (b := -y) (r := -r) (q := q) (by omega)).2 ⟨h3.symm, by omega, by omega⟩
    rw [h4.1, h4.2]
    exact ⟨rfl, by omega⟩
/-- Go's division, put right. -/
theorem FD_tdiv (x : Int) {y : Int} (h : y ≠ 0) :
    (¬ (x.tmod y ≠ 0 ∧ decide (x.tmod y < 0) ≠ decide (y < 0)) → FD x y (x.tdiv y) (x.tmod y)) ∧ ((x.tmod y ≠ 0 ∧ decide (x.tmod y < 0) ≠ decide (y < 0)) → FD x y (x.tdiv y - 1) (x.tmod y + y)) := by
  have h3 := Int.mul_tdiv_add_tmod x y
  have h4 : (x.tmod y).natAbs < y.natAbs := by rw [Int.natAbs_tmod]; exact Nat.mod_lt _ (by omega)
  rw [Int.mul_comm] at h3
  unfold FD
  generalize x.tmod y = r at *
  generalize x.tdiv y = q at *
  constructor
  · intro hn
    refine ⟨h3.symm, ?_⟩
    by_cases hr : r = 0
    · omega
    · by_cases h5 : r < 0 <;> by_cases h6 : y < 0
      · omega
      · exact absurd ⟨hr, by simp [h5, h6]⟩ hn
      · exact absurd ⟨hr, by simp [h5, h6]⟩ hn
      · omega
  · rintro ⟨hr, hs⟩
    refine ⟨by rw [Int.sub_mul, Int.one_mul]; omega, ?_⟩
    by_cases h5 : r < 0 <;> by_cases h6 : y < 0
    · simp [h5, h6] at hs
    · omega
    · omega
    · simp [h5, h6] at hs
theorem FD_nat_same {a b : Int} (hb : b ≠ 0) (h : (a < 0) ↔ (b < 0)) : FD a b ((a.natAbs / b.natAbs : Nat) : Int) (if b < 0 then -((a.natAbs % b.natAbs : Nat) : Int) else ((a.natAbs % b.natAbs : Nat) : Int)) := by
  have h1 := Nat.div_add_mod a.natAbs b.natAbs
  have h2 := Nat.mod_lt a.natAbs (show 0 < b.natAbs by omega)
  generalize a.natAbs / b.natAbs = q at *
  generalize hr : a.natAbs % b.natAbs = r at *
  have h3 : ((b.natAbs * q : Nat) : Int) = (b.natAbs : Int) * (q : Int) := Int.natCast_mul _ _
  unfold FD
  by_cases hb0 : b < 0
  · have ha0 := h.2 hb0
    rw [if_pos hb0]
    have e : (b.natAbs : Int) = -b := by omega
    rw [e, Int.neg_mul, Int.mul_comm] at h3
    exact ⟨by omega, by omega⟩
  · have ha0 : ¬ a < 0 := fun h' => hb0 (h.1 h')
    rw [if_neg hb0]
    have e : (b.natAbs : Int) = b := by omega
    rw [e, Int.mul_comm] at h3
    exact ⟨by omega, by omega⟩
theorem FD_nat_zero {a b : Int} (hb : b ≠ 0) (h : ¬ ((a < 0) ↔ (b < 0))) (hr : a.natAbs % b.natAbs = 0) : FD a b (-((a.natAbs / b.natAbs : Nat) : Int)) 0 := by
  have h1 := Nat.div_add_mod a.natAbs b.natAbs
  rw [hr] at h1
  generalize a.natAbs / b.natAbs = q at *
  have h3 : ((b.natAbs * q : Nat) : Int) = (b.natAbs : Int) * (q : Int) := Int.natCast_mul _ _
  unfold FD
  rw [Int.neg_mul]
  by_cases hb0 : b < 0
  · have e : (b.natAbs : Int) = -b := by omega
    rw [e, Int.neg_mul, Int.mul_comm] at h3
    exact ⟨by omega, by omega⟩
  · have e : (b.natAbs : Int) = b := by omega
    rw [e, Int.mul_comm] at h3
    exact ⟨by omega, by omega⟩
theorem FD_nat_more {a b : Int} (hb : b ≠ 0) (h : ¬ ((a < 0) ↔ (b < 0))) (hr : a.natAbs % b.natAbs ≠ 0) :
    FD a b (-((a.natAbs / b.natAbs + 1 : Nat) : Int)) (if b < 0 then -((b.natAbs - a.natAbs % b.natAbs : Nat) : Int) else ((b.natAbs - a.natAbs % b.natAbs : Nat) : Int)) := by
  have h1 := Nat.div_add_mod a.natAbs b.natAbs
  have h2 := Nat.mod_lt a.natAbs (show 0 < b.natAbs by omega)
  generalize a.natAbs / b.natAbs = q at *
  generalize a.natAbs % b.natAbs = r at *
  have h3 : ((b.natAbs * q : Nat) : Int) = (b.natAbs : Int) * (q : Int) := Int.natCast_mul _ _
  unfold FD
  rw [Int.neg_mul, Int.natCast_add, Int.add_mul]
  by_cases hb0 : b < 0
  · rw [if_pos hb0]
    have e : (b.natAbs : Int) = -b := by omega
    rw [e, Int.neg_mul, Int.mul_comm] at h3
    exact ⟨by omega, by omega⟩
  · rw [if_neg hb0]
    have e : (b.natAbs : Int) = b := by omega
    rw [e, Int.mul_comm] at h3
    exact ⟨by omega, by omega⟩
theorem fr_lt (x : Int) {y : Int} (h : y ≠ 0) : (fr x y).natAbs < y.natAbs := by have := (FD_self x h).2; omega
theorem fr_le (x : Int) {y : Int} (h : y ≠ 0) : (fr x y).natAbs ≤ y.natAbs := Nat.le_of_lt (fr_lt x h)
theorem fq_le (x y : Int) : (fq x y).natAbs ≤ x.natAbs + 1 := by
  by_cases h : y = 0
  · subst h; unfold fq; simp
  · obtain ⟨h1, h2⟩ := FD_self x h
    generalize fq x y = q at *
    generalize fr x y = r at *
    have h3 : (q * y).natAbs = q.natAbs * y.natAbs := Int.natAbs_mul q y
    have h4 : (q * y).natAbs ≤ x.natAbs + r.natAbs := by omega
    have h5 : r.natAbs < y.natAbs := by omega
    rw [h3] at h4
    rcases Nat.lt_or_ge (x.natAbs + 1) q.natAbs with h6 | h6
    · have h7 : (x.natAbs + 2) * y.natAbs ≤ q.natAbs * y.natAbs := Nat.mul_le_mul_right _ (by omega)
      rw [Nat.add_mul] at h7
      have h8 : x.natAbs * 1 ≤ x.natAbs * y.natAbs := Nat.mul_le_mul_left _ (by omega)
      omega
    · exact h6

/-- Euclid's way: the last remainder, and its number of the first one. -/
def bezL (r s u w : Int) : Int × Int := if _h : s = 0 then (r, u) else bezL s (fr r s) w (u - fq r s * w)
  termination_by s.natAbs
  decreasing_by exact fr_lt r (by assumption)
theorem bezL_zero (r u w : Int) : bezL r 0 u w = (r, u) := by rw [bezL, dif_pos rfl]
theorem bezL_step (r u w : Int) {s : Int} (h : s ≠ 0) : bezL r s u w = bezL s (fr r s) w (u - fq r s * w) := by rw [bezL, dif_neg h]
theorem gcd_step (r : Int) {s : Int} (h : s ≠ 0) : Int.gcd s (fr r s) = Int.gcd r s := by
  obtain ⟨h1, _⟩ := FD_self r h
  generalize fq r s = q at *
  generalize fr r s = t at *
  apply Nat.dvd_antisymm
  · have a1 := Int.gcd_dvd_left s t
    have a2 := Int.gcd_dvd_right s t
    have a3 : (Int.gcd s t : Int) ∣ r := by rw [h1]; exact Int.dvd_add (Int.dvd_mul_of_dvd_right a1) a2
    exact Int.natCast_dvd_natCast.1 (Int.dvd_coe_gcd a3 a1)
  · have a1 := Int.gcd_dvd_left r s
    have a2 := Int.gcd_dvd_right r s
    have a3 : (Int.gcd r s : Int) ∣ t := by
      have : t = r - q * s := by omega
      rw [this]; exact Int.dvd_sub a1 (Int.dvd_mul_of_dvd_right a2)
    exact Int.natCast_dvd_natCast.1 (Int.dvd_coe_gcd a2 a3)
/-- What holds on Euclid's way from a and b: r and s are numbers of a modulo b, and the numbers stay small. -/
structure BezAt (a b r s u w : Int) : Prop where
  fst : b ∣ r - a * u
  snd : b ∣ s - a * w
  gcd : Int.gcd r s = Int.gcd a b
  size : w.natAbs * r.natAbs + u.natAbs * s.natAbs ≤ b.natAbs
  ub : u.natAbs ≤ b.natAbs
  wb : w.natAbs ≤ b.natAbs
  rb : r.natAbs ≤ max a.natAbs b.natAbs
  sb : s.natAbs ≤ b.natAbs
  nz : ¬ (r = 0 ∧ s = 0)
  sign : w = 0 ∨ (0 ≤ r ∧ 0 ≤ s) ∨ (r ≤ 0 ∧ s ≤ 0)
theorem BezAt.start {a b : Int} (hb : b ≠ 0) : BezAt a b a b 1 0 :=
  ⟨by simp, by simp, rfl, by simp, by simp; omega, by simp, by omega, by omega, fun h => hb h.2, .inl rfl⟩
theorem BezAt.step {a b r s u w : Int} (h : BezAt a b r s u w) (hs : s ≠ 0) : BezAt a b s (fr r s) w (u - fq r s * w) := by
  have hfd := FD_self r hs
  have hg := gcd_step r hs
  generalize fq r s = q at *
  generalize fr r s = t at *
  obtain ⟨h1, h2⟩ := hfd
  have hts : t.natAbs < s.natAbs := by omega
  have hsz : (u - q * w).natAbs * s.natAbs + w.natAbs * t.natAbs ≤ b.natAbs := by
    have e1 : (u - q * w).natAbs ≤ u.natAbs + q.natAbs * w.natAbs := by
      have := Int.natAbs_sub_le u (q * w)
      rwa [Int.natAbs_mul] at this
    have e2 := Nat.mul_le_mul_right s.natAbs e1
    rw [Nat.add_mul] at e2
    have h0 := h.size
    rcases h.sign with hw | hsg
    · subst hw
      simp at e2 h0 ⊢
      omega
    · have e3 : q.natAbs * s.natAbs + t.natAbs = r.natAbs := by
        have e4 : (q * s).natAbs = q.natAbs * s.natAbs := Int.natAbs_mul q s
        rw [← e4]
        -- q s and t have the sign of r
        have hq0 : 0 ≤ q ∨ q * s + t < 0 ∧ 0 < s ∨ 0 < q * s + t ∧ s < 0 := by
          rcases Int.lt_or_le q 0 with hq | hq
          · rcases Int.lt_or_lt_of_ne hs with hs' | hs'
            · right; right
              have : 1 * (-s) ≤ (-q) * (-s) := Int.mul_le_mul_of_nonneg_right (by omega) (by omega)
              rw [Int.neg_mul_neg] at this
              omega
            · right; left
              have : 1 * s ≤ (-q) * s := Int.mul_le_mul_of_nonneg_right (by omega) (by omega)
              rw [Int.neg_mul] at this
              omega
          · exact .inl hq
        rcases hq0 with hq | hq | hq
        · rcases Int.lt_or_lt_of_ne hs with hs' | hs'
          · have : 0 ≤ q * (-s) := Int.mul_nonneg hq (by omega)
            rw [Int.mul_neg] at this
            omega
          · have : 0 ≤ q * s := Int.mul_nonneg hq (by omega)
            omega
        · omega
        · omega
      have e5 : w.natAbs * r.natAbs = q.natAbs * w.natAbs * s.natAbs + w.natAbs * t.natAbs := by
        rw [← e3, Nat.mul_add, Nat.mul_comm q.natAbs w.natAbs, Nat.mul_assoc]
      omega
  refine ⟨h.snd, ?_, by rw [hg]; exact h.gcd, hsz, h.wb, ?_, ?_, ?_, fun h => hs h.1, .inr (by omega)⟩
  · have e : t - a * (u - q * w) = (r - a * u) - q * (s - a * w) := by
      rw [h1, Int.mul_sub, Int.mul_sub, Int.mul_left_comm a q w]; omega
    rw [e]
    exact Int.dvd_sub h.fst (Int.dvd_mul_of_dvd_right h.snd)
  · have : (u - q * w).natAbs * 1 ≤ (u - q * w).natAbs * s.natAbs := Nat.mul_le_mul_left _ (by omega)
    omega
  · have := h.sb; omega
  · have := h.sb; omega
/-- The end of Euclid's way. -/
theorem BezAt.fin {a b : Int} : ∀ (n : Nat) (r s u w : Int), s.natAbs ≤ n → BezAt a b r s u w → ∃ w', BezAt a b (bezL r s u w).1 0 (bezL r s u w).2 w' := by
  intro n
  induction n with
  | zero =>
    intro r s u w hn h
    have : s = 0 := by omega
    subst this
    rw [bezL_zero]; exact ⟨w, h⟩
  | succ n ih =>
    intro r s u w hn h
    by_cases hs : s = 0
    · subst hs; rw [bezL_zero]; exact ⟨w, h⟩
    · rw [bezL_step r u w hs]
      have := fr_lt r hs
      exact ih _ _ _ _ (by omega) (h.step hs)
/-- The last remainder with the sign +, and its number of the first one. -/
def bezG (a b : Int) : Int := ((bezL a b 1 0).1.natAbs : Int)
def bezU (a b : Int) : Int := if (bezL a b 1 0).1 < 0 then -(bezL a b 1 0).2 else (bezL a b 1 0).2
/-- The Bezout numbers. -/
def bezX (a b : Int) : Int := if b = 0 then a.sign else fr (bezU a b) (fq (b.natAbs : Int) (bezG a b))
def bezY (a b : Int) : Int := if b = 0 then 0 else fq (bezG a b - a * bezX a b) b
theorem bezG_eq {a b : Int} (hb : b ≠ 0) : bezG a b = (Int.gcd a b : Int) := by
  obtain ⟨w, h⟩ := BezAt.fin _ a b 1 0 (Nat.le_refl _) (BezAt.start (a := a) hb)
  unfold bezG
  have := h.gcd
  rw [Int.gcd_zero_right] at this
  rw [this]
theorem bezU_dvd {a b : Int} (hb : b ≠ 0) : b ∣ bezG a b - a * bezU a b ∧ (bezU a b).natAbs ≤ b.natAbs := by
  obtain ⟨w, h⟩ := BezAt.fin _ a b 1 0 (Nat.le_refl _) (BezAt.start (a := a) hb)
  have h1 := h.fst
  have h2 := h.ub
  unfold bezG bezU
  generalize (bezL a b 1 0).1 = r at *
  generalize (bezL a b 1 0).2 = u at *
  by_cases h0 : r < 0
  · rw [if_pos h0]
    refine ⟨?_, by omega⟩
    have e : (r.natAbs : Int) - a * -u = -(r - a * u) := by rw [Int.mul_neg]; omega
    rw [e]; exact Int.dvd_neg.2 h1
  · rw [if_neg h0]
    refine ⟨?_, h2⟩
    have e : (r.natAbs : Int) = r := by omega
    rw [e]; exact h1
theorem bezG_pos {a b : Int} (hb : b ≠ 0) : 0 < bezG a b := by
  rw [bezG_eq hb]
  have := Int.gcd_pos_of_ne_zero_right a hb
  omega
theorem bez_by {a b : Int} (hb : b ≠ 0) : fq (b.natAbs : Int) (bezG a b) * bezG a b = (b.natAbs : Int) ∧ 0 < fq (b.natAbs : Int) (bezG a b) := by
  have hp := bezG_pos (a := a) hb
  have hd : bezG a b ∣ (b.natAbs : Int) := by
    rw [bezG_eq hb]; exact Int.natCast_dvd_natCast.2 (Int.gcd_dvd_natAbs_right a b)
  unfold fq
  rw [if_pos (by omega)]
  have h1 := Int.ediv_mul_cancel hd
  refine ⟨h1, ?_⟩
  rcases Int.lt_or_le 0 ((b.natAbs : Int) / bezG a b) with h | h
  · exact h
  · have : (b.natAbs : Int) / bezG a b * bezG a b ≤ 0 := Int.mul_nonpos_of_nonpos_of_nonneg h (by omega)
    omega
theorem bezX_dvd {a b : Int} (hb : b ≠ 0) : b ∣ bezG a b - a * bezX a b := by
  obtain ⟨h1, h2⟩ := bez_by (a := a) hb
  have h3 := (bezU_dvd (a := a) hb).1
  unfold bezX
  rw [if_neg hb]
  generalize hby : fq (b.natAbs : Int) (bezG a b) = by_ at *
  obtain ⟨h4, _⟩ := FD_self (bezU a b) (show by_ ≠ 0 by omega)
  generalize fq (bezU a b) by_ = k at *
  generalize fr (bezU a b) by_ = x at *
  have hga : bezG a b ∣ a := by rw [bezG_eq hb]; exact Int.gcd_dvd_left a b
  obtain ⟨c, hc⟩ := hga
  have e : bezG a b - a * x = (bezG a b - a * bezU a b) + a * (k * by_) := by
    rw [h4, Int.mul_add]; omega
  rw [e]
  refine Int.dvd_add h3 ?_
  have e2 : a * (k * by_) = (b.natAbs : Int) * (c * k) := by
    rw [← h1]
    conv => lhs; rw [hc]
    rw [Int.mul_comm k by_, Int.mul_comm by_ (bezG a b), Int.mul_assoc, Int.mul_assoc, Int.mul_left_comm c by_ k]
  rw [e2]
  exact Int.dvd_mul_of_dvd_left (Int.dvd_natAbs.2 (Int.dvd_refl b))
/-- The numbers combine to the greatest common divisor. -/
theorem bez_combine (a b : Int) : a * bezX a b + b * bezY a b = (Int.gcd a b : Int) := by
  by_cases hb : b = 0
  · subst hb
    unfold bezX bezY
    rw [if_pos rfl, if_pos rfl, Int.mul_zero, Int.add_zero, Int.gcd_zero_right]
    exact Int.mul_sign_self a
  · obtain ⟨k, hk⟩ := bezX_dvd (a := a) hb
    have : bezY a b = k := by
      unfold bezY
      rw [if_neg hb]
      refine (FD.eq (r := 0) ⟨by rw [hk, Int.mul_comm]; omega, ?_⟩).1
      omega
    rw [this, ← bezG_eq hb]; omega
theorem bezX_le {a b : Int} (hb : b ≠ 0) : (bezX a b).natAbs ≤ b.natAbs := by
  obtain ⟨h1, h2⟩ := bez_by (a := a) hb
  have hp := bezG_pos (a := a) hb
  unfold bezX
  rw [if_neg hb]
  have h3 := fr_le (bezU a b) (show fq (b.natAbs : Int) (bezG a b) ≠ 0 by omega)
  have h4 : fq (b.natAbs : Int) (bezG a b) * 1 ≤ fq (b.natAbs : Int) (bezG a b) * bezG a b := Int.mul_le_mul_of_nonneg_left (by omega) (by omega)
  omega
end Go.Proofs.YtebcmefbpfcgmaaGreatDoor
