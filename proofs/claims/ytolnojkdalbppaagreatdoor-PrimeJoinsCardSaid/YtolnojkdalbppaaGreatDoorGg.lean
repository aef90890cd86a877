/- Greater text, out of: Rat, Rat2, Bx, T10, T11, T12, T13, T14<. -/
import Derived.Test.YtolnojkdalbppaaGreatDoorGc
import Derived.Test.YtolnojkdalbppaaGreatDoorGd
import Derived.Test.YtolnojkdalbppaaGreatDoorGf
import Derived.Test.YtolnojkdalbppaaGreatDoorGa
import Derived.Lib.Repeat
import Derived.Deep.LoopGhost
import Derived.Deep.DrawnRows
namespace Go.Proofs.YtolnojkdalbppaaGreatDoor
section
theorem rden_pos (q : Rat) : 0 < (q.den : Int) := by have := q.den_nz; omega
theorem rden_ne (q : Rat) : (q.den : Int) ≠ 0 := by have := q.den_nz; omega
theorem divInt_pos_num (n d : Int) (hd : 0 < d) : (Rat.divInt n d).num = n / ((Int.gcd n d : Nat) : Int) := by
  rw [Rat.num_divInt, Int.sign_eq_one_of_pos hd, Int.one_mul, Int.gcd_comm]
theorem divInt_pos_den (n d : Int) (hd : 0 < d) : ((Rat.divInt n d).den : Int) = d / ((Int.gcd n d : Nat) : Int) := by
  rw [Rat.den_divInt, if_neg (by omega), Int.gcd_comm, Int.natCast_ediv]
  congr 1; omega
theorem ratAdd (p q : Rat) : p + q = Rat.divInt (p.num * q.den + q.num * p.den) (p.den * q.den) := by
  rw [← Rat.divInt_add_divInt _ _ (rden_ne p) (rden_ne q), Rat.num_divInt_den, Rat.num_divInt_den]
theorem ratMul (p q : Rat) : p * q = Rat.divInt (p.num * q.num) (p.den * q.den) := by
  rw [← Rat.divInt_mul_divInt, Rat.num_divInt_den, Rat.num_divInt_den]
theorem ratDiv (p q : Rat) : p / q = Rat.divInt (p.num * q.den) (p.den * q.num) := by
  rw [Rat.div_def, Rat.inv_def, ← Rat.divInt_mul_divInt, Rat.num_divInt_den]
theorem ratAdd_same (p q : Rat) (h : p.den = q.den) : p + q = Rat.divInt (p.num + q.num) p.den := by
  rw [ratAdd, ← h, ← Int.add_mul, Rat.divInt_mul_right (rden_ne p)]
theorem rat_of_right {n d : Int} (hd : 0 < d) (hg : Int.gcd n d = 1) : (Rat.divInt n d).num = n ∧ ((Rat.divInt n d).den : Int) = d := by
  rw [divInt_pos_num _ _ hd, divInt_pos_den _ _ hd, hg]; simp
theorem rat_gcd (q : Rat) : Int.gcd q.num q.den = 1 := q.reduced
theorem rat_one {n : Int} : (Rat.divInt n 1).num = n ∧ ((Rat.divInt n 1).den : Int) = 1 := rat_of_right (by omega) (by simp)
theorem rat_int (n : Int) : Rat.divInt n 1 = (n : Rat) := by
  apply Rat.ext
  · simp [Rat.num_divInt]
  · simp [Rat.den_divInt]
theorem int_num (n : Int) : ((n : Rat)).num = n := Rat.num_intCast n
theorem int_den (n : Int) : ((n : Rat)).den = 1 := Rat.den_intCast n
/-- A comparison's answer. -/
def cmpQ (p q : Rat) : Int := if p < q then -1 else if q < p then 1 else 0
/-- Both terms have at most k digits. -/
def NQ (q : Rat) (k : Nat) : Prop := nz q.num ≤ k ∧ nz (q.den : Int) ≤ k
theorem NQ.mono {q : Rat} {k m : Nat} (h : NQ q k) (hm : k ≤ m) : NQ q m := ⟨Nat.le_trans h.1 hm, Nat.le_trans h.2 hm⟩
theorem natAbs_ediv_le (n g : Int) (hg : 0 ≤ g) : (n / g).natAbs ≤ n.natAbs := by
  rcases Int.lt_or_le n 0 with h | h
  · by_cases h0 : g = 0
    · subst h0; simp
    · have h1 : n ≤ n / g := by
        rw [Int.le_ediv_iff_mul_le (by omega)]
        have := Int.mul_le_mul_of_nonpos_left (a := n) (b := g) (c := 1) (by omega) (by omega)
        omega
      have h2 : n / g < 0 := Int.ediv_neg_of_neg_of_pos h (by omega)
      omega
  · have h1 := Int.ediv_le_self g h
    have h2 := Int.ediv_nonneg h hg
    omega
theorem NQ_divInt (n d : Int) (hd : d ≠ 0) : nz (Rat.divInt n d).num ≤ nz n ∧ nz ((Rat.divInt n d).den : Int) ≤ nz d := by
  have key : ∀ n d : Int, 0 < d → nz (Rat.divInt n d).num ≤ nz n ∧ nz ((Rat.divInt n d).den : Int) ≤ nz d := fun n d h => by
    rw [divInt_pos_num _ _ h, divInt_pos_den _ _ h]
    exact ⟨nz_mono (natAbs_ediv_le _ _ (by omega)), nz_mono (natAbs_ediv_le _ _ (by omega))⟩
  rcases Int.lt_or_lt_of_ne hd with h | h
  · have := key (-n) (-d) (by omega)
    rw [Rat.neg_divInt_neg, nz_neg, nz_neg] at this
    exact this
  · exact key n d h
theorem NQ.of_divInt {n d : Int} {k : Nat} (hd : d ≠ 0) (hn : nz n ≤ k) (hk : nz d ≤ k) : NQ (Rat.divInt n d) k :=
  ⟨Nat.le_trans (NQ_divInt n d hd).1 hn, Nat.le_trans (NQ_divInt n d hd).2 hk⟩
theorem NQ.neg {q : Rat} {k : Nat} (h : NQ q k) : NQ (-q) k := by
  unfold NQ
  rw [Rat.neg_num, Rat.neg_den, nz_neg]; exact h
theorem nz_mul_le {a b : Int} {j k : Nat} (ha : nz a ≤ j) (hb : nz b ≤ k) : nz (a * b) ≤ j + k := Nat.le_trans (nz_mul a b) (by omega)
theorem nz_add_le {a b : Int} {k : Nat} (ha : nz a ≤ k) (hb : nz b ≤ k) : nz (a + b) ≤ k + 1 := Nat.le_trans (nz_add a b) (by omega)
theorem nz_sub_le {a b : Int} {k : Nat} (ha : nz a ≤ k) (hb : nz b ≤ k) : nz (a - b) ≤ k + 1 := Nat.le_trans (nz_sub a b) (by omega)
theorem NQ.add {p q : Rat} {j k : Nat} (hp : NQ p j) (hq : NQ q k) : NQ (p + q) (j + k + 1) := by
  rw [ratAdd]
  have h1 := nz_mul_le hp.1 hq.2
  have h2 := nz_mul_le hq.1 hp.2
  have h3 := nz_mul_le hp.2 hq.2
  exact NQ.of_divInt (Int.mul_ne_zero (rden_ne p) (rden_ne q)) (nz_add_le h1 (by omega)) (by omega)
theorem NQ.sub {p q : Rat} {j k : Nat} (hp : NQ p j) (hq : NQ q k) : NQ (p - q) (j + k + 1) := by
  rw [Rat.sub_eq_add_neg]; exact hp.add hq.neg
theorem NQ.mul {p q : Rat} {j k : Nat} (hp : NQ p j) (hq : NQ q k) : NQ (p * q) (j + k) := by
  rw [ratMul]
  exact NQ.of_divInt (Int.mul_ne_zero (rden_ne p) (rden_ne q)) (nz_mul_le hp.1 hq.1) (nz_mul_le hp.2 hq.2)
theorem NQ.div {p q : Rat} {j k : Nat} (hp : NQ p j) (hq : NQ q k) (h0 : q ≠ 0) : NQ (p / q) (j + k) := by
  rw [ratDiv]
  have h1 : q.num ≠ 0 := fun e => h0 (Rat.num_eq_zero.1 e)
  exact NQ.of_divInt (Int.mul_ne_zero (rden_ne p) h1) (nz_mul_le hp.1 hq.2) (nz_mul_le hp.2 hq.1)
theorem NQ.int {n : Int} {k : Nat} (h : nz n ≤ k) (hk : 1 ≤ k) : NQ (n : Rat) k := by
  unfold NQ
  rw [int_num, int_den]
  exact ⟨h, Nat.le_trans ((nz_le_iff _ 0).2 (by decide)) hk⟩
theorem cmpQ_lt (p q : Rat) : p < q ↔ p.num * q.den < q.num * p.den := Rat.lt_iff p q
theorem rat_zero_num {q : Rat} : q.num = 0 ↔ q = 0 := Rat.num_eq_zero
/-- What 'lowest' does at a positive denominator. -/
theorem low_fq (n d : Int) (hd : 0 < d) : fq n ((Int.gcd n d : Nat) : Int) = (Rat.divInt n d).num ∧ fq d ((Int.gcd n d : Nat) : Int) = ((Rat.divInt n d).den : Int) := by
  rw [divInt_pos_num _ _ hd, divInt_pos_den _ _ hd]
  unfold fq
  rw [if_pos (by omega), if_pos (by omega)]
  exact ⟨rfl, rfl⟩
theorem gcd_ne (n d : Int) (hd : d ≠ 0) : ((Int.gcd n d : Nat) : Int) ≠ 0 := by
  have : Int.gcd n d ≠ 0 := fun h => hd (Int.gcd_eq_zero_iff.1 h).2
  omega
end
section
theorem cmpQ_cross (p q : Rat) : cmpZ (p.num * q.den) (q.num * p.den) = cmpQ p q := by
  unfold cmpQ cmpZ
  simp only [Rat.lt_iff]
theorem cmpZ_sign (a b : Int) : (a - b).sign = cmpZ a b := by
  unfold cmpZ
  split
  · exact Int.sign_eq_neg_one_of_neg (by omega)
  · split
    · exact Int.sign_eq_one_of_pos (by omega)
    · rw [show a - b = 0 by omega]; rfl
theorem cmpQ_sign (p q : Rat) : (p.num * q.den - q.num * p.den).sign = cmpQ p q := by rw [cmpZ_sign, cmpQ_cross]
theorem cmpZ_mul_pos (a b c : Int) (hc : 0 < c) : cmpZ (a * c) (b * c) = cmpZ a b := by
  unfold cmpZ
  simp only [Int.mul_lt_mul_right hc]
theorem cmpQ_same (p q : Rat) (h : p.den = q.den) : cmpZ p.num q.num = cmpQ p q := by
  rw [← cmpQ_cross, ← h, cmpZ_mul_pos _ _ _ (rden_pos p)]
theorem cmpQ_add (a b c : Rat) : cmpQ (a + c) (b + c) = cmpQ a b := by
  unfold cmpQ
  simp only [Rat.add_lt_add_right]
theorem rat_sign_pos {c : Rat} (h : 0 < c) : c.num.sign = 1 := Int.sign_eq_one_of_pos (by
  have h1 := (Rat.lt_iff 0 c).1 h
  simpa using h1)
theorem rat_sign_neg {c : Rat} (h : c < 0) : c.num.sign = -1 := Int.sign_eq_neg_one_of_neg (by
  have h1 := (Rat.lt_iff c 0).1 h
  simpa using h1)
theorem cmpQ_mul (a b c : Rat) : cmpQ (a * c) (b * c) = cmpQ a b * c.num.sign := by
  by_cases h0 : c = 0
  · subst h0
    simp [cmpQ, Rat.lt_irrefl]
  · by_cases h : 0 < c
    · rw [rat_sign_pos h, Int.mul_one]
      unfold cmpQ
      simp only [Rat.mul_lt_mul_right h]
    · have hn : c < 0 := by grind
      rw [rat_sign_neg hn]
      have e : ∀ x y : Rat, x * c < y * c ↔ y < x := fun x y => by
        have hp : 0 < -c := by grind
        have := @Rat.mul_lt_mul_right y x (-c) hp
        rw [← this]; grind
      unfold cmpQ
      simp only [e]
      by_cases h1 : a < b
      · have h2 : ¬ b < a := by grind
        simp [h1, h2]
      · by_cases h2 : b < a
        · simp [h1, h2]
        · simp [h1, h2]
theorem cmpQ_lt_iff {p q : Rat} : cmpQ p q = -1 ↔ p < q := by
  unfold cmpQ
  split
  · simp [*]
  · split <;> simp [*]
theorem cmpQ_neg_iff {p q : Rat} : cmpQ p q < 0 ↔ p < q := by
  unfold cmpQ
  split
  · simp [*]
  · split <;> simp [*]
theorem cmpQ_pos_iff {p q : Rat} : 0 < cmpQ p q ↔ q < p := by
  unfold cmpQ
  split
  · next h => 
    have : ¬ q < p := by grind
    simp [this]
  · split <;> simp [*]
theorem cmpQ_bd (p q : Rat) : -1 ≤ cmpQ p q ∧ cmpQ p q ≤ 1 := by unfold cmpQ; split; omega; split <;> omega
/-- The nearest integer. -/
def nearZ (q : Rat) : Int := (q + Rat.divInt 1 2).floor
/-- Rounded to a grid. -/
def roundQ (q : Rat) (g : Int) : Rat := Rat.divInt (nearZ (q * (g : Rat))) g
theorem floor_int (n : Int) : (n : Rat).floor = n := Rat.floor_intCast n
theorem near_int (n : Int) : nearZ (n : Rat) = n := by
  unfold nearZ
  have h : (Rat.divInt 1 2) = (1/2 : Rat) := by decide +kernel
  rw [h]
  have h1 := Rat.floor_le ((n : Rat) + 1/2)
  have h2 := Rat.lt_floor_add_one ((n : Rat) + 1/2)
  generalize ((n : Rat) + 1/2).floor = m at *
  have h3 : n < m + 1 := by
    rw [← Rat.intCast_lt_intCast]; grind
  have h4 : m < n + 1 := by
    rw [← Rat.intCast_lt_intCast, Rat.intCast_add]; grind
  omega
theorem round_back (q : Rat) {g : Int} (hg : 0 < g) : roundQ q g * (g : Rat) = (nearZ (q * (g : Rat)) : Int) := by
  unfold roundQ
  rw [Rat.divInt_eq_div]
  exact Rat.div_mul_cancel (fun h => by have := Rat.intCast_eq_zero_iff.1 h; omega)
theorem round_round (q : Rat) {g : Int} (hg : 0 < g) : roundQ (roundQ q g) g = roundQ q g := by
  unfold roundQ
  have h := round_back q hg
  unfold roundQ at h
  rw [h, near_int]
theorem round_near (q : Rat) {g : Int} (hg : 0 < g) : (q - roundQ q g).abs ≤ Rat.divInt 1 (2 * g) := by
  have hb := round_back q hg
  generalize roundQ q g = y at *
  have hg' : (0 : Rat) < (g : Rat) := Rat.intCast_pos.2 hg
  have h1 := Rat.floor_le (q * g + 1/2)
  have h2 := Rat.lt_floor_add_one (q * g + 1/2)
  have e2 : (Rat.divInt 1 2) = (1/2 : Rat) := by decide +kernel
  unfold nearZ at hb
  rw [e2] at hb
  generalize (q * (g : Rat) + 1/2).floor = m at *
  rw [Rat.intCast_add] at h2
  have k1 : (q - y) * g < 1/2 := by grind
  have k2 : -(1/2) ≤ (q - y) * (g : Rat) := by grind
  have e3 : Rat.divInt 1 (2 * g) * ((2 * g : Int) : Rat) = 1 := by
    rw [Rat.divInt_eq_div]
    exact Rat.div_mul_cancel (fun h => by have := Rat.intCast_eq_zero_iff.1 h; omega)
  have hp : (0 : Rat) < ((2 * g : Int) : Rat) := Rat.intCast_pos.2 (by omega)
  refine Rat.le_of_mul_le_mul_right (c := ((2 * g : Int) : Rat)) ?_ hp
  rw [e3, Rat.intCast_mul]
  by_cases h0 : 0 ≤ q - y
  · rw [Rat.abs_of_nonneg h0]; grind
  · rw [Rat.abs_of_nonpos (by grind)]; grind
theorem rest_back (q : Rat) : ((q.floor : Int) : Rat) + (q - ((q.floor : Int) : Rat)) = q := by grind
theorem rest_nonneg (q : Rat) : 0 ≤ (q - ((q.floor : Int) : Rat)).num := by
  rw [Rat.num_nonneg]
  have := Rat.floor_le q
  grind
theorem rest_lt (q : Rat) : (q - ((q.floor : Int) : Rat)) < 1 := by
  have := Rat.lt_floor_add_one q
  rw [Rat.intCast_add] at this
  grind
end
section
open Go.RowKit Go.PlainAid

/-- A fraction as a value. -/
abbrev rv (q : Rat) : Value := .agg #[.string (itx q.num), .string (itx (q.den : Int))]
theorem load_rat {w : World} {g : Nat} {v0 v1 : Value} (h : Box2 w g v0 v1) : (loadVar 48 ⟨g, 0, none⟩).run Tryz.prog w = .ok (.agg #[v0, v1]) w := by
  simp [loadVar, go_sem, h.2.1, h.2.2.1]
theorem field_rat0 (v0 v1 : Value) (w : World) : (Instr.field 48 (.agg #[v0, v1]) 0).run Tryz.prog w = .ok v0 w := by
  simp [Instr.field, asAgg, go_sem]
theorem field_rat1 (v0 v1 : Value) (w : World) : (Instr.field 48 (.agg #[v0, v1]) 1).run Tryz.prog w = .ok v1 w := by
  simp [Instr.field, asAgg, go_sem]
theorem W3.hid {w : World} {v : Value} {z : Int} (h : W3 w v z) : Hid (∀ wz, Below w.heap.size w wz → W3 wz v z) := Lib.hid fun _ hb => h.below hb
/-- One box, two, three, four. -/
def B1 (g : Nat) (x0 x1 : Value) (w : World) : Prop := Box2 w g x0 x1
def B2 (g : Nat) (x0 x1 y0 y1 : Value) (w : World) : Prop := Box2 w g x0 x1 ∧ Box2 w (g + 1) y0 y1
def B3 (g : Nat) (x0 x1 y0 y1 z0 z1 : Value) (w : World) : Prop := Box2 w g x0 x1 ∧ Box2 w (g + 1) y0 y1 ∧ Box2 w (g + 1 + 1) z0 z1
def B4 (g : Nat) (x0 x1 y0 y1 z0 z1 u0 u1 : Value) (w : World) : Prop := Box2 w g x0 x1 ∧ Box2 w (g + 1) y0 y1 ∧ Box2 w (g + 1 + 1) z0 z1 ∧ Box2 w (g + 1 + 1 + 1) u0 u1
section
variable {g : Nat} {x0 x1 y0 y1 z0 z1 u0 u1 : Value} {w W wr : World} {T1 T2 T3 T4 : TypeId}
theorem B1.later (h : B1 g x0 x1 w) (hb : Below w.heap.size w wr) : B1 g x0 x1 wr := Box2.later h hb
theorem B2.later (h : B2 g x0 x1 y0 y1 w) (hb : Below w.heap.size w wr) : B2 g x0 x1 y0 y1 wr := ⟨h.1.later hb, h.2.later hb⟩
theorem B3.later (h : B3 g x0 x1 y0 y1 z0 z1 w) (hb : Below w.heap.size w wr) : B3 g x0 x1 y0 y1 z0 z1 wr := ⟨h.1.later hb, h.2.1.later hb, h.2.2.later hb⟩
theorem B4.later (h : B4 g x0 x1 y0 y1 z0 z1 u0 u1 w) (hb : Below w.heap.size w wr) : B4 g x0 x1 y0 y1 z0 z1 u0 u1 wr := ⟨h.1.later hb, h.2.1.later hb, h.2.2.1.later hb, h.2.2.2.later hb⟩
theorem B1.of (h : w.alloc (.cells #[x0, x1] T1) = W) : B1 w.heap.size x0 x1 W ∧ Below w.heap.size w W := by
  subst h; exact ⟨Box2.new _ _ _ _, (Below.refl _ _).alloc (Nat.le_refl _) _⟩
theorem B2.of (h : (w.alloc (.cells #[x0, x1] T1)).alloc (.cells #[y0, y1] T2) = W) : B2 w.heap.size x0 x1 y0 y1 W ∧ Below w.heap.size w W := by
  obtain ⟨h1, hb1⟩ := B1.of (W := w.alloc (.cells #[x0, x1] T1)) rfl
  obtain ⟨h2, hb2⟩ := B1.of h
  rw [World.size_alloc] at h2
  exact ⟨⟨h1.later hb2, h2⟩, bel_chain hb1 hb2⟩
theorem B3.of (h : ((w.alloc (.cells #[x0, x1] T1)).alloc (.cells #[y0, y1] T2)).alloc (.cells #[z0, z1] T3) = W) : B3 w.heap.size x0 x1 y0 y1 z0 z1 W ∧ Below w.heap.size w W := by
  obtain ⟨h1, hb1⟩ := B2.of (W := (w.alloc (.cells #[x0, x1] T1)).alloc (.cells #[y0, y1] T2)) rfl
  obtain ⟨h2, hb2⟩ := B1.of h
  rw [World.size_alloc, World.size_alloc] at h2
  exact ⟨⟨h1.1.later hb2, h1.2.later hb2, h2⟩, bel_chain hb1 hb2⟩
theorem B4.of (h : (((w.alloc (.cells #[x0, x1] T1)).alloc (.cells #[y0, y1] T2)).alloc (.cells #[z0, z1] T3)).alloc (.cells #[u0, u1] T4) = W) : B4 w.heap.size x0 x1 y0 y1 z0 z1 u0 u1 W ∧ Below w.heap.size w W := by
  obtain ⟨h1, hb1⟩ := B3.of (W := ((w.alloc (.cells #[x0, x1] T1)).alloc (.cells #[y0, y1] T2)).alloc (.cells #[z0, z1] T3)) rfl
  obtain ⟨h2, hb2⟩ := B1.of h
  rw [World.size_alloc, World.size_alloc, World.size_alloc] at h2
  exact ⟨⟨h1.1.later hb2, h1.2.1.later hb2, h1.2.2.later hb2, h2⟩, bel_chain hb1 hb2⟩
theorem B1.store0 (h : B1 g x0 x1 w) (u v : Value) : B1 g u v ((w.setCell ⟨g, 0, none⟩ u).setCell ⟨g, 1, none⟩ v) := (Box2.set0 h _).set1 _
theorem B2.store1 (h : B2 g x0 x1 y0 y1 w) (u v : Value) : B2 g x0 x1 u v ((w.setCell ⟨g + 1, 0, none⟩ u).setCell ⟨g + 1, 1, none⟩ v) :=
  ⟨(h.1.far (by simp) _).far (by simp) _, (h.2.set0 _).set1 _⟩
theorem B2.store0 (h : B2 g x0 x1 y0 y1 w) (u v : Value) : B2 g u v y0 y1 ((w.setCell ⟨g, 0, none⟩ u).setCell ⟨g, 1, none⟩ v) :=
  ⟨(h.1.set0 _).set1 _, (h.2.far (by simp) _).far (by simp) _⟩
theorem B3.store2 (h : B3 g x0 x1 y0 y1 z0 z1 w) (u v : Value) : B3 g x0 x1 y0 y1 u v ((w.setCell ⟨g + 1 + 1, 0, none⟩ u).setCell ⟨g + 1 + 1, 1, none⟩ v) :=
  ⟨(h.1.far (by simp <;> omega) _).far (by simp <;> omega) _, (h.2.1.far (by simp) _).far (by simp) _, (h.2.2.set0 _).set1 _⟩
theorem B3.store1 (h : B3 g x0 x1 y0 y1 z0 z1 w) (u v : Value) : B3 g x0 x1 u v z0 z1 ((w.setCell ⟨g + 1, 0, none⟩ u).setCell ⟨g + 1, 1, none⟩ v) :=
  ⟨(h.1.far (by simp) _).far (by simp) _, (h.2.1.set0 _).set1 _, (h.2.2.far (by simp) _).far (by simp) _⟩
theorem B3.store0 (h : B3 g x0 x1 y0 y1 z0 z1 w) (u v : Value) : B3 g u v y0 y1 z0 z1 ((w.setCell ⟨g, 0, none⟩ u).setCell ⟨g, 1, none⟩ v) :=
  ⟨(h.1.set0 _).set1 _, (h.2.1.far (by simp) _).far (by simp) _, (h.2.2.far (by simp <;> omega) _).far (by simp <;> omega) _⟩
end
end
section
open Go.RowKit Go.PlainAid

theorem atoi_digits {l : List UInt8} (h : l.all isDig = true) (hne : l ≠ []) : Lib.atoi l = some ((val l : Nat) : Int) := by
  have hk : Lib.decNat l = some (val l) := by
    unfold Lib.decNat
    have : l.isEmpty = false := by
      cases l with
      | nil => exact absurd rfl hne
      | cons c r => rfl
    rw [this, decFrom_val _ h]; simp
  cases l with
  | nil => exact absurd rfl hne
  | cons c r =>
    rw [List.all_cons, Bool.and_eq_true, isDig_iff] at h
    unfold Lib.atoi
    have e1 : (c == 45) = false := by rw [beq_eq_false_iff_ne]; intro e; rw [e] at h; exact absurd h.1.1 (by decide)
    have e2 : (c == 43) = false := by rw [beq_eq_false_iff_ne]; intro e; rw [e] at h; exact absurd h.1.1 (by decide)
    simp only [e1, e2, Bool.false_eq_true, if_false, hk, Option.map_some]
theorem cutAt_next {l : List UInt8} {b : Nat} {xs : List Nat} (h : CutAt l b true xs) (hd : l.all isDig = true) (hbl : b ≤ l.length) :
    CutAt l (b - 9) (decide (9 < b)) (xs ++ [val ((l.take b).drop (b - 9))]) :=
  h.step hd (by omega) hbl (fun h => by have := of_decide_eq_true h; omega) (by omega)
theorem hasPrefix_neg {z : Int} (h : z < 0) : Lib.hasPrefix (itx z).data.toList [45] = true := by
  rw [itx_data, itoa_neg h]; rfl
theorem hasPrefix_pos {z : Int} (h : 0 ≤ z) : Lib.hasPrefix (itx z).data.toList [45] = false := by
  rw [itx_data, itoa_pos h]
  obtain ⟨c, r, hc, h1, h2⟩ := dd_head_ge z.natAbs
  rw [hc]
  have : (45 == c) = false := by rw [beq_eq_false_iff_ne]; intro e; rw [← e] at h1; exact absurd h1 (by decide)
  show (45 == c && [].isPrefixOf r) = false
  rw [this]; rfl
theorem OwnN.snoc {B : Nat} {w : World} {v : Value} {xs : List Nat} {y : Nat} (h : OwnN B w v (xs ++ [y])) : ∃ g c, v = .slice (some ⟨g, 0, none⟩) (xs.length + 1) c ∧ B ≤ g ∧ Nc w g (xs.length + 1) c (xs ++ [y]) := by
  rcases h with ⟨_, h⟩ | ⟨g, c, e, hg, h⟩
  · simp at h
  · rw [List.length_append, List.length_singleton] at e h
    exact ⟨g, c, e, hg, h⟩
/-- A string of these bytes. -/
def StrIs (v : Value) (l : List UInt8) : Prop := ∃ t : ByteArray, v = .string t ∧ t.data.toList = l
/-- What To's loop keeps: the result's box g, the box g + 1 of the integer that it makes. -/
def ToRel (s : Bool) (l : List UInt8) (b : Nat) (t : ByteArray) (w wr : World) : Prop :=
  Below w.heap.size w wr ∧ t.data.toList = l.take b ∧ Box2 wr w.heap.size (.bool false) (.slice none 0 0) ∧ NoInt wr w.heap.size ∧ NoInt wr (w.heap.size + 1) ∧
  ∃ v xs, Box2 wr (w.heap.size + 1) (.bool s) v ∧ OwnN (w.heap.size + 2) wr v xs ∧ CutAt l b (decide (0 < b)) xs ∧ xs.length + b ≤ l.length
end
section
open Go.RowKit Go.PlainAid

theorem nz_i64 {z : Int} (h0 : -9223372036854775808 ≤ z) (h1 : z ≤ 9223372036854775807) : nz z ≤ 100 :=
  Nat.le_trans ((nz_le_iff z 19).2 (by
    have : (10 : Nat) ^ (19 + 1) = 100000000000000000000 := by decide
    omega)) (by omega)
end
section
open Go.RowKit Go.PlainAid

theorem repeat_zeros (c : Nat) : Lib.repeatL [48] c = List.replicate c 48 := by
  induction c with
  | zero => rfl
  | succ c ih => rw [Lib.repeatL, ih, List.replicate_succ]; rfl
theorem all_zeros (c : Nat) : (List.replicate c (48 : UInt8)).all isDig = true := by
  rw [List.all_eq_true]; intro x hx; rw [List.eq_of_mem_replicate hx]; rfl
theorem val_zeros_append (c : Nat) (l : List UInt8) : val (List.replicate c 48 ++ l) = val l := by
  induction c with
  | zero => rfl
  | succ c ih => rw [List.replicate_succ, List.cons_append, val_cons, ih]; simp
theorem pad_any {m : Nat} {t : List UInt8} (hm : 0 < m) (hd : t.all isDig = true) : Lib.decDigits m ++ t = Lib.decDigits (val t + 10 ^ t.length * m) := by
  have h1 := dd_head m hm
  have h2 := dd_ne_nil m
  have h3 : (Lib.decDigits m ++ t).getD 0 0 = (Lib.decDigits m).getD 0 0 := by
    cases hc : Lib.decDigits m with
    | nil => exact absurd hc h2
    | cons c r => rfl
  have h4 := (dd_val_pos _ (Lib.decDigits m ++ t) rfl (by rw [List.all_append, all_dd, hd]; rfl) (by simp [h2]) (by rw [h3]; exact h1)).1
  rw [val_append, val_dd] at h4
  rw [← h4]; congr 1
  rw [Nat.mul_comm m]; omega
/-- The text of the low i pieces, each with nine digits. -/
def LowAt (xs : List Nat) (i : Nat) (t : ByteArray) : Prop := t.data.toList.all isDig = true ∧ t.size = 9 * i ∧ val t.data.toList = lv (xs.take i)
theorem LowAt.start (xs : List Nat) : LowAt xs 0 ⟨#[]⟩ := ⟨rfl, rfl, by rw [List.take_zero]; rfl⟩
theorem nd_limb' {y : Nat} (h : y < 1000000000) : Lib.nDigits y ≤ 9 := (nd_le_iff y 8).2 h
theorem append_list (a b : ByteArray) : (a ++ b).data.toList = a.data.toList ++ b.data.toList := by rw [ByteArray.data_append, Array.toList_append]
theorem append_size (a b : ByteArray) : (a ++ b).size = a.size + b.size := by
  show (a ++ b).data.size = _
  rw [← Array.length_toList, append_list, List.length_append]; rfl
theorem lv_take_snoc {xs : List Nat} {i : Nat} (h : i < xs.length) : lv (xs.take (i + 1)) = lv (xs.take i) + xs.getD i 0 * 1000000000 ^ i := by
  rw [List.take_succ_eq_append_getElem h, lv_append, List.length_take, Nat.min_eq_left (by omega), lv_one, List.getD_eq_getElem?_getD, List.getElem?_eq_getElem h]
  rw [Nat.mul_comm]; rfl
theorem LowAt.step {xs : List Nat} {i : Nat} {t d : ByteArray} (h : LowAt xs i t) (hi : i < xs.length) (hd : d.data.toList.all isDig = true) (hs : d.size = 9) (hv : val d.data.toList = xs.getD i 0) : LowAt xs (i + 1) (d ++ t) := by
  refine ⟨by rw [append_list, List.all_append, hd, h.1]; rfl, by rw [append_size, hs, h.2.1]; omega, ?_⟩
  have hl : t.data.toList.length = 9 * i := h.2.1
  rw [append_list, val_append, hl, hv, h.2.2, lv_take_snoc hi, Nat.pow_mul, show (10 : Nat) ^ 9 = 1000000000 by decide, Nat.add_comm]
theorem LowAt.fin {a i : Nat} {t : ByteArray} (h : LowAt (lims a) i t) (hi : (lims a).length = i + 1) : dec ((lims a).getD i 0) ++ t = dec a := by
  have hl : t.data.toList.length = 9 * i := h.2.1
  have h0 : (lims a).getD i 0 ≠ 0 := by
    have hp : 0 < lv ((lims a).drop i) := by
      rw [lv_drop _ (Lims_lims a) _ (by omega), lv_lims, Nat.div_pos_iff]
      refine ⟨Nat.pow_pos (by decide), ?_⟩
      rcases Nat.lt_or_ge a (1000000000 ^ i) with h3 | h3
      · have := (lims_len_le a i).2 h3; omega
      · exact h3
    rw [lv_drop_pred _ i (by omega), List.drop_of_length_le (by omega)] at hp
    intro e
    rw [e] at hp
    simp [lv] at hp
  apply ba_ext
  rw [append_list, dec_data, dec_data, pad_any (by omega) h.1, hl, h.2.2]
  congr 1
  have := lv_take_snoc (xs := lims a) (i := i) (by omega)
  rw [List.take_of_length_le (by omega), lv_lims] at this
  rw [Nat.pow_mul, show (10 : Nat) ^ 9 = 1000000000 by decide, Nat.mul_comm (1000000000 ^ i)]
  exact this.symm
end
section
open Go.RowKit Go.PlainAid

def GcdRel3 (a b : Nat) (vx vy : Value) (gk : Nat) (w wr : World) : Prop := ∃ x y A1 n1 c1 A2 n2 c2, gk = y ∧ vx = .slice A1 n1 c1 ∧ vy = .slice A2 n2 c2 ∧ Ns wr A1 n1 c1 (lims x) ∧ Ns wr A2 n2 c2 (lims y) ∧ Nat.gcd x y = Nat.gcd a b ∧ n1 ≤ 100000 ∧ n2 ≤ 100000 ∧
  Below w.heap.size w wr ∧ Box2 wr (w.heap.size + 1 + 1) (.bool false) (.slice none 0 0) ∧ NoInt wr (w.heap.size + 1 + 1)
end
section
open Go.RowKit Go.PlainAid
attribute [local go_sem ↓] Go.wp_at_zero Go.wp_at_succ
/-- The sign of a number whose magnitude is a. -/
def sg3 (s : Bool) (a : Nat) : Bool := s && !(lims a).isEmpty
/-- Quotient, rounded down, and rest. -/
def FloorPost (a b : Int) (w : World) (e : Ending) (w' : World) : Prop := ∃ vq vr, e = .returned (.tuple #[vq, vr]) ∧ W3 w' vq (a / b) ∧ W3 w' vr (a % b) ∧ Below w.heap.size w w'
/-- What FloorW leaves, and where. -/
def FloorPostF (a b : Int) (w : World) (e : Ending) (w' : World) : Prop := ∃ sq Aq nq cq sr Ar nr cr, e = .returned (.tuple #[.agg #[.bool sq, .slice Aq nq cq], .agg #[.bool sr, .slice Ar nr cr]]) ∧ W3 w' (.agg #[.bool sq, .slice Aq nq cq]) (a / b) ∧ W3 w' (.agg #[.bool sr, .slice Ar nr cr]) (a % b) ∧ Below w.heap.size w w' ∧ (0 ≤ a → Frsh w.heap.size Aq ∧ Frsh w.heap.size Ar)
theorem FloorPostF.drop {a b : Int} {w : World} {e : Ending} {w' : World} (h : FloorPostF a b w e w') : FloorPost a b w e w' := by
  obtain ⟨_, _, _, _, _, _, _, _, h1, h2, h3, h4, _⟩ := h
  exact ⟨_, _, h1, h2, h3, h4⟩
/-- Four boxes: two parameters, two results. -/
def Boxes4 (g : Nat) (x y : Bool × Option Addr × Nat × Nat) (q0 q1 r0 r1 : Value) (wr : World) : Prop :=
  Box2 wr g (.bool x.1) (.slice x.2.1 x.2.2.1 x.2.2.2) ∧ Box2 wr (g + 1) (.bool y.1) (.slice y.2.1 y.2.2.1 y.2.2.2) ∧ Box2 wr (g + 1 + 1) q0 q1 ∧ Box2 wr (g + 1 + 1 + 1) r0 r1 ∧ NoInt wr (g + 1 + 1) ∧ NoInt wr (g + 1 + 1 + 1)
section
variable {g : Nat} {x y : Bool × Option Addr × Nat × Nat} {q0 q1 r0 r1 : Value} {w wr : World}
theorem Boxes4.later (h : Boxes4 g x y q0 q1 r0 r1 w) (hb : Below w.heap.size w wr) : Boxes4 g x y q0 q1 r0 r1 wr :=
  ⟨h.1.later hb, h.2.1.later hb, h.2.2.1.later hb, h.2.2.2.1.later hb, h.2.2.2.2.1.later hb, h.2.2.2.2.2.later hb⟩
theorem Boxes4.storeQ (h : Boxes4 g x y q0 q1 r0 r1 w) (u v : Value) : Boxes4 g x y u v r0 r1 ((w.setCell ⟨g + 1 + 1, 0, none⟩ u).setCell ⟨g + 1 + 1, 1, none⟩ v) :=
  ⟨(h.1.far (by simp <;> omega) _).far (by simp <;> omega) _, (h.2.1.far (by simp) _).far (by simp) _, (h.2.2.1.set0 _).set1 _, (h.2.2.2.1.far (by simp) _).far (by simp) _, (h.2.2.2.2.1.setCell _ _).setCell _ _, (h.2.2.2.2.2.setCell _ _).setCell _ _⟩
theorem Boxes4.storeR (h : Boxes4 g x y q0 q1 r0 r1 w) (u v : Value) : Boxes4 g x y q0 q1 u v ((w.setCell ⟨g + 1 + 1 + 1, 0, none⟩ u).setCell ⟨g + 1 + 1 + 1, 1, none⟩ v) :=
  ⟨(h.1.far (by simp <;> omega) _).far (by simp <;> omega) _, (h.2.1.far (by simp <;> omega) _).far (by simp <;> omega) _, (h.2.2.1.far (by simp) _).far (by simp) _, (h.2.2.2.1.set0 _).set1 _, (h.2.2.2.2.1.setCell _ _).setCell _ _, (h.2.2.2.2.2.setCell _ _).setCell _ _⟩
end
theorem Boxes4.of {w W : World} {b1 : Bool} {A1 : Option Addr} {n1 cap1 : Nat} {b2 : Bool} {A2 : Option Addr} {n2 cap2 : Nat} {T : TypeId} (hT : T ≠ 3)
    (h : ((((w.alloc (.cells #[.bool b1, .slice A1 n1 cap1] T)).alloc (.cells #[.bool b2, .slice A2 n2 cap2] T)).alloc (.cells #[.bool false, .slice none 0 0] T)).alloc (.cells #[.bool false, .slice none 0 0] T)) = W) :
    Boxes4 w.heap.size (b1, A1, n1, cap1) (b2, A2, n2, cap2) (.bool false) (.slice none 0 0) (.bool false) (.slice none 0 0) W ∧ Below w.heap.size w W := by
  subst h
  have h3 := Boxes3.new w b1 A1 n1 cap1 b2 A2 n2 cap2 T
  have hn3 := NoInt.three (w := w) (c1 := #[.bool b1, .slice A1 n1 cap1]) (c2 := #[.bool b2, .slice A2 n2 cap2]) (c3 := #[.bool false, .slice none 0 0]) (T1 := T) (T2 := T) (T3 := T) rfl hT
  have hs : (((w.alloc (.cells #[.bool b1, .slice A1 n1 cap1] T)).alloc (.cells #[.bool b2, .slice A2 n2 cap2] T)).alloc (.cells #[.bool false, .slice none 0 0] T)).heap.size = w.heap.size + 1 + 1 + 1 := by simp only [World.size_alloc]
  generalize hW3 : (((w.alloc (.cells #[.bool b1, .slice A1 n1 cap1] T)).alloc (.cells #[.bool b2, .slice A2 n2 cap2] T)).alloc (.cells #[.bool false, .slice none 0 0] T)) = W3 at *
  have h4 := Box2.new W3 (.bool false) (.slice none 0 0) T
  have hn4 := NoInt.new W3 #[.bool false, .slice none 0 0] T hT
  rw [hs] at h4 hn4
  have hb : Below w.heap.size w W3 := by rw [← hW3]; exact bel3 _ _ _ _
  exact ⟨⟨h3.1.alloc _, h3.2.1.alloc _, h3.2.2.alloc _, h4, hn3.alloc _, hn4⟩, hb.alloc hb.size _⟩
theorem Ns.store2 {w : World} {A : Option Addr} {n cap b i j : Nat} {xs : List Nat} (h : Ns w A n cap xs) (hb : NoInt w b) (u v : Value) : Ns ((w.setCell ⟨b, i, none⟩ u).setCell ⟨b, j, none⟩ v) A n cap xs := (h.store hb u).store (hb.setCell _ _) v
theorem W3.store2 {w : World} {b i j : Nat} {x : Value} {z : Int} (h : W3 w x z) (hb : NoInt w b) (u v : Value) : W3 ((w.setCell ⟨b, i, none⟩ u).setCell ⟨b, j, none⟩ v) x z := (h.store hb u).store (hb.setCell _ _) v
/-- The integer of a sign and a magnitude. -/
def sgZ (s : Bool) (a : Nat) : Int := if s then -(a : Int) else a
theorem sg3_sgZ (s : Bool) (a : Nat) : decide (sgZ s a < 0) = sg3 s a := by
  unfold sgZ sg3
  rw [lims_empty]
  cases s with
  | false =>
    have : ¬ ((a : Int) < 0) := by omega
    simp
  | true =>
    by_cases h : a = 0
    · subst h; simp
    · have : -(a : Int) < 0 := by omega
      simp [h]; omega
theorem sgZ_abs (s : Bool) (a : Nat) : (sgZ s a).natAbs = a := by unfold sgZ; split <;> omega
theorem W3.of_sg3 {w : World} {s : Bool} {A : Option Addr} {n cap a : Nat} (h : Ns w A n cap (lims a)) : W3 w (.agg #[.bool (sg3 s a), .slice A n cap]) (sgZ s a) :=
  ⟨A, n, cap, by rw [sg3_sgZ]; rfl, by rw [sgZ_abs]; exact h⟩
theorem floor_split {a b : Int} (hb : 0 < b) {qn rn : Nat} {s : Bool} (hs : decide (a < 0) = s) (hq : a.natAbs / b.natAbs = qn) (hr : a.natAbs % b.natAbs = rn) :
    (sgZ s rn < 0 → a / b = sgZ s qn - 1 ∧ a % b = sgZ s rn + b) ∧ (¬ sgZ s rn < 0 → a / b = sgZ s qn ∧ a % b = sgZ s rn) := by
  have hm := Nat.div_add_mod a.natAbs b.natAbs
  have hl := Nat.mod_lt a.natAbs (show 0 < b.natAbs by omega)
  rw [hq, hr] at hm
  rw [hr] at hl
  have hmi : b * (qn : Int) + (rn : Int) = (a.natAbs : Int) := by
    have : ((b.natAbs * qn + rn : Nat) : Int) = (a.natAbs : Int) := by rw [hm]
    rw [Int.natCast_add, Int.natCast_mul, show ((b.natAbs : Nat) : Int) = b by omega] at this
    exact this
  have hbm : ∀ z : Int, b * -z = -(b * z) := fun z => Int.mul_neg b z
  have hbs : ∀ z : Int, b * (z - 1) = b * z - b := fun z => by rw [Int.mul_sub, Int.mul_one]
  cases s with
  | false =>
    have h := of_decide_eq_false hs
    refine ⟨fun h1 => ?_, fun _ => (Int.ediv_emod_unique hb).2 ⟨?_, ?_, ?_⟩⟩
    · simp only [sgZ, Bool.false_eq_true, if_false] at h1; omega
    · simp only [sgZ, Bool.false_eq_true, if_false]; omega
    · simp only [sgZ, Bool.false_eq_true, if_false]; omega
    · simp only [sgZ, Bool.false_eq_true, if_false]; omega
  | true =>
    have h := of_decide_eq_true hs
    refine ⟨fun h1 => (Int.ediv_emod_unique hb).2 ⟨?_, ?_, ?_⟩, fun h1 => (Int.ediv_emod_unique hb).2 ⟨?_, ?_, ?_⟩⟩
    all_goals (simp only [sgZ, if_true] at h1 ⊢)
    · rw [hbs, hbm]; omega
    · omega
    · omega
    · rw [hbm]; omega
    · omega
    · omega
end
end Go.Proofs.YtolnojkdalbppaaGreatDoor
