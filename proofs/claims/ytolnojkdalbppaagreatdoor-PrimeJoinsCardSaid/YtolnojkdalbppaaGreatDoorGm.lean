/- Greater text, out of: U5, U6, U7, U8, U11. -/
import Derived.Test.YtolnojkdalbppaaGreatDoorGl
import Derived.Test.YtolnojkdalbppaaGreatDoorGk
import Derived.Test.YtolnojkdalbppaaGreatDoorGd
import Derived.Lib.IndexAny
import Derived.IntWalk
import Derived.Deep.RegionHeld3
namespace Go.Proofs.YtolnojkdalbppaaGreatDoor
section
open Go.RowKit Go.PlainAid
attribute [local go_sem] field_rat0 field_rat1
theorem fq_floor (p : Rat) : fq p.num (p.den : Int) = p.floor := by
  unfold fq
  rw [if_pos (by omega), Rat.floor_def]
theorem nz_floor (p : Rat) {k : Nat} (h : nz p.num ≤ k) : nz p.floor ≤ k := by
  rw [Rat.floor_def]
  exact Nat.le_trans (nz_mono (natAbs_ediv_le _ _ (by omega))) h
theorem rv_half : (rv (Rat.divInt 1 2)) = .agg #[.string ⟨#[49]⟩, .string ⟨#[50]⟩] := by
  have h1 : (Rat.divInt 1 2).num = 1 := by decide +kernel
  have h2 : (Rat.divInt 1 2).den = 2 := by decide +kernel
  have e2 : itx 2 = ⟨#[50]⟩ := by
    have h : Lib.itoa 2 = [50] := by rw [itoa_pos (by omega)]; exact dd_small (by omega)
    unfold itx; rw [h]
  unfold rv
  rw [h1, h2, ← e2, lit_one]; rfl
theorem NQ_half (k : Nat) (hk : 1 ≤ k) : NQ (Rat.divInt 1 2) k := NQ.of_divInt (by decide) (Nat.le_trans ((nz_le_iff 1 0).2 (by decide)) hk) (Nat.le_trans ((nz_le_iff 2 0).2 (by decide)) hk)
theorem rv_int (n : Int) : (rv (n : Rat)) = .agg #[.string (itx n), .string ⟨#[49]⟩] := by
  unfold rv
  rw [int_num, int_den, lit_one]; rfl
end
section
open Go.RowKit Go.PlainAid

/-- Some digits, and nothing else. -/
def digs (l : List UInt8) : Bool := !l.isEmpty && l.all isDig
theorem digs_yes {l : List UInt8} (h : digs l = true) : l ≠ [] ∧ l.all isDig = true := by
  unfold digs at h
  rw [Bool.and_eq_true] at h
  exact ⟨fun e => by rw [e] at h; exact absurd h.1 (by decide), h.2⟩
theorem digs_no {l : List UInt8} (h : digs l = false) : l = [] ∨ (l ≠ [] ∧ l.all isDig = false) := by
  unfold digs at h
  cases l with
  | nil => exact .inl rfl
  | cons c r => exact .inr ⟨by simp, by simpa using h⟩
theorem digit_step {l : List UInt8} {i : Nat} (hi : i < l.length) (HI : (l.take i).all isDig = true) : (l.take (i + 1)).all isDig = isDig (l.getD i 0) := by
  rw [List.take_succ_eq_append_getElem hi, List.all_append, HI, List.getD_eq_getElem?_getD, List.getElem?_eq_getElem hi]
  simp
theorem digit_bad {l : List UInt8} {i : Nat} (hi : i < l.length) (h : isDig (l.getD i 0) = false) : l.all isDig = false := by
  rw [List.all_eq_false]
  exact ⟨l.getD i 0, by rw [List.getD_eq_getElem?_getD, List.getElem?_eq_getElem hi]; exact List.getElem_mem _, by rw [h]; decide⟩
theorem dig_iff (b : UInt8) : isDig b = (decide (48 ≤ b.toNat) && decide (b.toNat ≤ 57)) := rfl
/-- What fraction.digits hands back. -/
def DigRes (l : List UInt8) : Value := if digs l = true then .tuple #[.string (dec (val l)), .bool true] else .tuple #[.string ⟨#[]⟩, .bool false]
end
section
open Go.RowKit Go.PlainAid
attribute [local go_sem] field_rat0 field_rat1
theorem indexAny_spec (cs : List UInt8) : ∀ l : List UInt8, Lib.indexAny l cs = -1 ∨ ∃ k : Nat, Lib.indexAny l cs = (k : Int) ∧ k < l.length ∧ cs.contains (l.getD k 0) = true
  | [] => .inl rfl
  | b :: l => by
    unfold Lib.indexAny
    by_cases hb : cs.contains b = true
    · rw [if_pos hb]
      exact .inr ⟨0, rfl, by simp, hb⟩
    · rw [if_neg hb]
      rcases indexAny_spec cs l with h | ⟨k, h, hk, hc⟩
      · rw [h]; exact .inl rfl
      · rw [h, if_neg (by rw [beq_iff_eq]; omega)]
        exact .inr ⟨k + 1, by omega, by simp; omega, by simpa using hc⟩
/-- The integer's text that fraction.digits hands back. -/
def dStr (l : List UInt8) : ByteArray := if digs l = true then dec (val l) else ⟨#[]⟩
theorem val_zeros (l : List UInt8) : ∀ n, val (l ++ List.replicate n 48) = val l * 10 ^ n
  | 0 => by simp
  | n + 1 => by
    rw [List.replicate_succ', ← List.append_assoc, val_snoc, val_zeros l n, Nat.pow_succ]
    show 10 * (val l * 10 ^ n) + (48 - 48) = _
    rw [← Nat.mul_assoc, Nat.mul_comm 10, Nat.mul_assoc, Nat.mul_comm 10]; rfl
theorem dd_pow (n : Nat) : Lib.decDigits (10 ^ n) = 49 :: List.replicate n 48 := by
  have hv : val (49 :: List.replicate n 48) = 10 ^ n := by
    have h := val_zeros [49] n
    have e : val [49] = 1 := by decide
    rw [e, Nat.one_mul] at h
    exact h
  have hc : canon (49 :: List.replicate n 48) = true := by
    unfold canon
    have h1 : (49 :: List.replicate n 48 : List UInt8).all isDig = true := by
      rw [List.all_cons, Bool.and_eq_true]
      refine ⟨by decide, ?_⟩
      rw [List.all_eq_true]
      intro x hx
      rw [List.eq_of_mem_replicate hx]; decide
    rw [h1, Bool.true_and]
    cases n with
    | zero => rfl
    | succ n => simp
  rw [← hv, dd_val _ hc]
theorem repeat_zeros7 : ∀ n, Lib.repeatL [48] n = List.replicate n 48
  | 0 => rfl
  | n + 1 => by unfold Lib.repeatL; rw [repeat_zeros7 n]; rfl
theorem one_zeros (n : Nat) : (⟨#[49]⟩ : ByteArray) ++ ⟨(Lib.repeatL [48] n).toArray⟩ = dec (10 ^ n) := by
  refine ba_ext ?_
  rw [ByteArray.data_append, Array.toList_append, repeat_zeros7]
  show [49] ++ List.replicate n 48 = (dec (10 ^ n)).data.toList
  rw [← ByteArray.toList_eq, dec_toList, dd_pow]; rfl
/-- Numerator and denominator of a text without its sign. -/
def parseND (m : List UInt8) : Option (Nat × Nat) :=
  if Lib.indexAny m [47, 46] < 0 then (if digs m = true then some (val m, 1) else none)
  else if digs (m.take (Lib.indexAny m [47, 46]).toNat) = true ∧ digs (m.drop ((Lib.indexAny m [47, 46]).toNat + 1)) = true then
    (if m.getD (Lib.indexAny m [47, 46]).toNat 0 = 47 then some (val (m.take (Lib.indexAny m [47, 46]).toNat), val (m.drop ((Lib.indexAny m [47, 46]).toNat + 1)))
     else some (val (m.take (Lib.indexAny m [47, 46]).toNat ++ m.drop ((Lib.indexAny m [47, 46]).toNat + 1)), 10 ^ (m.length - (Lib.indexAny m [47, 46]).toNat - 1)))
  else none
theorem nd_val {l : List UInt8} (h : digs l = true) : Lib.nDigits (val l) ≤ l.length + 1 := by
  rw [nd_le_iff]
  exact Nat.lt_of_lt_of_le (val_lt l (digs_yes h).2) (Nat.pow_le_pow_right (by decide) (by omega))
theorem nd_pow (n : Nat) : Lib.nDigits (10 ^ n) ≤ n + 1 := by
  rw [nd_le_iff]
  exact Nat.pow_lt_pow_right (by decide) (by omega)
theorem digs_append {a b : List UInt8} (h1 : digs a = true) (h2 : digs b = true) : digs (a ++ b) = true := by
  have h3 := digs_yes h1
  have h4 := digs_yes h2
  unfold digs
  rw [List.all_append, h3.2, h4.2]
  have : (a ++ b).isEmpty = false := by
    cases h : a with
    | nil => exact absurd h h3.1
    | cons _ _ => rfl
  rw [this]; rfl
theorem parseND_nd {m : List UInt8} {p q : Nat} (h : parseND m = some (p, q)) : Lib.nDigits p ≤ m.length + 1 ∧ Lib.nDigits q ≤ m.length + 1 := by
  unfold parseND at h
  rcases indexAny_spec [47, 46] m with hk | ⟨k, hk, hl, _⟩
  · rw [hk, if_pos (by decide)] at h
    split at h
    · next hd =>
      injection h with h
      injection h with h1 h2
      rw [← h1, ← h2]
      exact ⟨nd_val hd, by rw [Lib.nDigits_small (by omega)]; omega⟩
    · cases h
  · rw [hk, if_neg (by omega)] at h
    simp only [Int.toNat_natCast] at h
    split at h
    · next hd =>
      have e1 := nd_val hd.1
      have e2 := nd_val hd.2
      have e3 := nd_val (digs_append hd.1 hd.2)
      have e4 := nd_pow (m.length - k - 1)
      rw [List.length_take] at e1
      rw [List.length_drop] at e2
      rw [List.length_append, List.length_take, List.length_drop] at e3
      split at h
      · injection h with h
        injection h with h1 h2
        rw [← h1, ← h2]
        omega
      · injection h with h
        injection h with h1 h2
        rw [← h1, ← h2]
        omega
    · cases h
/-- Behind Parse's switch. -/
def ParseMid (o : Option (Nat × Nat)) (W : World) (s5 s6 s7 s8 : Value) (wx : World) : Prop :=
  ∃ x y a b, s5 = .string x ∧ s6 = .string y ∧ s7 = .bool a ∧ s8 = .bool b ∧ Below W.heap.size W wx ∧ ((a = true ∧ b = true ∧ ∃ p q : Nat, o = some (p, q) ∧ x = dec p ∧ y = dec q) ∨ ((a && b) = false ∧ o = none))
/-- What Parse hands back. -/
def ParseQ (l : List UInt8) : Value :=
  if 400 < l.length then .tuple #[noRat, .int .i64 16]
  else match parseND (magT l) with
    | none => .tuple #[noRat, .int .i64 15]
    | some (a, b) => if b = 0 then .tuple #[noRat, .int .i64 17] else .tuple #[rv (Rat.divInt (if negT l = true then -(a : Int) else (a : Int)) (b : Int)), .int .i64 0]
end
section
open Go.RowKit Go.PlainAid
attribute [local go_sem] field_rat0 field_rat1
/-- The text of a fraction. -/
def rtext (p : Rat) : ByteArray := if p.den = 1 then itx p.num else (itx p.num ++ ⟨#[47]⟩) ++ itx (p.den : Int)
theorem lit3_pos (l : List UInt8) (n : Nat) (h1 : canon l = true) (h2 : val l = n) : (⟨l.toArray⟩ : ByteArray) = itx (n : Int) := by
  rw [itx_nat]; unfold dec; rw [← h2, dd_val l h1]
theorem lit3_neg (l : List UInt8) (n : Nat) (h1 : canon l = true) (h2 : val l = n) (h3 : n ≠ 0) : (⟨(45 :: l).toArray⟩ : ByteArray) = itx (-(n : Int)) := by
  rw [itx_of_neg (by omega), Int.natAbs_neg, Int.natAbs_natCast, ← h2, dd_val l h1]
theorem rv_right {n d : Int} (hd : 0 < d) (hg : Int.gcd n d = 1) : rv (Rat.divInt n d) = .agg #[.string (itx n), .string (itx d)] := by
  have h := rat_of_right hd hg
  unfold rv
  rw [h.1, h.2]
theorem NQ_small {n d : Int} (hd : 0 < d) (hg : Int.gcd n d = 1) (h1 : n.natAbs < 10 ^ (3 + 1)) (h2 : d.natAbs < 10 ^ (3 + 1)) : NQ (Rat.divInt n d) 100 := by
  have h := rat_of_right hd hg
  unfold NQ
  rw [h.1, h.2]
  exact ⟨Nat.le_trans ((nz_le_iff n 3).2 h1) (by omega), Nat.le_trans ((nz_le_iff d 3).2 h2) (by omega)⟩
theorem ascii_bt (s : ByteArray) (h : s.data.toList.all (fun b => decide (b.toNat < 128)) = true) (j : Nat) (b : UInt8) (hb : s.data.toList[j]? = some b) : b.toNat < 128 := by
  have h2 := List.all_eq_true.1 h b (List.mem_of_getElem? hb)
  exact of_decide_eq_true h2
end
section
open Go.RowKit Go.PlainAid

theorem neg_mag' {l : List UInt8} (h : negT l = true) : l = 45 :: magT l := by
  cases l with
  | nil => exact absurd h (by decide)
  | cons c r =>
    have hc : c = 45 := by
      have h2 : ([45] : List UInt8).isPrefixOf (c :: r) = true := h
      simp [List.isPrefixOf] at h2
      exact h2.symm
    subst hc
    have e : magT (45 :: r) = r := by
      unfold magT Lib.trimPrefix
      have h2 : Lib.hasPrefix (45 :: r) [45] = true := h
      rw [if_pos h2]; rfl
    rw [e]
theorem pos_mag' {l : List UInt8} (h : negT l = false) : magT l = l := by
  unfold magT Lib.trimPrefix
  have h2 : ¬ Lib.hasPrefix l [45] = true := by
    have h3 : Lib.hasPrefix l [45] = false := h
    rw [h3]; decide
  rw [if_neg h2]
theorem dig_not (b : UInt8) (h : isDig b = true) : ([47, 46] : List UInt8).contains b = false := by
  have hd := (isDig_iff b).1 h
  rw [Bool.eq_false_iff]
  intro hc
  simp at hc
  rcases hc with rfl | rfl
  · exact absurd hd.1 (by decide)
  · exact absurd hd.1 (by decide)
theorem indexAny_cons (b : UInt8) (l : List UInt8) (h : isDig b = true) : Lib.indexAny (b :: l) [47, 46] = if Lib.indexAny l [47, 46] == -1 then -1 else Lib.indexAny l [47, 46] + 1 := by
  rw [Lib.indexAny, if_neg (by rw [dig_not b h]; decide)]
theorem indexAny_digits : ∀ l : List UInt8, l.all isDig = true → Lib.indexAny l [47, 46] = -1
  | [], _ => rfl
  | b :: l, h => by
    rw [List.all_cons, Bool.and_eq_true] at h
    rw [indexAny_cons b l h.1, indexAny_digits l h.2]; rfl
theorem indexAny_slash (r : List UInt8) : ∀ l : List UInt8, l.all isDig = true → Lib.indexAny (l ++ 47 :: r) [47, 46] = (l.length : Int)
  | [], _ => by rw [List.nil_append, Lib.indexAny, if_pos (by decide)]; rfl
  | b :: l, h => by
    rw [List.all_cons, Bool.and_eq_true] at h
    rw [List.cons_append, indexAny_cons b _ h.1, indexAny_slash r l h.2, if_neg (by rw [beq_iff_eq]; omega), List.length_cons]; omega
theorem digs_dd (n : Nat) : digs (Lib.decDigits n) = true := by
  unfold digs
  rw [all_dd]
  cases h : Lib.decDigits n with
  | nil => exact absurd h (dd_ne_nil n)
  | cons _ _ => rfl
theorem parseND_int (n : Nat) : parseND (Lib.decDigits n) = some (n, 1) := by
  unfold parseND
  rw [indexAny_digits _ (all_dd n), if_pos (by decide), if_pos (digs_dd n), val_dd]
theorem parseND_frac (n d : Nat) : parseND (Lib.decDigits n ++ 47 :: Lib.decDigits d) = some (n, d) := by
  unfold parseND
  rw [indexAny_slash _ _ (all_dd n), if_neg (by omega)]
  simp only [Int.toNat_natCast]
  have h1 : (Lib.decDigits n ++ 47 :: Lib.decDigits d).take (Lib.decDigits n).length = Lib.decDigits n := by rw [List.take_left']; rfl
  have h2 : (Lib.decDigits n ++ 47 :: Lib.decDigits d).drop ((Lib.decDigits n).length + 1) = Lib.decDigits d := by
    rw [List.drop_append, List.drop_of_length_le (by omega)]
    simp
  have h3 : (Lib.decDigits n ++ 47 :: Lib.decDigits d).getD (Lib.decDigits n).length 0 = 47 := by
    rw [List.getD_eq_getElem?_getD, List.getElem?_append_right (Nat.le_refl _)]
    simp
  rw [h1, h2, h3, if_pos ⟨digs_dd n, digs_dd d⟩, if_pos rfl, val_dd, val_dd]
/-- The text behind the sign. -/
def mtx (p : Rat) : List UInt8 := if p.den = 1 then Lib.decDigits p.num.natAbs else Lib.decDigits p.num.natAbs ++ 47 :: Lib.decDigits p.den
theorem rtext_list (p : Rat) : (rtext p).data.toList = if p.num < 0 then 45 :: mtx p else mtx p := by
  unfold rtext mtx
  by_cases h : p.den = 1
  · rw [if_pos h, if_pos h, itx_data]
    by_cases hn : p.num < 0
    · rw [if_pos hn, itoa_neg hn]
    · rw [if_neg hn, itoa_pos (by omega)]
  · rw [if_neg h, if_neg h, ByteArray.data_append, Array.toList_append, ByteArray.data_append, Array.toList_append, itx_data, itx_data, itoa_pos (show (0 : Int) ≤ (p.den : Int) by omega), Int.natAbs_natCast]
    by_cases hn : p.num < 0
    · rw [if_pos hn, itoa_neg hn]; simp
    · rw [if_neg hn, itoa_pos (by omega)]; simp
theorem mtx_head (p : Rat) : ∃ c r, mtx p = c :: r ∧ 48 ≤ c.toNat := by
  obtain ⟨c, r, h1, h2, _⟩ := dd_head_ge p.num.natAbs
  unfold mtx
  rw [h1]
  split
  · exact ⟨c, r, rfl, h2⟩
  · exact ⟨c, _, rfl, h2⟩
theorem rtext_sign (p : Rat) : negT (rtext p).data.toList = decide (p.num < 0) ∧ magT (rtext p).data.toList = mtx p := by
  rw [rtext_list]
  by_cases hn : p.num < 0
  · rw [if_pos hn, decide_eq_true hn]
    have h1 : negT (45 :: mtx p) = true := by
      show ([45] : List UInt8).isPrefixOf (45 :: mtx p) = true
      simp [List.isPrefixOf]
    exact ⟨h1, (List.cons.inj (neg_mag' h1)).2.symm⟩
  · rw [if_neg hn, decide_eq_false hn]
    have h1 : negT (mtx p) = false := by
      obtain ⟨c, r, h, hc⟩ := mtx_head p
      rw [h]
      show ([45] : List UInt8).isPrefixOf (c :: r) = false
      have : (45 == c) = false := by rw [beq_eq_false_iff_ne]; rintro rfl; exact absurd hc (by decide)
      show (45 == c && _) = false
      rw [this]; rfl
    exact ⟨h1, pos_mag' h1⟩
theorem parse_rtext (p : Rat) (h1 : (itx p.num).size ≤ 60) (h2 : (itx (p.den : Int)).size ≤ 60) : ParseQ (rtext p).data.toList = .tuple #[rv p, .int .i64 0] := by
  have hs := rtext_sign p
  have hlen : (rtext p).data.toList.length ≤ 121 := by
    rw [str_size]
    unfold rtext
    split
    · omega
    · rw [ByteArray.size_append, ByteArray.size_append]
      have : (⟨#[47]⟩ : ByteArray).size = 1 := rfl
      omega
  have hnd : parseND (mtx p) = some (p.num.natAbs, p.den) := by
    unfold mtx
    split
    · next h => rw [parseND_int, h]
    · exact parseND_frac _ _
  unfold ParseQ
  rw [if_neg (by omega), hs.1, hs.2, hnd]
  show (if p.den = 0 then _ else _) = _
  rw [if_neg p.den_nz]
  have e : (if decide (p.num < 0) = true then -((p.num.natAbs : Nat) : Int) else ((p.num.natAbs : Nat) : Int)) = p.num := by
    by_cases hn : p.num < 0
    · rw [if_pos (decide_eq_true hn)]; omega
    · rw [if_neg (by simpa using hn)]; omega
  rw [e, Rat.num_divInt_den]
theorem rtext_ascii (p : Rat) : (rtext p).data.toList.all (fun b => decide (b.toNat < 128)) = true := by
  have hd : ∀ n, (Lib.decDigits n).all (fun b => decide (b.toNat < 128)) = true := fun n => by
    rw [List.all_eq_true]
    intro x hx
    have := (isDig_iff x).1 (List.all_eq_true.1 (all_dd n) x hx)
    exact decide_eq_true (by omega)
  have hm : (mtx p).all (fun b => decide (b.toNat < 128)) = true := by
    unfold mtx
    split
    · exact hd _
    · rw [List.all_append, List.all_cons, hd, hd]; rfl
  rw [rtext_list]
  split
  · rw [List.all_cons, hm]; rfl
  · exact hm
end
end Go.Proofs.YtolnojkdalbppaaGreatDoor
