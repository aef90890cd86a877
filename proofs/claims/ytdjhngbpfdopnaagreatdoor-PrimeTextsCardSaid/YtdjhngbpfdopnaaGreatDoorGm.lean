/- Greater text, out of: U5, U6, U7, U8, U11. -/
import Derived.Test.YtdjhngbpfdopnaaGreatDoorGl
import Derived.Test.YtdjhngbpfdopnaaGreatDoorGk
import Derived.Test.YtdjhngbpfdopnaaGreatDoorGd
import Derived.Lib.IndexAny
import Derived.IntWalk
import Derived.Deep.RegionHeld3
namespace Go.Proofs.YtdjhngbpfdopnaaGreatDoor
section
open Go.RowKit Go.PlainAid
attribute [local go_sem] field_rat0 field_rat1

theorem fq_floor (p : Rat) : fq p.num (p.den : Int) = p.floor := by
  unfold fq
  rw [if_pos (by omega), Rat.floor_def]
theorem nz_floor (p : Rat) {k : Nat} (h : nz p.num ≤ k) : nz p.floor ≤ k := by
  rw [Rat.floor_def]
  exact Nat.le_trans (nz_mono (natAbs_ediv_le _ _ (by omega))) h
theorem rv_half : (rv (Rat.divInt 1 2)) = .agg #[.string ⟨#[49]⟩, .string ⟨#[50]⟩] := by
  have h1 : (Rat.divInt 1 2).num = 1 := by decide +kernel
  have h2 : (Rat.divInt 1 2).den = 2 := by decide +kernel
  have e2 : itx 2 = ⟨#[50]⟩ := by
    have h : Lib.itoa 2 = [50] := by rw [itoa_pos (by omega)]; exact dd_small (by omega)
    unfold itx; rw [h]
  unfold rv
  rw [h1, h2, ← e2, lit_one]; rfl
theorem NQ_half (k : Nat) (hk : 1 ≤ k) : NQ (Rat.divInt 1 2) k := NQ.of_divInt (by decide) (Nat.le_trans ((nz_le_iff 1 0).2 (by decide)) hk) (Nat.le_trans ((nz_le_iff 2 0).2 (by decide)) hk)
theorem fadd_half (p : Rat) (w : World) (hamb : Amb w) (hp : NQ p 20000) :
    Calls Tryz.prog 53 #[rv p, .agg #[.string ⟨#[49]⟩, .string ⟨#[50]⟩]] w (SmallRes (rv (p + Rat.divInt 1 2)) w) := by
  have h := fadd_any p (Rat.divInt 1 2) w hamb hp (NQ_half _ (by omega))
  rw [rv_half] at h
  exact h
theorem rv_int (n : Int) : (rv (n : Rat)) = .agg #[.string (itx n), .string ⟨#[49]⟩] := by
  unfold rv
  rw [int_num, int_den, lit_one]; rfl
set_option maxRecDepth 100000 in
set_option maxHeartbeats 4000000 in
/-- fraction.Floor. -/
theorem ffloor_any (p : Rat) (w : World) (hamb : Amb w) (hp : NQ p 20000) :
    Calls Tryz.prog 102 #[rv p] w (SmallRes (.string (itx p.floor)) w) := by
  obtain ⟨hp1, hp2⟩ := hp
  have HF := Lib.hid (fq_floor p)
  have hd0 := rden_ne p
  have HAMB := Lib.hid hamb
  clear hamb
  go_enter Tryz.func102, Tryz.ntmps102
  go_wp2_with fail
  obtain ⟨W, hW⟩ : ∃ W, (w.alloc (.cells #[.string (itx p.num), .string (itx (p.den : Int))] 27)) = W := ⟨_, rfl⟩
  rw [hW]
  obtain ⟨hX, hBW⟩ := B1.of hW
  clear hW
  have HX := Lib.hid (fun wz (hb : Below W.heap.size W wz) => hX.later hb)
  have HB := Lib.hid hBW
  have HA := Lib.hid (fun wz (hb : Below W.heap.size W wz) => HAMB.out.below (bel_chain HB.out hb))
  have hz0 : Below W.heap.size W W := Below.refl _ _
  clear hBW
  obtain ⟨_, c000, c001, f000, f001⟩ := hX
  go_wp2_with fail
  refine (wdivmod_any p.num (p.den : Int) _ (HA.out _ hz0) hd0 (by omega) (by omega)).mono ?_
  rintro e w1 ⟨rfl, hb1⟩
  have hz1 := bel_chain hz0 hb1
  obtain ⟨_, c100, c101, f100, f101⟩ := HX.out _ hz1
  go_wp2_with fail
  go_ret
  exact ⟨by rw [← HF.out]; rfl, bel_chain HB.out hz1⟩

set_option maxRecDepth 100000 in
set_option maxHeartbeats 4000000 in
/-- fraction.Nearest. -/
theorem fnearest_any (p : Rat) (w : World) (hamb : Amb w) (hp : NQ p 19998) :
    Calls Tryz.prog 52 #[rv p] w (SmallRes (.string (itx (nearZ p))) w) := by
  have hp2 : NQ p 20000 := hp.mono (by omega)
  have HH := Lib.hid ((hp.add (NQ_half 1 (by omega))).mono (show 19998 + 1 + 1 ≤ 20000 by omega))
  have HP := Lib.hid hp2
  clear hp hp2
  unfold nearZ
  have HAMB := Lib.hid hamb
  clear hamb
  go_enter Tryz.func52, Tryz.ntmps52
  go_wp2_with fail
  obtain ⟨W, hW⟩ : ∃ W, (w.alloc (.cells #[.string (itx p.num), .string (itx (p.den : Int))] 27)) = W := ⟨_, rfl⟩
  rw [hW]
  obtain ⟨hX, hBW⟩ := B1.of hW
  clear hW
  have HX := Lib.hid (fun wz (hb : Below W.heap.size W wz) => hX.later hb)
  have HB := Lib.hid hBW
  have HA := Lib.hid (fun wz (hb : Below W.heap.size W wz) => HAMB.out.below (bel_chain HB.out hb))
  have hz0 : Below W.heap.size W W := Below.refl _ _
  clear hBW
  obtain ⟨_, c000, c001, f000, f001⟩ := hX
  go_wp2_with fail
  refine (fadd_half p _ (HA.out _ hz0) HP.out).mono ?_
  rintro e w1 ⟨rfl, hb1⟩
  have hz1 := bel_chain hz0 hb1
  obtain ⟨_, c100, c101, f100, f101⟩ := HX.out _ hz1
  go_wp2_with fail
  refine (ffloor_any (p + Rat.divInt 1 2) _ (HA.out _ hz1) HH.out).mono ?_
  rintro e w2 ⟨rfl, hb2⟩
  have hz2 := bel_chain hz1 hb2
  obtain ⟨_, c200, c201, f200, f201⟩ := HX.out _ hz2
  go_wp2_with fail
  go_ret
  exact ⟨rfl, bel_chain HB.out hz2⟩

end
section
open Go.RowKit Go.PlainAid

/-- Some digits, and nothing else. -/
def digs (l : List UInt8) : Bool := !l.isEmpty && l.all isDig
theorem digs_yes {l : List UInt8} (h : digs l = true) : l ≠ [] ∧ l.all isDig = true := by
  unfold digs at h
  rw [Bool.and_eq_true] at h
  exact ⟨fun e => by rw [e] at h; exact absurd h.1 (by decide), h.2⟩
theorem digs_no {l : List UInt8} (h : digs l = false) : l = [] ∨ (l ≠ [] ∧ l.all isDig = false) := by
  unfold digs at h
  cases l with
  | nil => exact .inl rfl
  | cons c r => exact .inr ⟨by simp, by simpa using h⟩
theorem digit_step {l : List UInt8} {i : Nat} (hi : i < l.length) (HI : (l.take i).all isDig = true) : (l.take (i + 1)).all isDig = isDig (l.getD i 0) := by
  rw [List.take_succ_eq_append_getElem hi, List.all_append, HI, List.getD_eq_getElem?_getD, List.getElem?_eq_getElem hi]
  simp
theorem digit_bad {l : List UInt8} {i : Nat} (hi : i < l.length) (h : isDig (l.getD i 0) = false) : l.all isDig = false := by
  rw [List.all_eq_false]
  exact ⟨l.getD i 0, by rw [List.getD_eq_getElem?_getD, List.getElem?_eq_getElem hi]; exact List.getElem_mem _, by rw [h]; decide⟩
theorem dig_iff (b : UInt8) : isDig b = (decide (48 ≤ b.toNat) && decide (b.toNat ≤ 57)) := rfl
/-- What fraction.digits hands back. -/
def DigRes (l : List UInt8) : Value := if digs l = true then .tuple #[.string (dec (val l)), .bool true] else .tuple #[.string ⟨#[]⟩, .bool false]
set_option maxRecDepth 100000 in
set_option maxHeartbeats 2000000 in
/-- fraction.digits. -/
theorem fdigits_any (s : ByteArray) (w : World) (hs : s.size ≤ 1000000) :
    Calls Tryz.prog 63 #[.string s] w (SmallRes (DigRes s.data.toList) w) := by
  obtain ⟨l, hl⟩ : ∃ l, s.data.toList = l := ⟨_, rfl⟩
  have hls : l.length = s.size := by rw [← hl, str_size]
  by_cases h0 : l = []
  · have he := str_empty (t := s) (by rw [hl]; exact h0)
    have HR := Lib.hid (show DigRes s.data.toList = .tuple #[.string ⟨#[]⟩, .bool false] by rw [hl, h0]; rfl)
    clear hl hls h0
    rw [HR.out]
    go_enter Tryz.func63, Tryz.ntmps63
    go_wp2_with fail
    go_ret2
    exact ⟨rfl, Below.refl _ _⟩
  have he := str_some (t := s) (by rw [hl]; exact h0)
  have hbt := get_bt s
  have htr : ∀ w1, Calls Tryz.prog 117 #[.string s, .string ⟨#[48]⟩] w1 fun e w' => e = .returned (.string ⟨(l.dropWhile (· == 48)).toArray⟩) ∧ w' = w1 := fun w1 => by
    have := Tryz.strings_TrimLeft_one s 48 (by decide) w1
    rw [hl] at this
    exact this
  have HTR := Lib.hid htr
  obtain ⟨V, hV⟩ : ∃ V, DigRes s.data.toList = V := ⟨_, rfl⟩
  have HV := Lib.hid (show V = if digs l = true then .tuple #[.string (dec (val l)), .bool true] else .tuple #[.string ⟨#[]⟩, .bool false] by rw [← hV, hl]; rfl)
  rw [hV]
  have HL := Lib.hid hls
  have HSL := Lib.hid hl
  have HL0 := Lib.hid h0
  clear htr hV hl hls h0
  go_enter Tryz.func63, Tryz.ntmps63
  go_wp2_with fail
  go_loop [9] (fun vi => ∃ i : Nat, i ≤ s.size ∧ vi = .int .i64 (i : Int) ∧ Hid ((l.take i).all isDig = true)) (fun vi => s.size - (intOf vi).toNat)
  case atStart => exact ⟨0, Nat.zero_le _, rfl, Lib.hid rfl⟩
  case round =>
    obtain ⟨i, hi, rfl, HI⟩ := hrel
    by_cases hin : i = s.size
    · have hall : l.all isDig = true := by have := HI.out; rwa [List.take_of_length_le (by rw [HL.out]; omega)] at this
      have hlt : ¬ i < s.size := by omega
      have htz := trim_zeros l hall
      have HD := Lib.hid (show V = .tuple #[.string (dec (val l)), .bool true] by
        rw [HV.out, if_pos]
        unfold digs
        rw [hall]
        cases h : l with
        | nil => exact absurd h HL0.out
        | cons _ _ => rfl)
      clear hin hall
      by_cases hv : val l = 0
      · have e1 := htz.1 hv
        rw [e1] at HTR
        rw [hv] at HD
        clear htz e1 hv
        go_wp2_with fail
        refine (HTR.out _).mono ?_
        rintro e w1 ⟨rfl, rfl⟩
        go_wp2_with fail
        go_ret2
        exact ⟨by rw [HD.out, ← itx_zero, itx_lit_zero]; rfl, Below.refl _ _⟩
      · have e1 := htz.2 hv
        rw [e1] at HTR
        obtain ⟨m, hm⟩ : ∃ m, val l = m := ⟨_, rfl⟩
        rw [hm] at HTR HD
        have hdm : (⟨(Lib.decDigits m).toArray⟩ : ByteArray) = dec m := rfl
        rw [hdm] at HTR
        have hne := str_some (t := dec m) (by rw [← ByteArray.toList_eq, dec_toList]; exact dd_ne_nil m)
        clear htz e1 hv hm hdm
        go_wp2_with fail
        refine (HTR.out _).mono ?_
        rintro e w1 ⟨rfl, rfl⟩
        go_wp2_with fail
        go_ret2
        exact ⟨by rw [HD.out]; rfl, Below.refl _ _⟩
    · have hlt : i < s.size := by omega
      have hb := bt_at s i hlt
      rw [HSL.out] at hb
      have HTK := Lib.hid (digit_step (by rw [HL.out]; exact hlt) HI.out)
      have HNO := Lib.hid (fun h => digit_bad (l := l) (i := i) (by rw [HL.out]; exact hlt) h)
      have HDG := Lib.hid (dig_iff (l.getD i 0))
      have hb1 := (l.getD i 0).toNat_lt
      clear hin
      generalize (l.getD i 0) = b at *
      generalize hd : b.toNat = d at *
      by_cases h5 : 48 ≤ d
      · by_cases h6 : d ≤ 57
        · have HY := Lib.hid (show isDig b = true by rw [HDG.out]; simp [h5, h6])
          clear hd
          go_wp2_with fail
          go_round
          case rel => exact ⟨i + 1, by omega, by go_num, Lib.hid (by rw [HTK.out]; exact HY.out)⟩
          case measure => simp [intOf]; omega
        · have HC := Lib.hid (show V = .tuple #[.string ⟨#[]⟩, .bool false] by
            rw [HV.out, if_neg]
            unfold digs
            rw [HNO.out (by rw [HDG.out]; simp; omega)]; simp)
          clear hd
          go_wp2_with fail
          go_ret2
          exact ⟨by rw [HC.out]; rfl, Below.refl _ _⟩
      · have HC := Lib.hid (show V = .tuple #[.string ⟨#[]⟩, .bool false] by
          rw [HV.out, if_neg]
          unfold digs
          rw [HNO.out (by rw [HDG.out]; simp; omega)]; simp)
        clear hd
        go_wp2_with fail
        go_ret2
        exact ⟨by rw [HC.out]; rfl, Below.refl _ _⟩
end
section
open Go.RowKit Go.PlainAid
attribute [local go_sem] field_rat0 field_rat1

theorem indexAny_spec (cs : List UInt8) : ∀ l : List UInt8, Lib.indexAny l cs = -1 ∨ ∃ k : Nat, Lib.indexAny l cs = (k : Int) ∧ k < l.length ∧ cs.contains (l.getD k 0) = true
  | [] => .inl rfl
  | b :: l => by
    unfold Lib.indexAny
    by_cases hb : cs.contains b = true
    · rw [if_pos hb]
      exact .inr ⟨0, rfl, by simp, hb⟩
    · rw [if_neg hb]
      rcases indexAny_spec cs l with h | ⟨k, h, hk, hc⟩
      · rw [h]; exact .inl rfl
      · rw [h, if_neg (by rw [beq_iff_eq]; omega)]
        exact .inr ⟨k + 1, by omega, by simp; omega, by simpa using hc⟩
/-- The integer's text that fraction.digits hands back. -/
def dStr (l : List UInt8) : ByteArray := if digs l = true then dec (val l) else ⟨#[]⟩
theorem fdigits_tup (s : ByteArray) (l : List UInt8) (w : World) (hl : s.data.toList = l) (hs : s.size ≤ 1000000) :
    Calls Tryz.prog 63 #[.string s] w (SmallRes (.tuple #[.string (dStr l), .bool (digs l)]) w) := by
  have h := fdigits_any s w hs
  have e : DigRes s.data.toList = .tuple #[.string (dStr l), .bool (digs l)] := by
    rw [hl]
    unfold DigRes dStr
    cases hd : digs l <;> rfl
  rw [e] at h
  exact h
theorem val_zeros (l : List UInt8) : ∀ n, val (l ++ List.replicate n 48) = val l * 10 ^ n
  | 0 => by simp
  | n + 1 => by
    rw [List.replicate_succ', ← List.append_assoc, val_snoc, val_zeros l n, Nat.pow_succ]
    show 10 * (val l * 10 ^ n) + (48 - 48) = _
    rw [← Nat.mul_assoc, Nat.mul_comm 10, Nat.mul_assoc, Nat.mul_comm 10]; rfl
theorem dd_pow (n : Nat) : Lib.decDigits (10 ^ n) = 49 :: List.replicate n 48 := by
  have hv : val (49 :: List.replicate n 48) = 10 ^ n := by
    have h := val_zeros [49] n
    have e : val [49] = 1 := by decide
    rw [e, Nat.one_mul] at h
    exact h
  have hc : canon (49 :: List.replicate n 48) = true := by
    unfold canon
    have h1 : (49 :: List.replicate n 48 : List UInt8).all isDig = true := by
      rw [List.all_cons, Bool.and_eq_true]
      refine ⟨by decide, ?_⟩
      rw [List.all_eq_true]
      intro x hx
      rw [List.eq_of_mem_replicate hx]; decide
    rw [h1, Bool.true_and]
    cases n with
    | zero => rfl
    | succ n => simp
  rw [← hv, dd_val _ hc]
theorem repeat_zeros7 : ∀ n, Lib.repeatL [48] n = List.replicate n 48
  | 0 => rfl
  | n + 1 => by unfold Lib.repeatL; rw [repeat_zeros7 n]; rfl
theorem one_zeros (n : Nat) : (⟨#[49]⟩ : ByteArray) ++ ⟨(Lib.repeatL [48] n).toArray⟩ = dec (10 ^ n) := by
  refine ba_ext ?_
  rw [ByteArray.data_append, Array.toList_append, repeat_zeros7]
  show [49] ++ List.replicate n 48 = (dec (10 ^ n)).data.toList
  rw [← ByteArray.toList_eq, dec_toList, dd_pow]; rfl
/-- Numerator and denominator of a text without its sign. -/
def parseND (m : List UInt8) : Option (Nat × Nat) :=
  if Lib.indexAny m [47, 46] < 0 then (if digs m = true then some (val m, 1) else none)
  else if digs (m.take (Lib.indexAny m [47, 46]).toNat) = true ∧ digs (m.drop ((Lib.indexAny m [47, 46]).toNat + 1)) = true then
    (if m.getD (Lib.indexAny m [47, 46]).toNat 0 = 47 then some (val (m.take (Lib.indexAny m [47, 46]).toNat), val (m.drop ((Lib.indexAny m [47, 46]).toNat + 1)))
     else some (val (m.take (Lib.indexAny m [47, 46]).toNat ++ m.drop ((Lib.indexAny m [47, 46]).toNat + 1)), 10 ^ (m.length - (Lib.indexAny m [47, 46]).toNat - 1)))
  else none
theorem nd_val {l : List UInt8} (h : digs l = true) : Lib.nDigits (val l) ≤ l.length + 1 := by
  rw [nd_le_iff]
  exact Nat.lt_of_lt_of_le (val_lt l (digs_yes h).2) (Nat.pow_le_pow_right (by decide) (by omega))
theorem nd_pow (n : Nat) : Lib.nDigits (10 ^ n) ≤ n + 1 := by
  rw [nd_le_iff]
  exact Nat.pow_lt_pow_right (by decide) (by omega)
theorem digs_append {a b : List UInt8} (h1 : digs a = true) (h2 : digs b = true) : digs (a ++ b) = true := by
  have h3 := digs_yes h1
  have h4 := digs_yes h2
  unfold digs
  rw [List.all_append, h3.2, h4.2]
  have : (a ++ b).isEmpty = false := by
    cases h : a with
    | nil => exact absurd h h3.1
    | cons _ _ => rfl
  rw [this]; rfl
theorem parseND_nd {m : List UInt8} {p q : Nat} (h : parseND m = some (p, q)) : Lib.nDigits p ≤ m.length + 1 ∧ Lib.nDigits q ≤ m.length + 1 := by
  unfold parseND at h
  rcases indexAny_spec [47, 46] m with hk | ⟨k, hk, hl, _⟩
  · rw [hk, if_pos (by decide)] at h
    split at h
    · next hd =>
      injection h with h
      injection h with h1 h2
      rw [← h1, ← h2]
      exact ⟨nd_val hd, by rw [Lib.nDigits_small (by omega)]; omega⟩
    · cases h
  · rw [hk, if_neg (by omega)] at h
    simp only [Int.toNat_natCast] at h
    split at h
    · next hd =>
      have e1 := nd_val hd.1
      have e2 := nd_val hd.2
      have e3 := nd_val (digs_append hd.1 hd.2)
      have e4 := nd_pow (m.length - k - 1)
      rw [List.length_take] at e1
      rw [List.length_drop] at e2
      rw [List.length_append, List.length_take, List.length_drop] at e3
      split at h
      · injection h with h
        injection h with h1 h2
        rw [← h1, ← h2]
        omega
      · injection h with h
        injection h with h1 h2
        rw [← h1, ← h2]
        omega
    · cases h
/-- Behind Parse's switch. -/
def ParseMid (o : Option (Nat × Nat)) (W : World) (s5 s6 s7 s8 : Value) (wx : World) : Prop :=
  ∃ x y a b, s5 = .string x ∧ s6 = .string y ∧ s7 = .bool a ∧ s8 = .bool b ∧ Below W.heap.size W wx ∧ ((a = true ∧ b = true ∧ ∃ p q : Nat, o = some (p, q) ∧ x = dec p ∧ y = dec q) ∨ ((a && b) = false ∧ o = none))
/-- What Parse hands back. -/
def ParseQ (l : List UInt8) : Value :=
  if 400 < l.length then .tuple #[noRat, .int .i64 16]
  else match parseND (magT l) with
    | none => .tuple #[noRat, .int .i64 15]
    | some (a, b) => if b = 0 then .tuple #[noRat, .int .i64 17] else .tuple #[rv (Rat.divInt (if negT l = true then -(a : Int) else (a : Int)) (b : Int)), .int .i64 0]
set_option maxRecDepth 100000 in
set_option maxHeartbeats 2000000 in
theorem fparse_gen (s : ByteArray) (w : World) (hamb : Amb w) (hs : s.size ≤ 1000000)
    (hix : ∀ (t : ByteArray) w, t.data.toList = magT s.data.toList → Calls Tryz.prog 62 #[.string t, .string ⟨#[47, 46]⟩] w (SmallRes (.int .i64 (Lib.indexAny (magT s.data.toList) [47, 46])) w)) :
    Calls Tryz.prog 14 #[.string s] w (SmallRes (ParseQ s.data.toList) w) := by
  obtain ⟨t, ht⟩ : ∃ t : ByteArray, (⟨(magT s.data.toList).toArray⟩ : ByteArray) = t := ⟨_, rfl⟩
  obtain ⟨m, hm⟩ : ∃ m, magT s.data.toList = m := ⟨_, rfl⟩
  have htm : t.data.toList = m := by rw [← ht, hm]
  have HCP := Lib.hid (fun w => show Calls Tryz.prog 61 #[.string s, .string ⟨#[45]⟩] w (fun e w' => e = .returned (.tuple #[.string t, .bool (negT s.data.toList)]) ∧ w = w') from
    (Tryz.strings_CutPrefix s ⟨#[45]⟩ w).mono fun e w' h => by rw [← ht]; exact ⟨h.1, h.2.symm⟩)
  rw [hm] at hix
  have HIX := Lib.hid (fun w => hix t w htm)
  have hsl : s.data.toList.length = s.size := str_size s
  have HR := Lib.hid (show ParseQ s.data.toList = if 400 < s.size then .tuple #[noRat, .int .i64 16] else match parseND m with
    | none => .tuple #[noRat, .int .i64 15]
    | some (a, b) => if b = 0 then .tuple #[noRat, .int .i64 17] else .tuple #[rv (Rat.divInt (if negT s.data.toList = true then -(a : Int) else (a : Int)) (b : Int)), .int .i64 0] by
    unfold ParseQ; rw [hsl, hm])
  have hml := mag_len s.data.toList
  rw [hsl, hm] at hml
  have HTM := Lib.hid htm
  have hts : t.size = m.length := by rw [← htm, str_size]
  obtain ⟨V, hV⟩ : ∃ V, ParseQ s.data.toList = V := ⟨_, rfl⟩
  rw [hV] at HR ⊢
  generalize negT s.data.toList = ng at *
  have HAMB := Lib.hid hamb
  have HTS := Lib.hid hts
  clear hix htm hm ht hsl hV hamb hts
  by_cases h4 : 400 < s.size
  · have h4i : (400 : Int) < (s.size : Int) := by omega
    have HF := Lib.hid (show V = .tuple #[noRat, .int .i64 16] by rw [HR.out, if_pos h4])
    clear h4
    go_enter Tryz.func14, Tryz.ntmps14
    go_wp2_with fail
    refine ret_cell_tmp rfl rfl (load_rat (g := w.heap.size) ((Box2.new w _ _ 27))) rfl ?_
    exact ⟨by rw [HF.out]; rfl, (Below.refl _ _).alloc (Nat.le_refl _) _⟩
  · have h4i : ¬ (400 : Int) < (s.size : Int) := by omega
    rw [if_neg h4] at HR
    clear h4
    go_enter Tryz.func14, Tryz.ntmps14
    go_wp2_with fail
    obtain ⟨W, hW⟩ : ∃ W, (w.alloc (.cells #[.string ⟨#[]⟩, .string ⟨#[]⟩] 27)) = W := ⟨_, rfl⟩
    rw [hW]
    obtain ⟨hX, hBW⟩ := B1.of hW
    clear hW
    have HX := Lib.hid (fun wz (hb : Below W.heap.size W wz) => hX.later hb)
    have HB := Lib.hid hBW
    have HA := Lib.hid (fun wz (hb : Below W.heap.size W wz) => HAMB.out.below (bel_chain HB.out hb))
    clear hX hBW
    refine (HCP.out _).mono ?_
    rintro e w1 ⟨rfl, rfl⟩
    go_wp2_with fail
    refine (HIX.out _).mono ?_
    rintro e w2 ⟨rfl, hz2⟩
    have hspec := indexAny_spec [47, 46] m
    have HPN := Lib.hid (show parseND m = parseND m from rfl)
    obtain ⟨ix, hix⟩ : ∃ ix, Lib.indexAny m [47, 46] = ix := ⟨_, rfl⟩
    have HIXE := Lib.hid hix
    rw [hix] at hspec ⊢
    clear hix
    go_upto_block 0 with fail
    go_cut [5, 6, 7, 8] (fun s5 s6 s7 s8 wx => ParseMid (parseND m) W s5 s6 s7 s8 wx)
    case first =>
      rcases hspec with rfl | ⟨k, rfl, hk, hc⟩
      · have HO := Lib.hid (show parseND m = if digs m = true then some (val m, 1) else none by unfold parseND; rw [HIXE.out, if_pos (by decide)])
        go_wp2_with fail
        refine (fdigits_tup t m _ HTM.out (by rw [HTS.out]; omega)).mono ?_
        rintro e w3 ⟨rfl, hb3⟩
        go_wp2_with fail
        go_meet
        refine ⟨_, _, _, _, rfl, rfl, rfl, rfl, bel_chain hz2 hb3, ?_⟩
        rw [HO.out]
        cases hd : digs m with
        | true => exact .inl ⟨rfl, rfl, _, _, rfl, by unfold dStr; rw [hd]; rfl, by rw [← itx_nat]; exact itx_lit_one.symm⟩
        | false => exact .inr ⟨rfl, rfl⟩
      · have hkt : k < t.size := by rw [HTS.out]; exact hk
        have hbk := bt_at t k hkt
        rw [HTM.out] at hbk
        have hbt := get_bt t
        have hx1 : (t.extract 0 k).data.toList = m.take k := by rw [extract_list, HTM.out]; simp
        have hx2 : (t.extract (k + 1) t.size).data.toList = m.drop (k + 1) := by rw [extract_list, HTM.out, List.take_of_length_le (by rw [HTS.out]; exact Nat.le_refl _)]
        have hl1 : (t.extract 0 k).size = k := by rw [← str_size, hx1, List.length_take]; omega
        have hl2 : (t.extract (k + 1) t.size).size = m.length - (k + 1) := by rw [← str_size, hx2, List.length_drop]
        have HX1 := Lib.hid hx1
        have HX2 := Lib.hid hx2
        have HO := Lib.hid (show parseND m = if digs (m.take k) = true ∧ digs (m.drop (k + 1)) = true then (if m.getD k 0 = 47 then some (val (m.take k), val (m.drop (k + 1))) else some (val (m.take k ++ m.drop (k + 1)), 10 ^ (m.length - k - 1))) else none by
          unfold parseND; rw [HIXE.out, if_neg (by omega)]; rfl)
        clear hx1 hx2 HIXE
        have hki : ¬ (k : Int) < 0 := by omega
        have hk1 : (k : Int) < (t.size : Int) := by omega
        have ht6 : t.size ≤ 1000000 := by rw [HTS.out]; omega
        by_cases h47 : m.getD k 0 = 47
        · have hbb : (bt t k == 47) = true := by rw [hbk, h47]; rfl
          rw [if_pos h47] at HO
          clear hc hbk
          go_wp2_with fail
          refine (fdigits_tup _ (m.take k) _ HX1.out (by omega)).mono ?_
          rintro e w3 ⟨rfl, hb3⟩
          go_wp2_with fail
          refine (fdigits_tup _ (m.drop (k + 1)) _ HX2.out (by omega)).mono ?_
          rintro e w4 ⟨rfl, hb4⟩
          go_wp2_with fail
          go_meet
          refine ⟨_, _, _, _, rfl, rfl, rfl, rfl, bel_chain (bel_chain hz2 hb3) hb4, ?_⟩
          rw [HO.out]
          cases hd1 : digs (m.take k) with
          | true =>
            cases hd2 : digs (m.drop (k + 1)) with
            | true => exact .inl ⟨rfl, rfl, _, _, by rw [if_pos ⟨rfl, rfl⟩], by unfold dStr; rw [hd1]; rfl, by unfold dStr; rw [hd2]; rfl⟩
            | false => exact .inr ⟨rfl, by rw [if_neg]; exact fun h => by cases h.2⟩
          | false => exact .inr ⟨rfl, by rw [if_neg]; exact fun h => by cases h.1⟩
        · have hbb : (bt t k == 47) = false := by
            rw [hbk, beq_eq_false_iff_ne]
            exact fun h => h47 (UInt8.toNat_inj.1 (by show (m.getD k 0).toNat = 47; omega))
          rw [if_neg h47] at HO
          have hx12 : (t.extract 0 k ++ t.extract (k + 1) t.size).data.toList = m.take k ++ m.drop (k + 1) := by
            rw [ByteArray.data_append, Array.toList_append, HX1.out, HX2.out]
          have hl12 : (t.extract 0 k ++ t.extract (k + 1) t.size).size ≤ 1000000 := by
            rw [← str_size, hx12, List.length_append, List.length_take, List.length_drop]; omega
          have HX12 := Lib.hid hx12
          have hcat : ((t.extract 0 k).size : Int) + ((t.extract (k + 1) t.size).size : Int) ≤ 1000000 := by omega
          obtain ⟨n, hn⟩ : ∃ n, m.length - k - 1 = n := ⟨_, rfl⟩
          have hni : (t.size : Int) - (k : Int) - 1 = (n : Int) := by have := HTS.out; omega
          have hrp := fun w => Tryz.strings_Repeat ⟨#[48]⟩ n w (by omega) (by show 1 * n ≤ _; omega)
          have hzs := one_zeros n
          have hrl : (⟨(Lib.repeatL [48] n).toArray⟩ : ByteArray).size ≤ 1000000 := by
            rw [← str_size]
            simp [Lib.repeatL_length]; omega
          obtain ⟨Z, hZ⟩ : ∃ Z : ByteArray, ⟨(Lib.repeatL [48] n).toArray⟩ = Z := ⟨_, rfl⟩
          rw [hZ] at hzs hrl
          have HRP := Lib.hid (fun w => show Calls Tryz.prog 13 #[.string ⟨#[48]⟩, .int .i64 (n : Int)] w (SmallRes (.string Z) w) from hZ ▸ hrp w)
          have HZS := Lib.hid hzs
          have hrl1 : (1 : Int) + (Z.size : Int) ≤ 1000001 := by omega
          clear hrp hzs hZ
          rw [hn] at HO
          clear hc hbk h47 hx12 hn
          go_wp2_with fail
          refine (fdigits_tup _ (m.take k) _ HX1.out (by omega)).mono ?_
          rintro e w3 ⟨rfl, hb3⟩
          go_wp2_with fail
          refine (fdigits_tup _ (m.drop (k + 1)) _ HX2.out (by omega)).mono ?_
          rintro e w4 ⟨rfl, hb4⟩
          have hz4 := bel_chain (bel_chain hz2 hb3) hb4
          have HC5 := Lib.hid (fdigits_tup _ (m.take k ++ m.drop (k + 1)) w4.drew HX12.out hl12)
          obtain ⟨_, c40, c41, f40, f41⟩ := HX.out _ hz4
          have hwk : IntKind.i64.wrap ((k : Int) + 1) = (k : Int) + 1 := IntWalk.i64_in _ (by omega)
          have hwk0 : (0 : Int) ≤ (k : Int) + 1 := by omega
          have hwkn : ((k : Int) + 1).toNat = k + 1 := by omega
          have hk2 : (k : Int) + 1 ≤ (t.size : Int) := by omega
          have hk3 : (0 : Int) ≤ (k : Int) := by omega
          have hk4 : (k : Int) ≤ (t.size : Int) := by omega
          clear hl1 hl2 hl12 hrl
          have hd := (Below.refl w4.heap.size w4).drew
          go_wp2_with fail
          go_region_with (first
              | ((with_reducible refine HC5.out.mono ?_); rintro e w5 ⟨rfl, hb5⟩; have hz5 := bel_chain (bel_chain hz4 hd) hb5))
          clear hwk hwk0 hwkn
          go_wp2_with fail
          refine (HRP.out _).mono ?_
          rintro e w6 ⟨rfl, hb6⟩
          go_wp2_with fail
          go_meet
          refine ⟨_, _, _, _, rfl, rfl, rfl, rfl, bel_chain hz5 hb6, ?_⟩
          rw [HO.out]
          cases hd1 : digs (m.take k) with
          | true =>
            cases hd2 : digs (m.drop (k + 1)) with
            | true =>
              refine .inl ⟨rfl, rfl, _, _, by rw [if_pos ⟨rfl, rfl⟩], ?_, HZS.out⟩
              have h1 := digs_yes hd1
              have h2 := digs_yes hd2
              have h3 : digs (m.take k ++ m.drop (k + 1)) = true := by
                unfold digs
                rw [List.all_append, h1.2, h2.2]
                have : (m.take k ++ m.drop (k + 1)).isEmpty = false := by
                  cases h : m.take k with
                  | nil => exact absurd h h1.1
                  | cons _ _ => rfl
                rw [this]; rfl
              unfold dStr
              rw [h3]; rfl
            | false => exact .inr ⟨rfl, by rw [if_neg]; exact fun h => by cases h.2⟩
          | false => exact .inr ⟨rfl, by rw [if_neg]; exact fun h => by cases h.1⟩
    case rest =>
      obtain ⟨x, y, a, b, rfl, rfl, rfl, rfl, hbc, hor⟩ := hcut
      have HBC := Lib.hid hbc
      obtain ⟨_, c20, c21, f20, f21⟩ := HX.out _ hbc
      rcases hor with ⟨rfl, rfl, p, q, ho, rfl, rfl⟩ | ⟨hab, ho⟩
      · have HF := Lib.hid (show V = if q = 0 then .tuple #[noRat, .int .i64 17] else .tuple #[rv (Rat.divInt (if ng = true then -(p : Int) else (p : Int)) (q : Int)), .int .i64 0] by rw [HR.out, ho])
        by_cases hq : q = 0
        · have hz : ((dec q).toList == [48]) = true := by rw [hq, ← itx_zero]; exact itx_zero_same
          have HF2 := Lib.hid (show V = .tuple #[noRat, .int .i64 17] by rw [HF.out, if_pos hq])
          clear ho hq hbc hspec HIXE HPN hz2
          go_wp2_with fail
          refine ret_cell_tmp rfl rfl (load_rat (g := w.heap.size) ((HX.out _ HBC.out).store0 _ _)) rfl ?_
          exact ⟨by rw [HF2.out]; rfl, ((bel_chain HB.out HBC.out).setCell (by simp <;> omega) _).setCell (by simp <;> omega) _⟩
        · have hz : ((dec q).toList == [48]) = false := by rw [← itx_nat]; exact itx_zero_test (by omega)
          rw [if_neg hq] at HF
          have hnd := parseND_nd ho
          have hnp : nz (p : Int) ≤ 1000 := by rw [nz_nat]; omega
          have hnq : nz (q : Int) ≤ 1000 := by rw [nz_nat]; omega
          have HQ0 := Lib.hid (show (q : Int) ≠ 0 by omega)
          clear ho hq hbc hspec HIXE HPN hz2
          cases ng with
          | true =>
            have hnn : nz (-(p : Int)) ≤ 1000 := by rw [nz_neg]; exact hnp
            have HN := Lib.hid (fun w => show Calls Tryz.prog 64 #[.string (dec p)] w (SmallRes (.string (itx (-(p : Int)))) w) from by have h := neg_any (p : Int) w (by omega); rw [itx_nat] at h; exact h)
            have HL := Lib.hid (fun w hA => show Calls Tryz.prog 65 #[.string (itx (-(p : Int))), .string (dec q)] w (SmallRes (rv (Rat.divInt (-(p : Int)) (q : Int))) w) from by have h := flowest_any (-(p : Int)) (q : Int) w hA HQ0.out (by omega) (by omega); rw [itx_nat q] at h; exact h)
            go_wp2_with fail
            refine (HN.out _).mono ?_
            rintro e w7 ⟨rfl, hb7⟩
            have HB7 := Lib.hid (bel_chain HBC.out hb7)
            clear hb7
            go_wp2_with fail
            refine (HL.out _ (HA.out _ HB7.out)).mono ?_
            rintro e w8 ⟨rfl, hb8⟩
            have HB8 := Lib.hid (bel_chain HB7.out hb8)
            obtain ⟨_, c80, c81, f80, f81⟩ := HX.out _ HB8.out
            clear hb8
            go_wp2_with fail
            refine ret_cell_tmp rfl rfl (load_rat (g := w.heap.size) ((HX.out _ HB8.out).store0 _ _)) rfl ?_
            exact ⟨by rw [HF.out]; rfl, ((bel_chain HB.out HB8.out).setCell (by simp <;> omega) _).setCell (by simp <;> omega) _⟩
          | false =>
            have HL := Lib.hid (fun w hA => show Calls Tryz.prog 65 #[.string (dec p), .string (dec q)] w (SmallRes (rv (Rat.divInt (p : Int) (q : Int))) w) from by have h := flowest_any (p : Int) (q : Int) w hA HQ0.out (by omega) (by omega); rw [itx_nat q, itx_nat p] at h; exact h)
            go_wp2_with fail
            refine (HL.out _ (HA.out _ HBC.out)).mono ?_
            rintro e w8 ⟨rfl, hb8⟩
            have HB8 := Lib.hid (bel_chain HBC.out hb8)
            obtain ⟨_, c80, c81, f80, f81⟩ := HX.out _ HB8.out
            clear hb8
            go_wp2_with fail
            refine ret_cell_tmp rfl rfl (load_rat (g := w.heap.size) ((HX.out _ HB8.out).store0 _ _)) rfl ?_
            exact ⟨by rw [HF.out]; rfl, ((bel_chain HB.out HB8.out).setCell (by simp <;> omega) _).setCell (by simp <;> omega) _⟩
      · have HF := Lib.hid (show V = .tuple #[noRat, .int .i64 15] by rw [HR.out, ho])
        have hcase : a = false ∨ (a = true ∧ b = false) := by cases a <;> cases b <;> simp_all
        clear ho hbc hspec HIXE HPN hz2 hab
        rcases hcase with rfl | ⟨rfl, rfl⟩
        all_goals
          go_wp2_with fail
          refine ret_cell_tmp rfl rfl (load_rat (g := w.heap.size) ((HX.out _ HBC.out).store0 _ _)) rfl ?_
          exact ⟨by rw [HF.out]; rfl, ((bel_chain HB.out HBC.out).setCell (by simp <;> omega) _).setCell (by simp <;> omega) _⟩
end
section
open Go.RowKit Go.PlainAid
attribute [local go_sem] field_rat0 field_rat1

/-- The text of a fraction. -/
def rtext (p : Rat) : ByteArray := if p.den = 1 then itx p.num else (itx p.num ++ ⟨#[47]⟩) ++ itx (p.den : Int)
theorem lit3_pos (l : List UInt8) (n : Nat) (h1 : canon l = true) (h2 : val l = n) : (⟨l.toArray⟩ : ByteArray) = itx (n : Int) := by
  rw [itx_nat]; unfold dec; rw [← h2, dd_val l h1]
theorem lit3_neg (l : List UInt8) (n : Nat) (h1 : canon l = true) (h2 : val l = n) (h3 : n ≠ 0) : (⟨(45 :: l).toArray⟩ : ByteArray) = itx (-(n : Int)) := by
  rw [itx_of_neg (by omega), Int.natAbs_neg, Int.natAbs_natCast, ← h2, dd_val l h1]
theorem rv_right {n d : Int} (hd : 0 < d) (hg : Int.gcd n d = 1) : rv (Rat.divInt n d) = .agg #[.string (itx n), .string (itx d)] := by
  have h := rat_of_right hd hg
  unfold rv
  rw [h.1, h.2]
set_option maxRecDepth 100000 in
set_option maxHeartbeats 4000000 in
/-- fraction.Text. -/
theorem ftext_0 (p : Rat) (w : World) (hp : NQ p 20000) (h1 : p.den = 1) :
    Calls Tryz.prog 54 #[rv p] w (SmallRes (.string (rtext p)) w) := by
  obtain ⟨hp1, hp2⟩ := hp
  have hs1 := itx_size_le p.num
  have hs2 := itx_size_le (p.den : Int)
  have HT := Lib.hid (show rtext p = itx p.num by unfold rtext; rw [if_pos h1])
  have ht1 := den_one_yes h1
  clear h1
  rw [HT.out]
  go_enter Tryz.func54, Tryz.ntmps54
  go_wp2_with fail
  go_ret
  exact ⟨rfl, (Below.refl _ _).alloc (Nat.le_refl _) _⟩

set_option maxRecDepth 100000 in
set_option maxHeartbeats 4000000 in
/-- fraction.Text. -/
theorem ftext_1 (p : Rat) (w : World) (hp : NQ p 20000) (h1 : ¬ p.den = 1) :
    Calls Tryz.prog 54 #[rv p] w (SmallRes (.string (rtext p)) w) := by
  obtain ⟨hp1, hp2⟩ := hp
  have hs1 := itx_size_le p.num
  have hs2 := itx_size_le (p.den : Int)
  have HT := Lib.hid (show rtext p = (itx p.num ++ ⟨#[47]⟩) ++ itx (p.den : Int) by unfold rtext; rw [if_neg h1])
  have ht1 := den_one_no h1
  have hc1 : ((itx p.num).size : Int) + 1 ≤ 100000 := by omega
  have hc2 : ((itx p.num ++ (⟨#[47]⟩ : ByteArray)).size : Int) + ((itx (p.den : Int)).size : Int) ≤ 100000 := by
    have e : (itx p.num ++ (⟨#[47]⟩ : ByteArray)).size = (itx p.num).size + 1 := by rw [ByteArray.size_append]; rfl
    omega
  have hc3 : ((itx p.num).size : Int) + 1 + ((itx (p.den : Int)).size : Int) ≤ 100000 := by omega
  clear h1
  rw [HT.out]
  go_enter Tryz.func54, Tryz.ntmps54
  go_wp2_with fail
  go_ret
  exact ⟨rfl, (Below.refl _ _).alloc (Nat.le_refl _) _⟩

/-- Text. -/
theorem ftext_any (p : Rat) (w : World) (hp : NQ p 20000) : Calls Tryz.prog 54 #[rv p] w (SmallRes (.string (rtext p)) w) := by
  by_cases h : p.den = 1
  · exact ftext_0 p w hp h
  · exact ftext_1 p w hp h

theorem NQ_small {n d : Int} (hd : 0 < d) (hg : Int.gcd n d = 1) (h1 : n.natAbs < 10 ^ (3 + 1)) (h2 : d.natAbs < 10 ^ (3 + 1)) : NQ (Rat.divInt n d) 100 := by
  have h := rat_of_right hd hg
  unfold NQ
  rw [h.1, h.2]
  exact ⟨Nat.le_trans ((nz_le_iff n 3).2 h1) (by omega), Nat.le_trans ((nz_le_iff d 3).2 h2) (by omega)⟩
theorem ascii_bt (s : ByteArray) (h : s.data.toList.all (fun b => decide (b.toNat < 128)) = true) (j : Nat) (b : UInt8) (hb : s.data.toList[j]? = some b) : b.toNat < 128 := by
  have h2 := List.all_eq_true.1 h b (List.mem_of_getElem? hb)
  exact of_decide_eq_true h2
theorem indexAny_ascii (t : ByteArray) (w : World) (ht : t.size ≤ 1000000) (h : t.data.toList.all (fun b => decide (b.toNat < 128)) = true) :
    Calls Tryz.prog 62 #[.string t, .string ⟨#[47, 46]⟩] w (SmallRes (.int .i64 (Lib.indexAny t.data.toList [47, 46])) w) :=
  (Tryz.strings_IndexAny_laid t ⟨#[47, 46]⟩ w (by omega) (by decide) (ascii_bt t h) (ascii_bt ⟨#[47, 46]⟩ (by decide))).mono fun e w' h => ⟨h.1, h.2⟩
/-- fraction.Parse, of a text of ASCII bytes. -/
theorem fparse_ascii (s : ByteArray) (w : World) (hamb : Amb w) (hs : s.size ≤ 1000000) (h : s.data.toList.all (fun b => decide (b.toNat < 128)) = true) :
    Calls Tryz.prog 14 #[.string s] w (SmallRes (ParseQ s.data.toList) w) :=
  fparse_gen s w hamb hs fun t w ht => by
    have hsz : t.size ≤ s.size := by rw [← str_size, ht, ← str_size]; exact mag_len _
    have hall : t.data.toList.all (fun b => decide (b.toNat < 128)) = true := by
      rw [ht]
      unfold magT Lib.trimPrefix
      split
      · rw [List.all_eq_true]
        intro x hx
        exact List.all_eq_true.1 h x (List.mem_of_mem_drop hx)
      · exact h
    have := indexAny_ascii t w (by omega) hall
    rw [ht] at this
    exact this
set_option maxRecDepth 100000 in
set_option maxHeartbeats 2000000 in
/-- schismalaw03.known. -/
theorem known3_any (w : World) (hamb : Amb w) : Calls Tryz.prog 12 #[] w (SmallRes (.bool true) w) := by
  have lm3 : (⟨#[45, 51]⟩ : ByteArray) = itx (-3) := lit3_neg [51] 3 (by decide) (by decide) (by decide)
  have l2 : (⟨#[50]⟩ : ByteArray) = itx 2 := lit3_pos [50] 2 (by decide) (by decide)
  have l5 : (⟨#[53]⟩ : ByteArray) = itx 5 := lit3_pos [53] 5 (by decide) (by decide)
  have l3 : (⟨#[51]⟩ : ByteArray) = itx 3 := lit3_pos [51] 3 (by decide) (by decide)
  have l1 : (⟨#[49]⟩ : ByteArray) = itx 1 := lit3_pos [49] 1 (by decide) (by decide)
  have x32 : rv (Rat.divInt (-3) 2) = .agg #[.string ⟨#[45, 51]⟩, .string ⟨#[50]⟩] := by rw [rv_right (by decide) (by decide), lm3, l2]
  have x52 : rv (Rat.divInt 5 2) = .agg #[.string ⟨#[53]⟩, .string ⟨#[50]⟩] := by rw [rv_right (by decide) (by decide), l5, l2]
  have x11 : rv (Rat.divInt 1 1) = .agg #[.string ⟨#[49]⟩, .string ⟨#[49]⟩] := by rw [rv_right (by decide) (by decide), l1]
  have n32 : NQ (Rat.divInt (-3) 2) 100 := NQ_small (by decide) (by decide) (by decide) (by decide)
  have n52 : NQ (Rat.divInt 5 2) 100 := NQ_small (by decide) (by decide) (by decide) (by decide)
  have e1 : Rat.divInt 6 (-4) = Rat.divInt (-3) 2 := by decide +kernel
  have e2 : nearZ (Rat.divInt 5 2) = 3 := by decide +kernel
  have e3 : Rat.divInt (-3) 2 + Rat.divInt 5 2 = Rat.divInt 1 1 := by decide +kernel
  have e4 : rtext (Rat.divInt (-3) 2) = ⟨#[45, 51, 47, 50]⟩ := by
    have hr := rat_of_right (n := -3) (d := 2) (by decide) (by decide)
    unfold rtext
    rw [if_neg (by decide +kernel), hr.1, hr.2, ← lm3, ← l2]; rfl
  have e5 : ParseQ [50, 46, 53, 48] = .tuple #[rv (Rat.divInt 5 2), .int .i64 0] := by
    have h1 : parseND (magT [50, 46, 53, 48]) = some (250, 100) := by decide +kernel
    have h2 : negT [50, 46, 53, 48] = false := by decide
    unfold ParseQ
    rw [if_neg (by decide), h1]
    show (if 100 = 0 then _ else _) = _
    rw [if_neg (by decide), h2]
    have h3 : Rat.divInt (if false = true then -((250 : Nat) : Int) else ((250 : Nat) : Int)) ((100 : Nat) : Int) = Rat.divInt 5 2 := by decide +kernel
    rw [h3]
  have C1 := Lib.hid (fun w1 (h : Amb w1) => show Calls Tryz.prog 51 #[.int .i64 6, .int .i64 (-4)] w1 (SmallRes (.tuple #[.agg #[.string ⟨#[45, 51]⟩, .string ⟨#[50]⟩], .int .i64 0]) w1) from by
    have := fOf_any 6 (-4) w1 h (by decide) (by decide) (by decide) (by decide) (by decide)
    rw [e1, x32] at this
    exact this)
  have C2 := Lib.hid (fun w1 (h : Amb w1) => show Calls Tryz.prog 14 #[.string ⟨#[50, 46, 53, 48]⟩] w1 (SmallRes (.tuple #[.agg #[.string ⟨#[53]⟩, .string ⟨#[50]⟩], .int .i64 0]) w1) from by
    have := fparse_ascii ⟨#[50, 46, 53, 48]⟩ w1 h (by decide) (by decide)
    rw [show (⟨#[50, 46, 53, 48]⟩ : ByteArray).data.toList = [50, 46, 53, 48] from rfl, e5, x52] at this
    exact this)
  have C3 := Lib.hid (fun w1 (h : Amb w1) => show Calls Tryz.prog 52 #[.agg #[.string ⟨#[53]⟩, .string ⟨#[50]⟩]] w1 (SmallRes (.string ⟨#[51]⟩) w1) from by
    have := fnearest_any (Rat.divInt 5 2) w1 h (n52.mono (by omega))
    rw [e2, x52, ← l3] at this
    exact this)
  have C4 := Lib.hid (fun w1 (h : Amb w1) => show Calls Tryz.prog 53 #[.agg #[.string ⟨#[45, 51]⟩, .string ⟨#[50]⟩], .agg #[.string ⟨#[53]⟩, .string ⟨#[50]⟩]] w1 (SmallRes (.agg #[.string ⟨#[49]⟩, .string ⟨#[49]⟩]) w1) from by
    have := fadd_any (Rat.divInt (-3) 2) (Rat.divInt 5 2) w1 h (n32.mono (by omega)) (n52.mono (by omega))
    rw [e3, x32, x52, x11] at this
    exact this)
  have C5 := Lib.hid (fun w1 => show Calls Tryz.prog 54 #[.agg #[.string ⟨#[45, 51]⟩, .string ⟨#[50]⟩]] w1 (SmallRes (.string ⟨#[45, 51, 47, 50]⟩) w1) from by
    have := ftext_any (Rat.divInt (-3) 2) w1 (n32.mono (by omega))
    rw [e4, x32] at this
    exact this)
  have HAMB := Lib.hid hamb
  clear lm3 l2 l5 l3 l1 x32 x52 x11 n32 n52 e1 e2 e3 e4 e5 hamb
  go_enter Tryz.func12, Tryz.ntmps12
  go_wp2_with fail
  refine (C1.out _ HAMB.out).mono ?_
  rintro e w1 ⟨rfl, hb1⟩
  have HB1 := Lib.hid hb1
  clear hb1
  go_wp2_with fail
  have hbA : Below w1.heap.size w1 (w1.alloc (.cells #[.string ⟨#[45, 51]⟩, .string ⟨#[50]⟩] 27)) := (Below.refl _ _).alloc (Nat.le_refl _) _
  refine (C2.out _ (HAMB.out.below (bel_chain HB1.out hbA))).mono ?_
  rintro e w2 ⟨rfl, hb2⟩
  have HXA := Lib.hid ((Box2.new w1 (.string ⟨#[45, 51]⟩) (.string ⟨#[50]⟩) 27).later hb2)
  have HB2 := Lib.hid (bel_chain (bel_chain HB1.out hbA) hb2)
  clear hbA hb2
  go_upto_region 3 with fail
  obtain ⟨W, hW⟩ : ∃ W, (w2.alloc (.cells #[.string ⟨#[53]⟩, .string ⟨#[50]⟩] 27)) = W := ⟨_, rfl⟩
  rw [hW]
  obtain ⟨hY, hbW⟩ := B1.of hW
  clear hW
  have HA := Lib.hid (fun wz (hb : Below W.heap.size W wz) => HXA.out.later (bel_chain hbW hb))
  have HY := Lib.hid (fun wz (hb : Below W.heap.size W wz) => hY.later hb)
  have HB := Lib.hid (bel_chain HB2.out hbW)
  have HM := Lib.hid (fun wz (hb : Below W.heap.size W wz) => HAMB.out.below (bel_chain HB.out hb))
  have hz0 : Below W.heap.size W W := Below.refl _ _
  obtain ⟨_, a0, a1, _, _⟩ := HA.out _ hz0
  obtain ⟨_, y0, y1, _, _⟩ := HY.out _ hz0
  clear hY hbW
  go_wp2_with fail
  refine (C3.out _ (HM.out _ hz0)).mono ?_
  rintro e w3 ⟨rfl, hz3⟩
  obtain ⟨_, a30, a31, _, _⟩ := HA.out _ hz3
  obtain ⟨_, y30, y31, _, _⟩ := HY.out _ hz3
  go_wp2_with fail
  refine (C4.out _ (HM.out _ hz3)).mono ?_
  rintro e w4 ⟨rfl, hb4⟩
  have hz4 := bel_chain hz3 hb4
  obtain ⟨_, a40, a41, _, _⟩ := HA.out _ hz4
  obtain ⟨_, y40, y41, _, _⟩ := HY.out _ hz4
  clear hb4
  go_wp2_with fail
  refine (C5.out _).mono ?_
  rintro e w5 ⟨rfl, hb5⟩
  have hz5 := bel_chain hz4 hb5
  go_wp2_with fail
  go_ret
  exact ⟨rfl, bel_chain HB.out hz5⟩
end
section
open Go.RowKit Go.PlainAid

theorem neg_mag' {l : List UInt8} (h : negT l = true) : l = 45 :: magT l := by
  cases l with
  | nil => exact absurd h (by decide)
  | cons c r =>
    have hc : c = 45 := by
      have h2 : ([45] : List UInt8).isPrefixOf (c :: r) = true := h
      simp [List.isPrefixOf] at h2
      exact h2.symm
    subst hc
    have e : magT (45 :: r) = r := by
      unfold magT Lib.trimPrefix
      have h2 : Lib.hasPrefix (45 :: r) [45] = true := h
      rw [if_pos h2]; rfl
    rw [e]
theorem pos_mag' {l : List UInt8} (h : negT l = false) : magT l = l := by
  unfold magT Lib.trimPrefix
  have h2 : ¬ Lib.hasPrefix l [45] = true := by
    have h3 : Lib.hasPrefix l [45] = false := h
    rw [h3]; decide
  rw [if_neg h2]
theorem dig_not (b : UInt8) (h : isDig b = true) : ([47, 46] : List UInt8).contains b = false := by
  have hd := (isDig_iff b).1 h
  rw [Bool.eq_false_iff]
  intro hc
  simp at hc
  rcases hc with rfl | rfl
  · exact absurd hd.1 (by decide)
  · exact absurd hd.1 (by decide)
theorem indexAny_cons (b : UInt8) (l : List UInt8) (h : isDig b = true) : Lib.indexAny (b :: l) [47, 46] = if Lib.indexAny l [47, 46] == -1 then -1 else Lib.indexAny l [47, 46] + 1 := by
  rw [Lib.indexAny, if_neg (by rw [dig_not b h]; decide)]
theorem indexAny_digits : ∀ l : List UInt8, l.all isDig = true → Lib.indexAny l [47, 46] = -1
  | [], _ => rfl
  | b :: l, h => by
    rw [List.all_cons, Bool.and_eq_true] at h
    rw [indexAny_cons b l h.1, indexAny_digits l h.2]; rfl
theorem indexAny_slash (r : List UInt8) : ∀ l : List UInt8, l.all isDig = true → Lib.indexAny (l ++ 47 :: r) [47, 46] = (l.length : Int)
  | [], _ => by rw [List.nil_append, Lib.indexAny, if_pos (by decide)]; rfl
  | b :: l, h => by
    rw [List.all_cons, Bool.and_eq_true] at h
    rw [List.cons_append, indexAny_cons b _ h.1, indexAny_slash r l h.2, if_neg (by rw [beq_iff_eq]; omega), List.length_cons]; omega
theorem digs_dd (n : Nat) : digs (Lib.decDigits n) = true := by
  unfold digs
  rw [all_dd]
  cases h : Lib.decDigits n with
  | nil => exact absurd h (dd_ne_nil n)
  | cons _ _ => rfl
theorem parseND_int (n : Nat) : parseND (Lib.decDigits n) = some (n, 1) := by
  unfold parseND
  rw [indexAny_digits _ (all_dd n), if_pos (by decide), if_pos (digs_dd n), val_dd]
theorem parseND_frac (n d : Nat) : parseND (Lib.decDigits n ++ 47 :: Lib.decDigits d) = some (n, d) := by
  unfold parseND
  rw [indexAny_slash _ _ (all_dd n), if_neg (by omega)]
  simp only [Int.toNat_natCast]
  have h1 : (Lib.decDigits n ++ 47 :: Lib.decDigits d).take (Lib.decDigits n).length = Lib.decDigits n := by rw [List.take_left']; rfl
  have h2 : (Lib.decDigits n ++ 47 :: Lib.decDigits d).drop ((Lib.decDigits n).length + 1) = Lib.decDigits d := by
    rw [List.drop_append, List.drop_of_length_le (by omega)]
    simp
  have h3 : (Lib.decDigits n ++ 47 :: Lib.decDigits d).getD (Lib.decDigits n).length 0 = 47 := by
    rw [List.getD_eq_getElem?_getD, List.getElem?_append_right (Nat.le_refl _)]
    simp
  rw [h1, h2, h3, if_pos ⟨digs_dd n, digs_dd d⟩, if_pos rfl, val_dd, val_dd]
/-- The text behind the sign. -/
def mtx (p : Rat) : List UInt8 := if p.den = 1 then Lib.decDigits p.num.natAbs else Lib.decDigits p.num.natAbs ++ 47 :: Lib.decDigits p.den
theorem rtext_list (p : Rat) : (rtext p).data.toList = if p.num < 0 then 45 :: mtx p else mtx p := by
  unfold rtext mtx
  by_cases h : p.den = 1
  · rw [if_pos h, if_pos h, itx_data]
    by_cases hn : p.num < 0
    · rw [if_pos hn, itoa_neg hn]
    · rw [if_neg hn, itoa_pos (by omega)]
  · rw [if_neg h, if_neg h, ByteArray.data_append, Array.toList_append, ByteArray.data_append, Array.toList_append, itx_data, itx_data, itoa_pos (show (0 : Int) ≤ (p.den : Int) by omega), Int.natAbs_natCast]
    by_cases hn : p.num < 0
    · rw [if_pos hn, itoa_neg hn]; simp
    · rw [if_neg hn, itoa_pos (by omega)]; simp
theorem mtx_head (p : Rat) : ∃ c r, mtx p = c :: r ∧ 48 ≤ c.toNat := by
  obtain ⟨c, r, h1, h2, _⟩ := dd_head_ge p.num.natAbs
  unfold mtx
  rw [h1]
  split
  · exact ⟨c, r, rfl, h2⟩
  · exact ⟨c, _, rfl, h2⟩
theorem rtext_sign (p : Rat) : negT (rtext p).data.toList = decide (p.num < 0) ∧ magT (rtext p).data.toList = mtx p := by
  rw [rtext_list]
  by_cases hn : p.num < 0
  · rw [if_pos hn, decide_eq_true hn]
    have h1 : negT (45 :: mtx p) = true := by
      show ([45] : List UInt8).isPrefixOf (45 :: mtx p) = true
      simp [List.isPrefixOf]
    exact ⟨h1, (List.cons.inj (neg_mag' h1)).2.symm⟩
  · rw [if_neg hn, decide_eq_false hn]
    have h1 : negT (mtx p) = false := by
      obtain ⟨c, r, h, hc⟩ := mtx_head p
      rw [h]
      show ([45] : List UInt8).isPrefixOf (c :: r) = false
      have : (45 == c) = false := by rw [beq_eq_false_iff_ne]; rintro rfl; exact absurd hc (by decide)
      show (45 == c && _) = false
      rw [this]; rfl
    exact ⟨h1, pos_mag' h1⟩
theorem parse_rtext (p : Rat) (h1 : (itx p.num).size ≤ 60) (h2 : (itx (p.den : Int)).size ≤ 60) : ParseQ (rtext p).data.toList = .tuple #[rv p, .int .i64 0] := by
  have hs := rtext_sign p
  have hlen : (rtext p).data.toList.length ≤ 121 := by
    rw [str_size]
    unfold rtext
    split
    · omega
    · rw [ByteArray.size_append, ByteArray.size_append]
      have : (⟨#[47]⟩ : ByteArray).size = 1 := rfl
      omega
  have hnd : parseND (mtx p) = some (p.num.natAbs, p.den) := by
    unfold mtx
    split
    · next h => rw [parseND_int, h]
    · exact parseND_frac _ _
  unfold ParseQ
  rw [if_neg (by omega), hs.1, hs.2, hnd]
  show (if p.den = 0 then _ else _) = _
  rw [if_neg p.den_nz]
  have e : (if decide (p.num < 0) = true then -((p.num.natAbs : Nat) : Int) else ((p.num.natAbs : Nat) : Int)) = p.num := by
    by_cases hn : p.num < 0
    · rw [if_pos (decide_eq_true hn)]; omega
    · rw [if_neg (by simpa using hn)]; omega
  rw [e, Rat.num_divInt_den]
theorem rtext_ascii (p : Rat) : (rtext p).data.toList.all (fun b => decide (b.toNat < 128)) = true := by
  have hd : ∀ n, (Lib.decDigits n).all (fun b => decide (b.toNat < 128)) = true := fun n => by
    rw [List.all_eq_true]
    intro x hx
    have := (isDig_iff x).1 (List.all_eq_true.1 (all_dd n) x hx)
    exact decide_eq_true (by omega)
  have hm : (mtx p).all (fun b => decide (b.toNat < 128)) = true := by
    unfold mtx
    split
    · exact hd _
    · rw [List.all_append, List.all_cons, hd, hd]; rfl
  rw [rtext_list]
  split
  · rw [List.all_cons, hm]; rfl
  · exact hm
end
end Go.Proofs.YtdjhngbpfdopnaaGreatDoor
