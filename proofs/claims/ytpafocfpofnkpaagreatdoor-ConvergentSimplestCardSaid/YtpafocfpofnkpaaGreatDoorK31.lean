/- Greater text, out of: K31. -/
import Derived.Test.YtpafocfpofnkpaaGreatDoorK30
import Derived.Test.YtpafocfpofnkpaaGreatDoorGj
import Derived.Test.YtpafocfpofnkpaaGreatDoorGk
import Derived.Test.YtpafocfpofnkpaaGreatDoorGm
namespace Go.Proofs.YtpafocfpofnkpaaGreatDoor
open Go.RowKit Go.PlainAid
attribute [local go_sem] field_rat0 field_rat1
/-- An int that is not too near to the greatest ones. -/
def I62 (n : Int) : Prop := -9000000000000000000 ≤ n ∧ n ≤ 9000000000000000000
set_option maxRecDepth 100000 in
set_option maxHeartbeats 2000000 in
/-- schismaref04.Gcd. -/
theorem r4gcd_any (n d : Int) (w : World) (hn : I62 n) (hd : I62 d) :
    Calls Tryz.prog 31 #[.int .i64 n, .int .i64 d] w (SmallRes (.int .i64 ((Int.gcd n d : Nat) : Int)) w) := by
  obtain ⟨h0, h1⟩ := hn
  obtain ⟨d0, d1⟩ := hd
  obtain ⟨g, hg⟩ : ∃ g, Int.gcd n d = g := ⟨_, rfl⟩
  have HG := Lib.hid hg
  rw [hg]
  clear hg
  go_enter Tryz.func31, Tryz.ntmps31
  go_wp2_with fail
  go_loopw [0, 1] (fun va vb wr => ∃ a b : Int, va = .int .i64 a ∧ vb = .int .i64 b ∧ -9000000000000000000 ≤ a ∧ a ≤ 9000000000000000000 ∧ -9000000000000000000 ≤ b ∧ b ≤ 9000000000000000000 ∧ Hid (Int.gcd a b = g) ∧ Below w.heap.size w wr) (fun _ vb _ => (intOf vb).natAbs)
  case atStart => exact ⟨n, d, rfl, rfl, h0, h1, d0, d1, HG, Below.refl _ _⟩
  case round =>
    obtain ⟨a, b, rfl, rfl, ha0, ha1, hb0, hb1, HG2, hB2⟩ := hrel
    by_cases hb : b = 0
    · subst hb
      have hga := HG2.out
      rw [Int.gcd_zero_right] at hga
      have HGA := Lib.hid hga
      clear hga HG2
      by_cases hneg : a < 0
      · go_wp2_with fail
        go_ret
        exact ⟨ret_int (by have := HGA.out; omega), hB2⟩
      · go_wp2_with fail
        go_ret
        exact ⟨ret_int (by have := HGA.out; omega), hB2⟩
    · have hbb : (b == 0) = false := by rw [beq_eq_false_iff_ne]; exact hb
      have hm := Int.natAbs_tmod a b
      have hlt := Nat.mod_lt a.natAbs (show 0 < b.natAbs by omega)
      have H2 := Lib.hid (show Int.gcd b (a.tmod b) = g by rw [gcd_tmod]; exact HG2.out)
      rw [← hm] at hlt
      have hl0 : -9000000000000000000 ≤ a.tmod b := by omega
      have hl1 : a.tmod b ≤ 9000000000000000000 := by omega
      have HLT := Lib.hid hlt
      clear hm hlt HG2
      go_wp2
      go_quiet (fail)
      go_wp2
      go_roundw
      case rel => exact ⟨b, a.tmod b, rfl, rfl, hb0, hb1, hl0, hl1, H2, bel_drewN hB2 _⟩
      case measure =>
        exact HLT.out
theorem ediv_of {n d k : Int} (hd : 0 < d) (h1 : d * k ≤ n) (h2 : n < d * k + d) : n / d = k := by
  have he := Int.mul_ediv_add_emod n d
  have hb := Int.emod_lt_of_pos n hd
  have hb0 := Int.emod_nonneg n (show d ≠ 0 by omega)
  have k1 : ¬ n / d < k := fun h => by
    have := Int.mul_le_mul_of_nonneg_left (show n / d + 1 ≤ k by omega) (show 0 ≤ d by omega)
    rw [Int.mul_add] at this
    omega
  have k2 : ¬ k < n / d := fun h => by
    have := Int.mul_le_mul_of_nonneg_left (show k + 1 ≤ n / d by omega) (show 0 ≤ d by omega)
    rw [Int.mul_add] at this
    omega
  omega
theorem tdiv_floor (n : Int) {d : Int} (hd : 0 < d) : (n.tmod d < 0 → n / d = n.tdiv d - 1) ∧ (¬ n.tmod d < 0 → n / d = n.tdiv d) := by
  have he := Int.mul_tdiv_add_tmod n d
  have hm := Int.natAbs_tmod n d
  have hlt := Nat.mod_lt n.natAbs (show 0 < d.natAbs by omega)
  refine ⟨fun h => ediv_of hd ?_ ?_, fun h => ediv_of hd ?_ ?_⟩
  · rw [Int.mul_sub]; omega
  · rw [Int.mul_sub]; omega
  · omega
  · omega
theorem tdiv_le (n d : Int) : (n.tdiv d).natAbs ≤ n.natAbs := by rw [Int.natAbs_tdiv]; exact Nat.div_le_self _ _
set_option maxHeartbeats 1000000 in
/-- schismaref04.Floor. -/
theorem r4floor_any (n d : Int) (w : World) (hn : I62 n) (hd0 : 1 ≤ d) (hd : d ≤ 9000000000000000000) :
    Calls Tryz.prog 42 #[.int .i64 n, .int .i64 d] w (SmallRes (.int .i64 (n / d)) w) := by
  obtain ⟨h0, h1⟩ := hn
  have ht := tdiv_floor n (show 0 < d by omega)
  have hle := tdiv_le n d
  have hm := Int.natAbs_tmod n d
  have hlt := Nat.mod_lt n.natAbs (show 0 < d.natAbs by omega)
  have hdz : (d == 0) = false := by rw [beq_eq_false_iff_ne]; omega
  have hq0 : -9000000000000000000 ≤ n.tdiv d := by omega
  have hq1 : n.tdiv d ≤ 9000000000000000000 := by omega
  have hm0 : -9000000000000000000 ≤ n.tmod d := by omega
  have hm1 : n.tmod d ≤ 9000000000000000000 := by omega
  have hw1 : IntKind.i64.wrap (n.tdiv d) = n.tdiv d := IntWalk.i64_in _ (by omega)
  have hw2 : IntKind.i64.wrap (n.tmod d) = n.tmod d := IntWalk.i64_in _ (by omega)
  obtain ⟨q, hq⟩ : ∃ q, n / d = q := ⟨_, rfl⟩
  rw [hq] at ht ⊢
  have HT := Lib.hid ht
  clear ht hle hm hlt hq
  by_cases hneg : n.tmod d < 0
  · go_enter Tryz.func42, Tryz.ntmps42
    go_wp2_with fail
    go_ret
    exact ⟨ret_int (by have := HT.out.1 hneg; omega), Below.refl _ _⟩
  · go_enter Tryz.func42, Tryz.ntmps42
    go_wp2_with fail
    go_ret
    exact ⟨ret_int (by have := HT.out.2 hneg; omega), Below.refl _ _⟩

/-- What is written of a number, the rest of it still to come. -/
def OfAt (N : Nat) (k : Nat) (l : List UInt8) : Prop := (k = 0 ∧ l = Lib.decDigits N) ∨ (0 < k ∧ Lib.decDigits k ++ l = Lib.decDigits N)
theorem OfAt.step {N k : Nat} {l : List UInt8} (h : OfAt N k l) (hk : 0 < k) : OfAt N (k / 10) (UInt8.ofNat (48 + k % 10) :: l) := by
  rcases h with ⟨h, _⟩ | ⟨_, h⟩
  · omega
  · by_cases hs : k < 10
    · left
      refine ⟨by omega, ?_⟩
      rw [dd_small hs] at h
      rw [← h, Nat.mod_eq_of_lt hs]; rfl
    · right
      refine ⟨by omega, ?_⟩
      rw [← h, dd_big hs, List.append_assoc]; rfl
theorem OfAt.len {N k : Nat} {l : List UInt8} (h : OfAt N k l) : l.length ≤ Lib.nDigits N := by
  rw [← Lib.decDigits_length]
  rcases h with ⟨_, h⟩ | ⟨_, h⟩
  · rw [h]; exact Nat.le_refl _
  · rw [← h, List.length_append]; omega
set_option maxRecDepth 100000 in
set_option maxHeartbeats 2000000 in
/-- schismaref04.Of. -/
theorem r4of_any (n : Int) (w : World) (hn : I62 n) :
    Calls Tryz.prog 59 #[.int .i64 n] w (SmallRes (.string (itx n)) w) := by
  obtain ⟨h0, h1⟩ := hn
  by_cases hz : n = 0
  · have hz1 : (n == 0) = true := by rw [hz]; rfl
    have HZ := Lib.hid hz
    clear hz
    go_enter Tryz.func59, Tryz.ntmps59
    go_wp2_with fail
    go_ret
    exact ⟨by rw [HZ.out, itx_lit_zero]; rfl, Below.refl _ _⟩
  · obtain ⟨N, hN⟩ : ∃ N, n.natAbs = N := ⟨_, rfl⟩
    have hN0 : 0 < N := by omega
    have hN1 : N ≤ 9000000000000000000 := by omega
    have hl20 : Lib.nDigits N ≤ 20 := (nd_le_iff N 19).2 (by omega)
    have hz1 : (n == 0) = false := by rw [beq_eq_false_iff_ne]; exact hz
    by_cases hneg : n < 0
    all_goals
      first
        | (have HE := Lib.hid (show itx n = ⟨#[45]⟩ ++ ⟨(Lib.decDigits N).toArray⟩ by rw [itx_of_neg hneg, hN]; rfl); obtain rfl : n = -(N : Int) := by omega)
        | (have HE := Lib.hid (show itx n = ⟨(Lib.decDigits N).toArray⟩ by rw [itx_of_pos (by omega), hN]; rfl); obtain rfl : n = (N : Int) := by omega)
      clear hN
      go_enter Tryz.func59, Tryz.ntmps59
      go_wp2_with fail
      go_loopw [0, 4] (fun vn vs wr => ∃ (k : Nat) (s : ByteArray), vn = .int .i64 (k : Int) ∧ vs = .string s ∧ k ≤ N ∧ Hid (OfAt N k s.data.toList) ∧ Below w.heap.size w wr) (fun vn _ _ => (intOf vn).toNat)
      case atStart => exact ⟨N, ⟨#[]⟩, by first | rfl | (simp; done), rfl, Nat.le_refl _, Lib.hid (.inr ⟨hN0, by simp⟩), Below.refl _ _⟩
      case round =>
        obtain ⟨k, s, rfl, rfl, hk, HO, hB⟩ := hrel
        have hlen := HO.out.len
        have hsz : s.size ≤ 20 := by rw [← str_size]; omega
        have hc0 : (0 : Int) + (s.size : Int) ≤ 100 := by omega
        have hc1 : (1 : Int) + (s.size : Int) ≤ 100 := by omega
        clear hlen
        by_cases hk0 : k = 0
        · subst hk0
          have HL := Lib.hid (show s.data.toList = Lib.decDigits N by rcases HO.out with ⟨_, h⟩ | ⟨h, _⟩; exact h; omega)
          have HS := Lib.hid (show s = ⟨(Lib.decDigits N).toArray⟩ from ba_ext (by rw [HL.out]))
          go_wp2_with fail
          go_ret
          exact ⟨by rw [HE.out, ← HS.out]; first | rfl | (rw [← ByteArray.empty_append (a := s)]; rfl), hB⟩
        · have hk1 : 0 < k := by omega
          have hki : (0 : Int) < (k : Int) := by omega
          have hcc : ((UInt8.ofNat (48 + k % 10)).toNat : Int) = 48 + (k : Int) % 10 := by rw [UInt8.toNat_ofNat']; omega
          have hcv : (convert 80 9 (.slice (some ⟨wr.heap.size, 0, none⟩) 1 1)).run Tryz.prog (wr.alloc (.cells #[.int .u8 (48 + (k : Int) % 10)] 5)) = .ok (.string ⟨#[UInt8.ofNat (48 + k % 10)]⟩) (wr.alloc (.cells #[.int .u8 (48 + (k : Int) % 10)] 5)) := by
            rw [← hcc]
            exact str_of_Bc 80 9 Tryz.underlying80 Tryz.underlying9 (Bc.one wr _)
          have HO2 := Lib.hid (HO.out.step hk1)
          have HSZ := Lib.hid hsz
          clear HO hcc hsz hc0
          obtain ⟨c, hc⟩ : ∃ c, UInt8.ofNat (48 + k % 10) = c := ⟨_, rfl⟩
          rw [hc] at hcv HO2
          clear hc
          have hc2 : ((⟨#[c]⟩ : ByteArray).size : Int) + (s.size : Int) ≤ 100 := hc1
          go_wp2_with fail
          go_roundw
          case rel => exact ⟨k / 10, ⟨#[c]⟩ ++ s, by go_num, rfl, by omega, Lib.hid (by simpa using HO2.out), hB.alloc (by have := hB.size; omega) _⟩
          case measure => simp [intOf]; omega
-- printed by gen_k31.py
/-- What Int answers. -/
def iv4 (l : List UInt8) : Int × Bool := if canonT l = true ∧ (magT l).length ≤ 17 then (ivalT l, true) else (0, false)
theorem canon_at17 {m : List UInt8} (h0 : m ≠ []) (h1 : ¬ (m.getD 0 0 = 48 ∧ 1 < m.length)) : canon m = m.all isDig := by
  unfold canon
  cases hm : m with
  | nil => exact absurd hm h0
  | cons a r =>
    rw [hm] at h1
    cases r with
    | nil => simp
    | cons b r =>
      have h2 : ¬ a = 48 := fun e => h1 ⟨e, by simp⟩
      simp [h2]
theorem canon_zero17 {m : List UInt8} (h1 : m.getD 0 0 = 48) (h2 : 1 < m.length) : canon m = false := by
  unfold canon
  have : (m.length == 1) = false := by rw [beq_eq_false_iff_ne]; omega
  rw [this, h1]
  simp
theorem one_48 {m : List UInt8} (h1 : m.length = 1) (h2 : m.getD 0 0 = 48) : m = [48] := by
  obtain ⟨a, rfl⟩ := List.length_eq_one_iff.1 h1
  simp at h2; rw [h2]
/-- What Int answers, by its sign and its digits. -/
def iv4b (b : Bool) (m : List UInt8) : Int × Bool := if (!(b && m == [48]) && canon m) = true ∧ m.length ≤ 17 then (if b = true then -((val m : Nat) : Int) else ((val m : Nat) : Int), true) else (0, false)
theorem iv4_eq (l : List UInt8) : iv4 l = iv4b (negT l) (magT l) := rfl
theorem iv4b_no {b : Bool} {m : List UInt8} (h : m = [] ∨ 17 < m.length ∨ (m.getD 0 0 = 48 ∧ (1 < m.length ∨ b = true)) ∨ (m.all isDig = false)) : iv4b b m = (0, false) := by
  unfold iv4b
  rw [if_neg]
  rintro ⟨h1, h2⟩
  rw [Bool.and_eq_true] at h1
  rcases h with rfl | h | ⟨h3, h4⟩ | h
  · have := h1.2; revert this; decide
  · omega
  · rcases h4 with h4 | rfl
    · rw [canon_zero17 h3 h4] at h1; cases h1.2
    · by_cases h5 : 1 < m.length
      · rw [canon_zero17 h3 h5] at h1; cases h1.2
      · have hm : m = [48] := by
          refine one_48 ?_ h3
          rcases Nat.eq_zero_or_pos m.length with h6 | h6
          · have : m = [] := List.eq_nil_of_length_eq_zero h6
            rw [this] at h3; simp at h3
          · omega
        rw [hm] at h1
        have := h1.1; revert this; decide
  · have := h1.2
    unfold canon at this
    rw [h, Bool.false_and] at this
    cases this
theorem iv4b_yes {b : Bool} {m : List UInt8} (h0 : m ≠ []) (h1 : m.length ≤ 17) (h2 : ¬ (m.getD 0 0 = 48 ∧ (1 < m.length ∨ b = true))) (h3 : m.all isDig = true) : iv4b b m = ((if b = true then -1 else 1) * ((val m : Nat) : Int), true) := by
  unfold iv4b
  rw [if_pos]
  · cases b <;> simp
  · refine ⟨?_, h1⟩
    rw [canon_at17 h0 (fun h => h2 ⟨h.1, .inl h.2⟩), h3, Bool.and_true]
    cases b
    · rfl
    · have : (m == [48]) = false := by rw [beq_eq_false_iff_ne]; intro e; exact h2 ⟨by rw [e]; rfl, .inr rfl⟩
      rw [this]; rfl
set_option maxRecDepth 100000 in
set_option maxHeartbeats 8000000 in
/-- schismaref04.Int. -/
theorem r4int_any (s : ByteArray) (w : World) (hs : s.size ≤ 100000) :
    Calls Tryz.prog 30 #[.string s] w (SmallRes (.tuple #[.int .i64 (iv4 s.data.toList).1, .bool (iv4 s.data.toList).2]) w) := by
  obtain ⟨V, hV⟩ : ∃ V, iv4 s.data.toList = V := ⟨_, rfl⟩
  rw [hV]
  rw [iv4_eq] at hV
  by_cases h0 : s.data.toList = []
  · have hz : s.size = 0 := by rw [← str_size, h0]; rfl
    have HF := Lib.hid (show V = (0, false) by rw [← hV, h0]; rfl)
    have hz2 : ¬ (0 : Int) < (s.size : Int) := by omega
    have hz4 : ((s.size : Int) == 0) = true := by rw [hz]; rfl
    clear hV h0 hz
    rw [HF.out]
    go_enter Tryz.func30, Tryz.ntmps30
    go_wp2_with fail
    go_ret2
    exact ⟨rfl, Below.refl _ _⟩
  obtain ⟨m, hm⟩ : ∃ m, magT s.data.toList = m := ⟨_, rfl⟩
  obtain ⟨t, ht⟩ : ∃ t : ByteArray, (⟨m.toArray⟩ : ByteArray) = t := ⟨_, rfl⟩
  have htm : t.data.toList = m := by rw [← ht]
  have htl : m.length = t.size := by rw [← htm, str_size]
  have htn : t.size ≤ 100000 := by have := mag_size s.data.toList; rw [hm, str_size] at this; omega
  have hs0 : 0 < s.size := by rw [← str_size]; exact List.length_pos_iff.2 h0
  have hs0i : (0 : Int) < (s.size : Int) := by omega
  have hnc := neg_cases s h0
  rw [hm, ht] at hnc
  have hbt := get_bt s
  have hbtt := get_bt t
  rw [hm] at hV
  have HTM := Lib.hid htm
  have HTL := Lib.hid htl
  clear hm ht htm htl h0
  rcases hnc with ⟨hn, hb, hx⟩ | ⟨hn, hb, hx⟩
  · have HV := Lib.hid (show iv4b true m = V by rw [← hn]; exact hV)
    clear hn hV
    by_cases hz : t.size = 0
    · have hz4 : ((t.size : Int) == 0) = true := by rw [hz]; rfl
      have HF := Lib.hid (show V = (0, false) by rw [← HV.out]; exact iv4b_no (.inl (List.eq_nil_of_length_eq_zero (by rw [HTL.out, hz]))))
      clear hz
      go_enter Tryz.func30, Tryz.ntmps30
      go_wp2_with fail
      go_quiet (fail)
      go_wp2_with fail
      go_ret2
      exact ⟨by rw [HF.out]; rfl, bel_drewN (Below.refl _ _) _⟩
    have hz4 : ((t.size : Int) == 0) = false := by rw [beq_eq_false_iff_ne]; omega
    have htp : (0 : Int) < (t.size : Int) := by omega
    by_cases h17 : 17 < t.size
    · have h17i : (17 : Int) < (t.size : Int) := by omega
      have HF := Lib.hid (show V = (0, false) by rw [← HV.out]; exact iv4b_no (.inr (.inl (by rw [HTL.out]; exact h17))))
      clear hz
      go_enter Tryz.func30, Tryz.ntmps30
      go_wp2_with fail
      go_quiet (fail)
      go_wp2_with fail
      go_ret2
      exact ⟨by rw [HF.out]; rfl, bel_drewN (Below.refl _ _) _⟩
    have h17i : ¬ (17 : Int) < (t.size : Int) := by omega
    have hm0 : m ≠ [] := fun e => by have := HTL.out; rw [e] at this; simp at this; omega
    have hb0 := bt_at t 0 (by omega)
    rw [HTM.out] at hb0
    by_cases hlead : m.getD 0 0 = 48 ∧ (1 < m.length ∨ true = true)
    · have hb48 : bt t 0 = 48 := by rw [hb0, hlead.1]; rfl
      have HF := Lib.hid (show V = (0, false) by rw [← HV.out]; exact iv4b_no (.inr (.inr (.inl hlead))))
      clear hlead hb0 hm0 hz
      by_cases h1i : (1 : Int) < (t.size : Int)
      · go_enter Tryz.func30, Tryz.ntmps30
        go_wp2_with fail
        go_quiet (fail)
        go_wp2_with fail
        go_ret2
        exact ⟨by rw [HF.out]; rfl, bel_drewN (Below.refl _ _) _⟩
      · go_enter Tryz.func30, Tryz.ntmps30
        go_wp2_with fail
        go_quiet (fail)
        go_wp2_with fail
        go_ret2
        exact ⟨by rw [HF.out]; rfl, bel_drewN (Below.refl _ _) _⟩
    have HYES := Lib.hid (fun h => (HV.out.symm.trans (iv4b_yes hm0 (by have := HTL.out; omega) hlead h)))
    have HNO := Lib.hid (fun h => (HV.out.symm.trans (iv4b_no (b := true) (.inr (.inr (.inr h))))))
    have h17n : t.size ≤ 17 := by omega
    have hb48 : (bt t 0 == 48) = false := by
      rw [beq_eq_false_iff_ne, hb0]
      intro hc
      exact hlead ⟨UInt8.toNat_inj.1 (by show _ = 48; omega), .inr rfl⟩
    clear hb0 hm0 hz hlead
    go_enter Tryz.func30, Tryz.ntmps30
    go_wp2_with fail
    go_quiet (fail)
    go_wp2_with fail
    go_loopw [6, 7] (fun vn vi wr => ∃ i : Nat, i ≤ t.size ∧ vi = .int .i64 (i : Int) ∧ vn = .int .i64 ((val (m.take i) : Nat) : Int) ∧ Hid ((m.take i).all isDig = true) ∧ Below w.heap.size w wr) (fun _ vi _ => t.size - (intOf vi).toNat)
    case atStart => exact ⟨0, Nat.zero_le _, rfl, rfl, Lib.hid rfl, bel_drewN (Below.refl _ _) _⟩
    case round =>
      obtain ⟨i, hi, rfl, rfl, HI, hB⟩ := hrel
      have hlt17 : val (m.take i) < 100000000000000000 := by
        have h1 := val_lt _ HI.out
        have h2 : (10 : Nat) ^ (m.take i).length ≤ 10 ^ 17 := Nat.pow_le_pow_right (by decide) (by rw [List.length_take]; omega)
        have h3 : (10 : Nat) ^ 17 = 100000000000000000 := by decide
        omega
      by_cases hin : i = t.size
      · have hall : m.take i = m := List.take_of_length_le (by rw [HTL.out]; omega)
        have HF := Lib.hid (HYES.out (by rw [← hall]; exact HI.out))
        rw [hall] at hlt17 ⊢
        have hlt : ¬ i < t.size := by omega
        obtain ⟨v, hv⟩ : ∃ v, val m = v := ⟨_, rfl⟩
        rw [hv] at HF hlt17 ⊢
        clear hin hall hv
        go_wp2_with fail
        go_ret2
        exact ⟨by rw [HF.out]; first | rfl | (congr 3; simp <;> omega), hB⟩
      · have hlt : i < t.size := by omega
        have hb := bt_at t i hlt
        rw [HTM.out] at hb
        have HTK := Lib.hid (digit_step (by rw [HTL.out]; exact hlt) HI.out)
        have HND := Lib.hid (fun h => HNO.out (digit_bad (l := m) (i := i) (by rw [HTL.out]; exact hlt) h))
        have HDG := Lib.hid (dig_iff (m.getD i 0))
        have HVS := Lib.hid (val_take_succ m i (by rw [HTL.out]; exact hlt))
        have hb1 := (m.getD i 0).toNat_lt
        obtain ⟨v, hv⟩ : ∃ v, val (m.take i) = v := ⟨_, rfl⟩
        rw [hv] at HVS hlt17 ⊢
        clear hin hv
        generalize (m.getD i 0) = b at *
        generalize hd : b.toNat = d at *
        by_cases h5 : 48 ≤ d
        · by_cases h6 : d ≤ 57
          · have HY := Lib.hid (show isDig b = true by rw [HDG.out]; simp [h5, h6])
            have HB2 := Lib.hid hB
            clear hd
            go_wp2_with fail
            go_roundw
            case rel => exact ⟨i + 1, by omega, by go_num, by rw [HVS.out]; go_num, Lib.hid (by rw [HTK.out]; exact HY.out), HB2.out⟩
            case measure => simp [intOf]; omega
          · have HF := Lib.hid (HND.out (by rw [HDG.out]; simp; omega))
            clear hd
            go_wp2_with fail
            go_ret2
            exact ⟨by rw [HF.out]; rfl, hB⟩
        · have HF := Lib.hid (HND.out (by rw [HDG.out]; simp; omega))
          clear hd
          go_wp2_with fail
          go_ret2
          exact ⟨by rw [HF.out]; rfl, hB⟩
  · have HV := Lib.hid (show iv4b false m = V by rw [← hn]; exact hV)
    clear hn hV
    obtain rfl := hx
    by_cases hz : t.size = 0
    · have hz4 : ((t.size : Int) == 0) = true := by rw [hz]; rfl
      have HF := Lib.hid (show V = (0, false) by rw [← HV.out]; exact iv4b_no (.inl (List.eq_nil_of_length_eq_zero (by rw [HTL.out, hz]))))
      clear hz
      go_enter Tryz.func30, Tryz.ntmps30
      go_wp2_with fail
      go_ret2
      exact ⟨by rw [HF.out]; rfl, Below.refl _ _⟩
    have hz4 : ((t.size : Int) == 0) = false := by rw [beq_eq_false_iff_ne]; omega
    have htp : (0 : Int) < (t.size : Int) := by omega
    by_cases h17 : 17 < t.size
    · have h17i : (17 : Int) < (t.size : Int) := by omega
      have HF := Lib.hid (show V = (0, false) by rw [← HV.out]; exact iv4b_no (.inr (.inl (by rw [HTL.out]; exact h17))))
      clear hz
      go_enter Tryz.func30, Tryz.ntmps30
      go_wp2_with fail
      go_ret2
      exact ⟨by rw [HF.out]; rfl, Below.refl _ _⟩
    have h17i : ¬ (17 : Int) < (t.size : Int) := by omega
    have hm0 : m ≠ [] := fun e => by have := HTL.out; rw [e] at this; simp at this; omega
    have hb0 := bt_at t 0 (by omega)
    rw [HTM.out] at hb0
    by_cases hlead : m.getD 0 0 = 48 ∧ (1 < m.length ∨ false = true)
    · have hb48 : bt t 0 = 48 := by rw [hb0, hlead.1]; rfl
      have HF := Lib.hid (show V = (0, false) by rw [← HV.out]; exact iv4b_no (.inr (.inr (.inl hlead))))
      have h1i : (1 : Int) < (t.size : Int) := by rcases hlead.2 with h | h; have := HTL.out; omega; cases h
      clear hlead hb0 hm0 hz
      go_enter Tryz.func30, Tryz.ntmps30
      go_wp2_with fail
      go_ret2
      exact ⟨by rw [HF.out]; rfl, Below.refl _ _⟩
    have HYES := Lib.hid (fun h => (HV.out.symm.trans (iv4b_yes hm0 (by have := HTL.out; omega) hlead h)))
    have HNO := Lib.hid (fun h => (HV.out.symm.trans (iv4b_no (b := false) (.inr (.inr (.inr h))))))
    have h17n : t.size ≤ 17 := by omega
    by_cases hq : m.getD 0 0 = 48
    · have hb48 : bt t 0 = 48 := by rw [hb0, hq]; rfl
      have h1i : ¬ (1 : Int) < (t.size : Int) := fun hc => hlead ⟨hq, .inl (by have := HTL.out; omega)⟩
      clear hb0 hm0 hz hlead hq
      go_enter Tryz.func30, Tryz.ntmps30
      go_wp2_with fail
      go_loopw [6, 7] (fun vn vi wr => ∃ i : Nat, i ≤ t.size ∧ vi = .int .i64 (i : Int) ∧ vn = .int .i64 ((val (m.take i) : Nat) : Int) ∧ Hid ((m.take i).all isDig = true) ∧ Below w.heap.size w wr) (fun _ vi _ => t.size - (intOf vi).toNat)
      case atStart => exact ⟨0, Nat.zero_le _, rfl, rfl, Lib.hid rfl, Below.refl _ _⟩
      case round =>
        obtain ⟨i, hi, rfl, rfl, HI, hB⟩ := hrel
        have hlt17 : val (m.take i) < 100000000000000000 := by
          have h1 := val_lt _ HI.out
          have h2 : (10 : Nat) ^ (m.take i).length ≤ 10 ^ 17 := Nat.pow_le_pow_right (by decide) (by rw [List.length_take]; omega)
          have h3 : (10 : Nat) ^ 17 = 100000000000000000 := by decide
          omega
        by_cases hin : i = t.size
        · have hall : m.take i = m := List.take_of_length_le (by rw [HTL.out]; omega)
          have HF := Lib.hid (HYES.out (by rw [← hall]; exact HI.out))
          rw [hall] at hlt17 ⊢
          have hlt : ¬ i < t.size := by omega
          obtain ⟨v, hv⟩ : ∃ v, val m = v := ⟨_, rfl⟩
          rw [hv] at HF hlt17 ⊢
          clear hin hall hv
          go_wp2_with fail
          go_ret2
          exact ⟨by rw [HF.out]; first | rfl | (congr 3; simp <;> omega), hB⟩
        · have hlt : i < t.size := by omega
          have hb := bt_at t i hlt
          rw [HTM.out] at hb
          have HTK := Lib.hid (digit_step (by rw [HTL.out]; exact hlt) HI.out)
          have HND := Lib.hid (fun h => HNO.out (digit_bad (l := m) (i := i) (by rw [HTL.out]; exact hlt) h))
          have HDG := Lib.hid (dig_iff (m.getD i 0))
          have HVS := Lib.hid (val_take_succ m i (by rw [HTL.out]; exact hlt))
          have hb1 := (m.getD i 0).toNat_lt
          obtain ⟨v, hv⟩ : ∃ v, val (m.take i) = v := ⟨_, rfl⟩
          rw [hv] at HVS hlt17 ⊢
          clear hin hv
          generalize (m.getD i 0) = b at *
          generalize hd : b.toNat = d at *
          by_cases h5 : 48 ≤ d
          · by_cases h6 : d ≤ 57
            · have HY := Lib.hid (show isDig b = true by rw [HDG.out]; simp [h5, h6])
              have HB2 := Lib.hid hB
              clear hd
              go_wp2_with fail
              go_roundw
              case rel => exact ⟨i + 1, by omega, by go_num, by rw [HVS.out]; go_num, Lib.hid (by rw [HTK.out]; exact HY.out), HB2.out⟩
              case measure => simp [intOf]; omega
            · have HF := Lib.hid (HND.out (by rw [HDG.out]; simp; omega))
              clear hd
              go_wp2_with fail
              go_ret2
              exact ⟨by rw [HF.out]; rfl, hB⟩
          · have HF := Lib.hid (HND.out (by rw [HDG.out]; simp; omega))
            clear hd
            go_wp2_with fail
            go_ret2
            exact ⟨by rw [HF.out]; rfl, hB⟩
    · have hb48 : (bt t 0 == 48) = false := by
        rw [beq_eq_false_iff_ne, hb0]
        intro hc
        exact hq (UInt8.toNat_inj.1 (by show _ = 48; omega))
      clear hb0 hm0 hz hlead hq
      go_enter Tryz.func30, Tryz.ntmps30
      go_wp2_with fail
      go_loopw [6, 7] (fun vn vi wr => ∃ i : Nat, i ≤ t.size ∧ vi = .int .i64 (i : Int) ∧ vn = .int .i64 ((val (m.take i) : Nat) : Int) ∧ Hid ((m.take i).all isDig = true) ∧ Below w.heap.size w wr) (fun _ vi _ => t.size - (intOf vi).toNat)
      case atStart => exact ⟨0, Nat.zero_le _, rfl, rfl, Lib.hid rfl, Below.refl _ _⟩
      case round =>
        obtain ⟨i, hi, rfl, rfl, HI, hB⟩ := hrel
        have hlt17 : val (m.take i) < 100000000000000000 := by
          have h1 := val_lt _ HI.out
          have h2 : (10 : Nat) ^ (m.take i).length ≤ 10 ^ 17 := Nat.pow_le_pow_right (by decide) (by rw [List.length_take]; omega)
          have h3 : (10 : Nat) ^ 17 = 100000000000000000 := by decide
          omega
        by_cases hin : i = t.size
        · have hall : m.take i = m := List.take_of_length_le (by rw [HTL.out]; omega)
          have HF := Lib.hid (HYES.out (by rw [← hall]; exact HI.out))
          rw [hall] at hlt17 ⊢
          have hlt : ¬ i < t.size := by omega
          obtain ⟨v, hv⟩ : ∃ v, val m = v := ⟨_, rfl⟩
          rw [hv] at HF hlt17 ⊢
          clear hin hall hv
          go_wp2_with fail
          go_ret2
          exact ⟨by rw [HF.out]; first | rfl | (congr 3; simp <;> omega), hB⟩
        · have hlt : i < t.size := by omega
          have hb := bt_at t i hlt
          rw [HTM.out] at hb
          have HTK := Lib.hid (digit_step (by rw [HTL.out]; exact hlt) HI.out)
          have HND := Lib.hid (fun h => HNO.out (digit_bad (l := m) (i := i) (by rw [HTL.out]; exact hlt) h))
          have HDG := Lib.hid (dig_iff (m.getD i 0))
          have HVS := Lib.hid (val_take_succ m i (by rw [HTL.out]; exact hlt))
          have hb1 := (m.getD i 0).toNat_lt
          obtain ⟨v, hv⟩ : ∃ v, val (m.take i) = v := ⟨_, rfl⟩
          rw [hv] at HVS hlt17 ⊢
          clear hin hv
          generalize (m.getD i 0) = b at *
          generalize hd : b.toNat = d at *
          by_cases h5 : 48 ≤ d
          · by_cases h6 : d ≤ 57
            · have HY := Lib.hid (show isDig b = true by rw [HDG.out]; simp [h5, h6])
              have HB2 := Lib.hid hB
              clear hd
              go_wp2_with fail
              go_roundw
              case rel => exact ⟨i + 1, by omega, by go_num, by rw [HVS.out]; go_num, Lib.hid (by rw [HTK.out]; exact HY.out), HB2.out⟩
              case measure => simp [intOf]; omega
            · have HF := Lib.hid (HND.out (by rw [HDG.out]; simp; omega))
              clear hd
              go_wp2_with fail
              go_ret2
              exact ⟨by rw [HF.out]; rfl, hB⟩
          · have HF := Lib.hid (HND.out (by rw [HDG.out]; simp; omega))
            clear hd
            go_wp2_with fail
            go_ret2
            exact ⟨by rw [HF.out]; rfl, hB⟩
end Go.Proofs.YtpafocfpofnkpaaGreatDoor
