/- The walk of Add: for any two numbers of at most 1000000 digits. -/
import Derived.Test.YtebcmefbpfcgmaaGreatDoorDec1
import Derived.Test.YtebcmefbpfcgmaaGreatDoorZeros
import Derived.Test.YtebcmefbpfcgmaaGreatDoorText
import Derived.Test.YtebcmefbpfcgmaaGreatDoorCut
import Derived.Test.YtebcmefbpfcgmaaGreatDoorDivide
import Derived.Test.YtebcmefbpfcgmaaGreatDoorPcmp
namespace Go.Proofs.YtebcmefbpfcgmaaGreatDoor
open Go.RowKit

theorem lims_len_nd (n k : Nat) (h : Lib.nDigits n ≤ k) (hk : 0 < k) : (lims n).length ≤ k := by
  rw [lims_len_le]
  have h1 := (nd_le_iff n (k - 1)).1 (by omega)
  rw [show k - 1 + 1 = k by omega] at h1
  exact Nat.lt_of_lt_of_le h1 (Nat.pow_le_pow_left (by decide) k)
theorem cut_dec (n : Nat) (w : World) (h : Lib.nDigits n ≤ 10000000) :
    Calls Tryz.prog 55 #[.string (dec n)] w (NewPc (lims n) w) := by
  have := cut_any (dec n) w (by rw [dec_size]; omega) (by rw [dec_data]; exact all_dd n)
  rw [dec_data, val_dd] at this
  exact this
theorem add_plain {p q : Nat} (h : (lims q).length ≤ (lims p).length) (c : Nat) (zs : List Nat) (hb : BackAt (lims p ++ [0]) (lims q ++ List.replicate ((lims p).length - (lims q).length) 0) 0 ((lims q ++ List.replicate ((lims p).length - (lims q).length) 0).length + 1) c zs) :
    trimL zs = lims (p + q) := by
  have hf := hb.finish
  have hl : (lims q ++ List.replicate ((lims p).length - (lims q).length) 0).length = (lims p).length := by rw [List.length_append, List.length_replicate]; omega
  have hz := hb.len
  rw [List.length_append, List.length_singleton] at hz
  rw [hl, Nat.zero_add, List.take_of_length_le (by omega), List.take_of_length_le (by simp), lv_snoc, lv_append, lv_zeros, lv_lims, lv_lims] at hf
  simp only [Nat.mul_zero, Nat.add_zero, Nat.pow_zero, Nat.mul_one] at hf
  have h1 := lv_lt (lims p) (Lims_lims p)
  have h2 := lv_lt (lims q) (Lims_lims q)
  rw [lv_lims] at h1 h2
  have h3 : 1000000000 ^ (lims q).length ≤ 1000000000 ^ (lims p).length := Nat.pow_le_pow_right (by decide) h
  rw [pow_step] at hf
  have hc : c = 0 := by
    rcases Nat.eq_zero_or_pos c with h | h
    · exact h
    · have : 1000000000 * 1000000000 ^ (lims p).length ≤ c * (1000000000 * 1000000000 ^ (lims p).length) := Nat.le_mul_of_pos_left _ h
      omega
  rw [hc] at hf
  rw [trimL_eq zs hb.lims]
  congr 1
  omega

/-- What stands behind a call that hands back a number. -/
theorem base_str {s : ByteArray} {w W w' : World} {e : Ending} (h : StrPost s W e w') (hb : Below w.heap.size w W) : StrPost s w e w' := ⟨h.1, hb.trans (h.2.mono hb.size)⟩

set_option maxRecDepth 100000 in
set_option maxHeartbeats 1000000 in
/-- decimal.Add. -/
theorem add_any (a b : Nat) (w : World) (hamb : Amb w) (ha : Lib.nDigits a ≤ 1000000) (hb : Lib.nDigits b ≤ 1000000) :
    Calls Tryz.prog 33 #[.string (dec a), .string (dec b)] w (StrPost (dec (a + b)) w) := by
  by_cases h18 : Lib.nDigits a ≤ 18 ∧ Lib.nDigits b ≤ 18
  · have h1 := (nd_le_iff a 17).1 h18.1
    have h2 := (nd_le_iff b 17).1 h18.2
    have hsum : (a : Int) + (b : Int) ≤ 18446744073709551615 := by omega
    go_enter Tryz.func33, Tryz.ntmps33
    go_wp2_with fail
    refine (both_yes a b _ h18.1 h18.2).mono ?_
    rintro e w1 ⟨rfl, hb1⟩
    have hof := of_any (a + b) (by omega) w1 (hamb.below hb1)
    rw [Int.natCast_add] at hof
    go_wp2_with fail
    refine hof.mono ?_
    rintro e w2 ⟨rfl, hb2⟩
    go_wp2
    go_ret
    exact ⟨rfl, hb1.trans (hb2.mono hb1.size)⟩
  · -- p, q: the greater and the lesser of the two
    go_enter Tryz.func33, Tryz.ntmps33
    go_wp2_with fail
    refine (both_no a b _ h18).mono ?_
    rintro e w1 ⟨rfl, hb1⟩
    go_wp2_with fail
    refine (cut_dec a _ (by omega)).mono ?_
    rintro e w2 ⟨g1, cap1, rfl, hg1, hp1, hb2⟩
    go_wp2_with fail
    refine (cut_dec b _ (by omega)).mono ?_
    rintro e w3 ⟨g2, cap2, rfl, hg2, hp2, hb3⟩
    have hs1 := hb1.size
    have hB2 := hb1.trans (hb2.mono hs1)
    have hs2 := hB2.size
    have hB3 := hB2.trans (hb3.mono hs2)
    have hs3 := hB3.size
    have hlt1 := hp1.lt
    have hp1 := hp1.below hb3 hlt1
    have hne : g1 ≠ g2 := by omega
    have hg1' : w.heap.size ≤ g1 := by omega
    have hg2' : w.heap.size ≤ g2 := by omega
    clear hb1 hb2 hb3 hB2 hs1 hs2 hlt1 hg1 hg2
    have hla := lims_len_nd a 1000000 ha (by omega)
    have hlb := lims_len_nd b 1000000 hb (by omega)
    have hz32 : (lims a).length + (lims b).length ≤ 2000000 := by omega
    -- the two orders
    by_cases hlt : (lims a).length < (lims b).length
    · have hpl := add_plain (p := b) (q := a) (by omega)
      obtain ⟨d, hd⟩ : ∃ d, (lims b).length - (lims a).length = d := ⟨_, rfl⟩
      have hd2 : ((lims b).length : Int) - ((lims a).length : Int) = (d : Int) := by omega
      rw [hd] at hpl
      have HPL := Lib.hid hpl
      clear hpl
      have HD := Lib.hid hd
      have hx0 : Lims (lims b ++ [0]) := Lims_append.2 ⟨Lims_lims b, by intro x hx; rw [List.mem_singleton.1 hx]; omega⟩
      have hy0 : Lims (lims a ++ List.replicate d 0) := Lims_append.2 ⟨Lims_lims a, by intro x hx; rw [List.eq_of_mem_replicate hx]; omega⟩
      have HX := Lib.hid hx0
      have HY := Lib.hid hy0
      clear hd hx0 hy0
      have hone := Pc.one w3 0
      have hal := hp2.alloc (.cells #[.int .u64 (0 : Int)] 70)
      have hal1 := hp1.alloc (.cells #[.int .u64 (0 : Int)] 70)
      have hplt := hp2.lt
      have hqlt := hp1.lt
      generalize hnq : (lims a).length = nq at *
      generalize hnp : (lims b).length = np at *
      have HNQ := Lib.hid hnq
      have HNP := Lib.hid hnp
      clear hnq hnp
      go_wp2_with (first
        | (at_builtin; refine append_Pc rfl _ _ 75 rfl Tryz.underlying75 g2 np cap2 (lims b) rfl hal w3.heap.size 1 1 [0] rfl hone (by omega) ?_; intro g4 cap4 w4 hq4 hon4 hat4; have hq5 := hon4.Pc hal1 hne)
        | (at_builtin; refine append_zeros rfl _ _ 75 3 .i64 rfl Tryz.underlying75 Tryz.underlying3 g1 nq cap1 (lims a) rfl hq5 .i64 d rfl (by omega) ?_; intro g6 cap6 w6 hq6 hon6 hat6))
      have hs3' : (w3.alloc (.cells #[.int .u64 (0 : Int)] 70)).heap.size = w3.heap.size + 1 := by simp
      have hB4 : Below w.heap.size w w4 := bel_only (hB3.alloc hs3 _) hon4 hg2' (by omega)
      have hs4 := hB4.size
      have hg4 : w.heap.size ≤ g4 := by rcases hat4 with h | h <;> omega
      have hne4 : g4 ≠ g1 := by rcases hat4 with h | h <;> omega
      have hg4lt := hq4.lt
      have hlt5 := hq5.lt
      have hB6 : Below w.heap.size w w6 := bel_only hB4 hon6 hg1' hs4
      have hs6 := hB6.size
      have hq7 := hon6.Pc hq4 hne4
      have hne6 : g6 ≠ g4 := by rcases hat6 with h | h <;> omega
      clear hal hal1 hone hat4 hon4 hB3 hs3 hp1 hp2 hq5 hat6 hon6 hB4 hs4 hq4
      refine (back_any g4 (np + 1) cap4 (lims b ++ [0]) g6 (nq + d) cap6 (lims a ++ List.replicate d 0) 0 _ hq7 hq6 hne6 (by have := HD.out; omega) HX.out HY.out).mono ?_
      rintro e w7 ⟨rfl, hon7, c7, zs, hBk, hPz⟩
      have hB7 : Below w.heap.size w w7 := bel_only hB6 hon7 hg4 hs6
      have htr := HPL.out c7 zs hBk
      have HTR := Lib.hid htr
      clear htr hBk
      go_wp2_with fail
      refine (trim_any _ _ _ zs _ hPz).mono ?_
      rintro e w' ⟨rfl, rfl⟩
      have hPt := hPz.take (trimL zs).length (by rw [trimL_take zs, List.length_take, hPz.len]; omega)
      rw [← trimL_take zs] at hPt
      have htl : (trimL zs).length ≤ np + 1 := by rw [trimL_take zs, List.length_take, hPz.len]; omega
      rw [HTR.out] at hPt htl ⊢
      generalize hnr : (lims (b + a)).length = nr at *
      clear hnr
      go_wp2_with fail
      refine (text_any _ _ _ (b + a) _ hPt (by omega)).mono ?_
      rintro e w8 ⟨rfl, hB8⟩
      go_wp2
      go_ret
      exact ⟨ret_str (by first | rfl | rw [Nat.add_comm]), hB7.trans (hB8.mono hB7.size)⟩
    · have hpl := add_plain (p := a) (q := b) (by omega)
      obtain ⟨d, hd⟩ : ∃ d, (lims a).length - (lims b).length = d := ⟨_, rfl⟩
      have hd2 : ((lims a).length : Int) - ((lims b).length : Int) = (d : Int) := by omega
      rw [hd] at hpl
      have HPL := Lib.hid hpl
      clear hpl
      have HD := Lib.hid hd
      have hx0 : Lims (lims a ++ [0]) := Lims_append.2 ⟨Lims_lims a, by intro x hx; rw [List.mem_singleton.1 hx]; omega⟩
      have hy0 : Lims (lims b ++ List.replicate d 0) := Lims_append.2 ⟨Lims_lims b, by intro x hx; rw [List.eq_of_mem_replicate hx]; omega⟩
      have HX := Lib.hid hx0
      have HY := Lib.hid hy0
      clear hd hx0 hy0
      have hone := Pc.one w3 0
      have hal := hp1.alloc (.cells #[.int .u64 (0 : Int)] 70)
      have hal1 := hp2.alloc (.cells #[.int .u64 (0 : Int)] 70)
      have hplt := hp1.lt
      have hqlt := hp2.lt
      generalize hnq : (lims b).length = nq at *
      generalize hnp : (lims a).length = np at *
      have HNQ := Lib.hid hnq
      have HNP := Lib.hid hnp
      clear hnq hnp
      go_wp2_with (first
        | (at_builtin; refine append_Pc rfl _ _ 75 rfl Tryz.underlying75 g1 np cap1 (lims a) rfl hal w3.heap.size 1 1 [0] rfl hone (by omega) ?_; intro g4 cap4 w4 hq4 hon4 hat4; have hq5 := hon4.Pc hal1 hne.symm)
        | (at_builtin; refine append_zeros rfl _ _ 75 3 .i64 rfl Tryz.underlying75 Tryz.underlying3 g2 nq cap2 (lims b) rfl hq5 .i64 d rfl (by omega) ?_; intro g6 cap6 w6 hq6 hon6 hat6))
      have hs3' : (w3.alloc (.cells #[.int .u64 (0 : Int)] 70)).heap.size = w3.heap.size + 1 := by simp
      have hB4 : Below w.heap.size w w4 := bel_only (hB3.alloc hs3 _) hon4 hg1' (by omega)
      have hs4 := hB4.size
      have hg4 : w.heap.size ≤ g4 := by rcases hat4 with h | h <;> omega
      have hne4 : g4 ≠ g2 := by rcases hat4 with h | h <;> omega
      have hg4lt := hq4.lt
      have hlt5 := hq5.lt
      have hB6 : Below w.heap.size w w6 := bel_only hB4 hon6 hg2' hs4
      have hs6 := hB6.size
      have hq7 := hon6.Pc hq4 hne4
      have hne6 : g6 ≠ g4 := by rcases hat6 with h | h <;> omega
      clear hal hal1 hone hat4 hon4 hB3 hs3 hp1 hp2 hq5 hat6 hon6 hB4 hs4 hq4
      refine (back_any g4 (np + 1) cap4 (lims a ++ [0]) g6 (nq + d) cap6 (lims b ++ List.replicate d 0) 0 _ hq7 hq6 hne6 (by have := HD.out; omega) HX.out HY.out).mono ?_
      rintro e w7 ⟨rfl, hon7, c7, zs, hBk, hPz⟩
      have hB7 : Below w.heap.size w w7 := bel_only hB6 hon7 hg4 hs6
      have htr := HPL.out c7 zs hBk
      have HTR := Lib.hid htr
      clear htr hBk
      go_wp2_with fail
      refine (trim_any _ _ _ zs _ hPz).mono ?_
      rintro e w' ⟨rfl, rfl⟩
      have hPt := hPz.take (trimL zs).length (by rw [trimL_take zs, List.length_take, hPz.len]; omega)
      rw [← trimL_take zs] at hPt
      have htl : (trimL zs).length ≤ np + 1 := by rw [trimL_take zs, List.length_take, hPz.len]; omega
      rw [HTR.out] at hPt htl ⊢
      generalize hnr : (lims (a + b)).length = nr at *
      clear hnr
      go_wp2_with fail
      refine (text_any _ _ _ (a + b) _ hPt (by omega)).mono ?_
      rintro e w8 ⟨rfl, hB8⟩
      go_wp2
      go_ret
      exact ⟨ret_str (by first | rfl | rw [Nat.add_comm]), hB7.trans (hB8.mono hB7.size)⟩
end Go.Proofs.YtebcmefbpfcgmaaGreatDoor
