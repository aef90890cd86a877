/- The program's Bits and Power, in one text. -/
import Derived.Test.YtebcmefbpfcgmaaGreatDoorLimbOps
import Derived.Test.YtebcmefbpfcgmaaGreatDoorNum
import Derived.Lib.BitFns
import Derived.Test.YtebcmefbpfcgmaaGreatDoorDec5
import Derived.Test.YtebcmefbpfcgmaaGreatDoorNil
namespace Go.Proofs.YtebcmefbpfcgmaaGreatDoor
section

def bitsN (n : Nat) : Nat := if n = 0 then 0 else 1 + bitsN (n / 2)
  termination_by n
  decreasing_by omega
theorem bitsN_zero : bitsN 0 = 0 := by rw [bitsN, if_pos rfl]
theorem bitsN_pos {n : Nat} (h : n ≠ 0) : bitsN n = 1 + bitsN (n / 2) := by rw [bitsN, if_neg h]
theorem bitsN_lt (n : Nat) : n < 2 ^ bitsN n := by
  induction n using Nat.strongRecOn with
  | _ n ih =>
    by_cases h : n = 0
    · subst h; rw [bitsN_zero]; decide
    · rw [bitsN_pos h, Nat.add_comm, Nat.pow_succ]; have := ih (n / 2) (by omega); omega
theorem bitsN_ge (n : Nat) (h : n ≠ 0) : 2 ^ (bitsN n - 1) ≤ n := by
  induction n using Nat.strongRecOn with
  | _ n ih =>
    rw [bitsN_pos h]
    by_cases h2 : n / 2 = 0
    · rw [h2, bitsN_zero]; simp; omega
    · have := ih (n / 2) (by omega) h2
      have hp : bitsN (n / 2) ≠ 0 := by rw [bitsN_pos h2]; omega
      rw [show 1 + bitsN (n / 2) - 1 = bitsN (n / 2) - 1 + 1 by omega, Nat.pow_succ]; omega
theorem bitsN_unique (n k : Nat) (h1 : 2 ^ k ≤ n) (h2 : n < 2 ^ (k + 1)) : bitsN n = k + 1 := by
  have hn : n ≠ 0 := by have := Nat.pow_pos (n := k) (show 0 < 2 by decide); omega
  have h3 := bitsN_lt n
  have h4 := bitsN_ge n hn
  have h5 : k < bitsN n := (Nat.pow_lt_pow_iff_right (show 1 < 2 by decide)).1 (by omega)
  have h6 : bitsN n - 1 < k + 1 := (Nat.pow_lt_pow_iff_right (show 1 < 2 by decide)).1 (by omega)
  omega
theorem bitsN_shift (k x low : Nat) (hx : x ≠ 0) (hl : low < 2 ^ k) : bitsN (low + 2 ^ k * x) = k + bitsN x := by
  have h1 := bitsN_lt x
  have h2 := bitsN_ge x hx
  have hp : bitsN x ≠ 0 := by rw [bitsN_pos hx]; omega
  have h3 : 2 ^ k * 2 ^ (bitsN x - 1) ≤ 2 ^ k * x := Nat.mul_le_mul_left _ h2
  have h4 : 2 ^ k * (x + 1) ≤ 2 ^ k * 2 ^ bitsN x := Nat.mul_le_mul_left _ h1
  rw [← Nat.pow_add] at h3 h4
  rw [Nat.mul_add, Nat.mul_one] at h4
  have := bitsN_unique (low + 2 ^ k * x) (k + bitsN x - 1) (by rw [show k + bitsN x - 1 = k + (bitsN x - 1) by omega]; omega) (by rw [show k + bitsN x - 1 + 1 = k + bitsN x by omega]; omega)
  omega
theorem bitLen_eq (x : Nat) (h : x < 18446744073709551616) : Lib.bitLen x = bitsN x := by
  have key : ∀ f x, x < 2 ^ f → Lib.bitLenAux f x = bitsN x := by
    intro f
    induction f with
    | zero => intro x h; have : x = 0 := by simpa using h
              subst this; rw [bitsN_zero]; rfl
    | succ f ih =>
      intro x h
      rw [Lib.bitLenAux]
      by_cases h0 : x = 0
      · subst h0; rw [if_pos rfl, bitsN_zero]
      · rw [if_neg h0, bitsN_pos h0, ih (x / 2) (by rw [Nat.pow_succ] at h; omega)]
  exact key 64 x (by simpa using h)
theorem bitsN_mono {a b : Nat} (h : a ≤ b) : bitsN a ≤ bitsN b := by
  by_cases ha : a = 0
  · subst ha; rw [bitsN_zero]; omega
  · have h1 := bitsN_ge a ha
    have h2 := bitsN_lt b
    have := (Nat.pow_lt_pow_iff_right (show 1 < 2 by decide)).1 (show 2 ^ (bitsN a - 1) < 2 ^ bitsN b by omega)
    omega

/-! Pieces to the base 2 to the power 32. -/
def bv : List Nat → Nat
  | [] => 0
  | x :: xs => x + 4294967296 * bv xs
def L32 (xs : List Nat) : Prop := ∀ x ∈ xs, x < 4294967296
theorem bv_append (xs ys : List Nat) : bv (xs ++ ys) = bv xs + 4294967296 ^ xs.length * bv ys := by
  induction xs with
  | nil => simp [bv]
  | cons x xs ih => rw [List.cons_append, bv, ih, bv, List.length_cons, Nat.pow_succ, Nat.mul_add, Nat.mul_comm (4294967296 ^ xs.length) 4294967296, Nat.mul_assoc]; omega
theorem bv_snoc (xs : List Nat) (y : Nat) : bv (xs ++ [y]) = bv xs + 4294967296 ^ xs.length * y := by rw [bv_append]; simp [bv]
theorem bv_lt (xs : List Nat) (h : L32 xs) : bv xs < 4294967296 ^ xs.length := by
  induction xs with
  | nil => simp [bv]
  | cons x xs ih =>
    have h1 := h x (by simp)
    have := ih (fun y hy => h y (by simp [hy]))
    rw [bv, List.length_cons, Nat.pow_succ]
    omega
theorem L32_getD {xs : List Nat} (h : L32 xs) (j : Nat) : xs.getD j 0 < 4294967296 := by
  rw [List.getD_eq_getElem?_getD]
  cases e : xs[j]? with
  | none => simp
  | some y => exact h y (List.mem_of_getElem? e)
theorem bv_take_succ (xs : List Nat) (k : Nat) (h : k < xs.length) : bv (xs.take (k + 1)) = bv (xs.take k) + xs.getD k 0 * 4294967296 ^ k := by
  rw [List.take_succ_eq_append_getElem h, bv_snoc, List.length_take, Nat.min_eq_left (Nat.le_of_lt h), List.getD_eq_getElem?_getD, List.getElem?_eq_getElem h, Nat.mul_comm]; rfl
theorem getD_drop_eq {xs zs : List Nat} {j : Nat} (h : zs.drop j = xs.drop j) : zs.getD j 0 = xs.getD j 0 := by
  have e : ∀ l : List Nat, l.getD j 0 = (l.drop j).getD 0 0 := fun l => by simp [List.getD_eq_getElem?_getD, List.getElem?_drop]
  rw [e zs, e xs, h]
/-- Every piece up to k has been multiplied. xs: as they were; p0: what is added. -/
structure MulAt (xs : List Nat) (p0 k c : Nat) (zs : List Nat) : Prop where
  sum : bv (zs.take k) + c * 4294967296 ^ k = bv (xs.take k) * 1000000000 + p0
  lims : L32 zs
  len : zs.length = xs.length
  rest : zs.drop k = xs.drop k
  carry : c ≤ 1000000000
theorem MulAt.start {xs : List Nat} {p0 : Nat} (h : L32 xs) (hp : p0 ≤ 1000000000) : MulAt xs p0 0 p0 xs := ⟨by simp [bv], h, rfl, rfl, hp⟩
theorem MulAt.step {xs : List Nat} {p0 k c : Nat} {zs : List Nat} (h : MulAt xs p0 k c zs) (hk : k < xs.length) :
    MulAt xs p0 (k + 1) ((c + zs.getD k 0 * 1000000000) / 4294967296) (zs.set k ((c + zs.getD k 0 * 1000000000) % 4294967296)) := by
  have hz := L32_getD h.lims k
  have hc := h.carry
  have hkz : k < zs.length := by rw [h.len]; exact hk
  refine ⟨?_, ?_, by rw [List.length_set, h.len], ?_, by omega⟩
  · have h1 : bv ((zs.set k ((c + zs.getD k 0 * 1000000000) % 4294967296)).take (k + 1)) = bv (zs.take k) + (c + zs.getD k 0 * 1000000000) % 4294967296 * 4294967296 ^ k := by
      rw [bv_take_succ _ k (by simpa using hkz), getD_set_same _ _ _ hkz, List.take_set_of_le (Nat.le_refl k)]
    have h2 := h.sum
    have h3 := bv_take_succ xs k hk
    rw [h1, h3, Nat.pow_succ, ← getD_drop_eq h.rest]
    generalize zs.getD k 0 = z at *
    generalize 4294967296 ^ k = P at *
    generalize ht : c + z * 1000000000 = t at *
    have e1 : t / 4294967296 * (P * 4294967296) + t % 4294967296 * P = t * P := by
      have : t / 4294967296 * (P * 4294967296) = t / 4294967296 * 4294967296 * P := by rw [Nat.mul_comm P, Nat.mul_assoc]
      rw [this, ← Nat.add_mul]; congr 1; omega
    have e2 : t * P = c * P + z * P * 1000000000 := by rw [← ht, Nat.add_mul, Nat.mul_right_comm]
    rw [Nat.add_mul]
    omega
  · intro x hx
    rcases List.mem_or_eq_of_mem_set hx with hx | rfl
    · exact h.lims x hx
    · exact Nat.mod_lt _ (by decide)
  · rw [List.drop_set_of_lt (by omega), ← List.drop_drop, h.rest, List.drop_drop]
/-- The pieces hold v; the last one is not 0. -/
structure BitAt (v : Nat) (xs : List Nat) : Prop where
  sum : bv xs = v
  lims : L32 xs
  top : xs ≠ [] → 4294967296 ^ (xs.length - 1) ≤ v
theorem BitAt.same {v p0 : Nat} {xs zs : List Nat} (h : BitAt v xs) (hm : MulAt xs p0 xs.length 0 zs) : BitAt (v * 1000000000 + p0) zs := by
  have hs := hm.sum
  rw [List.take_length, List.take_of_length_le (by rw [hm.len]; omega), h.sum] at hs
  refine ⟨by omega, hm.lims, fun hn => ?_⟩
  have hx : xs ≠ [] := by intro e; apply hn; apply List.eq_nil_of_length_eq_zero; rw [hm.len, e]; rfl
  have := h.top hx
  rw [hm.len]
  omega
theorem BitAt.more {v p0 c : Nat} {xs zs : List Nat} (h : BitAt v xs) (hm : MulAt xs p0 xs.length c zs) (hc : 0 < c) : BitAt (v * 1000000000 + p0) (zs ++ [c]) := by
  have hs := hm.sum
  rw [List.take_length, List.take_of_length_le (by rw [hm.len]; omega), h.sum] at hs
  have hcc := hm.carry
  have e : bv (zs ++ [c]) = v * 1000000000 + p0 := by rw [bv_snoc, hm.len, Nat.mul_comm]; omega
  refine ⟨e, ?_, fun _ => ?_⟩
  · intro x hx
    rcases List.mem_append.1 hx with hx | hx
    · exact hm.lims x hx
    · rw [List.mem_singleton.1 hx]; omega
  · rw [← e, bv_snoc, List.length_append, List.length_singleton, Nat.add_sub_cancel]
    have := Nat.mul_le_mul_left (4294967296 ^ zs.length) hc
    omega
theorem BitAt.fin {v : Nat} {xs : List Nat} (h : BitAt v xs) (hn : xs ≠ []) : bitsN v = 32 * (xs.length - 1) + bitsN (xs.getD (xs.length - 1) 0) ∧ xs.getD (xs.length - 1) 0 < 4294967296 := by
  obtain ⟨m, y, e⟩ : ∃ m y, xs = m ++ [y] := ⟨_, _, (List.dropLast_concat_getLast hn).symm⟩
  have hy : xs.getD (xs.length - 1) 0 = y := by rw [e, List.length_append, List.length_singleton, Nat.add_sub_cancel, List.getD_eq_getElem?_getD]; simp
  have hl : xs.length - 1 = m.length := by rw [e]; simp
  have ht := h.top hn
  have hs := h.sum
  rw [e, bv_snoc] at hs
  have hm := bv_lt m (fun x hx => h.lims x (by rw [e]; simp [hx]))
  rw [hl] at ht
  have hy0 : y ≠ 0 := by intro e0; rw [e0] at hs; omega
  have h32 : 4294967296 ^ m.length = 2 ^ (32 * m.length) := by rw [Nat.pow_mul]
  rw [hy, hl]
  refine ⟨?_, by rw [← hy]; exact L32_getD h.lims _⟩
  rw [← hs, h32, bitsN_shift _ _ _ hy0 (by rw [← h32]; exact hm)]
end
section
open Go.RowKit

/-- A slice of uint64 that is nil or the call's own. -/
def OwnV (w0 w : World) (v : Value) (xs : List Nat) : Prop := (v = .slice none 0 0 ∧ xs = []) ∨ ∃ g cap, v = .slice (some ⟨g, 0, none⟩) xs.length cap ∧ w0.heap.size ≤ g ∧ Pc w g xs.length cap xs
def BitsRel (n i : Nat) (vo : Value) (w wr : World) : Prop := Below w.heap.size w wr ∧ ∃ xs, OwnV w wr vo xs ∧ BitAt (lv ((lims n).drop i)) xs ∧ xs.length + i ≤ (lims n).length
def BitsIn (p0 k c g n cap : Nat) (xs : List Nat) (w wr : World) : Prop := Below w.heap.size w wr ∧ ∃ zs, MulAt xs p0 k c zs ∧ Pc wr g n cap zs

set_option maxRecDepth 100000 in
set_option maxHeartbeats 1000000 in
theorem bits_big (n : Nat) (w : World) (hamb : Amb w) (hn : 18446744073709551616 ≤ n) (hd : Lib.nDigits n ≤ 1000000) :
    Calls Tryz.prog 60 #[.string (dec n)] w (SmallRes (.int .i64 ((bitsN n : Nat) : Int)) w) := by
  have hll := lims_len_nd n 1000000 hd (by omega)
  have HN := Lib.hid hn
  clear hn
  go_enter Tryz.func60, Tryz.ntmps60
  go_wp2_with fail
  refine (small_no n _ hamb HN.out (by omega)).mono ?_
  rintro e w1 ⟨rfl, hb1⟩
  go_wp2_with fail
  refine (cut_dec n _ (by omega)).mono ?_
  rintro e w2 ⟨gp, capp, rfl, hgp, hpp, hb2⟩
  have hB2 := bel_chain hb1 hb2
  have hs2 := hB2.size
  have hplt := hpp.lt
  clear hb1 hb2
  have HL := Lib.hid hpp.len
  generalize hnl : (lims n).length = L at *
  have HNL := Lib.hid hnl
  clear hnl
  go_wp2_with fail
  go_loopw [5, 7] (fun vo vi wr => ∃ i : Nat, i ≤ L ∧ vi = .int .i64 ((i : Int) - 1) ∧ BitsRel n i vo w2 wr) (fun _ vi _ => (intOf vi + 1).toNat)
  case atStart =>
    refine ⟨L, Nat.le_refl _, rfl, Below.refl _ _, [], .inl ⟨rfl, rfl⟩, ⟨?_, (fun x hx => by cases hx), fun h => absurd rfl h⟩, by rw [HNL.out]; simp⟩
    rw [List.drop_of_length_le (by rw [HNL.out]; omega)]; rfl
  case round =>
    obtain ⟨i, hi, rfl, hB, xs, hown, hat, hxl⟩ := hrel
    rw [HNL.out] at hxl
    have HAT := Lib.hid hat
    clear hat
    obtain ⟨wo, rfl⟩ : ∃ wo : World, wo = wr := ⟨_, rfl⟩
    have hBs := hB.size
    by_cases hi0 : i = 0
    · subst hi0
      have hn0 : xs ≠ [] := by
        intro e
        have h1 := HAT.out.sum
        rw [e, List.drop_zero, lv_lims] at h1
        have := HN.out
        simp [bv] at h1; omega
      rcases hown with ⟨_, e⟩ | ⟨g, cap, rfl, hg, hp⟩
      · exact absurd e hn0
      have hf := HAT.out.fin hn0
      rw [List.drop_zero, lv_lims] at hf
      have hxp : 0 < xs.length := List.length_pos_iff.2 hn0
      have hc := hp.cell (xs.length - 1) (by omega)
      have hLen := Tryz.bits_Len64 ((xs.getD (xs.length - 1) 0 : Nat) : Int) wo (by omega) (by have := hf.2; omega)
      rw [Int.toNat_natCast, bitLen_eq _ (by have := hf.2; omega)] at hLen
      have hbb : bitsN (xs.getD (xs.length - 1) 0) ≤ 32 := by
        have h1 := bitsN_mono (Nat.le_of_lt_succ (Nat.lt_succ_of_lt hf.2))
        have h2 : bitsN 4294967295 = 32 := bitsN_unique _ 31 (by decide) (by decide)
        have h3 := bitsN_mono (show xs.getD (xs.length - 1) 0 ≤ 4294967295 by have := hf.2; omega)
        omega
      have HF := Lib.hid hf
      have HLEN := Lib.hid hLen
      have hcl := hp.cap_le
      have hle := hp.le
      clear hf hLen hn0
      generalize xs.getD (xs.length - 1) 0 = top at *
      generalize bitsN top = bt at *
      have HXL := Lib.hid (show xs.length = xs.length from rfl)
      generalize xs.length = xl at *
      go_wp2_with fail
      refine HLEN.out.mono ?_
      rintro e w5 ⟨rfl, rfl⟩
      go_wp2_with fail
      go_ret
      refine ⟨ret_int ?_, bel_chain hB2 hB⟩
      rw [HF.out.1]; omega
    · obtain ⟨j, rfl⟩ : ∃ j, i = j + 1 := ⟨i - 1, by omega⟩
      have ec : ((j + 1 : Nat) : Int) - 1 = (j : Int) := by omega
      rw [ec]
      clear ec hi0
      have hcj := (hpp.below hB hplt).cell j (by omega)
      have hpj := Lims_getD (Lims_lims n) j
      have hdr := lv_drop_pred (lims n) j (by rw [HNL.out]; omega)
      have HDR := Lib.hid hdr
      clear hdr
      generalize (lims n).getD j 0 = p0 at *
      rcases hown with ⟨rfl, rfl⟩ | ⟨g, cap, rfl, hg, hp⟩
      · -- nothing yet
        have hm := MulAt.start (xs := []) (p0 := p0) (fun x hx => by cases hx) (by omega)
        have HM := Lib.hid hm
        clear hm
        go_wp2_with fail
        refine wp_loop_rounds 1 ?_
        rw [rounds_succ]
        by_cases hp0 : p0 = 0
        · subst hp0
          go_wp2_with fail
          go_roundw
          case rel =>
            refine ⟨j, by omega, rfl, hB, [], .inl ⟨rfl, rfl⟩, ?_, by rw [HNL.out]; simp; omega⟩
            have h1 := HAT.out.same HM.out
            rw [HDR.out, Nat.mul_comm 1000000000, Nat.add_comm]; exact h1
          case measure => simp [intOf]
        · have hpp0 : 0 < p0 := by omega
          have hone := Pc.one wo p0
          go_wp2_with (at_builtin; refine append_nil_Pc rfl _ _ 74 rfl Tryz.underlying74 rfl wo.heap.size 1 1 [p0] rfl hone (by omega) (by omega) ?_; intro cap4 w4 hq4 hb4)
          go_roundw
          case rel =>
            refine ⟨j, by omega, rfl, (hB.alloc hBs _).trans (hb4.mono (by rw [World.size_alloc]; omega)), [p0], .inr ⟨_, cap4, rfl, by omega, by rw [World.size_alloc] at hq4; exact hq4⟩, ?_, by rw [HNL.out]; simp; omega⟩
            have h1 := HAT.out.more HM.out hpp0
            rw [HDR.out, Nat.mul_comm 1000000000, Nat.add_comm]; exact h1
          case measure => simp [intOf]
      · have hm := MulAt.start (p0 := p0) HAT.out.lims (by omega)
        have HM := Lib.hid hm
        have hcl := hp.cap_le
        have hle := hp.le
        have hxlen := hp.len
        clear hm hxlen
        generalize hxn : xs.length = xn at *
        have HXN := Lib.hid hxn
        clear hxn
        go_wp2_with fail
        go_loopw [8, 33] (fun vc vk wr => ∃ k c : Nat, k ≤ xn ∧ c ≤ 1000000000 ∧ vk = .int .i64 (k : Int) ∧ vc = .int .u64 (c : Int) ∧ BitsIn p0 k c g xn cap xs w2 wr) (fun _ vk _ => xn - (intOf vk).toNat)
        case atStart => exact ⟨0, p0, by omega, by omega, rfl, rfl, hB, xs, HM.out, hp⟩
        case round =>
          obtain ⟨k, c, hk, hc, rfl, rfl, hB4, zs, hMz, hPz⟩ := hrel
          have hB4s := hB4.size
          by_cases hkn : k = xn
          · subst hkn
            have hzl := hPz.len
            have HMZ := Lib.hid hMz
            have HZL := Lib.hid hzl
            clear hMz hzl
            by_cases hc0 : c = 0
            · subst hc0
              go_wp2_with fail
              go_roundw
              case rel =>
                have h1 := HMZ.out
                rw [← HXN.out] at h1
                refine ⟨j, by omega, rfl, hB4, zs, .inr ⟨g, cap, by rw [HZL.out], hg, by rw [HZL.out]; exact hPz⟩, ?_, by rw [HNL.out, HZL.out]; omega⟩
                rw [HDR.out, Nat.mul_comm 1000000000, Nat.add_comm]; exact HAT.out.same h1
              case measure => simp [intOf]
            · have hcp : 0 < c := by omega
              have hone := Pc.one wr c
              have hal := hPz.alloc (.cells #[.int .u64 (c : Int)] 70)
              go_wp2_with (at_builtin; refine append_Pc rfl _ _ 74 rfl Tryz.underlying74 g k cap zs rfl hal wr.heap.size 1 1 [c] rfl hone (by omega) ?_; intro g6 cap6 w6 hq6 hon6 hat6)
              go_roundw
              case rel =>
                have h1 := HMZ.out
                rw [← HXN.out] at h1
                have hl6 : (zs ++ [c]).length = k + 1 := by rw [List.length_append, List.length_singleton, HZL.out]
                have hs6 : (wr.alloc (.cells #[.int .u64 (c : Int)] 70)).heap.size = wr.heap.size + 1 := by simp
                refine ⟨j, by omega, rfl, bel_only (hB4.alloc hB4s _) hon6 hg (by omega), zs ++ [c], .inr ⟨g6, cap6, by rw [hl6], by rcases hat6 with h | h <;> omega, by rw [hl6]; exact hq6⟩, ?_, by rw [HNL.out, hl6]; omega⟩
                rw [HDR.out, Nat.mul_comm 1000000000, Nat.add_comm]; exact HAT.out.more h1 hcp
              case measure => simp [intOf]
          · have hkn' : k < xn := by omega
            have hck := hPz.cell k hkn'
            have hfr := hPz.free k
            have hzL := L32_getD hMz.lims k
            have HS := Lib.hid (hMz.step (by rw [HXN.out]; exact hkn'))
            have HSet := Lib.hid (fun v => hPz.set k v)
            have hcarry := (hMz.step (by rw [HXN.out]; exact hkn')).carry
            have HCY := Lib.hid hcarry
            clear hMz hPz hcarry
            generalize zs.getD k 0 = z at *
            have hand : bits .and .u64 ((c : Int) + (z : Int) * 1000000000) 4294967295 = (((c + z * 1000000000) % 4294967296 : Nat) : Int) := by
              have h1 := u64_and_nat (c + z * 1000000000) 4294967295 (by omega) (by decide)
              rw [show (4294967295 : Nat) = 2 ^ 32 - 1 from rfl, Nat.and_two_pow_sub_one_eq_mod] at h1
              rw [show ((c : Int) + (z : Int) * 1000000000) = ((c + z * 1000000000 : Nat) : Int) by omega]
              exact h1
            have HAND := Lib.hid hand
            have HZ := Lib.hid (show ((c + z * 1000000000) % 4294967296) < 4294967296 from Nat.mod_lt _ (by decide))
            obtain ⟨t, ht⟩ : ∃ t, (c + z * 1000000000) % 4294967296 = t := ⟨_, rfl⟩
            rw [ht] at hand HS
            clear HAND HZ ht
            go_wp2_with fail
            refine ⟨⟨k + 1, (c + z * 1000000000) / 4294967296, by omega, HCY.out, by go_num, by congr 1, hB4.setCell hg _, _, HS.out, HSet.out t⟩, by simp [intOf]; omega⟩
set_option maxRecDepth 100000 in
/-- decimal.Bits. -/
theorem bits_any (n : Nat) (w : World) (hamb : Amb w) (hd : Lib.nDigits n ≤ 1000000) :
    Calls Tryz.prog 60 #[.string (dec n)] w (SmallRes (.int .i64 ((bitsN n : Nat) : Int)) w) := by
  by_cases hn : n < 18446744073709551616
  · have hLen := fun wo => Tryz.bits_Len64 (n : Int) wo (by omega) (by omega)
    have HB := Lib.hid (show (Lib.bitLen ((n : Int).toNat) : Int) = ((bitsN n : Nat) : Int) by rw [Int.toNat_natCast, bitLen_eq n hn])
    have HLEN := Lib.hid hLen
    clear hLen
    go_enter Tryz.func60, Tryz.ntmps60
    go_wp2_with fail
    refine (small_yes n _ hn).mono ?_
    rintro e w1 ⟨rfl, hb1⟩
    go_wp2_with fail
    refine (HLEN.out _).mono ?_
    rintro e w2 ⟨rfl, rfl⟩
    rw [HB.out]
    go_wp2_with fail
    go_ret
    exact ⟨rfl, hb1⟩
  · exact bits_big n w hamb (by omega) hd
end
section
open Go.RowKit

theorem dec_one_test {a : Nat} (h : a ≠ 1) : ((dec a).toList == [49]) = false := by
  rw [dec_toList, beq_eq_false_iff_ne]
  intro e
  have : Lib.decDigits a = Lib.decDigits 1 := by rw [e, dd_small (by omega)]; rfl
  exact h (dd_inj this)
theorem dec_one_same : ((dec 1).toList == [49]) = true := by rw [dec_toList, dd_small (by omega)]; rfl
theorem dec1 : dec 1 = ⟨#[49]⟩ := by unfold dec; rw [dd_small (by omega)]; rfl
theorem i64_and_one (m : Nat) (h : m ≤ 9223372036854775807) : bits .and .i64 (m : Int) 1 = ((m % 2 : Nat) : Int) := by
  have e1 : (BitVec.ofInt 64 (m : Int)).toNat = m := by rw [BitVec.ofInt_natCast, BitVec.toNat_ofNat]; exact Nat.mod_eq_of_lt (by omega)
  have e2 : (BitVec.ofInt 64 (1 : Int)).toNat = 1 := by decide
  show IntKind.i64.wrap ((BitVec.ofInt 64 (m : Int) &&& BitVec.ofInt 64 (1 : Int)).toNat : Int) = _
  rw [BitVec.toNat_and, e1, e2, Nat.and_one_is_mod, IntKind.wrap_i64]
  omega
theorem big_pow (K : Nat) (h : K = 66440) : 10 ^ (19999 + 1) ≤ 2 ^ K := by subst h; decide +kernel
/-- What Power hands back for a number greater than 1 and an exponent greater than 0. -/
def PowRes (a n : Nat) : Value := if Lib.nDigits (a ^ n) ≤ 20000 then .tuple #[.string (dec (a ^ n)), .int .i64 0] else .tuple #[.string ⟨#[]⟩, .int .i64 4]
theorem pow_two_le {a : Nat} (ha : a ≠ 0) (n : Nat) : 2 ^ ((bitsN a - 1) * n) ≤ a ^ n := by
  rw [Nat.pow_mul]; exact Nat.pow_le_pow_left (bitsN_ge a ha) n
theorem pow_no {a n : Nat} (ha : a ≠ 0) (h : 66440 ≤ (bitsN a - 1) * n) : ¬ Lib.nDigits (a ^ n) ≤ 20000 := by
  intro h1
  have h2 := (nd_le_iff (a ^ n) 19999).1 h1
  have h3 := pow_two_le ha n
  obtain ⟨K, hK⟩ : ∃ K, K = 66440 := ⟨_, rfl⟩
  rw [← hK] at h
  have h4 : 2 ^ K ≤ 2 ^ ((bitsN a - 1) * n) := Nat.pow_le_pow_right (by decide) h
  have h5 := big_pow K hK
  exact absurd h2 (Nat.not_lt.2 (Nat.le_trans h5 (Nat.le_trans h4 h3)))
theorem pow_len {a n k : Nat} (ha : 2 ≤ a) (hk : k = bitsN a - 1) (hn : n * k ≤ 66439) (hn0 : 0 < n) : (lims (a ^ n)).length ≤ 66439 := by
  have h1 := bitsN_lt a
  have hb : 1 ≤ k := by
    have : 2 ≤ bitsN a := by
      have h3 := bitsN_mono ha
      have h2 : bitsN 2 = 2 := bitsN_unique _ 1 (by decide) (by decide)
      omega
    omega
  rw [lims_len_le]
  have h2 : a ^ n < (2 ^ bitsN a) ^ n := Nat.pow_lt_pow_left h1 (by omega)
  rw [← Nat.pow_mul] at h2
  obtain ⟨K, hK⟩ : ∃ K, 66439 = K := ⟨_, rfl⟩
  rw [hK] at hn ⊢
  have h3 : 2 ^ (bitsN a * n) ≤ 2 ^ (2 * K) := Nat.pow_le_pow_right (by decide) (by
    have : bitsN a = k + 1 := by omega
    rw [this, Nat.add_mul, Nat.one_mul, Nat.mul_comm k]
    have := Nat.le_mul_of_pos_right n hb
    omega)
  have h4 : (2 : Nat) ^ (2 * K) ≤ 1000000000 ^ K := by rw [Nat.pow_mul]; exact Nat.pow_le_pow_left (by decide) _
  exact Nat.lt_of_lt_of_le h2 (Nat.le_trans h3 h4)
/-- What holds at the beginning of a round: o p^m is the power. -/
structure PowAt (a n m o p : Nat) : Prop where
  prod : o * p ^ m = a ^ n
  pos : 0 < o
  pos' : 0 < p
theorem PowAt.o_le {a n m o p : Nat} (h : PowAt a n m o p) : o ≤ a ^ n := by
  rw [← h.prod]; exact Nat.le_mul_of_pos_right o (Nat.pow_pos h.pos')
theorem PowAt.p_le {a n m o p : Nat} (h : PowAt a n m o p) (k : Nat) (hk : k ≤ m) : p ^ k ≤ a ^ n := by
  rw [← h.prod]
  exact Nat.le_trans (Nat.pow_le_pow_right h.pos' hk) (Nat.le_mul_of_pos_left _ h.pos)
theorem PowAt.even {a n m o p : Nat} (h : PowAt a n m o p) (hm : m % 2 = 0) : PowAt a n (m / 2) o (p * p) := by
  refine ⟨?_, h.pos, Nat.mul_pos h.pos' h.pos'⟩
  rw [← h.prod, show p * p = p ^ 2 from (Nat.pow_two p).symm, ← Nat.pow_mul, show 2 * (m / 2) = m by omega]
theorem PowAt.odd {a n m o p : Nat} (h : PowAt a n m o p) (hm : m % 2 = 1) : PowAt a n (m / 2) (o * p) (p * p) := by
  refine ⟨?_, Nat.mul_pos h.pos h.pos', Nat.mul_pos h.pos' h.pos'⟩
  rw [← h.prod, show p * p = p ^ 2 from (Nat.pow_two p).symm, ← Nat.pow_mul]
  have e : p ^ m = p * p ^ (2 * (m / 2)) := by rw [← Nat.pow_succ']; congr 1; omega
  rw [e, Nat.mul_assoc]
theorem PowAt.one {a n o p : Nat} (h : PowAt a n 1 o p) : PowAt a n 0 (o * p) p := by
  refine ⟨?_, Nat.mul_pos h.pos h.pos', h.pos'⟩
  rw [← h.prod, Nat.pow_zero, Nat.mul_one, Nat.pow_one]
def PowRel (a n m : Nat) (vo vp : Value) (w wr : World) : Prop :=
  Below w.heap.size w wr ∧ ∃ (o p go_ co lo gp cp lp : Nat), PowAt a n m o p ∧ (lims o).length = lo ∧ (lims p).length = lp ∧ vo = .slice (some ⟨go_, 0, none⟩) lo co ∧ vp = .slice (some ⟨gp, 0, none⟩) lp cp ∧ Pc wr go_ lo co (lims o) ∧ Pc wr gp lp cp (lims p)

set_option maxRecDepth 100000 in
set_option maxHeartbeats 1000000 in
theorem power_neg (a : Nat) (n : Int) (hn : n < 0) (w : World) :
    Calls Tryz.prog 38 #[.string (dec a), .int .i64 n] w (SmallRes (.tuple #[.string ⟨#[]⟩, .int .i64 3]) w) := by
  go_enter Tryz.func38, Tryz.ntmps38
  go_wp2_with fail
  go_ret2
  exact ⟨rfl, Below.refl _ _⟩
set_option maxRecDepth 100000 in
theorem power_zero (a : Nat) (w : World) :
    Calls Tryz.prog 38 #[.string (dec a), .int .i64 0] w (SmallRes (.tuple #[.string (dec 1), .int .i64 0]) w) := by
  go_enter Tryz.func38, Tryz.ntmps38
  go_wp2_with fail
  go_ret2
  exact ⟨by rw [dec1]; rfl, Below.refl _ _⟩
set_option maxRecDepth 100000 in
theorem power_of_one (n : Int) (hn : 0 < n) (w : World) :
    Calls Tryz.prog 38 #[.string (dec 1), .int .i64 n] w (SmallRes (.tuple #[.string (dec 1), .int .i64 0]) w) := by
  have h1 := dec_one_same
  have h0 : (n == 0) = false := by simp; omega
  go_enter Tryz.func38, Tryz.ntmps38
  go_wp2_with fail
  go_ret2
  exact ⟨by rw [dec1]; rfl, Below.refl _ _⟩
set_option maxRecDepth 100000 in
theorem power_of_zero (n : Int) (hn : 0 < n) (w : World) :
    Calls Tryz.prog 38 #[.string (dec 0), .int .i64 n] w (SmallRes (.tuple #[.string (dec 0), .int .i64 0]) w) := by
  have h1 := dec_one_test (a := 0) (by omega)
  have h2 := dec_zero_same
  have h0 : (n == 0) = false := by simp; omega
  go_enter Tryz.func38, Tryz.ntmps38
  go_wp2_with fail
  go_ret2
  exact ⟨by rw [dec0]; rfl, Below.refl _ _⟩

set_option maxRecDepth 100000 in
set_option maxHeartbeats 1000000 in
/-- decimal.Power of a number greater than 1, with an exponent greater than 0. -/
theorem power_any (a n : Nat) (w : World) (hamb : Amb w) (ha : 2 ≤ a) (hd : Lib.nDigits a ≤ 1000000) (hn : 0 < n) (hn64 : n ≤ 9223372036854775807) :
    Calls Tryz.prog 38 #[.string (dec a), .int .i64 (n : Int)] w (SmallRes (PowRes a n) w) := by
  have h1 := dec_one_test (a := a) (by omega)
  have h2 := dec_zero_test (b := a) (by omega)
  have h0 : ((n : Int) == 0) = false := by simp; omega
  have hb2 : 2 ≤ bitsN a := by
    have h3 := bitsN_mono ha
    have h2 : bitsN 2 = 2 := bitsN_unique _ 1 (by decide) (by decide)
    omega
  have hb3 : bitsN a ≤ 100000000 := by
    have h4 := bitsN_ge a (by omega)
    have h5 := (nd_le_iff a 999999).1 hd
    rcases Nat.lt_or_ge 100000000 (bitsN a) with h6 | h6
    · exfalso
      obtain ⟨K, hK⟩ : ∃ K, 999999 + 1 = K := ⟨_, rfl⟩
      rw [hK] at h5
      have h7 : (10 : Nat) ^ K ≤ (2 ^ 4) ^ K := Nat.pow_le_pow_left (by decide) K
      rw [← Nat.pow_mul] at h7
      have h8 : (2 : Nat) ^ (4 * K) ≤ 2 ^ (bitsN a - 1) := Nat.pow_le_pow_right (by decide) (by omega)
      omega
    · exact h6
  obtain ⟨k, hk⟩ : ∃ k, bitsN a = k + 1 := ⟨bitsN a - 1, by omega⟩
  have hk1 : 1 ≤ k := by omega
  have HK := Lib.hid hk
  have hbits := bits_any a w hamb hd
  rw [hk] at hbits hb3
  have hk3 : ((k + 1 : Nat) : Int) = (k : Int) + 1 := by omega
  rw [hk3] at hbits
  have HB := Lib.hid hbits
  clear hbits hk hb2 hk3
  by_cases hbig : 66439 / k < n
  · have hno := pow_no (a := a) (n := n) (by omega) (by
      rw [HK.out, Nat.add_sub_cancel, Nat.mul_comm]
      have := Nat.lt_mul_of_div_lt hbig (by omega)
      omega)
    have HNO := Lib.hid hno
    have hdi : (66439 : Int) / (k : Int) < (n : Int) := by
      have : ((66439 / k : Nat) : Int) < (n : Int) := by omega
      rwa [Int.natCast_ediv] at this
    clear hno hbig
    go_enter Tryz.func38, Tryz.ntmps38
    go_wp2_with fail
    refine HB.out.mono ?_
    rintro e w1 ⟨rfl, hb1⟩
    go_wp2_with fail
    go_ret2
    exact ⟨by unfold PowRes; rw [if_neg HNO.out]; rfl, hb1⟩
  · have hmul : n * k ≤ 66439 := by
      have h4 : n ≤ 66439 / k := by omega
      have h5 := Nat.mul_le_mul_right k h4
      have h6 := Nat.div_mul_le_self 66439 k
      omega
    have hlen := pow_len ha (k := k) (by rw [HK.out]; omega) hmul hn
    have HLEN := Lib.hid hlen
    have hdi : ¬ (66439 : Int) / (k : Int) < (n : Int) := by
      have : ¬ ((66439 / k : Nat) : Int) < (n : Int) := by omega
      rwa [Int.natCast_ediv] at this
    have hdd : decide ((66439 : Int) / (k : Int) < (n : Int)) = false := decide_eq_false hdi
    have hlle : ∀ x, x ≤ a ^ n → (lims x).length ≤ 66439 := fun x hx => Nat.le_trans (lims_len_mono hx) HLEN.out
    have HLLE := Lib.hid hlle
    have hal : (lims a).length ≤ 66439 := hlle a (by
      have := Nat.pow_le_pow_right (show 0 < a by omega) hn
      simpa using this)
    clear hlen hmul hbig hlle
    go_enter Tryz.func38, Tryz.ntmps38
    go_wp2_with fail
    refine HB.out.mono ?_
    rintro e w1 ⟨rfl, hb1⟩
    have hA1 := hamb.below hb1
    have hone := Pc.one w1 1
    have hl1 : lims 1 = [1] := by rw [lims_pos (by omega), show 1 / 1000000000 = 0 by omega, lims_zero]
    rw [← hl1] at hone
    have HL1 := Lib.hid hl1
    clear hl1
    go_wp2_with fail
    refine (cut_dec a _ (by omega)).mono ?_
    rintro e w2 ⟨gp, capp, rfl, hgp, hpp, hb2⟩
    have hB2 : Below w.heap.size w w2 := (hb1.alloc hb1.size _).trans (hb2.mono (by rw [World.size_alloc]; have := hb1.size; omega))
    have hone2 := hone.below hb2 hone.lt
    have hA2 := hamb.below hB2
    clear hb1 hb2 hone hgp
    generalize hla : (lims a).length = la at *
    have HLA := Lib.hid hla
    clear hla
    have hstart : PowAt a n n 1 a := ⟨Nat.one_mul _, by omega, by omega⟩
    have HST := Lib.hid hstart
    clear hstart
    go_wp2_with fail
    go_loopw [1, 7, 8] (fun vm vo vp wr => ∃ m : Nat, m ≤ n ∧ vm = .int .i64 (m : Int) ∧ PowRel a n m vo vp w2 wr) (fun vm _ _ _ => (intOf vm).toNat)
    case atStart => exact ⟨n, Nat.le_refl _, rfl, Below.refl _ _, 1, a, _, 1, 1, gp, capp, la, HST.out, by rw [HL1.out]; rfl, HLA.out, rfl, rfl, hone2, hpp⟩
    case round =>
      obtain ⟨m, hm, rfl, hB, o, p, go_, co, lo, gp2, cp, lp, hP, hlo, hlp, rfl, rfl, hPo, hPp⟩ := hrel
      have hlo2 := HLLE.out o hP.o_le
      rw [hlo] at hlo2
      have HLO := Lib.hid hlo
      have HLP := Lib.hid hlp
      clear hlo hlp
      have HP := Lib.hid hP
      clear hP
      by_cases hm0 : m = 0
      · subst hm0
        have hov : o = a ^ n := by have := HP.out.prod; rwa [Nat.pow_zero, Nat.mul_one] at this
        have HOV := Lib.hid hov
        clear hov
        go_wp2_with fail
        refine (text_any _ _ _ o _ hPo (by omega)).mono ?_
        rintro e w5 ⟨rfl, hb5⟩
        have hsz : (dec o).size = Lib.nDigits (a ^ n) := by rw [dec_size, HOV.out]
        have hszb : (dec o).size ≤ 9 * 66439 + 9 := by
          rw [hsz]
          have h4 := (lims_len_le (a ^ n) 66439).1 (HLLE.out _ (Nat.le_refl _))
          obtain ⟨K, hK⟩ : ∃ K, 66439 = K := ⟨_, rfl⟩
          rw [hK] at h4 ⊢
          rw [show (1000000000 : Nat) = 10 ^ 9 from rfl, ← Nat.pow_mul] at h4
          have h5 := (nd_le_iff (a ^ n) (9 * K)).2 (by rw [Nat.pow_succ]; omega)
          omega
        have HSZ := Lib.hid hsz
        clear hsz
        by_cases h20 : (dec o).size ≤ 20000
        · go_wp2_with fail
          go_ret2
          refine ⟨?_, bel_chain (bel_chain hB2 hB) hb5⟩
          unfold PowRes
          rw [if_pos (by rw [← HSZ.out]; exact h20), ← HOV.out]; rfl
        · go_wp2_with fail
          go_ret2
          refine ⟨?_, bel_chain (bel_chain hB2 hB) hb5⟩
          unfold PowRes
          rw [if_neg (by rw [← HSZ.out]; exact h20)]; rfl
      · have hlp2 : lp ≤ 66439 := by
          have := HLLE.out p (by have := HP.out.p_le 1 (by omega); rwa [Nat.pow_one] at this)
          rw [HLP.out] at this; exact this
        have hand := i64_and_one m (by omega)
        have hlp3 : 1 < m → (lims (p * p)).length ≤ 66439 := fun h => HLLE.out _ (by have := HP.out.p_le 2 (by omega); rwa [Nat.pow_two] at this)
        have HLP3 := Lib.hid hlp3
        clear hlp3
        by_cases hodd : m % 2 = 1
        · rw [hodd] at hand
          have HODD := Lib.hid hodd
          clear hodd
          by_cases hm1 : m = 1
          · subst hm1
            go_wp2_with fail
            refine (times_any _ _ _ _ _ _ _ _ _ hPo hPp (Lims_lims o) (Lims_lims p) (by omega)).mono ?_
            rintro e w4 ⟨g4, cap4, rfl, hg4, hp4, hb4⟩
            rw [lv_lims, lv_lims] at hp4 ⊢
            have hPp4 := hPp.below hb4 hPp.lt
            go_wp2_with fail
            go_roundw
            case rel => exact ⟨0, by omega, by go_num, bel_chain hB hb4, o * p, p, g4, cap4, _, gp2, cp, lp, HP.out.one, rfl, HLP.out, rfl, rfl, hp4, hPp4⟩
            case measure => simp [intOf]
          · have hm2 : 1 < m := by omega
            go_wp2_with fail
            refine (times_any _ _ _ _ _ _ _ _ _ hPo hPp (Lims_lims o) (Lims_lims p) (by omega)).mono ?_
            rintro e w4 ⟨g4, cap4, rfl, hg4, hp4, hb4⟩
            rw [lv_lims, lv_lims] at hp4 ⊢
            have hPp4 := hPp.below hb4 hPp.lt
            go_wp2_with fail
            refine (times_any _ _ _ _ _ _ _ _ _ hPp4 hPp4 (Lims_lims p) (Lims_lims p) (by omega)).mono ?_
            rintro e w5 ⟨g5, cap5, rfl, hg5, hp5, hb5⟩
            rw [lv_lims] at hp5 ⊢
            have hp45 := hp4.below hb5 hp4.lt
            go_wp2_with fail
            go_roundw
            case rel => exact ⟨m / 2, by omega, by go_num, bel_chain (bel_chain hB hb4) hb5, o * p, p * p, g4, cap4, _, g5, cap5, _, HP.out.odd HODD.out, rfl, rfl, rfl, rfl, hp45, hp5⟩
            case measure => simp [intOf]; omega
        · have hev : m % 2 = 0 := by omega
          rw [hev] at hand
          have HEV := Lib.hid hev
          have hm2 : 1 < m := by omega
          clear hodd hev
          go_wp2_with fail
          refine (times_any _ _ _ _ _ _ _ _ _ hPp hPp (Lims_lims p) (Lims_lims p) (by omega)).mono ?_
          rintro e w5 ⟨g5, cap5, rfl, hg5, hp5, hb5⟩
          rw [lv_lims] at hp5 ⊢
          have hPo5 := hPo.below hb5 hPo.lt
          go_wp2_with fail
          go_roundw
          case rel => exact ⟨m / 2, by omega, by go_num, bel_chain hB hb5, o, p * p, go_, co, lo, g5, cap5, _, HP.out.even HEV.out, HLO.out, rfl, rfl, rfl, hPo5, hp5⟩
          case measure => simp [intOf]; omega
end
end Go.Proofs.YtebcmefbpfcgmaaGreatDoor
