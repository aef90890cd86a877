/- The walk of Bits: for any number of at most 1000000 digits. -/
import Derived.Test.YtojgfpoinbblhaaDoorDec5
import Derived.Test.YtojgfpoinbblhaaDoorBitsP
import Derived.Test.YtojgfpoinbblhaaDoorNil
namespace Go.Proofs.YtojgfpoinbblhaaDoor
open Go.RowKit

/-- A slice of uint64 that is nil or the call's own. -/
def OwnV (w0 w : World) (v : Value) (xs : List Nat) : Prop := (v = .slice none 0 0 ∧ xs = []) ∨ ∃ g cap, v = .slice (some ⟨g, 0, none⟩) xs.length cap ∧ w0.heap.size ≤ g ∧ Pc w g xs.length cap xs
def BitsRel (n i : Nat) (vo : Value) (w wr : World) : Prop := Below w.heap.size w wr ∧ ∃ xs, OwnV w wr vo xs ∧ BitAt (lv ((lims n).drop i)) xs ∧ xs.length + i ≤ (lims n).length
def BitsIn (p0 k c g n cap : Nat) (xs : List Nat) (w wr : World) : Prop := Below w.heap.size w wr ∧ ∃ zs, MulAt xs p0 k c zs ∧ Pc wr g n cap zs

set_option maxRecDepth 100000 in
set_option maxHeartbeats 1000000 in
theorem bits_big (n : Nat) (w : World) (hamb : Amb w) (hn : 18446744073709551616 ≤ n) (hd : Lib.nDigits n ≤ 1000000) :
    Calls Tryd.prog 31 #[.string (dec n)] w (SmallRes (.int .i64 ((bitsN n : Nat) : Int)) w) := by
  have hll := lims_len_nd n 1000000 hd (by omega)
  have HN := Lib.hid hn
  clear hn
  go_enter Tryd.func31, Tryd.ntmps31
  go_wp2_with fail
  refine (small_no n _ hamb HN.out (by omega)).mono ?_
  rintro e w1 ⟨rfl, hb1⟩
  go_wp2_with fail
  refine (cut_dec n _ (by omega)).mono ?_
  rintro e w2 ⟨gp, capp, rfl, hgp, hpp, hb2⟩
  have hB2 := bel_chain hb1 hb2
  have hs2 := hB2.size
  have hplt := hpp.lt
  clear hb1 hb2
  have HL := Lib.hid hpp.len
  generalize hnl : (lims n).length = L at *
  have HNL := Lib.hid hnl
  clear hnl
  go_wp2_with fail
  go_loopw [5, 7] (fun vo vi wr => ∃ i : Nat, i ≤ L ∧ vi = .int .i64 ((i : Int) - 1) ∧ BitsRel n i vo w2 wr) (fun _ vi _ => (intOf vi + 1).toNat)
  case atStart =>
    refine ⟨L, Nat.le_refl _, rfl, Below.refl _ _, [], .inl ⟨rfl, rfl⟩, ⟨?_, (fun x hx => by cases hx), fun h => absurd rfl h⟩, by rw [HNL.out]; simp⟩
    rw [List.drop_of_length_le (by rw [HNL.out]; omega)]; rfl
  case round =>
    obtain ⟨i, hi, rfl, hB, xs, hown, hat, hxl⟩ := hrel
    rw [HNL.out] at hxl
    have HAT := Lib.hid hat
    clear hat
    obtain ⟨wo, rfl⟩ : ∃ wo : World, wo = wr := ⟨_, rfl⟩
    have hBs := hB.size
    by_cases hi0 : i = 0
    · subst hi0
      have hn0 : xs ≠ [] := by
        intro e
        have h1 := HAT.out.sum
        rw [e, List.drop_zero, lv_lims] at h1
        have := HN.out
        simp [bv] at h1; omega
      rcases hown with ⟨_, e⟩ | ⟨g, cap, rfl, hg, hp⟩
      · exact absurd e hn0
      have hf := HAT.out.fin hn0
      rw [List.drop_zero, lv_lims] at hf
      have hxp : 0 < xs.length := List.length_pos_iff.2 hn0
      have hc := hp.cell (xs.length - 1) (by omega)
      have hLen := Tryd.bits_Len64 ((xs.getD (xs.length - 1) 0 : Nat) : Int) wo (by omega) (by have := hf.2; omega)
      rw [Int.toNat_natCast, bitLen_eq _ (by have := hf.2; omega)] at hLen
      have hbb : bitsN (xs.getD (xs.length - 1) 0) ≤ 32 := by
        have h1 := bitsN_mono (Nat.le_of_lt_succ (Nat.lt_succ_of_lt hf.2))
        have h2 : bitsN 4294967295 = 32 := bitsN_unique _ 31 (by decide) (by decide)
        have h3 := bitsN_mono (show xs.getD (xs.length - 1) 0 ≤ 4294967295 by have := hf.2; omega)
        omega
      have HF := Lib.hid hf
      have HLEN := Lib.hid hLen
      have hcl := hp.cap_le
      have hle := hp.le
      clear hf hLen hn0
      generalize xs.getD (xs.length - 1) 0 = top at *
      generalize bitsN top = bt at *
      have HXL := Lib.hid (show xs.length = xs.length from rfl)
      generalize xs.length = xl at *
      go_wp2_with fail
      refine HLEN.out.mono ?_
      rintro e w5 ⟨rfl, rfl⟩
      go_wp2_with fail
      go_ret
      refine ⟨ret_int ?_, bel_chain hB2 hB⟩
      rw [HF.out.1]; omega
    · obtain ⟨j, rfl⟩ : ∃ j, i = j + 1 := ⟨i - 1, by omega⟩
      have ec : ((j + 1 : Nat) : Int) - 1 = (j : Int) := by omega
      rw [ec]
      clear ec hi0
      have hcj := (hpp.below hB hplt).cell j (by omega)
      have hpj := Lims_getD (Lims_lims n) j
      have hdr := lv_drop_pred (lims n) j (by rw [HNL.out]; omega)
      have HDR := Lib.hid hdr
      clear hdr
      generalize (lims n).getD j 0 = p0 at *
      rcases hown with ⟨rfl, rfl⟩ | ⟨g, cap, rfl, hg, hp⟩
      · -- nothing yet
        have hm := MulAt.start (xs := []) (p0 := p0) (fun x hx => by cases hx) (by omega)
        have HM := Lib.hid hm
        clear hm
        go_wp2_with fail
        refine wp_loop_rounds 1 ?_
        rw [rounds_succ]
        by_cases hp0 : p0 = 0
        · subst hp0
          go_wp2_with fail
          go_roundw
          case rel =>
            refine ⟨j, by omega, rfl, hB, [], .inl ⟨rfl, rfl⟩, ?_, by rw [HNL.out]; simp; omega⟩
            have h1 := HAT.out.same HM.out
            rw [HDR.out, Nat.mul_comm 1000000000, Nat.add_comm]; exact h1
          case measure => simp [intOf]
        · have hpp0 : 0 < p0 := by omega
          have hone := Pc.one wo p0
          go_wp2_with (at_builtin; refine append_nil_Pc rfl _ _ 61 rfl Tryd.underlying61 rfl wo.heap.size 1 1 [p0] rfl hone (by omega) (by omega) ?_; intro cap4 w4 hq4 hb4)
          go_roundw
          case rel =>
            refine ⟨j, by omega, rfl, (hB.alloc hBs _).trans (hb4.mono (by rw [World.size_alloc]; omega)), [p0], .inr ⟨_, cap4, rfl, by omega, by rw [World.size_alloc] at hq4; exact hq4⟩, ?_, by rw [HNL.out]; simp; omega⟩
            have h1 := HAT.out.more HM.out hpp0
            rw [HDR.out, Nat.mul_comm 1000000000, Nat.add_comm]; exact h1
          case measure => simp [intOf]
      · have hm := MulAt.start (p0 := p0) HAT.out.lims (by omega)
        have HM := Lib.hid hm
        have hcl := hp.cap_le
        have hle := hp.le
        have hxlen := hp.len
        clear hm hxlen
        generalize hxn : xs.length = xn at *
        have HXN := Lib.hid hxn
        clear hxn
        go_wp2_with fail
        go_loopw [8, 33] (fun vc vk wr => ∃ k c : Nat, k ≤ xn ∧ c ≤ 1000000000 ∧ vk = .int .i64 (k : Int) ∧ vc = .int .u64 (c : Int) ∧ BitsIn p0 k c g xn cap xs w2 wr) (fun _ vk _ => xn - (intOf vk).toNat)
        case atStart => exact ⟨0, p0, by omega, by omega, rfl, rfl, hB, xs, HM.out, hp⟩
        case round =>
          obtain ⟨k, c, hk, hc, rfl, rfl, hB4, zs, hMz, hPz⟩ := hrel
          have hB4s := hB4.size
          by_cases hkn : k = xn
          · subst hkn
            have hzl := hPz.len
            have HMZ := Lib.hid hMz
            have HZL := Lib.hid hzl
            clear hMz hzl
            by_cases hc0 : c = 0
            · subst hc0
              go_wp2_with fail
              go_roundw
              case rel =>
                have h1 := HMZ.out
                rw [← HXN.out] at h1
                refine ⟨j, by omega, rfl, hB4, zs, .inr ⟨g, cap, by rw [HZL.out], hg, by rw [HZL.out]; exact hPz⟩, ?_, by rw [HNL.out, HZL.out]; omega⟩
                rw [HDR.out, Nat.mul_comm 1000000000, Nat.add_comm]; exact HAT.out.same h1
              case measure => simp [intOf]
            · have hcp : 0 < c := by omega
              have hone := Pc.one wr c
              have hal := hPz.alloc (.cells #[.int .u64 (c : Int)] 22)
              go_wp2_with (at_builtin; refine append_Pc rfl _ _ 61 rfl Tryd.underlying61 g k cap zs rfl hal wr.heap.size 1 1 [c] rfl hone (by omega) ?_; intro g6 cap6 w6 hq6 hon6 hat6)
              go_roundw
              case rel =>
                have h1 := HMZ.out
                rw [← HXN.out] at h1
                have hl6 : (zs ++ [c]).length = k + 1 := by rw [List.length_append, List.length_singleton, HZL.out]
                have hs6 : (wr.alloc (.cells #[.int .u64 (c : Int)] 22)).heap.size = wr.heap.size + 1 := by simp
                refine ⟨j, by omega, rfl, bel_only (hB4.alloc hB4s _) hon6 hg (by omega), zs ++ [c], .inr ⟨g6, cap6, by rw [hl6], by rcases hat6 with h | h <;> omega, by rw [hl6]; exact hq6⟩, ?_, by rw [HNL.out, hl6]; omega⟩
                rw [HDR.out, Nat.mul_comm 1000000000, Nat.add_comm]; exact HAT.out.more h1 hcp
              case measure => simp [intOf]
          · have hkn' : k < xn := by omega
            have hck := hPz.cell k hkn'
            have hfr := hPz.free k
            have hzL := L32_getD hMz.lims k
            have HS := Lib.hid (hMz.step (by rw [HXN.out]; exact hkn'))
            have HSet := Lib.hid (fun v => hPz.set k v)
            have hcarry := (hMz.step (by rw [HXN.out]; exact hkn')).carry
            have HCY := Lib.hid hcarry
            clear hMz hPz hcarry
            generalize zs.getD k 0 = z at *
            have hand : bits .and .u64 ((c : Int) + (z : Int) * 1000000000) 4294967295 = (((c + z * 1000000000) % 4294967296 : Nat) : Int) := by
              have h1 := u64_and_nat (c + z * 1000000000) 4294967295 (by omega) (by decide)
              rw [show (4294967295 : Nat) = 2 ^ 32 - 1 from rfl, Nat.and_two_pow_sub_one_eq_mod] at h1
              rw [show ((c : Int) + (z : Int) * 1000000000) = ((c + z * 1000000000 : Nat) : Int) by omega]
              exact h1
            have HAND := Lib.hid hand
            have HZ := Lib.hid (show ((c + z * 1000000000) % 4294967296) < 4294967296 from Nat.mod_lt _ (by decide))
            obtain ⟨t, ht⟩ : ∃ t, (c + z * 1000000000) % 4294967296 = t := ⟨_, rfl⟩
            rw [ht] at hand HS
            clear HAND HZ ht
            go_wp2_with fail
            refine ⟨⟨k + 1, (c + z * 1000000000) / 4294967296, by omega, HCY.out, by go_num, by congr 1, hB4.setCell hg _, _, HS.out, HSet.out t⟩, by simp [intOf]; omega⟩
set_option maxRecDepth 100000 in
/-- decimal.Bits. -/
theorem bits_any (n : Nat) (w : World) (hamb : Amb w) (hd : Lib.nDigits n ≤ 1000000) :
    Calls Tryd.prog 31 #[.string (dec n)] w (SmallRes (.int .i64 ((bitsN n : Nat) : Int)) w) := by
  by_cases hn : n < 18446744073709551616
  · have hLen := fun wo => Tryd.bits_Len64 (n : Int) wo (by omega) (by omega)
    have HB := Lib.hid (show (Lib.bitLen ((n : Int).toNat) : Int) = ((bitsN n : Nat) : Int) by rw [Int.toNat_natCast, bitLen_eq n hn])
    have HLEN := Lib.hid hLen
    clear hLen
    go_enter Tryd.func31, Tryd.ntmps31
    go_wp2_with fail
    refine (small_yes n _ hn).mono ?_
    rintro e w1 ⟨rfl, hb1⟩
    go_wp2_with fail
    refine (HLEN.out _).mono ?_
    rintro e w2 ⟨rfl, rfl⟩
    rw [HB.out]
    go_wp2_with fail
    go_ret
    exact ⟨rfl, hb1⟩
  · exact bits_big n w hamb (by omega) hd
end Go.Proofs.YtojgfpoinbblhaaDoor
