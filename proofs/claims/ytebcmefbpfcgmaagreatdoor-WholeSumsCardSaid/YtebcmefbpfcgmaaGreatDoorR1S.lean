/- The walk of the second chapter's reference Small. -/
import Derived.Test.YtebcmefbpfcgmaaGreatDoorR1
namespace Go.Proofs.YtebcmefbpfcgmaaGreatDoor
open Go.RowKit Go.PlainAid

def SmallV (z : Int) : Value := if -9223372036854775808 ≤ z ∧ z ≤ 9223372036854775807 then .tuple #[.int .i64 z, .bool true] else .tuple #[.int .i64 0, .bool false]
/-- Byte k of a text whose digits begin at place o. -/
theorem bt_digits {s : ByteArray} {p D : List UInt8} {o : Nat} (h : s.data.toList = p ++ D) (ho : p.length = o) (j : Nat) (hj : j < D.length) : bt s (o + j) = ((D.getD j 0).toNat : Int) := by
  have hs : o + j < s.size := by
    show o + j < s.data.size
    rw [← Array.length_toList, h, List.length_append, ho]; omega
  rw [bt_at s _ hs, h, List.getD_eq_getElem?_getD, List.getElem?_append_right (by omega), ho, Nat.add_sub_cancel_left, ← List.getD_eq_getElem?_getD]
theorem val_take_mono (D : List UInt8) (j : Nat) : val (D.take j) ≤ val D := by
  have h := val_append (D.take j) (D.drop j)
  rw [List.take_append_drop] at h
  have := Nat.le_mul_of_pos_right (val (D.take j)) (Nat.pow_pos (n := (D.drop j).length) (show 0 < 10 by decide))
  omega
theorem small_quot (d : Int) (h0 : 0 ≤ d) (h9 : d ≤ 9) : Int.tdiv (-9223372036854775808 + d) 10 = -((9223372036854775808 - d) / 10) := by
  rw [show -9223372036854775808 + d = -(9223372036854775808 - d) by omega, Int.neg_tdiv, Int.tdiv_eq_ediv_of_nonneg (by omega)]
set_option maxRecDepth 100000 in
set_option maxHeartbeats 4000000 in
theorem r2small_loop (z : Int) (w : World) (hz : nz z ≤ 1000000) (o : Nat) (p : List UInt8) (hp : Lib.itoa z = p ++ Lib.decDigits z.natAbs) (ho : p.length = o) (ho1 : o = if z < 0 then 1 else 0) :
    Calls Tryz.prog 47 #[.string (itx z)] w (SmallRes (SmallV z) w) := by
  have h0 := itx_size_pos z
  have hsz : (itx z).size ≤ 1000001 := Nat.le_trans (itx_size_le z) (by omega)
  have hbt := get_bt (itx z)
  have HBD := Lib.hid (fun j (h : j < (Lib.decDigits z.natAbs).length) => bt_digits (s := itx z) (by rw [itx_data, hp]) ho j h)
  have hlen : (Lib.decDigits z.natAbs).length = nz z := Lib.decDigits_length _
  obtain ⟨n, hn⟩ : ∃ n, nz z = n := ⟨_, rfl⟩
  have hn1 : 1 ≤ n := by rw [← hn]; exact nz_pos z
  have hszn : ((itx z).size : Int) = (o : Int) + (n : Int) := by rw [itx_size, ho1, hn]; split <;> omega
  have HV := Lib.hid (val_dd z.natAbs)
  have HAD := Lib.hid (all_dd z.natAbs)
  rw [hlen, hn] at HBD
  rw [hn] at hlen
  have HLEN := Lib.hid hlen
  generalize Lib.decDigits z.natAbs = D at *
  clear hp ho hlen hz hn
  have hol : o ≤ 1 := by rw [ho1]; split <;> omega
  have HO1 := Lib.hid ho1
  have HB0 := Lib.hid (show z < 0 → bt (itx z) 0 = 45 from bt_itx_neg)
  have HB1 := Lib.hid (show ¬ z < 0 → (bt (itx z) 0 == 45) = false from fun h => by have := bt_itx_pos (show 0 ≤ z by omega); rw [beq_eq_false_iff_ne]; omega)
  clear ho1
  go_enter Tryz.func47, Tryz.ntmps47
  go_upto_if 17 with fail
  go_cut [5] (fun s5 wx => s5 = .int .i64 (o : Int) ∧ w = wx)
  case first =>
    by_cases hneg : z < 0
    · rw [HB0.out hneg]
      have HO := Lib.hid (show o = 1 by rw [HO1.out, if_pos hneg])
      clear hneg
      go_wp2_with fail
      go_meet
      exact ⟨by rw [HO.out]; rfl, rfl⟩
    · rw [HB1.out hneg]
      have HO := Lib.hid (show o = 0 by rw [HO1.out, if_neg hneg])
      clear hneg
      go_wp2_with fail
      go_meet
      exact ⟨by rw [HO.out]; rfl, rfl⟩
  case rest =>
    obtain ⟨rfl, rfl⟩ := hcut
    have hne : ((o : Int) == ((itx z).size : Int)) = false := by rw [beq_eq_false_iff_ne]; omega
    have hne2 : ((o : Int) == (o : Int) + (n : Int)) = false := by rw [beq_eq_false_iff_ne]; omega
    go_wp2_with fail
    go_loop [5, 7] (fun vi vn => ∃ j v : Nat, j ≤ n ∧ v ≤ 9223372036854775808 ∧ vi = .int .i64 ((o : Int) + (j : Int)) ∧ vn = .int .i64 (-(v : Int)) ∧ Hid (v = val (D.take j))) (fun vi _ => (o + n) - (intOf vi).toNat)
    case atStart => exact ⟨0, 0, by omega, by omega, by go_num, rfl, Lib.hid (by rw [List.take_zero]; rfl)⟩
    case round =>
      obtain ⟨j, v, hj, hv, rfl, rfl, HVJ⟩ := hrel
      by_cases hjn : j = n
      · have hvz : v = z.natAbs := by rw [HVJ.out, List.take_of_length_le (by rw [HLEN.out]; omega), HV.out]
        have hend : ¬ (o : Int) + (j : Int) < (o : Int) + (n : Int) := by omega
        have HRES := Lib.hid (show z < 0 → SmallV z = .tuple #[.int .i64 z, .bool true] from fun h => by unfold SmallV; rw [if_pos (by omega)])
        have HRES1 := Lib.hid (show ¬ z < 0 → v ≠ 9223372036854775808 → SmallV z = .tuple #[.int .i64 z, .bool true] from fun h h2 => by unfold SmallV; rw [if_pos (by omega)])
        have HRES2 := Lib.hid (show ¬ z < 0 → v = 9223372036854775808 → SmallV z = .tuple #[.int .i64 0, .bool false] from fun h h2 => by unfold SmallV; rw [if_neg (by omega)])
        by_cases hneg : z < 0
        · have ho1 : ((o : Int) == 1) = true := by rw [HO1.out, if_pos hneg]; rfl
          have HZ := Lib.hid (show -(v : Int) = z by omega)
          have HR := Lib.hid (HRES.out hneg)
          clear hneg hvz hjn
          go_wp2_with fail
          go_ret2
          exact ⟨by rw [HR.out, ← HZ.out]; rfl, Below.refl _ _⟩
        · have ho1 : ((o : Int) == 1) = false := by rw [HO1.out, if_neg hneg]; rfl
          by_cases hvm : v = 9223372036854775808
          · have hvb : (-(v : Int) == -9223372036854775808) = true := by rw [beq_iff_eq]; omega
            have HR := Lib.hid (HRES2.out hneg hvm)
            clear hneg hvz hjn hvm
            go_wp2_with fail
            go_ret2
            exact ⟨by rw [HR.out]; rfl, Below.refl _ _⟩
          · have hvb : (-(v : Int) == -9223372036854775808) = false := by rw [beq_eq_false_iff_ne]; omega
            have HZ := Lib.hid (show 0 - -(v : Int) = z by omega)
            have HZ2 := Lib.hid (show (v : Int) = z by omega)
            have HR := Lib.hid (HRES1.out hneg hvm)
            clear hneg hvz hjn
            go_wp2_with fail
            go_ret2
            refine ⟨?_, Below.refl _ _⟩
            rw [HR.out]
            first
            | (rw [← HZ.out]; rfl)
            | (rw [← HZ2.out]; rfl)
      · have hj' : j < n := by omega
        have hb := HBD.out j hj'
        have hdg := dig_getD HAD.out j (by rw [HLEN.out]; exact hj')
        have hsu := val_take_succ D j (by rw [HLEN.out]; exact hj')
        have hmono := val_take_mono D (j + 1)
        rw [hsu, ← HVJ.out, HV.out] at hmono
        rw [← HVJ.out] at hsu
        have HSU := Lib.hid hsu
        have htn : ((o : Int) + (j : Int)).toNat = o + j := by omega
        clear hsu hjn
        generalize (D.getD j 0).toNat = d at *
        obtain ⟨c, hc⟩ : ∃ c : Nat, d - 48 = c := ⟨_, rfl⟩
        have hc9 : c ≤ 9 := by omega
        have hdc : (d : Int) - 48 = (c : Int) := by omega
        rw [hc] at hmono HSU
        obtain ⟨q, hq⟩ : ∃ q : Nat, (9223372036854775808 - (c : Int)) / 10 = (q : Int) := ⟨((9223372036854775808 - (c : Int)) / 10).toNat, by omega⟩
        have htd := small_quot (c : Int) (by omega) (by omega)
        rw [hq] at htd
        have hqb : q ≤ 922337203685477580 := by omega
        by_cases hvq : v ≤ q
        · have hv10 : 10 * v + c ≤ 9223372036854775808 := by omega
          have hvq2 : ¬ -(v : Int) < -(q : Int) := by omega
          clear hq hc hmono
          go_wp2_with fail
          go_round
          case rel => exact ⟨j + 1, 10 * v + c, by omega, hv10, by go_num, vint (by omega), Lib.hid HSU.out.symm⟩
          case measure => simp [intOf]; omega
        · have hvq2 : -(v : Int) < -(q : Int) := by omega
          have HR := Lib.hid (show SmallV z = .tuple #[.int .i64 0, .bool false] by unfold SmallV; rw [if_neg (by omega)])
          clear hq hc hmono
          go_wp2_with fail
          go_ret2
          exact ⟨by rw [HR.out]; rfl, Below.refl _ _⟩
/-- schismaref02.Small. -/
theorem r2small_any (z : Int) (w : World) (hz : nz z ≤ 1000000) :
    Calls Tryz.prog 47 #[.string (itx z)] w (SmallRes (SmallV z) w) := by
  by_cases h : z < 0
  · exact r2small_loop z w hz 1 [45] (by rw [itoa_neg h]; rfl) rfl (by rw [if_pos h])
  · exact r2small_loop z w hz 0 [] (by rw [itoa_pos (by omega)]; rfl) rfl (by rw [if_neg h])
end Go.Proofs.YtebcmefbpfcgmaaGreatDoor
