/- The walks of the program's integers: split, join, Sign, Neg, Abs, little, Of. -/
import Derived.Test.YtebcmefbpfcgmaaGreatDoorDec5
import Derived.Test.YtebcmefbpfcgmaaGreatDoorInt
import Derived.Test.YtebcmefbpfcgmaaGreatDoorFloor
import Derived.PlainAid
import Derived.Deep.DeepCutAuto
namespace Go.Proofs.YtebcmefbpfcgmaaGreatDoor
open Go.RowKit Go.PlainAid

theorem bt_first (s : ByteArray) {c : UInt8} {r : List UInt8} (h : s.data.toList = c :: r) : bt s 0 = (c.toNat : Int) := by
  have hs : 0 < s.size := by
    show 0 < s.data.size
    rw [← Array.length_toList, h]; simp
  have e : (s[0]'hs) = c := by
    have h1 : s.data.toList[0]? = some c := by rw [h]; rfl
    have h2 : s.data.toList[0]? = some (s[0]'hs) := by rw [List.getElem?_eq_getElem (by rw [Array.length_toList]; exact hs)]; rfl
    rw [h1] at h2
    exact (Option.some.inj h2).symm
  unfold bt
  rw [dif_pos hs, e]
theorem bt_itx_neg {z : Int} (h : z < 0) : bt (itx z) 0 = 45 := by
  rw [bt_first (itx z) (c := 45) (r := Lib.decDigits z.natAbs) (by rw [itx_data, itoa_neg h])]; rfl
theorem bt_itx_pos {z : Int} (h : 0 ≤ z) : 48 ≤ bt (itx z) 0 ∧ bt (itx z) 0 ≤ 57 := by
  obtain ⟨c, r, hc, h1, h2⟩ := dd_head_ge z.natAbs
  rw [bt_first (itx z) (c := c) (r := r) (by rw [itx_data, itoa_pos h, hc])]
  omega
theorem itx_tail {z : Int} (h : z < 0) : (itx z).extract 1 (itx z).size = dec z.natAbs := by
  apply ba_ext
  rw [dec_data, ByteArray.data_extract, Array.toList_extract, itx_data, itoa_neg h]
  have : (itx z).size = (Lib.decDigits z.natAbs).length + 1 := by rw [itx_size, if_pos h, nz, Lib.decDigits_length]
  rw [this, List.extract_eq_take_drop]; simp
theorem neg_append {m : Nat} (h : m ≠ 0) : (⟨#[45]⟩ : ByteArray) ++ dec m = itx (-(m : Int)) := by
  apply ba_ext
  rw [itx_data, itoa_neg (by omega), ByteArray.data_append, Array.toList_append, dec_data, Int.natAbs_neg, Int.natAbs_natCast]; rfl

/-- whole.split. -/
theorem split_any (z : Int) (w : World) (hz : nz z ≤ 1000000000) :
    Calls Tryz.prog 31 #[.string (itx z)] w (SmallRes (.tuple #[.bool (decide (z < 0)), .string (dec z.natAbs)]) w) := by
  have h0 := itx_size_pos z
  have hsz : (itx z).size ≤ 1000000001 := Nat.le_trans (itx_size_le z) (by omega)
  have hbt := get_bt (itx z)
  by_cases h : z < 0
  · rw [decide_eq_true h]
    have hb := bt_itx_neg h
    have hx := itx_tail h
    go_enter Tryz.func31, Tryz.ntmps31
    go_wp2
    go_quiet (fail)
    go_wp2
    go_ret2
    exact ⟨rfl, bel_drewN (Below.refl _ _) _⟩
  · rw [decide_eq_false h]
    have hb := bt_itx_pos (show 0 ≤ z by omega)
    have hb2 : (bt (itx z) 0 == 45) = false := by rw [beq_eq_false_iff_ne]; omega
    have hx := itx_of_pos (show 0 ≤ z by omega)
    have HX := Lib.hid hx
    clear hx
    go_enter Tryz.func31, Tryz.ntmps31
    go_wp2
    go_ret2
    exact ⟨by rw [HX.out]; rfl, Below.refl _ _⟩

/-- whole.join. -/
theorem join_any (b : Bool) (m : Nat) (w : World) (hm : Lib.nDigits m ≤ 1000000000) :
    Calls Tryz.prog 32 #[.bool b, .string (dec m)] w (SmallRes (.string (itx (if b then -(m : Int) else m))) w) := by
  have hs : (dec m).size ≤ 1000000000 := by rw [dec_size]; exact hm
  cases b with
  | false =>
    simp only [Bool.false_eq_true, if_false]
    rw [itx_nat]
    go_enter Tryz.func32, Tryz.ntmps32
    go_wp2
    go_ret
    exact ⟨rfl, Below.refl _ _⟩
  | true =>
    simp only [if_true]
    by_cases h0 : m = 0
    · subst h0
      have h1 := dec_zero_same
      have h2 : (!(dec 0).toList == [48]) = false := by rw [h1]; rfl
      have HZ := Lib.hid (itx_nat 0)
      go_enter Tryz.func32, Tryz.ntmps32
      go_wp2
      go_ret
      exact ⟨ret_str (by rw [show (-((0 : Nat) : Int)) = ((0 : Nat) : Int) by omega]; exact HZ.out.symm), Below.refl _ _⟩
    · have h1 := dec_zero_test h0
      have h2 : (!(dec m).toList == [48]) = true := by rw [h1]; rfl
      have hx := neg_append h0
      go_enter Tryz.func32, Tryz.ntmps32
      go_wp2
      go_ret
      exact ⟨rfl, Below.refl _ _⟩

/-- whole.Sign. -/
theorem sign_any (z : Int) (w : World) (hz : nz z ≤ 1000000000) :
    Calls Tryz.prog 42 #[.string (itx z)] w (SmallRes (.int .i64 z.sign) w) := by
  have h0 := itx_size_pos z
  have hsz : (itx z).size ≤ 1000000001 := Nat.le_trans (itx_size_le z) (by omega)
  have hbt := get_bt (itx z)
  by_cases hz0 : z = 0
  · subst hz0
    have h1 := itx_zero_same
    go_enter Tryz.func42, Tryz.ntmps42
    go_wp2
    go_ret
    exact ⟨rfl, Below.refl _ _⟩
  · have h1 := itx_zero_test hz0
    by_cases h : z < 0
    · rw [Int.sign_eq_neg_one_of_neg h]
      have hb := bt_itx_neg h
      go_enter Tryz.func42, Tryz.ntmps42
      go_wp2
      go_ret
      exact ⟨rfl, Below.refl _ _⟩
    · rw [Int.sign_eq_one_of_pos (by omega)]
      have hb := bt_itx_pos (show 0 ≤ z by omega)
      have hb2 : (bt (itx z) 0 == 45) = false := by rw [beq_eq_false_iff_ne]; omega
      go_enter Tryz.func42, Tryz.ntmps42
      go_wp2
      go_ret
      exact ⟨rfl, Below.refl _ _⟩

/-- whole.Neg. -/
theorem neg_any (z : Int) (w : World) (hz : nz z ≤ 1000000000) :
    Calls Tryz.prog 36 #[.string (itx z)] w (SmallRes (.string (itx (-z))) w) := by
  have HR := Lib.hid (show (if (!decide (z < 0)) then -(z.natAbs : Int) else (z.natAbs : Int)) = -z by
    by_cases h : z < 0
    · rw [decide_eq_true h]; simp; omega
    · rw [decide_eq_false h]; simp; omega)
  go_enter Tryz.func36, Tryz.ntmps36
  go_wp2_with fail
  refine (split_any z _ hz).mono ?_
  rintro e w1 ⟨rfl, hb1⟩
  go_wp2_with fail
  refine (join_any (!decide (z < 0)) z.natAbs _ hz).mono ?_
  rintro e w2 ⟨rfl, hb2⟩
  rw [HR.out]
  go_wp2_with fail
  go_ret
  exact ⟨rfl, bel_chain hb1 hb2⟩

/-- whole.Abs. -/
theorem abs_any (z : Int) (w : World) (hz : nz z ≤ 1000000000) :
    Calls Tryz.prog 41 #[.string (itx z)] w (SmallRes (.string (dec z.natAbs)) w) := by
  go_enter Tryz.func41, Tryz.ntmps41
  go_wp2_with fail
  refine (split_any z _ hz).mono ?_
  rintro e w1 ⟨rfl, hb1⟩
  go_wp2_with fail
  go_ret
  exact ⟨rfl, hb1⟩

/-- whole.little. -/
theorem little_yes (z : Int) (m : Int) (w : World) (h : ((itx z).size : Int) ≤ m) (hm : m ≤ 18) :
    Calls Tryz.prog 29 #[.string (itx z), .int .i64 m] w (SmallRes (.tuple #[.int .i64 z, .bool true]) w) := by
  have HA := Lib.hid (show Lib.atoi (itx z).data.toList = some z by rw [itx_data]; exact atoi_itoa z)
  have hs : (itx z).size ≤ 18 := by omega
  go_enter Tryz.func29, Tryz.ntmps29
  go_wp2_with fail
  refine (Tryz.strconv_Atoi (itx z) z hs HA.out _).mono ?_
  rintro e w1 ⟨rfl, t, hw⟩
  have hb := bytes_below w 5 t
  rw [← hw] at hb
  clear hw
  go_wp2_with fail
  go_quiet (fail)
  go_wp2
  go_ret2
  exact ⟨rfl, bel_drewN hb _⟩
theorem little_no (z : Int) (m : Int) (w : World) (h : m < ((itx z).size : Int)) :
    Calls Tryz.prog 29 #[.string (itx z), .int .i64 m] w (SmallRes (.tuple #[.int .i64 0, .bool false]) w) := by
  go_enter Tryz.func29, Tryz.ntmps29
  go_wp2_with fail
  go_ret2
  exact ⟨rfl, Below.refl _ _⟩

theorem grow_below (w : World) (k : Nat) (os : Array Obj) : Below w.heap.size w (Sort.grow (w.drewN k) os) :=
  ⟨rfl, rfl, rfl, by simp [Sort.grow, World.drewN], fun i hi => by simp [Sort.grow, World.drewN, Array.getElem?_append, hi]⟩
/-- strconv.Itoa. -/
theorem itoa_any (z : Int) (w : World) (hamb : Amb w) (h0 : -9223372036854775808 ≤ z) (h1 : z ≤ 9223372036854775807) :
    Calls Tryz.prog 48 #[.int .i64 z] w (SmallRes (.string (itx z)) w) :=
  (Tryz.strconv_Itoa z h0 h1 w hamb.tab).mono fun e w' ⟨he, k, os, hw⟩ => ⟨he, by rw [hw]; exact grow_below w k os⟩
/-- whole.Of. -/
theorem wof_any (z : Int) (w : World) (hamb : Amb w) (h0 : -9223372036854775808 ≤ z) (h1 : z ≤ 9223372036854775807) :
    Calls Tryz.prog 30 #[.int .i64 z] w (SmallRes (.string (itx z)) w) := by
  have HC := Lib.hid (fun w1 (h : Amb w1) => itoa_any z w1 h h0 h1)
  clear h0 h1
  go_enter Tryz.func30, Tryz.ntmps30
  go_wp2_with fail
  refine (HC.out _ hamb).mono ?_
  rintro e w1 ⟨rfl, hb1⟩
  go_wp2_with fail
  go_ret
  exact ⟨rfl, hb1⟩
end Go.Proofs.YtebcmefbpfcgmaaGreatDoor
