/- The walks of the second chapter's reference: digits, Sign, Neg, Abs, side, Of, Small. -/
import Derived.Test.YtebcmefbpfcgmaaGreatDoorRParse
namespace Go.Proofs.YtebcmefbpfcgmaaGreatDoor
open Go.RowKit Go.PlainAid

theorem mag_nil : magT [] = [] := by decide
theorem neg_nil : negT [] = false := by decide
theorem mag_itoa (z : Int) : magT (Lib.itoa z) = Lib.decDigits z.natAbs ∧ negT (Lib.itoa z) = decide (z < 0) := by
  by_cases h : z < 0
  · rw [itoa_neg h, decide_eq_true h]
    have e : negT (45 :: Lib.decDigits z.natAbs) = true := by
      unfold negT Lib.hasPrefix
      show ((45 : UInt8) == 45 && List.isPrefixOf [] (Lib.decDigits z.natAbs)) = true
      rw [List.isPrefixOf_nil_left]; rfl
    refine ⟨?_, e⟩
    unfold magT Lib.trimPrefix
    rw [show Lib.hasPrefix (45 :: Lib.decDigits z.natAbs) [45] = true from e]; rfl
  · rw [itoa_pos (by omega), decide_eq_false h]
    obtain ⟨c, r, hc, h1, h2⟩ := dd_head_ge z.natAbs
    have e : negT (Lib.decDigits z.natAbs) = false := by
      rw [hc]
      unfold negT Lib.hasPrefix
      show ((45 : UInt8) == c && List.isPrefixOf [] r) = false
      have : ((45 : UInt8) == c) = false := by
        rw [beq_eq_false_iff_ne]; intro e; rw [← e] at h1; exact absurd h1 (by decide)
      rw [this]; rfl
    refine ⟨?_, e⟩
    unfold magT Lib.trimPrefix
    rw [show Lib.hasPrefix (Lib.decDigits z.natAbs) [45] = false from e]; rfl
/-- schismaref02.digits, of any text. -/
theorem r2digits_gen (s : ByteArray) (w : World) (hs : s.size ≤ 1000000001) :
    Calls Tryz.prog 23 #[.string s] w (SmallRes (.string ⟨(magT s.data.toList).toArray⟩) w) := by
  by_cases h0 : s.data.toList = []
  · have hz : s.size = 0 := by
      show s.data.size = 0
      rw [← Array.length_toList, h0]; rfl
    have he : (⟨(magT s.data.toList).toArray⟩ : ByteArray) = s := ba_ext (by rw [h0, mag_nil])
    have HE := Lib.hid he
    clear he h0
    go_enter Tryz.func23, Tryz.ntmps23
    go_wp2_with fail
    go_ret
    exact ⟨by rw [HE.out]; rfl, Below.refl _ _⟩
  · have hs0 : 0 < s.size := by
      show 0 < s.data.size
      rw [← Array.length_toList]
      exact List.length_pos_iff.2 h0
    have hbs := get_bt s
    rcases neg_cases s h0 with ⟨e1, e2, e3⟩ | ⟨e1, e2, e3⟩
    · clear e1 h0
      generalize (⟨(magT s.data.toList).toArray⟩ : ByteArray) = t at *
      go_enter Tryz.func23, Tryz.ntmps23
      go_wp2_with fail
      go_ret
      exact ⟨rfl, Below.refl _ _⟩
    · have HE := Lib.hid e3
      clear e1 e3 h0
      go_enter Tryz.func23, Tryz.ntmps23
      go_wp2_with fail
      go_ret
      exact ⟨by rw [HE.out]; rfl, Below.refl _ _⟩
theorem r2digits_any (z : Int) (w : World) (hz : nz z ≤ 1000000000) :
    Calls Tryz.prog 23 #[.string (itx z)] w (SmallRes (.string (dec z.natAbs)) w) := by
  have h := r2digits_gen (itx z) w (Nat.le_trans (itx_size_le z) (by omega))
  rw [itx_data, (mag_itoa z).1] at h
  exact h
/-- schismaref02.Sign. -/
theorem r2sign_any (z : Int) (w : World) (hz : nz z ≤ 1000000000) :
    Calls Tryz.prog 50 #[.string (itx z)] w (SmallRes (.int .i64 z.sign) w) := by
  have h0 := itx_size_pos z
  have hsz : (itx z).size ≤ 1000000001 := Nat.le_trans (itx_size_le z) (by omega)
  have hbt := get_bt (itx z)
  by_cases hz0 : z = 0
  · subst hz0
    have h1 := itx_zero_same
    go_enter Tryz.func50, Tryz.ntmps50
    go_wp2
    go_ret
    exact ⟨rfl, Below.refl _ _⟩
  · have h1 := itx_zero_test hz0
    by_cases h : z < 0
    · rw [Int.sign_eq_neg_one_of_neg h]
      have hb := bt_itx_neg h
      go_enter Tryz.func50, Tryz.ntmps50
      go_wp2
      go_ret
      exact ⟨rfl, Below.refl _ _⟩
    · rw [Int.sign_eq_one_of_pos (by omega)]
      have hb := bt_itx_pos (show 0 ≤ z by omega)
      have hb2 : (bt (itx z) 0 == 45) = false := by rw [beq_eq_false_iff_ne]; omega
      go_enter Tryz.func50, Tryz.ntmps50
      go_wp2
      go_ret
      exact ⟨rfl, Below.refl _ _⟩
/-- schismaref02.Neg. -/
theorem r2neg_any (z : Int) (w : World) (hz : nz z ≤ 1000000000) :
    Calls Tryz.prog 37 #[.string (itx z)] w (SmallRes (.string (itx (-z))) w) := by
  have h0 := itx_size_pos z
  have hsz : (itx z).size ≤ 1000000001 := Nat.le_trans (itx_size_le z) (by omega)
  rcases Int.lt_trichotomy z 0 with h | h | h
  · have hsg := Lib.hid (Int.sign_eq_neg_one_of_neg h)
    have hx := itx_tail h
    have HX := Lib.hid (show itx (-z) = dec z.natAbs by rw [itx_of_pos (by omega), Int.natAbs_neg])
    go_enter Tryz.func37, Tryz.ntmps37
    go_wp2_with fail
    refine (r2sign_any z _ hz).mono ?_
    rintro e w1 ⟨rfl, hb1⟩
    rw [hsg.out]
    go_wp2_with fail
    go_ret
    exact ⟨by rw [HX.out]; rfl, hb1⟩
  · subst h
    go_enter Tryz.func37, Tryz.ntmps37
    go_wp2_with fail
    refine (r2sign_any 0 _ hz).mono ?_
    rintro e w1 ⟨rfl, hb1⟩
    rw [show Int.sign 0 = 0 from rfl]
    go_wp2_with fail
    refine (r2sign_any 0 _ hz).mono ?_
    rintro e w2 ⟨rfl, hb2⟩
    rw [show Int.sign 0 = 0 from rfl]
    go_wp2_with fail
    go_ret
    exact ⟨rfl, bel_chain hb1 hb2⟩
  · have hsg := Lib.hid (Int.sign_eq_one_of_pos h)
    have hx : (⟨#[45]⟩ : ByteArray) ++ itx z = itx (-z) := by
      have := neg_append (m := z.natAbs) (by omega)
      rw [itx_of_pos (z := z) (by omega), this]
      congr 1; omega
    go_enter Tryz.func37, Tryz.ntmps37
    go_wp2_with fail
    refine (r2sign_any z _ hz).mono ?_
    rintro e w1 ⟨rfl, hb1⟩
    rw [hsg.out]
    go_wp2_with fail
    refine (r2sign_any z _ hz).mono ?_
    rintro e w2 ⟨rfl, hb2⟩
    rw [hsg.out]
    go_wp2_with fail
    go_ret
    exact ⟨rfl, bel_chain hb1 hb2⟩
/-- schismaref02.Abs. -/
theorem r2abs_any (z : Int) (w : World) (hz : nz z ≤ 1000000000) :
    Calls Tryz.prog 13 #[.string (itx z)] w (SmallRes (.string (dec z.natAbs)) w) := by
  go_enter Tryz.func13, Tryz.ntmps13
  go_wp2_with fail
  refine (r2digits_any z _ hz).mono ?_
  rintro e w1 ⟨rfl, hb1⟩
  go_wp2_with fail
  go_ret
  exact ⟨rfl, hb1⟩
/-- schismaref02.side. -/
def sideZ (z : Int) : Int := if z < 0 then -1 else 1
theorem r2side_any (z : Int) (w : World) (hz : nz z ≤ 1000000000) :
    Calls Tryz.prog 24 #[.string (itx z)] w (SmallRes (.int .i64 (sideZ z)) w) := by
  by_cases h : z < 0
  · have hsg := Lib.hid (Int.sign_eq_neg_one_of_neg h)
    have HS := Lib.hid (show sideZ z = -1 by unfold sideZ; rw [if_pos h])
    go_enter Tryz.func24, Tryz.ntmps24
    go_wp2_with fail
    refine (r2sign_any z _ hz).mono ?_
    rintro e w1 ⟨rfl, hb1⟩
    rw [hsg.out]
    go_wp2_with fail
    go_ret
    exact ⟨by rw [HS.out]; rfl, hb1⟩
  · have hsg : 0 ≤ z.sign := Int.sign_nonneg_iff.2 (by omega)
    have HS := Lib.hid (show sideZ z = 1 by unfold sideZ; rw [if_neg h])
    go_enter Tryz.func24, Tryz.ntmps24
    go_wp2_with fail
    refine (r2sign_any z _ hz).mono ?_
    rintro e w1 ⟨rfl, hb1⟩
    go_wp2_with fail
    go_ret
    exact ⟨by rw [HS.out]; rfl, hb1⟩
/-- schismaref02.Of. -/
theorem r2of_any (z : Int) (w : World) (hamb : Amb w) (h0 : -9223372036854775808 ≤ z) (h1 : z ≤ 9223372036854775807) :
    Calls Tryz.prog 21 #[.int .i64 z] w (SmallRes (.string (itx z)) w) := by
  have HC := Lib.hid (fun w1 (h : Amb w1) => itoa_any z w1 h h0 h1)
  clear h0 h1
  go_enter Tryz.func21, Tryz.ntmps21
  go_wp2_with fail
  refine (HC.out _ hamb).mono ?_
  rintro e w1 ⟨rfl, hb1⟩
  go_wp2_with fail
  go_ret
  exact ⟨rfl, hb1⟩
end Go.Proofs.YtebcmefbpfcgmaaGreatDoor
