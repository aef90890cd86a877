/- Greater text, out of: K43. -/
import Derived.Test.YtpafocfpofnkpaaGreatDoorK39
namespace Go.Proofs.YtpafocfpofnkpaaGreatDoor
open Go.RowKit Go.PlainAid
attribute [local go_sem] field_rat0 field_rat1
def OZ4Post (xs : List Int) (w : World) (e : Ending) (w' : World) : Prop := ∃ v, e = .returned v ∧ OwnZ w.heap.size w' v xs ∧ Below w.heap.size w w'
set_option maxRecDepth 100000 in
set_option maxHeartbeats 4000000 in
/-- schismaref04.Terms. -/
theorem r4terms_any (n d : Int) (w : World) (hd : 0 < d) (hn : n.natAbs ≤ 100000000000000000) (hdd : d ≤ 100000000000000000) (hlen : (tms n d).length ≤ 200) :
    Calls Tryz.prog 23 #[.int .i64 n, .int .i64 d] w (OZ4Post (tms n d) w) := by
  obtain ⟨T, hT⟩ : ∃ T, tms n d = T := ⟨_, rfl⟩
  have HT := Lib.hid hT
  rw [hT] at hlen ⊢
  clear hT
  go_enter Tryz.func23, Tryz.ntmps23
  go_wp2_with fail
  go_loopw [0, 1, 5] (fun va vb vo wr => ∃ (u v : Int) (pre : List Int), va = .int .i64 u ∧ vb = .int .i64 v ∧ 0 < v ∧ u.natAbs ≤ 100000000000000000 ∧ v ≤ 100000000000000000 ∧ OwnZ w.heap.size wr vo pre ∧ Hid (T = pre ++ tms u v) ∧ Below w.heap.size w wr) (fun _ vb _ _ => (intOf vb).toNat)
  case atStart => exact ⟨n, d, [], rfl, rfl, hd, hn, hdd, OwnZ.nil _ _, Lib.hid HT.out.symm, Below.refl _ _⟩
  case round =>
    obtain ⟨u, v, pre, rfl, rfl, hv, hu1, hv1, hown, HE, hB⟩ := hrel
    have hlp : pre.length ≤ 200 := by have := congrArg List.length HE.out; rw [List.length_append] at this; omega
    have HD := Lib.hid (fun w => r4floor_any u v w ⟨by omega, by omega⟩ (by omega) (by omega))
    have HE2 := Lib.hid (show T = (pre ++ [u / v]) ++ tms v (u % v) by rw [HE.out, tms_step hv, List.append_assoc]; rfl)
    have hmb := emod_bd (n := u) hv
    have he := ediv_eq u v
    rw [Int.mul_comm] at he
    obtain ⟨q, hq⟩ : ∃ q, u / v = q := ⟨_, rfl⟩
    obtain ⟨r, hr⟩ : ∃ r, u % v = r := ⟨_, rfl⟩
    rw [hq, hr] at he
    rw [hq] at HD
    rw [hq, hr] at HE2
    rw [hr] at hmb
    have hw1 : IntKind.i64.wrap (q * v) = q * v := IntWalk.i64_in _ (by omega)
    have hw2 : IntKind.i64.wrap (u - q * v) = r := by rw [show u - q * v = r by omega]; exact IntWalk.i64_in _ (by omega)
    clear HE hq hr he
    have HO := Lib.hid hown
    have HB := Lib.hid hB
    obtain ⟨A, cap, rfl, hss⟩ := hown.ss
    clear hown hB hss
    have hlen1 : pre.length ≤ 1000000000 := by omega
    go_wp2_with fail
    refine (HD.out wr).mono ?_
    rintro e w1 ⟨rfl, hb1⟩
    have hown1 := HO.out.below hb1
    have hB1 := bel_chain HB.out hb1
    have HB1 := Lib.hid hB1
    clear hb1 HO HB
    by_cases hr0 : r = 0
    · have HF := Lib.hid (show T = pre ++ [q] by rw [HE2.out, hr0, tms_stop (Int.le_refl 0), List.append_nil])
      have ht : (r == 0) = true := by rw [hr0]; rfl
      go_wp2_with (at_builtin; refine append_OwnZ rfl _ _ 48 rfl Tryz.underlying48 w.heap.size _ pre w1 rfl hown1 hB1.size hlen1 q rfl rfl ?_; intro v4 w4 hown4 hb4; have HO4 := Lib.hid hown4; have HB4 := Lib.hid hb4; clear hown4 hb4)
      go_ret
      exact ⟨_, rfl, by rw [HF.out]; exact HO4.out, HB1.out.trans HB4.out⟩
    · have ht : (r == 0) = false := by rw [beq_eq_false_iff_ne]; exact hr0
      have hr1 : 0 < r := by omega
      have HM := Lib.hid (show r.toNat < v.toNat by omega)
      have HQ := Lib.hid (show v.natAbs ≤ 100000000000000000 ∧ r ≤ 100000000000000000 by omega)
      go_wp2_with (at_builtin; refine append_OwnZ rfl _ _ 48 rfl Tryz.underlying48 w.heap.size _ pre w1 rfl hown1 hB1.size hlen1 q rfl rfl ?_; intro v4 w4 hown4 hb4; have HO4 := Lib.hid hown4; have HB4 := Lib.hid hb4; clear hown4 hb4)
      go_roundw
      case rel => exact ⟨v, r, pre ++ [q], rfl, rfl, hr1, HQ.out.1, HQ.out.2, HO4.out, HE2, HB1.out.trans HB4.out⟩
      case measure => exact HM.out
end Go.Proofs.YtpafocfpofnkpaaGreatDoor
