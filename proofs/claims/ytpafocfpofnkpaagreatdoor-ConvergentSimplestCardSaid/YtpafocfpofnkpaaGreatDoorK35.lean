/- Greater text, out of: K35. -/
import Derived.Test.YtpafocfpofnkpaaGreatDoorK34
import Derived.Test.YtpafocfpofnkpaaGreatDoorKa
import Derived.Test.YtpafocfpofnkpaaGreatDoorGu
namespace Go.Proofs.YtpafocfpofnkpaaGreatDoor
open Go.RowKit Go.PlainAid
attribute [local go_sem] field_rat0 field_rat1
/-- Two texts are right. -/
abbrev RB (n d : ByteArray) : Bool := rightB n.data.toList d.data.toList
set_option maxHeartbeats 1000000 in
/-- convergent.wrong. -/
theorem wrong_any (n d : ByteArray) (w : World) (hamb : Amb w) (hn : n.size ≤ 1000000000) (hd : d.size ≤ 1000000000) (r : Bool) (hr : RB n d = r) :
    Calls Tryz.prog 45 #[.agg #[.string n, .string d]] w (SmallRes (.bool (!r)) w) := by
  have HC := Lib.hid (fun w h => show Calls Tryz.prog 80 #[.agg #[.string n, .string d]] w (SmallRes (.int .i64 (if r = true then 0 else 2)) w) from by rw [← hr]; exact fcheck_any n d w h hn hd)
  have HAMB := Lib.hid hamb
  clear hr hn hd hamb
  cases r
  all_goals
    first
      | rw [if_pos rfl] at HC
      | rw [if_neg (by decide)] at HC
    go_enter Tryz.func45, Tryz.ntmps45
    go_wp2_with fail
    obtain ⟨W, hW⟩ : ∃ W, (w.alloc (.cells #[.string n, .string d] 24)) = W := ⟨_, rfl⟩
    rw [hW]
    obtain ⟨_, hBW⟩ := B1.of hW
    clear hW
    refine (HC.out W (HAMB.out.below hBW)).mono ?_
    rintro e w1 ⟨rfl, hb1⟩
    have hB1 := bel_chain hBW hb1
    clear hBW hb1
    go_wp2_with fail
    go_ret
    exact ⟨rfl, hB1⟩
/-- What bounded answers. -/
def bndE (r : Bool) (b : Int) : Int := if r = false then 2 else if b < 1 ∨ 1000000 < b then 3 else 0
set_option maxHeartbeats 2000000 in
/-- convergent.bounded. -/
theorem bounded_any (n d : ByteArray) (b : Int) (w : World) (hamb : Amb w) (hn : n.size ≤ 1000000000) (hd : d.size ≤ 1000000000) (r : Bool) (hr : RB n d = r) (hb0 : -9223372036854775808 ≤ b) (hb1 : b ≤ 9223372036854775807) :
    Calls Tryz.prog 32 #[.agg #[.string n, .string d], .int .i64 b] w (SmallRes (.int .i64 (bndE r b)) w) := by
  have HC := Lib.hid (fun w h => wrong_any n d w h hn hd r hr)
  have HAMB := Lib.hid hamb
  obtain ⟨V, hV⟩ : ∃ V, bndE r b = V := ⟨_, rfl⟩
  rw [hV]
  have HV := Lib.hid (show V = if r = false then 2 else if b < 1 ∨ 1000000 < b then 3 else 0 by rw [← hV]; rfl)
  clear hr hn hd hamb hV
  cases r
  · have HF := Lib.hid (show V = 2 from HV.out)
    go_enter Tryz.func32, Tryz.ntmps32
    go_wp2_with fail
    obtain ⟨W, hW⟩ : ∃ W, (w.alloc (.cells #[.string n, .string d] 24)) = W := ⟨_, rfl⟩
    rw [hW]
    obtain ⟨_, hBW⟩ := B1.of hW
    clear hW
    refine (HC.out W (HAMB.out.below hBW)).mono ?_
    rintro e w1 ⟨rfl, hb1⟩
    have hB1 := bel_chain hBW hb1
    clear hBW hb1
    go_wp2_with fail
    go_ret
    exact ⟨by rw [HF.out]; rfl, hB1⟩
  · by_cases h1 : b < 1
    · have HF := Lib.hid (show V = 3 by rw [HV.out, if_neg (by decide), if_pos (.inl h1)])
      go_enter Tryz.func32, Tryz.ntmps32
      go_wp2_with fail
      obtain ⟨W, hW⟩ : ∃ W, (w.alloc (.cells #[.string n, .string d] 24)) = W := ⟨_, rfl⟩
      rw [hW]
      obtain ⟨_, hBW⟩ := B1.of hW
      clear hW
      refine (HC.out W (HAMB.out.below hBW)).mono ?_
      rintro e w1 ⟨rfl, hb1⟩
      have hB1 := bel_chain hBW hb1
      clear hBW hb1
      go_wp2_with fail
      go_ret
      exact ⟨by rw [HF.out]; rfl, hB1⟩
    · by_cases h2 : 1000000 < b
      · have HF := Lib.hid (show V = 3 by rw [HV.out, if_neg (by decide), if_pos (.inr h2)])
        go_enter Tryz.func32, Tryz.ntmps32
        go_wp2_with fail
        obtain ⟨W, hW⟩ : ∃ W, (w.alloc (.cells #[.string n, .string d] 24)) = W := ⟨_, rfl⟩
        rw [hW]
        obtain ⟨_, hBW⟩ := B1.of hW
        clear hW
        refine (HC.out W (HAMB.out.below hBW)).mono ?_
        rintro e w1 ⟨rfl, hb1⟩
        have hB1 := bel_chain hBW hb1
        clear hBW hb1
        go_wp2_with fail
        go_ret
        exact ⟨by rw [HF.out]; rfl, hB1⟩
      · have HF := Lib.hid (show V = 0 by rw [HV.out, if_neg (by decide), if_neg (by omega)])
        go_enter Tryz.func32, Tryz.ntmps32
        go_wp2_with fail
        obtain ⟨W, hW⟩ : ∃ W, (w.alloc (.cells #[.string n, .string d] 24)) = W := ⟨_, rfl⟩
        rw [hW]
        obtain ⟨_, hBW⟩ := B1.of hW
        clear hW
        refine (HC.out W (HAMB.out.below hBW)).mono ?_
        rintro e w1 ⟨rfl, hb1⟩
        have hB1 := bel_chain hBW hb1
        clear hBW hb1
        go_wp2_with fail
        go_ret
        exact ⟨by rw [HF.out]; rfl, hB1⟩

/-- A fraction of at most so many digits. -/
theorem tms_short {n d : Int} (h : nz d ≤ 20) : (tms n d).length ≤ 200 := by
  have h1 : d.natAbs < 10 ^ 20 := (nz_le_iff d 19).1 h
  have h2 : (10 : Nat) ^ 20 < 2 ^ 67 := by decide
  have h3 : d < 2 ^ 67 := by
    have : (d.natAbs : Int) < ((2 ^ 67 : Nat) : Int) := by omega
    rw [Int.natCast_pow] at this
    omega
  exact Nat.le_trans (tms_len 67 n d h3) (by omega)
theorem tms_short14 {n d : Int} (h : nz d ≤ 14) : (tms n d).length ≤ 100 := by
  have h1 : d.natAbs < 10 ^ 14 := (nz_le_iff d 13).1 h
  have h2 : (10 : Nat) ^ 14 < 2 ^ 47 := by decide
  have h3 : d < 2 ^ 47 := by
    have : (d.natAbs : Int) < ((2 ^ 47 : Nat) : Int) := by omega
    rw [Int.natCast_pow] at this
    omega
  exact Nat.le_trans (tms_len 47 n d h3) (by omega)
theorem tms_nz {n d : Int} {k : Nat} (hn : nz n ≤ k + 1) (hd : nz d ≤ k + 1) : ∀ a ∈ tms n d, nz a ≤ k + 1 := fun a ha => by
  rw [nz_le_iff] at hn hd ⊢
  have := tms_bd (10 ^ (k + 1) - 1) n d (by omega) (by omega) a ha
  have h0 : 0 < 10 ^ (k + 1) := Nat.pow_pos (by decide)
  omega
/-- A slice of integers that is the call's own is returned. -/
def OJPost (xs : List Int) (w : World) (e : Ending) (w' : World) : Prop := ∃ v, e = .returned v ∧ OwnI w.heap.size w' v xs ∧ Below w.heap.size w w'
set_option maxRecDepth 100000 in
set_option maxHeartbeats 4000000 in
/-- convergent.terms. -/
theorem terms_any (n d : Int) (w : World) (hamb : Amb w) (hd : 0 < d) (hnn : nz n ≤ 20) (hnd : nz d ≤ 20) :
    Calls Tryz.prog 36 #[.agg #[.string (itx n), .string (itx d)]] w (OJPost (tms n d) w) := by
  have hlen := tms_short (n := n) hnd
  obtain ⟨T, hT⟩ : ∃ T, tms n d = T := ⟨_, rfl⟩
  have HT := Lib.hid hT
  rw [hT] at hlen ⊢
  have HAMB := Lib.hid hamb
  clear hT hamb
  go_enter Tryz.func36, Tryz.ntmps36
  go_wp2_with fail
  obtain ⟨W, hW⟩ : ∃ W, (w.alloc (.cells #[.string (itx n), .string (itx d)] 24)) = W := ⟨_, rfl⟩
  rw [hW]
  obtain ⟨hX, hBW⟩ := B1.of hW
  clear hW
  obtain ⟨_, c0, c1, f0, f1⟩ := hX
  go_quiet (fail)
  go_wp2_with fail
  have hB0 := bel_drewN hBW nq
  clear c0 c1 f0 f1 hBW
  go_loopw [3, 4, 5] (fun va vb vo wr => ∃ (u v : Int) (pre : List Int), va = .string (itx u) ∧ vb = .string (itx v) ∧ 0 < v ∧ nz u ≤ 20 ∧ nz v ≤ 20 ∧ OwnI w.heap.size wr vo pre ∧ Hid (T = pre ++ tms u v) ∧ Below w.heap.size w wr) (fun _ vb _ _ => (unItx vb).toNat)
  case atStart => exact ⟨n, d, [], rfl, rfl, hd, hnn, hnd, OwnI.nil _ _, Lib.hid HT.out.symm, hB0⟩
  case round =>
    obtain ⟨u, v, pre, rfl, rfl, hv, hnu, hnv, hown, HE, hB⟩ := hrel
    have hlp : pre.length ≤ 200 := by have := congrArg List.length HE.out; rw [List.length_append] at this; omega
    have hlpi : (pre.length : Int) ≤ 1000 := by omega
    have HD := Lib.hid (fun w h => wdiv_pos u v w h hv (by omega) (by omega))
    have HE2 := Lib.hid (show T = (pre ++ [u / v]) ++ tms v (u % v) by rw [HE.out, tms_step hv, List.append_assoc]; rfl)
    have hmb := emod_bd (n := u) hv
    have hnr : nz (u % v) ≤ 20 := Nat.le_trans (nz_mono (by omega)) hnv
    obtain ⟨q, hq⟩ : ∃ q, u / v = q := ⟨_, rfl⟩
    obtain ⟨r, hr⟩ : ∃ r, u % v = r := ⟨_, rfl⟩
    rw [hq, hr] at HD HE2
    rw [hr] at hmb hnr
    clear HE hq hr
    have HO := Lib.hid hown
    have HB := Lib.hid hB
    clear hB
    obtain ⟨A, cap, rfl, hss⟩ := hown.ss
    have HSS := Lib.hid hss
    clear hss hown
    go_wp2_with fail
    refine (HD.out _ (HAMB.out.below HB.out)).mono ?_
    rintro e w1 ⟨rfl, hb1⟩
    have hown1 := HO.out.below hb1
    have hB1 := bel_chain HB.out hb1
    have HB1 := Lib.hid hB1
    have hlen1 : pre.length ≤ 1000000000 := by omega
    clear hb1 HO HB
    by_cases hr0 : r = 0
    · have ht : ((itx r).toList == [48]) = true := by rw [hr0]; exact itx_zero_same
      have HF := Lib.hid (show T = pre ++ [q] by rw [HE2.out, hr0, tms_stop (Int.le_refl 0), List.append_nil])
      clear hr0
      go_wp2_with (at_builtin; refine append_OwnI rfl _ _ 55 rfl Tryz.underlying55 w.heap.size _ pre w1 rfl hown1 hB1.size hlen1 q rfl rfl ?_; intro v4 w4 hown4 hb4; have HO4 := Lib.hid hown4; have HB4 := Lib.hid hb4; clear hown4 hb4)
      go_ret
      exact ⟨_, rfl, by rw [HF.out]; exact HO4.out, HB1.out.trans HB4.out⟩
    · have ht : ((itx r).toList == [48]) = false := itx_zero_test hr0
      have hr1 : 0 < r := by omega
      have HM := Lib.hid (show r.toNat < v.toNat by omega)
      clear hr0
      go_wp2_with (at_builtin; refine append_OwnI rfl _ _ 55 rfl Tryz.underlying55 w.heap.size _ pre w1 rfl hown1 hB1.size hlen1 q rfl rfl ?_; intro v4 w4 hown4 hb4; have HO4 := Lib.hid hown4; have HB4 := Lib.hid hb4; clear hown4 hb4)
      go_roundw
      case rel => exact ⟨v, r, pre ++ [q], rfl, rfl, hr1, hnv, hnr, HO4.out, HE2, HB1.out.trans HB4.out⟩
      case measure =>
        show (unItx (.string (itx r))).toNat < (unItx (.string (itx v))).toNat
        rw [unItx_eq, unItx_eq]
        exact HM.out
set_option maxRecDepth 100000 in
set_option maxHeartbeats 4000000 in
/-- convergent.Terms of a right fraction. -/
theorem Terms_any (n d : Int) (w : World) (hamb : Amb w) (hd : 0 < d) (hnn : nz n ≤ 20) (hnd : nz d ≤ 20) (hr : RB (itx n) (itx d) = true) :
    Calls Tryz.prog 28 #[.agg #[.string (itx n), .string (itx d)]] w (fun e w' => ∃ v, e = .returned (.tuple #[v, .int .i64 0]) ∧ OwnI w.heap.size w' v (tms n d) ∧ Below w.heap.size w w') := by
  have hlen := tms_short (n := n) hnd
  have HW := Lib.hid (fun w h => wrong_any (itx n) (itx d) w h (by have := itx_size_le n; omega) (by have := itx_size_le d; omega) true hr)
  have HT := Lib.hid (fun w h => terms_any n d w h hd hnn hnd)
  obtain ⟨T, hT⟩ : ∃ T, tms n d = T := ⟨_, rfl⟩
  rw [hT] at hlen HT ⊢
  have HAMB := Lib.hid hamb
  clear hT hamb hr hd hnn hnd
  go_enter Tryz.func28, Tryz.ntmps28
  go_wp2_with fail
  obtain ⟨W, hW⟩ : ∃ W, (w.alloc (.cells #[.string (itx n), .string (itx d)] 24)) = W := ⟨_, rfl⟩
  rw [hW]
  obtain ⟨hX, hBW⟩ := B1.of hW
  clear hW
  refine (HW.out W (HAMB.out.below hBW)).mono ?_
  rintro e w1 ⟨rfl, hb1⟩
  have hB1 := bel_chain hBW hb1
  have HB1 := Lib.hid hB1
  obtain ⟨_, c0, c1, _, _⟩ := hX.later hb1
  clear hX hBW hb1 hB1
  go_wp2_with fail
  refine (HT.out w1 (HAMB.out.below HB1.out)).mono ?_
  rintro e w2 ⟨v, rfl, hown, hb2⟩
  have HO := Lib.hid (hown.mono HB1.out.size)
  have HB2 := Lib.hid (bel_chain HB1.out hb2)
  obtain ⟨A, cap, rfl, hss⟩ := hown.ss
  have hl1 : ¬ (1000 : Int) < (T.length : Int) := by omega
  clear hown hb2 c0 c1 hss
  go_wp2_with fail
  go_ret2
  exact ⟨_, rfl, HO.out, HB2.out⟩
set_option maxHeartbeats 1000000 in
/-- .. of two texts that are not. -/
theorem Terms_no (n d : ByteArray) (w : World) (hamb : Amb w) (hn : n.size ≤ 1000000000) (hd : d.size ≤ 1000000000) (hr : RB n d = false) :
    Calls Tryz.prog 28 #[.agg #[.string n, .string d]] w (SmallRes (.tuple #[.slice none 0 0, .int .i64 2]) w) := by
  have HW := Lib.hid (fun w h => wrong_any n d w h hn hd false hr)
  have HAMB := Lib.hid hamb
  clear hamb hr hn hd
  go_enter Tryz.func28, Tryz.ntmps28
  go_wp2_with fail
  obtain ⟨W, hW⟩ : ∃ W, (w.alloc (.cells #[.string n, .string d] 24)) = W := ⟨_, rfl⟩
  rw [hW]
  obtain ⟨_, hBW⟩ := B1.of hW
  clear hW
  refine (HW.out W (HAMB.out.below hBW)).mono ?_
  rintro e w1 ⟨rfl, hb1⟩
  have hB1 := bel_chain hBW hb1
  clear hBW hb1
  go_wp2_with fail
  go_ret2
  exact ⟨rfl, hB1⟩
end Go.Proofs.YtpafocfpofnkpaaGreatDoor
