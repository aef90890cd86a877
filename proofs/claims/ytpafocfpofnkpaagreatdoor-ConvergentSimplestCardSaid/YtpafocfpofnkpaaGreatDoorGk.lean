/- Greater text, out of: U1, U2, U3. -/
import Derived.Test.YtpafocfpofnkpaaGreatDoorGg
import Derived.Test.YtpafocfpofnkpaaGreatDoorGd
import Derived.Deep.DrawnRows
import Derived.IntWalk
namespace Go.Proofs.YtpafocfpofnkpaaGreatDoor
section
open Go.RowKit Go.PlainAid
attribute [local go_sem] field_rat0 field_rat1
/-- fraction.little. -/
theorem flittle_yes (z : Int) (w : World) (h : ((itx z).size : Int) ≤ 9) :
    Calls Tryz.prog 108 #[.string (itx z)] w (SmallRes (.tuple #[.int .i64 z, .bool true]) w) := by
  have HA := Lib.hid (show Lib.atoi (itx z).data.toList = some z by rw [itx_data]; exact atoi_itoa z)
  have hs : (itx z).size ≤ 18 := by omega
  go_enter Tryz.func108, Tryz.ntmps108
  go_wp2_with fail
  refine (Tryz.strconv_Atoi (itx z) z hs HA.out _).mono ?_
  rintro e w1 ⟨rfl, t, hw⟩
  have hb := bytes_below w 5 t
  rw [← hw] at hb
  clear hw
  go_wp2_with fail
  go_quiet (fail)
  go_wp2
  go_ret2
  exact ⟨rfl, bel_drewN hb _⟩
theorem flittle_no (z : Int) (w : World) (h : 9 < ((itx z).size : Int)) :
    Calls Tryz.prog 108 #[.string (itx z)] w (SmallRes (.tuple #[.int .i64 0, .bool false]) w) := by
  go_enter Tryz.func108, Tryz.ntmps108
  go_wp2_with fail
  go_ret2
  exact ⟨rfl, Below.refl _ _⟩
/-- Both terms have at most nine bytes. -/
def ShortQ (q : Rat) : Prop := ((itx q.num).size : Int) ≤ 9 ∧ ((itx (q.den : Int)).size : Int) ≤ 9
theorem ShortQ.bd {q : Rat} (h : ShortQ q) : -999999999 ≤ q.num ∧ q.num ≤ 999999999 ∧ 1 ≤ (q.den : Int) ∧ (q.den : Int) ≤ 999999999 := by
  have h1 := short9 (z := q.num) (by have := h.1; omega)
  have h2 := short9 (z := (q.den : Int)) (by have := h.2; omega)
  have := rden_pos q
  omega
/-- What fraction.both leaves where a term is long. -/
def NotBoth (w : World) (e : Ending) (w' : World) : Prop := ∃ n d : Int, e = .returned (.tuple #[.int .i64 n, .int .i64 d, .bool false]) ∧ Below w.heap.size w w'
theorem flittle_no' (z : Int) (w : World) (h : ¬ ((itx z).size : Int) ≤ 9) :
    Calls Tryz.prog 108 #[.string (itx z)] w (SmallRes (.tuple #[.int .i64 0, .bool false]) w) := flittle_no z w (by omega)
set_option maxRecDepth 100000 in
set_option maxHeartbeats 2000000 in
theorem fboth_gen (p : Rat) (n d : Int) (b1 b2 : Bool) (w : World)
    (h1 : ∀ w, Calls Tryz.prog 108 #[.string (itx p.num)] w (SmallRes (.tuple #[.int .i64 n, .bool b1]) w))
    (h2 : ∀ w, Calls Tryz.prog 108 #[.string (itx (p.den : Int))] w (SmallRes (.tuple #[.int .i64 d, .bool b2]) w)) :
    Calls Tryz.prog 72 #[rv p] w (SmallRes (.tuple #[.int .i64 n, .int .i64 d, .bool (b1 && b2)]) w) := by
  have H1 := Lib.hid h1
  have H2 := Lib.hid h2
  clear h1 h2
  cases b1
  all_goals
    go_enter Tryz.func72, Tryz.ntmps72
    go_wp2_with fail
    obtain ⟨W, hW⟩ : ∃ W, (w.alloc (.cells #[.string (itx p.num), .string (itx (p.den : Int))] 24)) = W := ⟨_, rfl⟩
    rw [hW]
    obtain ⟨hX, hBW⟩ := B1.of hW
    clear hW
    have HX := Lib.hid (fun wz (hb : Below W.heap.size W wz) => hX.later hb)
    obtain ⟨ga0, ga1, ga2, ga3, ga4⟩ := hX
    refine (H1.out W).mono ?_
    rintro e w1 ⟨rfl, hb1⟩
    obtain ⟨_, a10, a11, _, _⟩ := HX.out _ hb1
    go_wp2_with fail
    refine (H2.out w1).mono ?_
    rintro e w2 ⟨rfl, hb2⟩
    have hB := bel_chain (bel_chain hBW hb1) hb2
    clear hb1 hb2 hBW
    go_wp2_with fail
    go_ret3
    exact ⟨by first | rfl | (simp; done), hB⟩
theorem fboth_yes (p : Rat) (w : World) (h : ShortQ p) : Calls Tryz.prog 72 #[rv p] w (SmallRes (.tuple #[.int .i64 p.num, .int .i64 (p.den : Int), .bool true]) w) :=
  fboth_gen p _ _ true true w (fun w => flittle_yes _ w h.1) (fun w => flittle_yes _ w h.2)
theorem fboth_no (p : Rat) (w : World) (h : ¬ ShortQ p) : Calls Tryz.prog 72 #[rv p] w (NotBoth w) := by
  by_cases h1 : ((itx p.num).size : Int) ≤ 9
  · have h2 : ¬ ((itx (p.den : Int)).size : Int) ≤ 9 := fun h2 => h ⟨h1, h2⟩
    exact (fboth_gen p _ _ true false w (fun w => flittle_yes _ w h1) (fun w => flittle_no' _ w h2)).mono fun e w' h => ⟨_, _, h.1, h.2⟩
  · by_cases h2 : ((itx (p.den : Int)).size : Int) ≤ 9
    · exact (fboth_gen p _ _ false true w (fun w => flittle_no' _ w h1) (fun w => flittle_yes _ w h2)).mono fun e w' h => ⟨_, _, h.1, h.2⟩
    · exact (fboth_gen p _ _ false false w (fun w => flittle_no' _ w h1) (fun w => flittle_no' _ w h2)).mono fun e w' h => ⟨_, _, h.1, h.2⟩

theorem gcd_tmod (a b : Int) : Int.gcd b (a.tmod b) = Int.gcd a b := by
  show Nat.gcd b.natAbs (a.tmod b).natAbs = Nat.gcd a.natAbs b.natAbs
  rw [Int.natAbs_tmod, Nat.gcd_comm a.natAbs, Nat.gcd_rec b.natAbs a.natAbs, Nat.gcd_comm]
set_option maxRecDepth 100000 in
set_option maxHeartbeats 2000000 in
/-- fraction.of. -/
theorem fof_any (n d : Int) (w : World) (hamb : Amb w) (h0 : -2000000000000000000 ≤ n) (h1 : n ≤ 2000000000000000000) (hd0 : 1 ≤ d) (hd1 : d ≤ 1000000000000000000) :
    Calls Tryz.prog 133 #[.int .i64 n, .int .i64 d] w (SmallRes (rv (Rat.divInt n d)) w) := by
  obtain ⟨Q, hQ⟩ : ∃ Q, Rat.divInt n d = Q := ⟨_, rfl⟩
  obtain ⟨g, hg⟩ : ∃ g, Int.gcd n d = g := ⟨_, rfl⟩
  have HNUM := Lib.hid (show Q.num = n / (g : Int) by rw [← hQ, ← hg]; exact divInt_pos_num n d (by omega))
  have HDEN := Lib.hid (show (Q.den : Int) = d / (g : Int) by rw [← hQ, ← hg]; exact divInt_pos_den n d (by omega))
  have hg0 : 0 < g := by rw [← hg]; exact Nat.pos_of_ne_zero fun h => by have := Int.gcd_eq_zero_iff.1 h; omega
  have HGN := Lib.hid (show (g : Int) ∣ n by rw [← hg]; exact Int.gcd_dvd_left _ _)
  have HGD := Lib.hid (show (g : Int) ∣ d by rw [← hg]; exact Int.gcd_dvd_right _ _)
  have HG := Lib.hid hg
  have HAMB := Lib.hid hamb
  rw [hQ]
  clear hQ hg hamb
  go_enter Tryz.func133, Tryz.ntmps133
  go_wp2_with fail
  obtain ⟨W, hW⟩ : ∃ W, (w.alloc (.cells #[.string ⟨#[]⟩, .string ⟨#[]⟩] 24)) = W := ⟨_, rfl⟩
  rw [hW]
  obtain ⟨hX, hBW⟩ := B1.of hW
  clear hW
  have HX := Lib.hid (fun wz (hb : Below W.heap.size W wz) => hX.later hb)
  have HB := Lib.hid hBW
  have HA := Lib.hid (fun wz (hb : Below W.heap.size W wz) => HAMB.out.below (bel_chain HB.out hb))
  clear hX hBW
  go_loopw [5, 6] (fun va vb wr => ∃ a b : Int, va = .int .i64 a ∧ vb = .int .i64 b ∧ -2000000000000000000 ≤ a ∧ a ≤ 2000000000000000000 ∧ -2000000000000000000 ≤ b ∧ b ≤ 2000000000000000000 ∧ Hid (Int.gcd a b = g) ∧ Below W.heap.size W wr) (fun _ vb _ => (intOf vb).natAbs)
  case atStart => exact ⟨n, d, rfl, rfl, h0, h1, by omega, by omega, HG, Below.refl _ _⟩
  case round =>
    obtain ⟨a, b, rfl, rfl, ha0, ha1, hb0, hb1, HG2, hB2⟩ := hrel
    by_cases hb : b = 0
    · subst hb
      have hga := HG2.out
      rw [Int.gcd_zero_right] at hga
      have HGA := Lib.hid hga
      have HB2 := Lib.hid hB2
      obtain ⟨r0, r1, r2, r3, r4⟩ := HX.out _ hB2
      clear hga HG2 hB2
      by_cases hneg : a < 0
      · obtain rfl : a = -(g : Int) := by have := HGA.out; omega
        have hg1 : (1 : Int) ≤ (g : Int) := by omega
        have hgb : ((g : Int) == 0) = false := by rw [beq_eq_false_iff_ne]; omega
        have hgz : ¬ ((g : Int) = 0) := by omega
        have hgn : ¬ (g = 0) := by omega
        have hq1 : n.tdiv (g : Int) = Q.num := by rw [HNUM.out]; exact Int.tdiv_eq_ediv_of_dvd HGN.out
        have hq2 : d.tdiv (g : Int) = (Q.den : Int) := by rw [HDEN.out]; exact Int.tdiv_eq_ediv_of_dvd HGD.out
        have hb1 := natAbs_ediv_le n (g : Int) (by omega)
        have hb2 := natAbs_ediv_le d (g : Int) (by omega)
        rw [← HNUM.out] at hb1
        rw [← HDEN.out] at hb2
        have hw1 : IntKind.i64.wrap (Q.num) = Q.num := IntWalk.i64_in _ (by omega)
        have hw2 : IntKind.i64.wrap (Q.den : Int) = (Q.den : Int) := IntWalk.i64_in _ (by omega)
        have hzd := HB2.out.drew
        have HC1 := Lib.hid (itoa_any Q.num wr.drew (HA.out _ hzd) (by omega) (by omega))
        have HBD := Lib.hid (And.intro (show -9223372036854775808 ≤ (Q.den : Int) by omega) (show (Q.den : Int) ≤ 9223372036854775807 by omega))
        clear hb1 hb2
        go_wp2_with fail
        go_region_held3 (fun w' => w'.frozen? ⟨w.heap.size, 0, none⟩ = false ∧ w'.frozen? ⟨w.heap.size, 1, none⟩ = false) (first | exact ⟨(HXL.out.store0 _ _).2.2.2.1, (HXL.out.store0 _ _).2.2.2.2⟩ | go_keep)
          (first
            | ((with_reducible refine HC2.out.mono ?_); rintro e w4 ⟨rfl, hb4⟩; have hz4 := bel_chain hz3 hb4; have HXL := Lib.hid (HX.out _ hz4); obtain ⟨_, c40, c41, f40, f41⟩ := HX.out _ hz4)
            | ((with_reducible refine HC1.out.mono ?_); rintro e w3 ⟨rfl, hb3⟩; have hz3 := bel_chain hzd hb3; have HC2 := Lib.hid (itoa_any (Q.den : Int) w3 (HA.out _ hz3) HBD.out.1 HBD.out.2); obtain ⟨_, c30, c31, f30, f31⟩ := HX.out _ hz3))
        all_goals
          go_wp2_with fail
          refine ret_cell rfl rfl (load_rat (g := w.heap.size) (HXL.out.store0 _ _)) rfl ?_
          exact ⟨rfl, ((bel_chain HB.out hz4).setCell (by simp <;> omega) _).setCell (by simp <;> omega) _⟩
      · obtain rfl : a = (g : Int) := by have := HGA.out; omega
        have hg1 : (1 : Int) ≤ (g : Int) := by omega
        have hgb : ((g : Int) == 0) = false := by rw [beq_eq_false_iff_ne]; omega
        have hgz : ¬ ((g : Int) = 0) := by omega
        have hgn : ¬ (g = 0) := by omega
        have hq1 : n.tdiv (g : Int) = Q.num := by rw [HNUM.out]; exact Int.tdiv_eq_ediv_of_dvd HGN.out
        have hq2 : d.tdiv (g : Int) = (Q.den : Int) := by rw [HDEN.out]; exact Int.tdiv_eq_ediv_of_dvd HGD.out
        have hb1 := natAbs_ediv_le n (g : Int) (by omega)
        have hb2 := natAbs_ediv_le d (g : Int) (by omega)
        rw [← HNUM.out] at hb1
        rw [← HDEN.out] at hb2
        have hw1 : IntKind.i64.wrap (Q.num) = Q.num := IntWalk.i64_in _ (by omega)
        have hw2 : IntKind.i64.wrap (Q.den : Int) = (Q.den : Int) := IntWalk.i64_in _ (by omega)
        have hzd := HB2.out.drew
        have HC1 := Lib.hid (itoa_any Q.num wr.drew (HA.out _ hzd) (by omega) (by omega))
        have HBD := Lib.hid (And.intro (show -9223372036854775808 ≤ (Q.den : Int) by omega) (show (Q.den : Int) ≤ 9223372036854775807 by omega))
        clear hb1 hb2
        go_wp2_with fail
        go_region_held3 (fun w' => w'.frozen? ⟨w.heap.size, 0, none⟩ = false ∧ w'.frozen? ⟨w.heap.size, 1, none⟩ = false) (first | exact ⟨(HXL.out.store0 _ _).2.2.2.1, (HXL.out.store0 _ _).2.2.2.2⟩ | go_keep)
          (first
            | ((with_reducible refine HC2.out.mono ?_); rintro e w4 ⟨rfl, hb4⟩; have hz4 := bel_chain hz3 hb4; have HXL := Lib.hid (HX.out _ hz4); obtain ⟨_, c40, c41, f40, f41⟩ := HX.out _ hz4)
            | ((with_reducible refine HC1.out.mono ?_); rintro e w3 ⟨rfl, hb3⟩; have hz3 := bel_chain hzd hb3; have HC2 := Lib.hid (itoa_any (Q.den : Int) w3 (HA.out _ hz3) HBD.out.1 HBD.out.2); obtain ⟨_, c30, c31, f30, f31⟩ := HX.out _ hz3))
        all_goals
          go_wp2_with fail
          refine ret_cell rfl rfl (load_rat (g := w.heap.size) (HXL.out.store0 _ _)) rfl ?_
          exact ⟨rfl, ((bel_chain HB.out hz4).setCell (by simp <;> omega) _).setCell (by simp <;> omega) _⟩
    · have hbb : (b == 0) = false := by rw [beq_eq_false_iff_ne]; exact hb
      have hm := Int.natAbs_tmod a b
      have hlt := Nat.mod_lt a.natAbs (show 0 < b.natAbs by omega)
      have H2 := Lib.hid (show Int.gcd b (a.tmod b) = g by rw [gcd_tmod]; exact HG2.out)
      rw [← hm] at hlt
      have hl0 : -2000000000000000000 ≤ a.tmod b := by omega
      have hl1 : a.tmod b ≤ 2000000000000000000 := by omega
      have HLT := Lib.hid hlt
      clear hm hlt HG2
      go_wp2
      go_quiet (fail)
      go_wp2
      go_roundw
      case rel => exact ⟨b, a.tmod b, rfl, rfl, hb0, hb1, hl0, hl1, H2, bel_drewN hB2 _⟩
      case measure =>
        exact HLT.out
end
section
open Go.RowKit Go.PlainAid
attribute [local go_sem] field_rat0 field_rat1
/-- Behind the change of signs: a numerator and a positive denominator of the same fraction. -/
def LowMid (Q : Rat) (k : Nat) (W : World) (s0 s1 : Value) (wx : World) : Prop := ∃ n d : Int, s0 = .string (itx n) ∧ s1 = .string (itx d) ∧ 0 < d ∧ Rat.divInt n d = Q ∧ nz n ≤ k ∧ nz d ≤ k ∧ Below W.heap.size W wx
set_option maxRecDepth 100000 in
set_option maxHeartbeats 2000000 in
/-- fraction.lowest. -/
theorem flowest_eq (n d : Int) (Q : Rat) (w : World) (hamb : Amb w) (h0 : d ≠ 0) (hn : nz n ≤ 90000) (hd : nz d ≤ 90000) (hQ : Rat.divInt n d = Q) :
    Calls Tryz.prog 115 #[.string (itx n), .string (itx d)] w (SmallRes (rv Q) w) := by
  have HQ := Lib.hid hQ
  have HQ' := Lib.hid (show Rat.divInt (-n) (-d) = Q by rw [Rat.neg_divInt_neg]; exact hQ)
  have HAMB := Lib.hid hamb
  have hnn : nz (-n) ≤ 90000 := by rw [nz_neg]; exact hn
  have hnd : nz (-d) ≤ 90000 := by rw [nz_neg]; exact hd
  clear hQ hamb
  go_enter Tryz.func115, Tryz.ntmps115
  go_wp2_with fail
  obtain ⟨W, hW⟩ : ∃ W, (w.alloc (.cells #[.string ⟨#[]⟩, .string ⟨#[]⟩] 24)) = W := ⟨_, rfl⟩
  rw [hW]
  obtain ⟨hX, hBW⟩ := B1.of hW
  clear hW
  have HX := Lib.hid (fun wz (hb : Below W.heap.size W wz) => hX.later hb)
  have HB := Lib.hid hBW
  have HA := Lib.hid (fun wz (hb : Below W.heap.size W wz) => HAMB.out.below (bel_chain HB.out hb))
  clear hX hBW
  refine (sign_any d _ (by omega)).mono ?_
  rintro e w1 ⟨rfl, hb1⟩
  go_upto_if 8 with fail
  go_cut [0, 1] (fun s0 s1 wx => LowMid Q 90000 W s0 s1 wx)
  case first =>
    by_cases hneg : d < 0
    · have hsg : d.sign = -1 := Int.sign_eq_neg_one_of_neg hneg
      go_wp2_with fail
      refine (neg_any n _ (by omega)).mono ?_
      rintro e w2 ⟨rfl, hb2⟩
      go_wp2_with fail
      refine (neg_any d _ (by omega)).mono ?_
      rintro e w3 ⟨rfl, hb3⟩
      go_wp2_with fail
      go_meet
      exact ⟨-n, -d, rfl, rfl, by omega, HQ'.out, hnn, hnd, bel_chain (bel_chain hb1 hb2) hb3⟩
    · have hsg : d.sign = 1 := Int.sign_eq_one_of_pos (by omega)
      go_wp2_with fail
      go_meet
      exact ⟨n, d, rfl, rfl, by omega, HQ.out, hn, hd, hb1⟩
  case rest =>
    obtain ⟨n', d', rfl, rfl, hdp, hdi, hn', hd', hbc⟩ := hcut
    obtain ⟨g, hg⟩ : ∃ g, Int.gcd n' d' = g := ⟨_, rfl⟩
    have hl := low_fq n' d' hdp
    have hgz := gcd_ne n' d' (by omega)
    rw [hg] at hl hgz
    rw [hdi] at hl
    have HF := Lib.hid hl
    have HN1 := Lib.hid (fun (h : g = 1) => show itx n' = itx Q.num ∧ itx d' = itx (Q.den : Int) by
      subst h
      have e1 := hl.1
      have e2 := hl.2
      unfold fq at e1 e2
      rw [if_pos (by omega), Int.natCast_one, Int.ediv_one] at e1 e2
      exact ⟨by rw [e1], by rw [e2]⟩)
    have hng : nz (g : Int) ≤ 90000 := by
      rw [← hg]
      exact Nat.le_trans (nz_mono (by rw [Int.natAbs_natCast]; exact Nat.le_of_dvd (by omega) (Nat.gcd_dvd_right _ _))) hd'
    have hc1 := wgcd_any n' d' wc (HA.out _ hbc) (by omega) (by omega)
    rw [hg, ← itx_nat] at hc1
    have HC1 := Lib.hid hc1
    have HBC := Lib.hid hbc
    have HGZ := Lib.hid hgz
    clear hl hg hc1 hbc hb1 hdi hgz
    go_wp2_with fail
    refine HC1.out.mono ?_
    rintro e w4 ⟨rfl, hb4⟩
    have HB4 := Lib.hid (bel_chain HBC.out hb4)
    obtain ⟨_, r40, r41, r42, r43⟩ := HX.out _ HB4.out
    clear hb4
    by_cases h1 : g = 1
    · have ht : ((itx (g : Int)).toList == [49]) = true := by rw [h1]; exact itx_one_same
      have HE := Lib.hid (HN1.out h1)
      clear h1
      go_wp2_with fail
      refine ret_cell rfl rfl (load_rat (g := w.heap.size) ((HX.out _ HB4.out).store0 _ _)) rfl ?_
      exact ⟨by rw [HE.out.1, HE.out.2], ((bel_chain HB.out HB4.out).setCell (by simp <;> omega) _).setCell (by simp <;> omega) _⟩
    · have ht := itx_one_test (z := (g : Int)) (by omega)
      clear h1
      go_wp2_with fail
      refine (wdivmod_any n' (g : Int) _ (HA.out _ HB4.out) HGZ.out (by omega) (by omega)).mono ?_
      rintro e w5 ⟨rfl, hb5⟩
      have HB5 := Lib.hid (bel_chain HB4.out hb5)
      obtain ⟨_, r50, r51, r52, r53⟩ := HX.out _ HB5.out
      clear hb5
      go_wp2_with fail
      refine (wdivmod_any d' (g : Int) _ (HA.out _ HB5.out) HGZ.out (by omega) (by omega)).mono ?_
      rintro e w6 ⟨rfl, hb6⟩
      have HB6 := Lib.hid (bel_chain HB5.out hb6)
      obtain ⟨_, r60, r61, r62, r63⟩ := HX.out _ HB6.out
      clear hb6
      go_wp2_with fail
      refine ret_cell rfl rfl (load_rat (g := w.heap.size) ((HX.out _ HB6.out).store0 _ _)) rfl ?_
      exact ⟨by rw [HF.out.1, HF.out.2], ((bel_chain HB.out HB6.out).setCell (by simp <;> omega) _).setCell (by simp <;> omega) _⟩

theorem flowest_any (n d : Int) (w : World) (hamb : Amb w) (h0 : d ≠ 0) (hn : nz n ≤ 90000) (hd : nz d ≤ 90000) :
    Calls Tryz.prog 115 #[.string (itx n), .string (itx d)] w (SmallRes (rv (Rat.divInt n d)) w) := flowest_eq n d _ w hamb h0 hn hd rfl
/-- A fraction that is none, and an error. -/
abbrev noRat : Value := .agg #[.string ⟨#[]⟩, .string ⟨#[]⟩]
theorem fnew_zero (n : Int) (w : World) :
    Calls Tryz.prog 81 #[.string (itx n), .string (itx 0)] w (SmallRes (.tuple #[noRat, .int .i64 17]) w) := by
  have HS := Lib.hid (sign_any 0)
  go_enter Tryz.func81, Tryz.ntmps81
  go_wp2_with fail
  obtain ⟨W, hW⟩ : ∃ W, (w.alloc (.cells #[.string ⟨#[]⟩, .string ⟨#[]⟩] 24)) = W := ⟨_, rfl⟩
  rw [hW]
  obtain ⟨hX, hBW⟩ := B1.of hW
  clear hW
  refine (HS.out W (Nat.le_trans ((nz_le_iff 0 0).2 (by decide)) (by omega))).mono ?_
  rintro e w1 ⟨rfl, hb1⟩
  have HX1 := Lib.hid (hX.later hb1)
  have HB1 := Lib.hid (bel_chain hBW hb1)
  obtain ⟨_, r0, r1, r2, r3⟩ := HX1.out
  clear hb1 hX hBW
  go_wp2_with fail
  refine ret_cell_tmp rfl rfl (load_rat (g := w.heap.size) (HX1.out.store0 _ _)) rfl ?_
  exact ⟨rfl, (HB1.out.setCell (by simp <;> omega) _).setCell (by simp <;> omega) _⟩
theorem fnew_eq (n d : Int) (Q : Rat) (w : World) (hamb : Amb w) (h0 : d ≠ 0) (hn : nz n ≤ 90000) (hd : nz d ≤ 90000) (hQ : Rat.divInt n d = Q) :
    Calls Tryz.prog 81 #[.string (itx n), .string (itx d)] w (SmallRes (.tuple #[rv Q, .int .i64 0]) w) := by
  have hs : d.sign ≠ 0 := fun h => h0 (Int.sign_eq_zero_iff_zero.1 h)
  have hsb : (d.sign == 0) = false := by rw [beq_eq_false_iff_ne]; exact hs
  have hdb : (d == 0) = false := by rw [beq_eq_false_iff_ne]; exact h0
  have HC := Lib.hid (fun w hamb => flowest_eq n d Q w hamb h0 hn hd hQ)
  have HAMB := Lib.hid hamb
  clear hQ hamb hs
  go_enter Tryz.func81, Tryz.ntmps81
  go_wp2_with fail
  obtain ⟨W, hW⟩ : ∃ W, (w.alloc (.cells #[.string ⟨#[]⟩, .string ⟨#[]⟩] 24)) = W := ⟨_, rfl⟩
  rw [hW]
  obtain ⟨hX, hBW⟩ := B1.of hW
  clear hW
  refine (sign_any d W (by omega)).mono ?_
  rintro e w1 ⟨rfl, hb1⟩
  have HX1 := Lib.hid (hX.later hb1)
  have HB1 := Lib.hid (bel_chain hBW hb1)
  clear hb1 hX hBW
  go_wp2_with fail
  refine (HC.out w1 (HAMB.out.below HB1.out)).mono ?_
  rintro e w2 ⟨rfl, hb2⟩
  have HX2 := Lib.hid (HX1.out.later hb2)
  have HB2 := Lib.hid (bel_chain HB1.out hb2)
  obtain ⟨_, r0, r1, r2, r3⟩ := HX2.out
  clear hb2
  go_wp2_with fail
  refine ret_cell_tmp rfl rfl (load_rat (g := w.heap.size) (HX2.out.store0 _ _)) rfl ?_
  exact ⟨rfl, (HB2.out.setCell (by simp <;> omega) _).setCell (by simp <;> omega) _⟩
theorem nz_i64' {z : Int} (h0 : -9223372036854775808 ≤ z) (h1 : z ≤ 9223372036854775807) : nz z ≤ 100 :=
  Nat.le_trans ((nz_le_iff z 19).2 (by
    have : (10 : Nat) ^ (19 + 1) = 100000000000000000000 := by decide
    omega)) (by omega)
end
section
open Go.RowKit Go.PlainAid
attribute [local go_sem] field_rat0 field_rat1
theorem mul_bd9 {a b : Int} (ha : -999999999 ≤ a ∧ a ≤ 999999999) (hb : -999999999 ≤ b ∧ b ≤ 999999999) : -999999998000000001 ≤ a * b ∧ a * b ≤ 999999998000000001 := by
  have h3 : (a * b).natAbs ≤ 999999999 * 999999999 := by rw [Int.natAbs_mul]; exact Nat.mul_le_mul (by omega) (by omega)
  omega
theorem fof_eq (n d : Int) (Q : Rat) (w : World) (hamb : Amb w) (h0 : -2000000000000000000 ≤ n) (h1 : n ≤ 2000000000000000000) (hd0 : 1 ≤ d) (hd1 : d ≤ 1000000000000000000) (hQ : Rat.divInt n d = Q) :
    Calls Tryz.prog 133 #[.int .i64 n, .int .i64 d] w (SmallRes (rv Q) w) := by
  subst hQ; exact fof_any n d w hamb h0 h1 hd0 hd1
theorem rat_abs_num (p : Rat) : p.abs.num = ((p.num.natAbs : Nat) : Int) ∧ p.abs.den = p.den := by
  by_cases h : 0 ≤ p
  · rw [Rat.abs_of_nonneg h]
    have := Rat.num_nonneg.2 h
    exact ⟨by omega, rfl⟩
  · have h2 : p ≤ 0 := Rat.le_of_lt (Rat.not_le.1 h)
    rw [Rat.abs_of_nonpos h2, Rat.neg_num, Rat.neg_den]
    have : ¬ 0 ≤ p.num := fun k => h (Rat.num_nonneg.1 k)
    exact ⟨by omega, rfl⟩
theorem lit_one : (⟨#[49]⟩ : ByteArray) = itx 1 := itx_lit_one.symm
theorem den_one_yes {p : Rat} (h : p.den = 1) : ((itx (p.den : Int)).toList == [49]) = true := by rw [h]; exact itx_one_same
theorem den_one_no {p : Rat} (h : ¬ p.den = 1) : ((itx (p.den : Int)).toList == [49]) = false := itx_one_test (by omega)
set_option maxRecDepth 100000 in
set_option maxHeartbeats 4000000 in
/-- fraction.Neg. -/
theorem fneg_any (p : Rat) (w : World) (hp : NQ p 20000) :
    Calls Tryz.prog 48 #[rv p] w (SmallRes (rv (-p)) w) := by
  obtain ⟨hp1, hp2⟩ := hp
  obtain ⟨Q, hQ⟩ : ∃ Q, -p = Q := ⟨_, rfl⟩
  have HQ := Lib.hid (show Q.num = -p.num by rw [← hQ, Rat.neg_num])
  have HQ2 := Lib.hid (show (Q.den : Int) = (p.den : Int) by rw [← hQ, Rat.neg_den])
  rw [hQ]
  clear hQ
  go_enter Tryz.func48, Tryz.ntmps48
  go_wp2_with fail
  obtain ⟨W, hW⟩ : ∃ W, ((w.alloc (.cells #[.string (itx p.num), .string (itx (p.den : Int))] 24)).alloc (.cells #[.string ⟨#[]⟩, .string ⟨#[]⟩] 24)) = W := ⟨_, rfl⟩
  rw [hW]
  obtain ⟨hX, hBW⟩ := B2.of hW
  clear hW
  have HX := Lib.hid (fun wz (hb : Below W.heap.size W wz) => hX.later hb)
  have HB := Lib.hid hBW
  have hz0 : Below W.heap.size W W := Below.refl _ _
  clear hBW
  obtain ⟨⟨_, c000, c001, f000, f001⟩, ⟨_, c010, c011, f010, f011⟩⟩ := hX
  have hzd := hz0.drew
  have HC1 := Lib.hid (neg_any p.num W.drew (by omega))
  go_region_held3 (fun w' => w'.cell? ⟨w.heap.size, 0, none⟩ = some (.string (itx p.num)) ∧ w'.cell? ⟨w.heap.size, 1, none⟩ = some (.string (itx (p.den : Int)))) (first | exact ⟨(HXL.out.store1 _ _).1.2.1, (HXL.out.store1 _ _).1.2.2.1⟩ | go_keep)
    (first
      | ((with_reducible refine HC1.out.mono ?_); rintro e w1 ⟨rfl, hb1⟩; have hz1 := bel_chain hzd hb1; obtain ⟨⟨_, c100, c101, f100, f101⟩, ⟨_, c110, c111, f110, f111⟩⟩ := HX.out _ hz1; have HXL := Lib.hid (HX.out _ hz1)))
  go_wp2_with fail
  refine ret_cell rfl rfl (load_rat (g := w.heap.size + 1) ((HX.out _ hz1).store1 _ _).2) rfl ?_
  exact ⟨by show Ending.returned (.agg #[.string (itx (-p.num)), .string (itx (p.den : Int))]) = _; rw [← HQ.out, ← HQ2.out], ((bel_chain HB.out hz1).setCell (by simp <;> omega) _).setCell (by simp <;> omega) _⟩

set_option maxRecDepth 100000 in
set_option maxHeartbeats 4000000 in
/-- fraction.Abs. -/
theorem fabs_any (p : Rat) (w : World) (hp : NQ p 20000) :
    Calls Tryz.prog 74 #[rv p] w (SmallRes (rv p.abs) w) := by
  obtain ⟨hp1, hp2⟩ := hp
  obtain ⟨Q, hQ⟩ : ∃ Q, p.abs = Q := ⟨_, rfl⟩
  have HQ := Lib.hid (show Q.num = ((p.num.natAbs : Nat) : Int) by rw [← hQ]; exact (rat_abs_num p).1)
  have HQ2 := Lib.hid (show (Q.den : Int) = (p.den : Int) by rw [← hQ, (rat_abs_num p).2])
  rw [hQ]
  clear hQ
  go_enter Tryz.func74, Tryz.ntmps74
  go_wp2_with fail
  obtain ⟨W, hW⟩ : ∃ W, ((w.alloc (.cells #[.string (itx p.num), .string (itx (p.den : Int))] 24)).alloc (.cells #[.string ⟨#[]⟩, .string ⟨#[]⟩] 24)) = W := ⟨_, rfl⟩
  rw [hW]
  obtain ⟨hX, hBW⟩ := B2.of hW
  clear hW
  have HX := Lib.hid (fun wz (hb : Below W.heap.size W wz) => hX.later hb)
  have HB := Lib.hid hBW
  have hz0 : Below W.heap.size W W := Below.refl _ _
  clear hBW
  obtain ⟨⟨_, c000, c001, f000, f001⟩, ⟨_, c010, c011, f010, f011⟩⟩ := hX
  have hzd := hz0.drew
  have HC1 := Lib.hid (abs_any p.num W.drew (by omega))
  go_region_held3 (fun w' => w'.cell? ⟨w.heap.size, 0, none⟩ = some (.string (itx p.num)) ∧ w'.cell? ⟨w.heap.size, 1, none⟩ = some (.string (itx (p.den : Int)))) (first | exact ⟨(HXL.out.store1 _ _).1.2.1, (HXL.out.store1 _ _).1.2.2.1⟩ | go_keep)
    (first
      | ((with_reducible refine HC1.out.mono ?_); rintro e w1 ⟨rfl, hb1⟩; have hz1 := bel_chain hzd hb1; obtain ⟨⟨_, c100, c101, f100, f101⟩, ⟨_, c110, c111, f110, f111⟩⟩ := HX.out _ hz1; have HXL := Lib.hid (HX.out _ hz1)))
  go_wp2_with fail
  refine ret_cell rfl rfl (load_rat (g := w.heap.size + 1) ((HX.out _ hz1).store1 _ _).2) rfl ?_
  exact ⟨by show Ending.returned (.agg #[.string (dec p.num.natAbs), .string (itx (p.den : Int))]) = _; rw [← itx_nat, ← HQ.out, ← HQ2.out], ((bel_chain HB.out hz1).setCell (by simp <;> omega) _).setCell (by simp <;> omega) _⟩

set_option maxRecDepth 100000 in
set_option maxHeartbeats 4000000 in
/-- fraction.Sign. -/
theorem fsign_any (p : Rat) (w : World) (hp : NQ p 20000) :
    Calls Tryz.prog 46 #[rv p] w (SmallRes (.int .i64 p.num.sign) w) := by
  obtain ⟨hp1, hp2⟩ := hp
  go_enter Tryz.func46, Tryz.ntmps46
  go_wp2_with fail
  obtain ⟨W, hW⟩ : ∃ W, (w.alloc (.cells #[.string (itx p.num), .string (itx (p.den : Int))] 24)) = W := ⟨_, rfl⟩
  rw [hW]
  obtain ⟨hX, hBW⟩ := B1.of hW
  clear hW
  have HX := Lib.hid (fun wz (hb : Below W.heap.size W wz) => hX.later hb)
  have HB := Lib.hid hBW
  have hz0 : Below W.heap.size W W := Below.refl _ _
  clear hBW
  obtain ⟨_, c000, c001, f000, f001⟩ := hX
  go_wp2_with fail
  refine (sign_any p.num _ (by omega)).mono ?_
  rintro e w1 ⟨rfl, hb1⟩
  have hz1 := bel_chain hz0 hb1
  obtain ⟨_, c100, c101, f100, f101⟩ := HX.out _ hz1
  go_wp2_with fail
  go_ret
  exact ⟨rfl, bel_chain HB.out hz1⟩

end
end Go.Proofs.YtpafocfpofnkpaaGreatDoor
