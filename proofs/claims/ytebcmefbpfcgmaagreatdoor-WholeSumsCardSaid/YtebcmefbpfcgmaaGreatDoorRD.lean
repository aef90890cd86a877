/- The second chapter's reference: order, plus, minus. -/
import Derived.Test.YtebcmefbpfcgmaaGreatDoorRC
import Derived.Test.YtebcmefbpfcgmaaGreatDoorPcmp
import Derived.Deep.DrawnRows
namespace Go.Proofs.YtebcmefbpfcgmaaGreatDoor
open Go.RowKit Go.PlainAid

theorem append_ownI {ops : Array Oper} {rest : List Oper} {o : Oper} {a : Act} {w : World} {Q : Exit → Act → World → Prop} (hgd : o.guard = none) (s x : Operand) (t : TypeId)
    (ho : o.op = .call { callee := .builtin .append, args := #[s, x], argTypes := #[t, t] }) (ht : Tryz.prog.underlying t = some (.slice 3))
    (B : Nat) (v : Value) (xs : List Nat) (w0 : World) (hs : a.eval s = v) (hp : OwnN B w0 v xs) (hB : B ≤ w0.heap.size) (hn : xs.length ≤ 1000000000) (y : Nat) (yi : Int)
    (hw : w = w0.alloc (.cells #[.int .i64 yi] 3)) (hx : a.eval x = .slice (some ⟨w0.heap.size, 0, none⟩) 1 1) (hy : yi = (y : Int))
    (h : ∀ v' w', OwnN B w' v' (xs ++ [y]) → Below B w0 w' → wpList Tryz.prog ops Q rest (a.put o.dst v') w') :
    wpList Tryz.prog ops Q (o :: rest) a w := by
  subst hy
  exact append_own hgd s x t ho ht B v xs w0 hs hp hB hn y hw hx h
set_option maxHeartbeats 400000 in
/-- schismaref02.order. -/
theorem r2order_any (A1 : Option Addr) (n1 cap1 : Nat) (A2 : Option Addr) (n2 cap2 a b : Nat) (w : World) (hp : Ns w A1 n1 cap1 (lims a)) (hq : Ns w A2 n2 cap2 (lims b)) :
    Calls Tryz.prog 27 #[.slice A1 n1 cap1, .slice A2 n2 cap2] w (SmallRes (.int .i64 (cmpI a b)) w) := by
  have hcap := hp.cap_le
  have hle := hp.le
  have hle2 := hq.le
  have hcap2 := hq.cap_le
  have HL := Lib.hid hp.len
  have HL2 := Lib.hid hq.len
  by_cases hn : n1 = n2
  · subst hn
    have hne : ((n1 : Int) != (n1 : Int)) = false := by simp
    by_cases h0 : n1 = 0
    · subst h0
      have HC := Lib.hid (show cmpI a b = 0 by
        have e1 : a = 0 := lims_ne_nil.1 (List.eq_nil_of_length_eq_zero HL.out)
        have e2 : b = 0 := lims_ne_nil.1 (List.eq_nil_of_length_eq_zero HL2.out)
        rw [e1, e2]; rfl)
      rw [HC.out]
      go_enter Tryz.func27, Tryz.ntmps27
      go_wp2
      go_loop [5] (fun v => v = .int .i64 (-1)) (fun _ => 0)
      case atStart => rfl
      case round =>
        subst hrel
        go_wp2
        go_ret
        exact ⟨rfl, Below.refl _ _⟩
    obtain ⟨g1, rfl, hp1⟩ := hp.at_ (show 0 < n1 by omega)
    obtain ⟨g2, rfl, hq1⟩ := hq.at_ (show 0 < n1 by omega)
    clear hp hq
    have hp := hp1
    have hq := hq1
    clear hp1 hq1
    have hg1 := hp.lt
    have hg2 := hq.lt
    go_enter Tryz.func27, Tryz.ntmps27
    go_wp2
    go_loopw [5] (fun vi wr => ∃ i : Nat, i ≤ n1 ∧ vi = .int .i64 ((i : Int) - 1) ∧ Below w.heap.size w wr ∧ Hid ((lims a).drop i = (lims b).drop i)) (fun vi _ => (intOf vi + 1).toNat)
    case atStart => exact ⟨n1, Nat.le_refl _, rfl, Below.refl _ _, by rw [List.drop_of_length_le (by rw [HL.out]; omega), List.drop_of_length_le (by rw [HL2.out]; omega)]; rfl⟩
    case round =>
      obtain ⟨i, hi, rfl, hb, HD⟩ := hrel
      by_cases hi0 : i = 0
      · subst hi0
        go_wp2
        go_ret
        exact ⟨ret_int (by rw [pcmp_eq HD.out, cmpI_eq]), hb⟩
      · obtain ⟨j, rfl⟩ : ∃ j, i = j + 1 := ⟨i - 1, by omega⟩
        have ec : ((j + 1 : Nat) : Int) - 1 = (j : Int) := by omega
        rw [ec]
        have hc1 := (hp.below hb hg1).cell j (by omega)
        have hc2 := (hq.below hb hg2).cell j (by omega)
        have hb1 : (j : Int) < (n1 : Int) := by omega
        have HLT := Lib.hid (fun h => pcmp_lt (a := a) (b := b) (i := j) (by rw [HL.out, HL2.out]) (by rw [HL2.out]; omega) HD.out h)
        have HGT := Lib.hid (fun h => pcmp_lt (a := b) (b := a) (i := j) (by rw [HL.out, HL2.out]) (by rw [HL.out]; omega) HD.out.symm h)
        have HEQ := Lib.hid (fun h => drop_step (xs := lims a) (ys := lims b) (i := j) (by rw [HL.out]; omega) (by rw [HL2.out]; omega) HD.out h)
        clear ec
        generalize (lims a).getD j 0 = x at *
        generalize (lims b).getD j 0 = y at *
        rcases Nat.lt_trichotomy x y with h | h | h
        · go_wp2
          go_quiet (fail)
          go_wp2
          go_ret
          exact ⟨ret_int (cmpI_lt (HLT.out h)).symm, bel_drewN hb _⟩
        · subst h
          go_wp2
          go_quiet (fail)
          go_wp2
          go_quiet (fail)
          go_wp2
          refine ⟨⟨j, by omega, rfl, ?_, HEQ.out trivial⟩, by simp [intOf]⟩
          first | exact bel_drewN hb _ | exact bel_drewN (bel_drewN hb _) _
        · have hxy : ¬ x < y := by omega
          go_wp2
          go_quiet (fail)
          go_wp2
          go_quiet (fail)
          go_wp2
          go_ret
          refine ⟨ret_int (cmpI_gt (HGT.out h)).symm, ?_⟩
          first | exact bel_drewN hb _ | exact bel_drewN (bel_drewN hb _) _
  · have hne : ((n1 : Int) != (n2 : Int)) = true := by rw [bne_iff_ne]; omega
    rcases Nat.lt_or_gt_of_ne hn with h | h
    · have HC := Lib.hid (cmpI_lt (pcmp_len (a := a) (b := b) (by rw [HL.out, HL2.out]; exact h)))
      go_enter Tryz.func27, Tryz.ntmps27
      go_wp2
      all_goals go_ret
      all_goals exact ⟨ret_int (by rw [HC.out]), Below.refl _ _⟩
    · have HC := Lib.hid (cmpI_gt (pcmp_len (a := b) (b := a) (by rw [HL.out, HL2.out]; exact h)))
      go_enter Tryz.func27, Tryz.ntmps27
      go_wp2
      all_goals go_ret
      all_goals exact ⟨ret_int (by rw [HC.out]), Below.refl _ _⟩
/-- Pieces, perhaps with zeros at the end, of a value. -/
def RawPost (a k : Nat) (w : World) (e : Ending) (w' : World) : Prop :=
  ∃ A n cap xs, e = .returned (.slice A n cap) ∧ Ns w' A n cap xs ∧ Lims xs ∧ lv xs = a ∧ n ≤ k ∧ Below w.heap.size w w'
def PlusRel (xs ys : List Nat) (i c : Nat) (vo : Value) (w wr : World) : Prop := Below w.heap.size w wr ∧ ∃ o, OwnN w.heap.size wr vo o ∧ PlusAt xs ys i c o
set_option maxRecDepth 100000 in
set_option maxHeartbeats 1000000 in
/-- schismaref02.plus. -/
theorem r2plus_any (A1 : Option Addr) (n1 cap1 : Nat) (A2 : Option Addr) (n2 cap2 a b : Nat) (w : World) (hp : Ns w A1 n1 cap1 (lims a)) (hq : Ns w A2 n2 cap2 (lims b)) (h1 : n1 ≤ 1000000) (h2 : n2 ≤ 1000000) :
    Calls Tryz.prog 26 #[.slice A1 n1 cap1, .slice A2 n2 cap2] w (RawPost (a + b) (n1 + n2 + 1) w) := by
  have hcap := hp.cap_le
  have hle := hp.le
  have hle2 := hq.le
  have hcap2 := hq.cap_le
  have HL := Lib.hid hp.len
  have HL2 := Lib.hid hq.len
  have HP := Lib.hid hp
  have HQ := Lib.hid hq
  have HV := Lib.hid (And.intro (lv_lims a) (lv_lims b))
  have HX := Lib.hid (Lims_lims a)
  have HY := Lib.hid (Lims_lims b)
  generalize lims a = xs at *
  generalize lims b = ys at *
  clear hp hq
  go_enter Tryz.func26, Tryz.ntmps26
  go_wp2
  go_loopw [5, 6, 7] (fun vo vc vi wr => ∃ i c : Nat, i ≤ n1 + n2 + 1 ∧ c ≤ 1 ∧ (n1 ≤ i → n2 ≤ i → c = 1 → i ≤ n1 + n2) ∧ vi = .int .i64 (i : Int) ∧ vc = .int .i64 (c : Int) ∧ PlusRel xs ys i c vo w wr) (fun _ _ vi _ => n1 + n2 + 1 - (intOf vi).toNat)
  case atStart => exact ⟨0, 0, by omega, by omega, by omega, rfl, rfl, Below.refl _ _, [], OwnN.nil _ _, PlusAt.start _ _⟩
  case round =>
    obtain ⟨i, c, hi, hc, hmore, rfl, rfl, hB, o, hown, hP⟩ := hrel
    obtain ⟨wo, rfl⟩ : ∃ wo : World, wo = wr := ⟨_, rfl⟩
    by_cases hend : n1 ≤ i ∧ n2 ≤ i ∧ c = 0
    · obtain ⟨he1, he2, rfl⟩ := hend
      have HF := Lib.hid (hP.fin (by rw [HL.out]; exact he1) (by rw [HL2.out]; exact he2))
      have HLO := Lib.hid (And.intro hP.lims hP.len)
      clear hP hmore
      go_wp2
      go_ret
      obtain ⟨A, cap, hv, hns⟩ := hown.ns
      exact ⟨A, _, cap, o, by rw [← hv]; rfl, hns, HLO.out.1, by rw [HF.out, HV.out.1, HV.out.2], by rw [HLO.out.2]; exact hi, hB⟩
    · have hi2 : i < n1 + n2 + 1 := by omega
      have hxb := Lims_getD HX.out i
      have hyb := Lims_getD HY.out i
      have HXZ := Lib.hid (fun h : ¬ i < n1 => take_getD_zero xs i (by rw [HL.out]; omega))
      have HYZ := Lib.hid (fun h : ¬ i < n2 => take_getD_zero ys i (by rw [HL2.out]; omega))
      have HST := Lib.hid (fun t ht => hP.step HX.out HY.out t ht)
      have HLO := Lib.hid hP.len
      have HC1 := Lib.hid (fun (h : i < n1) => (HP.out.below hB (Nat.le_refl _)).at_ h)
      have HC2 := Lib.hid (fun (h : i < n2) => (HQ.out.below hB (Nat.le_refl _)).at_ h)
      obtain ⟨x, hx⟩ : ∃ x, xs.getD i 0 = x := ⟨_, rfl⟩
      obtain ⟨y, hy⟩ : ∃ y, ys.getD i 0 = y := ⟨_, rfl⟩
      rw [hx] at hxb HXZ HST
      rw [hy] at hyb HYZ HST
      have HXE := Lib.hid hx
      have HYE := Lib.hid hy
      obtain ⟨t, ht⟩ : ∃ t, t = c + x + y := ⟨_, rfl⟩
      have HST2 := Lib.hid (HST.out t ht)
      have hol : o.length ≤ 1000000000 := by have := HLO.out; omega
      have HEND := Lib.hid hend
      have HMORE := Lib.hid (show n1 ≤ i + 1 → n2 ≤ i + 1 → t / 1000000000 = 1 → i + 1 ≤ n1 + n2 by
        intro e1 e2 e3
        have := (e3 ▸ (HST.out t ht)).more HX.out HY.out
        rw [HL.out, HL2.out] at this
        omega)
      clear hP hmore hx hy HST hend
      go_upto_region 4 with fail
      go_cut [21] (fun s21 wx => s21 = .bool true ∧ wo = wx)
      case first =>
        by_cases g1 : i < n1
        · go_wp2_with fail
          go_meet
          exact ⟨rfl, rfl⟩
        · by_cases g2 : i < n2
          · go_wp2_with fail
            go_meet
            exact ⟨rfl, rfl⟩
          · have hc1 : c = 1 := by have := HEND.out; omega
            subst hc1
            go_wp2_with fail
            go_meet
            exact ⟨rfl, rfl⟩
      case rest =>
        obtain ⟨rfl, rfl⟩ := hcut
        go_upto_if 27 with fail
        go_cut [6] (fun s6 wx => s6 = .int .i64 ((c : Int) + (x : Int)) ∧ wo = wx)
        case first =>
          by_cases g1 : i < n1
          · obtain ⟨b1, rfl, hc1⟩ := HC1.out g1
            have hc1 := hc1.cell i g1
            rw [HXE.out] at hc1
            go_wp2_with fail
            go_meet
            exact ⟨rfl, rfl⟩
          · have hx0 := HXZ.out g1
            go_wp2_with fail
            go_meet
            exact ⟨vint (by omega), rfl⟩
        case rest =>
        obtain ⟨rfl, rfl⟩ := hcut
        go_upto_if 37 with fail
        go_cut [6] (fun s6 wx => s6 = .int .i64 (t : Int) ∧ wo = wx)
        case first =>
          by_cases g2 : i < n2
          · obtain ⟨b2, rfl, hc2⟩ := HC2.out g2
            have hc2 := hc2.cell i g2
            rw [HYE.out] at hc2
            go_wp2_with fail
            go_meet
            exact ⟨vint (by omega), rfl⟩
          · have hy0 := HYZ.out g2
            go_wp2_with fail
            go_meet
            exact ⟨vint (by omega), rfl⟩
        case rest =>
          obtain ⟨rfl, rfl⟩ := hcut
          have htb : t ≤ 2000000001 := by omega
          clear hxb hyb ht
          go_wp2_with (at_builtin; refine append_ownI rfl _ _ 47 rfl Tryz.underlying47 w.heap.size _ o wo rfl hown hB.size hol (t % 1000000000) _ rfl rfl (by omega) ?_; intro v4 w4 hq4 hb4)
          go_roundw
          case rel => exact ⟨i + 1, t / 1000000000, by omega, by have := HST2.out.carry; omega, HMORE.out, by go_num, by go_num, hB.trans hb4, _, hq4, HST2.out⟩
          case measure => simp [intOf]; omega
end Go.Proofs.YtebcmefbpfcgmaaGreatDoor
