/- The second chapter's reference: divide. -/
import Derived.Test.YtjglooeljdpadaaGreatDoorRE
import Derived.Deep.Upon
namespace Go.Proofs.YtjglooeljdpadaaGreatDoor
open Go.RowKit Go.PlainAid

/-- append(one piece, rest...). -/
theorem append_front {ops : Array Oper} {rest : List Oper} {o : Oper} {a : Act} {w : World} {Q : Exit → Act → World → Prop} (hgd : o.guard = none) (s x : Operand) (t : TypeId)
    (ho : o.op = .call { callee := .builtin .append, args := #[s, x], argTypes := #[t, t] }) (ht : Tryz.prog.underlying t = some (.slice 3))
    (B : Nat) (v : Value) (ys : List Nat) (w0 : World) (hx : a.eval x = v) (hp : OwnN B w0 v ys) (hB : B ≤ w0.heap.size) (hn : ys.length ≤ 1000000000) (y : Nat)
    (hw : w = w0.alloc (.cells #[.int .i64 (y : Int)] 3)) (hs : a.eval s = .slice (some ⟨w0.heap.size, 0, none⟩) 1 1)
    (h : ∀ v' w', OwnN B w' v' (y :: ys) → Below w0.heap.size w0 w' → wpList Tryz.prog ops Q rest (a.put o.dst v') w') :
    wpList Tryz.prog ops Q (o :: rest) a w := by
  subst hw
  have hone := Nc.one w0 y
  rcases hp with ⟨rfl, rfl⟩ | ⟨g, cap, rfl, hg, hp⟩
  · obtain ⟨i, hi, hz, hsz, hb⟩ := info_parts Tryz.infoNc
    have hr := run_append_nothing (P := Tryz.prog) (w0.alloc (.cells #[.int .i64 (y : Int)] 3)) t t o.type 3 i ht hi (some ⟨w0.heap.size, 0, none⟩) 1 1 (Nat.le_refl _) (.slice none 0 0) (Src.ofNil _ ht 0)
    refine wpList_plain hgd fun _ hK => ?_
    unfold Oper.wp execOp
    simp only [ho, resolve, invoke, builtin, Sem.run_bind, Sem.run_pure, Result.andThen_ok, List.map_toArray, List.map_cons, List.map_nil, hs, hx, hr]
    exact hK _ _ (h _ _ (.inr ⟨_, 1, rfl, by omega, hone⟩) ((Below.refl _ w0).alloc (Nat.le_refl _) _))
  · refine append_Nc hgd s x t ho ht _ 1 1 [y] hs hone g ys.length cap ys hx (hp.alloc _) (by omega) ?_
    intro g' cap' w' hq hon hat
    rw [World.size_alloc] at hat
    refine h _ _ (.inr ⟨g', cap', by rw [List.length_cons, Nat.add_comm 1], by rcases hat with h | h <;> omega, by rw [List.length_cons, Nat.add_comm]; exact hq⟩) ?_
    exact bel_only ((Below.refl _ w0).alloc (Nat.le_refl _) _) hon (Nat.le_refl _) (by rw [World.size_alloc]; omega)
def R2DivPost (a b : Nat) (w : World) (e : Ending) (w' : World) : Prop :=
  ∃ Aq nq cq Ar nr cr, e = .returned (.tuple #[.slice Aq nq cq, .slice Ar nr cr]) ∧ Ns w' Aq nq cq (lims (a / b)) ∧ Ns w' Ar nr cr (lims (a % b)) ∧ Below w.heap.size w w'
def R2DivRel (xs : List Nat) (b i R : Nat) (v : Value) (n : Nat) (w wr : World) : Prop :=
  Below w.heap.size w wr ∧ w.heap.size + 1 ≤ wr.heap.size ∧ OwnN (w.heap.size + 1) wr v (lims R) ∧ ∃ o, Nc wr w.heap.size n n o ∧ QuoAt xs b i R o
set_option maxRecDepth 100000 in
set_option maxHeartbeats 2000000 in
/-- schismaref02.divide. -/
theorem r2divide_any (A1 : Option Addr) (n1 cap1 : Nat) (A2 : Option Addr) (n2 cap2 a b : Nat) (w : World) (hp : Ns w A1 n1 cap1 (lims a)) (hq : Ns w A2 n2 cap2 (lims b)) (hb0 : 0 < b) (h1 : n1 ≤ 100000) (h2 : n2 ≤ 100000) :
    Calls Tryz.prog 51 #[.slice A1 n1 cap1, .slice A2 n2 cap2] w (R2DivPost a b w) := by
  have hcap1 := hp.cap_le
  have hle1 := hp.le
  have hle2 := hq.le
  have hcap2 := hq.cap_le
  have HL1 := Lib.hid hp.len
  have HL2 := Lib.hid hq.len
  have HP := Lib.hid (fun wz (h : Below w.heap.size w wz) => hp.below h (Nat.le_refl _))
  have HQ := Lib.hid (fun wz (h : Below w.heap.size w wz) => hq.below h (Nat.le_refl _))
  have hmk := make_Nc 51 Tryz.underlying51 n1 n1 (Nat.le_refl _) (by omega)
  have HM := Lib.hid (Nc.made w n1 n1 (Nat.le_refl _) (by omega))
  have HX := Lib.hid (Lims_lims a)
  have HS := Lib.hid (QuoAt.start (xs := lims a) hb0)
  have HV := Lib.hid (lv_lims a)
  clear hp hq
  generalize lims a = xs at *
  go_enter Tryz.func51, Tryz.ntmps51
  go_wp2_with fail
  clear hmk
  go_loopw [7, 8] (fun vr vi wr => ∃ i R : Nat, i ≤ n1 ∧ vi = .int .i64 ((i : Int) - 1) ∧ R2DivRel xs b i R vr n1 w wr) (fun _ vi _ => (intOf vi + 1).toNat)
  case atStart =>
    refine ⟨n1, 0, Nat.le_refl _, rfl, (Below.refl _ _).alloc (Nat.le_refl _) _, by rw [World.size_alloc]; omega, ?_, _, HM.out, ?_⟩
    · rw [lims_zero]; exact OwnN.nil _ _
    · have := HS.out; rw [HL1.out] at this; exact this
  case round =>
    obtain ⟨i, R, hi, rfl, hB, hsz, hown, o, ho, hQ⟩ := hrel
    obtain ⟨wo, rfl⟩ : ∃ wo : World, wo = wr := ⟨_, rfl⟩
    by_cases hi0 : i = 0
    · subst hi0
      have hf := hQ.fin
      rw [HV.out] at hf
      have hns := Ns.of ho
      have hty := r2trim_any _ _ _ o wo hns
      have hN := hns.trimmed
      rw [trimL_eq _ hQ.2.1, hf.1] at hty hN
      have HTR := Lib.hid hty
      have HN := Lib.hid hN
      have hr := hown.ns
      rw [hf.2] at hr
      obtain ⟨Ar, cr, rfl, hr⟩ := hr
      have HR := Lib.hid hr
      clear hty hN hns hf hQ hown ho hr
      go_wp2_with fail
      refine HTR.out.mono ?_
      rintro e w1 ⟨rfl, rfl⟩
      go_wp2_with fail
      go_ret2
      exact ⟨_, _, _, Ar, _, cr, rfl, HN.out, HR.out, hB⟩
    · obtain ⟨j, rfl⟩ : ∃ j, i = j + 1 := ⟨i - 1, by omega⟩
      have ec : ((j + 1 : Nat) : Int) - 1 = (j : Int) := by omega
      rw [ec]
      obtain ⟨b1, rfl, hc1⟩ := (HP.out _ hB).at_ (show j < n1 by omega)
      have hc1 := hc1.cell j (by omega)
      have hjn : (j : Int) < (n1 : Int) := by omega
      have hxb := Lims_getD HX.out j
      have hst := hQ.step HX.out (by rw [HL1.out]; omega)
      have hRb := hQ.2.2.2
      obtain ⟨x, hx⟩ : ∃ x, xs.getD j 0 = x := ⟨_, rfl⟩
      rw [hx] at hc1 hxb hst
      have hlc := lims_cons x R hxb
      obtain ⟨N, hN⟩ : ∃ N, x + 1000000000 * R = N := ⟨_, rfl⟩
      rw [hN] at hst hlc
      obtain ⟨q, hq⟩ : ∃ q, N / b = q := ⟨_, rfl⟩
      have HMID := Lib.hid (fun m => mid_le (m := m) hb0 hq)
      rw [hq] at hst
      have hq9 := hst.2
      have HST := Lib.hid hst.1
      have HQN := Lib.hid hq
      have HLC := Lib.hid hlc
      have hlen : (lims R).length ≤ 1000000000 := by
        have h3 := lims_len_mono (Nat.le_of_lt hRb)
        rw [HL2.out] at h3; omega
      have hNlen : (lims N).length ≤ 1000000 := by
        rw [← hlc, trimL_take, List.length_take]
        have h3 := lims_len_mono (Nat.le_of_lt hRb)
        rw [HL2.out] at h3
        have h4 : (x :: lims R).length = (lims R).length + 1 := rfl
        omega
      clear hst hQ hx hlc hN hq ec
      go_wp2_with (at_builtin; refine append_front rfl _ _ 51 rfl Tryz.underlying51 (w.heap.size + 1) _ (lims R) wo rfl hown hsz hlen x rfl rfl ?_; intro v4 w4 hq4 hb4)
      obtain ⟨A4, c4, rfl, hns4⟩ := hq4.ns
      have hty := r2trim_any A4 _ c4 _ w4 hns4
      have hN4 := hq4.trimmed
      rw [HLC.out] at hty hN4
      have HTR := Lib.hid hty
      have HN4 := Lib.hid hN4
      have hB4 := hB.trans (hb4.mono hB.size)
      have hs4 : w.heap.size + 1 ≤ w4.heap.size := Nat.le_trans hsz hb4.size
      have ho4 := ho.below hb4 ho.lt
      clear hty hN4 hns4 hq4 hown ho hb4 hB hsz
      go_wp2_with fail
      refine HTR.out.mono ?_
      rintro e w1 ⟨rfl, rfl⟩
      obtain ⟨mN, hmN⟩ : ∃ mN, (lims N).length = mN := ⟨_, rfl⟩
      rw [hmN] at HN4 hNlen ⊢
      go_wp2_with fail
      go_loopw [9, 10] (fun vl vh wr => ∃ lo hi : Nat, lo ≤ q ∧ q ≤ hi ∧ hi < 1000000000 ∧ vl = .int .i64 (lo : Int) ∧ vh = .int .i64 (hi : Int) ∧ Below w4.heap.size w4 wr) (fun vl vh _ => (intOf vh - intOf vl).toNat)
      case atStart => exact ⟨0, 999999999, by omega, by omega, by omega, rfl, rfl, Below.refl _ _⟩
      case round =>
        obtain ⟨lo, hi', hlo, hhi, hh9, rfl, rfl, hbi⟩ := hrel
        obtain ⟨wi, rfl⟩ : ∃ wi : World, wi = wr := ⟨_, rfl⟩
        have hBi := bel_chain hB4 hbi
        by_cases hlt : lo < hi'
        · obtain ⟨m, hm⟩ : ∃ m, (lo + hi' + 1) / 2 = m := ⟨_, rfl⟩
          have hmi : ((lo : Int) + (hi' : Int) + 1) / 2 = (m : Int) := by omega
          have hmr : m < 1000000000 := by omega
          have hti := r2times_any A2 n2 cap2 (some ⟨wi.heap.size, 0, none⟩) 1 1 (lims b) [m] (wi.alloc (.cells #[.int .i64 (m : Int)] 3)) ((HQ.out _ hBi).below ((Below.refl wi.heap.size wi).alloc (Nat.le_refl _) _) (Nat.le_refl _)) (Ns.of (Nc.one wi m)) (Lims_lims b) (by intro z hz; rw [List.mem_singleton.1 hz]; exact hmr) (by omega) (by omega)
          rw [lv_lims, lv_one] at hti
          have HTI := Lib.hid hti
          have hba : Below w4.heap.size w4 (wi.alloc (.cells #[.int .i64 (m : Int)] 3)) := hbi.alloc hbi.size _
          have hmid := HMID.out m
          have HLT := Lib.hid (show m ≤ q → ¬ 0 < cmpI (b * m) N from fun h => by
            have h3 := hmid.2 h
            rw [Nat.mul_comm] at h3
            rcases Nat.lt_or_eq_of_le h3 with h4 | h4
            · rw [cmpI_lt h4]; decide
            · rw [h4, cmpI_eq]; decide)
          have HGT := Lib.hid (show ¬ m ≤ q → cmpI (b * m) N = 1 from fun h => by
            have h3 : ¬ b * m ≤ N := fun h4 => h (hmid.1 (by rw [Nat.mul_comm]; exact h4))
            exact cmpI_gt (by omega))
          clear hti hmid hm
          go_wp2_with fail
          refine HTI.out.mono ?_
          rintro e w5 ⟨A5, n5, c5, rfl, hns5, hb5⟩
          have hba5 := bel_chain hba hb5
          have HOR := Lib.hid (r2order_any A5 n5 c5 A4 mN c4 (b * m) N w5 hns5 (by
            have := (HN4.out.below hba5).ns
            obtain ⟨A', c', e1, h9⟩ := this
            cases e1
            rw [hmN] at h9
            exact h9))
          clear hns5 hb5 hba
          go_wp2_with fail
          refine HOR.out.mono ?_
          rintro e w6 ⟨rfl, hb6⟩
          have hb7 := bel_chain hba5 hb6
          clear hba5 hb6 HOR
          by_cases hmq : m ≤ q
          · have hcm : cmpI (b * m) N ≤ 0 := by have := HLT.out hmq; omega
            generalize cmpI (b * m) N = cm at *
            go_wp2_with fail
            go_roundw
            case rel => exact ⟨m, hi', hmq, hhi, hh9, rfl, rfl, hb7⟩
            case measure => simp [intOf]; omega
          · rw [HGT.out hmq]
            go_wp2_with fail
            go_roundw
            case rel => exact ⟨lo, m - 1, hlo, by omega, by omega, rfl, by go_num, hb7⟩
            case measure => simp [intOf]; omega
        · have hlq : lo = q := by omega
          subst hlq
          have hoi := ho4.below hbi ho4.lt
          have hfr := hoi.free j
          have hset := hoi.set j lo
          have hcell := hoi.cell j (by omega)
          have hNi := (HN4.out.below hbi).far (p := ⟨w.heap.size, j, none⟩) (show w.heap.size < w.heap.size + 1 by omega) (.int .i64 (lo : Int))
          have gBs : Below w.heap.size w (wi.setCell ⟨w.heap.size, j, none⟩ (.int .i64 (lo : Int))) := hBi.setCell (Nat.le_refl _) _
          have gss : w.heap.size + 1 ≤ (wi.setCell ⟨w.heap.size, j, none⟩ (.int .i64 (lo : Int))).heap.size := by
            have := hbi.size
            simp; omega
          have HSET := Lib.hid hset
          have HNI := Lib.hid hNi
          clear hset hNi hoi
          go_upto_region 13 with fail
          go_cut [51] (fun s51 wx => s51 = s51 ∧ ∃ ws, ws = wx ∧ Below w.heap.size w ws ∧ w.heap.size + 1 ≤ ws.heap.size ∧ OwnN (w.heap.size + 1) ws (.slice A4 mN c4) (lims N) ∧ Nc ws w.heap.size n1 n1 (o.set j lo))
          case first =>
            go_wp2_with fail
            go_meet
            exact ⟨trivial, _, rfl, gBs, gss, HNI.out, HSET.out⟩
          case rest =>
          obtain ⟨_, ws, rfl, hBs, hss, hNI, hSET⟩ := hcut
          clear HNI HSET gBs gss
          have HNI := Lib.hid hNI
          have HSET := Lib.hid hSET
          clear hNI hSET
          by_cases hl0 : lo = 0
          · subst hl0
            have HNR := Lib.hid (show N % b = N from Nat.mod_eq_of_lt (by
              rcases Nat.lt_or_ge N b with h | h
              · exact h
              · have := (HMID.out 1).1 (by omega); omega))
            go_wp2_with fail
            go_roundw
            case rel =>
              refine ⟨j, N % b, by omega, by go_num, hBs, hss, ?_, _, HSET.out, HST.out⟩
              rw [HNR.out]; exact HNI.out
            case measure => simp [intOf]
          · have hti := r2times_any A2 n2 cap2 (some ⟨ws.heap.size, 0, none⟩) 1 1 (lims b) [lo] (ws.alloc (.cells #[.int .i64 (lo : Int)] 3)) ((HQ.out _ hBs).below ((Below.refl ws.heap.size ws).alloc (Nat.le_refl _) _) (Nat.le_refl _)) (Ns.of (Nc.one ws lo)) (Lims_lims b) (by intro z hz; rw [List.mem_singleton.1 hz]; exact hq9) (by omega) (by omega)
            rw [lv_lims, lv_one] at hti
            have HTI := Lib.hid hti
            have hba : Below ws.heap.size ws (ws.alloc (.cells #[.int .i64 (lo : Int)] 3)) := (Below.refl _ _).alloc (Nat.le_refl _) _
            have hle : b * lo ≤ N := by have := (HMID.out lo).2 (Nat.le_refl _); rw [Nat.mul_comm]; exact this
            have HSUB := Lib.hid (show N - b * lo = N % b by
              have h3 := Nat.div_add_mod N b
              rw [HQN.out] at h3
              omega)
            have hl0i : (0 : Int) < (lo : Int) := by omega
            clear hti
            go_wp2_with fail
            refine HTI.out.mono ?_
            rintro e w5 ⟨A5, n5, c5, rfl, hns5, hb5⟩
            have hba5 := bel_chain hba hb5
            have hmi := r2minus_any A4 mN c4 A5 n5 c5 N (b * lo) w5 (by
              have := (HNI.out.below hba5).ns
              obtain ⟨A', c', e1, h9⟩ := this
              cases e1
              rw [hmN] at h9
              exact h9) hns5 hNlen hle
            rw [HSUB.out] at hmi
            have HMI := Lib.hid hmi
            have hss5 := hba5.size
            clear hmi hns5 hb5 hba
            go_wp2_with fail
            refine HMI.out.mono ?_
            rintro e w6 ⟨v6, rfl, hown6, hb6⟩
            have hb7 := bel_chain hba5 hb6
            go_wp2_with fail
            go_roundw
            case rel =>
              refine ⟨j, N % b, by omega, by go_num, bel_chain hBs hb7, Nat.le_trans hss hb7.size, hown6.mono (by omega), _, HSET.out.below hb7 ?_, HST.out⟩
              omega
            case measure => simp [intOf]
end Go.Proofs.YtjglooeljdpadaaGreatDoor
