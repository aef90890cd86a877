/- Greater text, out of: T6, T7, T8, T9. -/
import Derived.Test.YtdpcmhdmdompnaaGreatDoorGe
import Derived.Deep.RegionHeld3
namespace Go.Proofs.YtdpcmhdmdompnaaGreatDoor
section
open Go.RowKit Go.PlainAid
attribute [local go_sem] field_whole0 field_whole1
attribute [local go_sem ↓] Go.wp_at_zero Go.wp_at_succ
def T3DivPost (a b : Nat) (w : World) (e : Ending) (w' : World) : Prop :=
  ∃ Aq nq cq Ar nr cr, e = .returned (.tuple #[.slice Aq nq cq, .slice Ar nr cr]) ∧ Ns w' Aq nq cq (lims (a / b)) ∧ Ns w' Ar nr cr (lims (a % b)) ∧ Below w.heap.size w w'
/-- A slice that is nil, or lies in a block from B on. -/
def Frsh (B : Nat) (A : Option Addr) : Prop := ∀ p, A = some p → B ≤ p.block
theorem OwnN.nsF {B : Nat} {w : World} {v : Value} {xs : List Nat} (h : OwnN B w v xs) : ∃ A cap, v = .slice A xs.length cap ∧ Ns w A xs.length cap xs ∧ Frsh B A := by
  rcases h with ⟨rfl, rfl⟩ | ⟨g, cap, rfl, hg, h⟩
  · exact ⟨none, 0, rfl, Ns.nil w, fun p hp => by cases hp⟩
  · exact ⟨_, cap, rfl, Ns.of h, fun p hp => by injection hp with e; subst e; exact hg⟩
/-- What divide leaves, and where. -/
def T3DivPostF (a b : Nat) (w : World) (e : Ending) (w' : World) : Prop :=
  ∃ Aq nq cq Ar nr cr, e = .returned (.tuple #[.slice Aq nq cq, .slice Ar nr cr]) ∧ Ns w' Aq nq cq (lims (a / b)) ∧ Ns w' Ar nr cr (lims (a % b)) ∧ Below w.heap.size w w' ∧ Frsh w.heap.size Aq ∧ Frsh w.heap.size Ar
theorem T3DivPostF.drop {a b : Nat} {w : World} {e : Ending} {w' : World} (h : T3DivPostF a b w e w') : T3DivPost a b w e w' := by
  obtain ⟨Aq, nq, cq, Ar, nr, cr, h1, h2, h3, h4, _, _⟩ := h
  exact ⟨Aq, nq, cq, Ar, nr, cr, h1, h2, h3, h4⟩
def T3DivRel (xs : List Nat) (b i R : Nat) (v : Value) (n : Nat) (w wr : World) : Prop :=
  Below w.heap.size w wr ∧ w.heap.size + 1 ≤ wr.heap.size ∧ OwnN (w.heap.size + 1) wr v (lims R) ∧ ∃ o, Nc wr w.heap.size n n o ∧ QuoAt xs b i R o ∧ ∀ j, j < i → o.getD j 0 = 0
theorem set_zero {o : List Nat} {j : Nat} (h : o.getD j 0 = 0) : o.set j 0 = o := by
  apply List.ext_getElem?
  intro k
  rw [List.getElem?_set]
  split
  · rename_i e
    subst e
    split
    · rename_i hl
      rw [List.getElem?_eq_getElem hl]
      rw [List.getD_eq_getElem?_getD, List.getElem?_eq_getElem hl] at h
      exact congrArg some h.symm
    · rename_i hl
      rw [List.getElem?_eq_none (by omega)]
  · rfl
theorem set_below {o : List Nat} {j q : Nat} (h : ∀ k, k < j + 1 → o.getD k 0 = 0) : ∀ k, k < j → (o.set j q).getD k 0 = 0 := fun k hk => by
  rw [List.getD_eq_getElem?_getD, List.getElem?_set_ne (by omega), ← List.getD_eq_getElem?_getD]
  exact h k (by omega)
theorem lims_single {N : Nat} (h : (lims N).length = 1) : N < 1000000000 ∧ lims N = [N] ∧ N ≠ 0 := by
  have h1 := (lims_len_le N 1).1 (by omega)
  have h2 : N ≠ 0 := fun e => by rw [e, lims_zero] at h; simp at h
  have h3 : N < 1000000000 := by simpa using h1
  exact ⟨h3, lims_one_of h2 h3, h2⟩
theorem OwnN.head {B : Nat} {w : World} {v : Value} {x : Nat} {ys : List Nat} (h : OwnN B w v (x :: ys)) : ∃ g c, v = .slice (some ⟨g, 0, none⟩) (ys.length + 1) c ∧ B ≤ g ∧ Nc w g (ys.length + 1) c (x :: ys) := by
  rcases h with ⟨_, h⟩ | ⟨g, c, e, hg, h⟩
  · cases h
  · exact ⟨g, c, e, hg, h⟩
set_option maxRecDepth 100000 in
set_option maxHeartbeats 4000000 in
/-- schismaref03.divide. -/
theorem t3divide_fresh (A1 : Option Addr) (n1 cap1 : Nat) (A2 : Option Addr) (n2 cap2 a b : Nat) (w : World) (hp : Ns w A1 n1 cap1 (lims a)) (hq : Ns w A2 n2 cap2 (lims b)) (hb0 : 0 < b) (h1 : n1 ≤ 100000) (h2 : n2 ≤ 100000) :
    Calls Tryz.prog 42 #[.slice A1 n1 cap1, .slice A2 n2 cap2] w (T3DivPostF a b w) := by
  have hcap1 := hp.cap_le
  have hle1 := hp.le
  have hle2 := hq.le
  have hcap2 := hq.cap_le
  have HL1 := Lib.hid hp.len
  have HL2 := Lib.hid hq.len
  have HP := Lib.hid (fun wz (h : Below w.heap.size w wz) => hp.below h (Nat.le_refl _))
  have HQ := Lib.hid (fun wz (h : Below w.heap.size w wz) => hq.below h (Nat.le_refl _))
  have hmk := make_Nc 29 Tryz.underlying29 n1 n1 (Nat.le_refl _) (by omega)
  have HM := Lib.hid (Nc.made w n1 n1 (Nat.le_refl _) (by omega))
  have HX := Lib.hid (Lims_lims a)
  have HS := Lib.hid (QuoAt.start (xs := lims a) hb0)
  have HV := Lib.hid (lv_lims a)
  clear hp hq
  generalize lims a = xs at *
  go_enter Tryz.func42, Tryz.ntmps42
  go_wp2_with fail
  clear hmk
  go_loopw [5, 6] (fun vr vi wr => ∃ i R : Nat, i ≤ n1 ∧ vi = .int .i64 ((i : Int) - 1) ∧ T3DivRel xs b i R vr n1 w wr) (fun _ vi _ => (intOf vi + 1).toNat)
  case atStart =>
    refine ⟨n1, 0, Nat.le_refl _, rfl, (Below.refl _ _).alloc (Nat.le_refl _) _, by rw [World.size_alloc]; omega, ?_, _, HM.out, ?_, ?_⟩
    · rw [lims_zero]; exact OwnN.nil _ _
    · have := HS.out; rw [HL1.out] at this; exact this
    · intro j _; rw [List.getD_eq_getElem?_getD, List.getElem?_replicate]; split <;> rfl
  case round =>
    obtain ⟨i, R, hi, rfl, hB, hsz, hown, o, ho, hQ, hz⟩ := hrel
    obtain ⟨wo, rfl⟩ : ∃ wo : World, wo = wr := ⟨_, rfl⟩
    by_cases hi0 : i = 0
    · subst hi0
      have hf := hQ.fin
      rw [HV.out] at hf
      have hty := t3trim_some false _ _ _ o wo ho
      have hN := ho.trimmed
      rw [trimL_eq _ hQ.2.1, hf.1] at hty hN
      unfold wv at hty
      have HTR := Lib.hid hty
      have HN := Lib.hid hN
      have hr := hown.nsF
      rw [hf.2] at hr
      obtain ⟨Ar, cr, rfl, hr, hfr⟩ := hr
      have HR := Lib.hid hr
      have HFR := Lib.hid hfr
      clear hty hN hf hQ hown ho hr hz hfr
      go_wp2_with fail
      refine HTR.out.mono ?_
      rintro e w1 ⟨rfl, hb1⟩
      go_wp2_with fail
      go_ret2
      exact ⟨_, _, _, Ar, _, cr, rfl, Ns.of (HN.out.below hb1 HN.out.lt), HR.out.below hb1 (Nat.le_refl _), bel_chain hB hb1, fun p hp => (by injection hp with e; subst e; exact Nat.le_refl _), fun p hp => Nat.le_trans (Nat.le_succ _) (HFR.out p hp)⟩
    · obtain ⟨j, rfl⟩ : ∃ j, i = j + 1 := ⟨i - 1, by omega⟩
      have ec : ((j + 1 : Nat) : Int) - 1 = (j : Int) := by omega
      rw [ec]
      obtain ⟨b1, rfl, hc1⟩ := (HP.out _ hB).at_ (show j < n1 by omega)
      have hc1 := hc1.cell j (by omega)
      have hjn : (j : Int) < (n1 : Int) := by omega
      have hxb := Lims_getD HX.out j
      have hst := hQ.step HX.out (by rw [HL1.out]; omega)
      have hRb := hQ.2.2.2
      obtain ⟨x, hx⟩ : ∃ x, xs.getD j 0 = x := ⟨_, rfl⟩
      rw [hx] at hc1 hxb hst
      have hlc := lims_cons x R hxb
      obtain ⟨N, hN⟩ : ∃ N, x + 1000000000 * R = N := ⟨_, rfl⟩
      rw [hN] at hst hlc
      obtain ⟨q, hq⟩ : ∃ q, N / b = q := ⟨_, rfl⟩
      have HMID := Lib.hid (fun m => mid_le (m := m) hb0 hq)
      rw [hq] at hst
      have hq9 := hst.2
      have HST := Lib.hid hst.1
      have HQN := Lib.hid hq
      have HLC := Lib.hid hlc
      have HZJ := Lib.hid (hz j (by omega))
      have HZB := Lib.hid (set_below (q := q) hz)
      have hlen : (lims R).length ≤ 1000000000 := by
        have h3 := lims_len_mono (Nat.le_of_lt hRb)
        rw [HL2.out] at h3; omega
      have hNlen : (lims N).length ≤ 1000000 := by
        rw [← hlc, trimL_take, List.length_take]
        have h3 := lims_len_mono (Nat.le_of_lt hRb)
        rw [HL2.out] at h3
        have h4 : (x :: lims R).length = (lims R).length + 1 := rfl
        omega
      clear hst hQ hx hlc hN hq ec hz
      go_wp2_with (at_builtin; refine append_front rfl _ _ 29 rfl Tryz.underlying29 (w.heap.size + 1) _ (lims R) wo rfl hown hsz hlen x rfl rfl ?_; intro v4 w4 hq4 hb4; obtain ⟨g4, c4, hv4, hg4, hn4⟩ := hq4.head; subst hv4)
      have hty := t3trim_some false g4 _ c4 _ w4 hn4
      have hN4 := hn4.trimmed
      rw [HLC.out] at hty hN4
      unfold wv at hty
      have HTR := Lib.hid hty
      have HN4 := Lib.hid hN4
      have hB4 := hB.trans (hb4.mono hB.size)
      have hs4 : w.heap.size + 1 ≤ w4.heap.size := Nat.le_trans hsz hb4.size
      have ho4 := ho.below hb4 ho.lt
      clear hty hN4 hn4 hq4 hown ho hb4 hB hsz
      refine HTR.out.mono ?_
      rintro e w5 ⟨rfl, hb5⟩
      have hN5 := HN4.out.below hb5 HN4.out.lt
      have ho5 := ho4.below hb5 ho4.lt
      have hB5 := bel_chain hB4 hb5
      have hs5 : w.heap.size + 1 ≤ w5.heap.size := Nat.le_trans hs4 hb5.size
      clear HN4 HTR hB4 hs4 ho4 hb5
      obtain ⟨mN, hmN⟩ : ∃ mN, (lims N).length = mN := ⟨_, rfl⟩
      rw [hmN] at hN5 hNlen ⊢
      have HN5 := Lib.hid hN5
      have HAB := Lib.hid (t3above_any (some ⟨g4, 0, none⟩) mN c4 A2 n2 cap2 N b w5 (Ns.of hN5) (HQ.out _ hB5))
      clear hN5
      go_wp2_with fail
      refine HAB.out.mono ?_
      rintro e w6 ⟨rfl, hb6⟩
      have hN6 := HN5.out.below hb6 HN5.out.lt
      have ho6 := ho5.below hb6 ho5.lt
      have hB6 := bel_chain hB5 hb6
      have hs6 : w.heap.size + 1 ≤ w6.heap.size := Nat.le_trans hs5 hb6.size
      clear HN5 HAB hB5 hs5 ho5 hb6
      by_cases hNb : N < b
      · have HQ0 := Lib.hid (show q = 0 by rw [← HQN.out]; exact Nat.div_eq_of_lt hNb)
        have HNR := Lib.hid (show N % b = N from Nat.mod_eq_of_lt hNb)
        rw [cmpI_lt hNb]
        have HN6 := Lib.hid hN6
        have HO6 := Lib.hid ho6
        clear hN6 ho6 hNb
        go_wp2_with fail
        go_roundw
        case rel =>
          refine ⟨j, N % b, by omega, by go_num, hB6, hs6, ?_, o, HO6.out, ?_, ?_⟩
          · rw [HNR.out]; refine .inr ⟨g4, c4, by rw [hmN], by omega, by rw [hmN]; exact HN6.out⟩
          · have := HST.out; rw [HQ0.out, set_zero HZJ.out] at this; exact this
          · have := HZB.out; rw [HQ0.out, set_zero HZJ.out] at this; exact this
        case measure => simp [intOf]
      · have hcm : ¬ cmpI N b < 0 := by unfold cmpI; rw [if_neg hNb]; split <;> omega
        have hbN : b ≤ N := by omega
        clear hNb
        generalize cmpI N b = cm at *
        by_cases hm1 : mN = 1
        · subst hm1
          obtain ⟨hN9, hlN, hN0⟩ := lims_single hmN
          have hb9 : b < 1000000000 := by omega
          have hlb : lims b = [b] := lims_one_of (by omega) hb9
          have hn2 : n2 = 1 := by have := HL2.out; rw [hlb] at this; exact this.symm
          subst hn2
          obtain ⟨g2, rfl, hc2⟩ := (HQ.out w (Below.refl _ _)).at_ (show 0 < 1 by omega)
          have hg20 := hc2.lt
          have hc2 := hc2.below hB6 hg20
          have hg2 := hc2.lt
          have hg6 := hN6.lt
          have hcb := hc2.cell 0 (by omega)
          have hcN := hN6.cell 0 (by omega)
          rw [hlb] at hcb
          rw [hlN] at hcN
          obtain ⟨r0, hr0⟩ : ∃ r0, N % b = r0 := ⟨_, rfl⟩
          have hr9 : r0 < 1000000000 := by rw [← hr0]; have := Nat.mod_lt N hb0; omega
          have hdiv : (N : Int).tdiv (b : Int) = (q : Int) := by rw [Int.tdiv_eq_ediv_of_nonneg (by omega), ← HQN.out]; exact (Int.natCast_ediv N b).symm
          have hmod : (N : Int).tmod (b : Int) = (r0 : Int) := by rw [Int.tmod_eq_emod_of_nonneg (by omega), ← hr0]; exact (Int.natCast_emod N b).symm
          have hwr : IntKind.i64.wrap (q : Int) = (q : Int) := IntWalk.i64_in _ (by omega)
          have hbi : (0 : Int) < (b : Int) := by omega
          have hbne : (b : Int) ≠ 0 := by omega
          have hbnb : ((b : Int) == 0) = false := by rw [beq_eq_false_iff_ne]; exact hbne
          have hg4H : g4 ≠ w.heap.size := by omega
          have hg2H : g2 ≠ w.heap.size := by omega
          have HNE := Lib.hid (show (⟨w.heap.size, j, none⟩ : Addr) ≠ ⟨g4, 0, none⟩ ∧ (⟨w.heap.size, j, none⟩ : Addr) ≠ ⟨g2, 0, none⟩ from ⟨fun h => by injection h with h; exact hg4H h.symm, fun h => by injection h with h; exact hg2H h.symm⟩)
          have hb0n : ¬ b = 0 := by omega
          have hfr := ho6.free j
          have hold := ho6.cell j (by omega)
          have HO6 := Lib.hid ho6
          have HR0 := Lib.hid hr0
          have HAL := Lib.hid (((Below.refl w6.heap.size w6).alloc (Nat.le_refl _) (.cells #[.int .i64 (r0 : Int)] 3)).drew)
          clear ho6 hN6 hc2 hlb hlN hr0 hmN hN0
          go_wp2_with fail
          go_region_held3 (fun w' => w'.cell? ⟨g4, 0, none⟩ = some (.int .i64 (N : Int)) ∧ w'.cell? ⟨g2, 0, none⟩ = some (.int .i64 (b : Int))) (go_keep)
            (first | ((with_reducible refine Calls.mono (t3trim_cell r0 hr9 _ _ ?_) ?_); (focus (exact Nc.one w6 r0)); rintro e w7 ⟨rfl, hb7⟩; have hz7 := bel_chain HAL.out hb7; have hcb7 := (hz7.cell (p := ⟨g2, 0, none⟩) hg2).trans hcb; have hcN7 := (hz7.cell (p := ⟨g4, 0, none⟩) hg6).trans hcN; have hfr7 := (hz7.frozen (p := ⟨w.heap.size, j, none⟩) hs6).trans hfr; have hold7 := (hz7.cell (p := ⟨w.heap.size, j, none⟩) hs6).trans hold; have hcN8 := (World.cell?_setCell_other w7 ⟨w.heap.size, j, none⟩ ⟨g4, 0, none⟩ (.int .i64 (q : Int)) HNE.out.1).trans hcN7; have hcb8 := (World.cell?_setCell_other w7 ⟨w.heap.size, j, none⟩ ⟨g2, 0, none⟩ (.int .i64 (q : Int)) HNE.out.2).trans hcb7))
          go_wp2_with fail
          go_roundw
          case rel =>
            have hlt6 : w6.heap.size ≠ w.heap.size := by omega
            refine ⟨j, N % b, by omega, by go_num, (bel_chain hB6 hz7).setCell (Nat.le_refl _) _, ?_, ?_, o.set j q, (HO6.out.below hz7 HO6.out.lt).set j q, HST.out, HZB.out⟩
            · have := hz7.size; simp only [World.size_setCell]; omega
            · rw [HR0.out]
              exact .inr ⟨w6.heap.size, 1, rfl, hs6, ((Nc.one_trimmed r0 hr9 w6).drew.below hb7 (by simp)).far hlt6 _⟩
          case measure => simp [intOf]
        · have hm1i : ((mN : Int) == 1) = false := by rw [beq_eq_false_iff_ne]; omega
          have HN6 := Lib.hid (fun wz (h : Below w6.heap.size w6 wz) => hN6.below h hN6.lt)
          have HO6 := Lib.hid (fun wz (h : Below w6.heap.size w6 wz) => ho6.below h ho6.lt)
          clear hN6 ho6 hm1
          go_wp2_with fail
          go_loopw [7, 8] (fun vl vh wr => ∃ lo hi : Nat, lo ≤ q ∧ q < hi ∧ hi ≤ 1000000000 ∧ vl = .int .i64 (lo : Int) ∧ vh = .int .i64 (hi : Int) ∧ Below w6.heap.size w6 wr) (fun vl vh _ => (intOf vh - intOf vl).toNat)
          case atStart => exact ⟨0, 1000000000, by omega, by omega, by omega, rfl, rfl, Below.refl _ _⟩
          case round =>
            obtain ⟨lo, hi', hlo, hhi, hh9, rfl, rfl, hbi⟩ := hrel
            obtain ⟨wi, rfl⟩ : ∃ wi : World, wi = wr := ⟨_, rfl⟩
            have hBi := bel_chain hB6 hbi
            by_cases hlt : lo + 1 < hi'
            · obtain ⟨m, hm⟩ : ∃ m, (lo + hi') / 2 = m := ⟨_, rfl⟩
              have hmi : ((lo : Int) + (hi' : Int)) / 2 = (m : Int) := by omega
              have hmr : m < 1000000000 := by omega
              have hlti : (1 : Int) < (hi' : Int) - (lo : Int) := by omega
              have HTI := Lib.hid (t3times_any A2 n2 cap2 b m wi (HQ.out _ hBi) (by omega) hmr)
              have hmid := HMID.out m
              have HLT := Lib.hid (show m ≤ q → ¬ 0 < cmpI (b * m) N from fun h => by
                have h3 := hmid.2 h
                rw [Nat.mul_comm] at h3
                rcases Nat.lt_or_eq_of_le h3 with h4 | h4
                · rw [cmpI_lt h4]; decide
                · rw [h4, cmpI_eq]; decide)
              have HGT := Lib.hid (show ¬ m ≤ q → cmpI (b * m) N = 1 from fun h => by
                have h3 : ¬ b * m ≤ N := fun h4 => h (hmid.1 (by rw [Nat.mul_comm]; exact h4))
                exact cmpI_gt (by omega))
              clear hmid
              go_wp2_with fail
              refine HTI.out.mono ?_
              rintro e w8 ⟨A5, n5, c5, rfl, hns5, hb5⟩
              have hb68 := bel_chain hbi hb5
              have HOR := Lib.hid (t3above_any A5 n5 c5 (some ⟨g4, 0, none⟩) mN c4 (b * m) N w8 hns5 (Ns.of (HN6.out _ hb68)))
              clear hns5 hb5
              go_wp2_with fail
              refine HOR.out.mono ?_
              rintro e w9 ⟨rfl, hb9⟩
              have hb69 := bel_chain hb68 hb9
              clear hb68 hb9 HOR
              by_cases hmq : m ≤ q
              · have hcm' : cmpI (b * m) N ≤ 0 := by have := HLT.out hmq; omega
                generalize cmpI (b * m) N = cm2 at *
                go_wp2_with fail
                go_roundw
                case rel => exact ⟨m, hi', hmq, hhi, hh9, rfl, rfl, hb69⟩
                case measure => simp [intOf]; omega
              · rw [HGT.out hmq]
                go_wp2_with fail
                go_roundw
                case rel => exact ⟨lo, m, hlo, by omega, by omega, rfl, rfl, hb69⟩
                case measure => simp [intOf]; omega
            · have hlq : lo = q := by omega
              subst hlq
              have hlti : ¬ (1 : Int) < (hi' : Int) - (lo : Int) := by omega
              have HTI := Lib.hid (t3times_any A2 n2 cap2 b lo wi (HQ.out _ hBi) (by omega) hq9)
              have hle : b * lo ≤ N := by have := (HMID.out lo).2 (Nat.le_refl _); rw [Nat.mul_comm]; exact this
              have HLE := Lib.hid hle
              have HSUB := Lib.hid (show N - b * lo = N % b by
                have h3 := Nat.div_add_mod N b
                rw [HQN.out] at h3
                omega)
              clear hle hlt
              go_wp2_with fail
              refine HTI.out.mono ?_
              rintro e w8 ⟨A5, n5, c5, rfl, hns5, hb5⟩
              have hb68 := bel_chain hbi hb5
              have hmi := t3minus_any (some ⟨g4, 0, none⟩) mN c4 A5 n5 c5 N (b * lo) w8 (Ns.of (HN6.out _ hb68)) hns5 hNlen HLE.out
              rw [HSUB.out] at hmi
              have HMI := Lib.hid hmi
              clear hmi hns5 hb5
              go_wp2_with fail
              refine HMI.out.mono ?_
              rintro e w9 ⟨v9, xs9, rfl, hown9, hL9, hv9, hl9, hb9⟩
              have hb69 := bel_chain hb68 hb9
              have hs8 := hb68.size
              obtain ⟨A9, c9, rfl, hns9⟩ := hown9.ns
              have hty := t3trim_any false A9 xs9.length c9 xs9 w9 hns9
              have hO9 := hown9.trimmed
              rw [trimL_eq _ hL9, hv9, Bool.false_and] at hty
              rw [trimL_eq _ hL9, hv9] at hO9
              unfold wv at hty
              have HTR := Lib.hid hty
              have HO9 := Lib.hid hO9
              clear hty hO9 hns9 hown9 hL9 hv9
              go_wp2_with fail
              refine HTR.out.mono ?_
              rintro e w10 ⟨rfl, hb10⟩
              have hb610 := bel_chain hb69 hb10
              have hoi := HO6.out _ hb610
              have hfr := hoi.free j
              have hcell := hoi.cell j (by omega)
              have HOI := Lib.hid hoi
              clear hoi
              go_wp2_with fail
              go_roundw
              case rel =>
                refine ⟨j, N % b, by omega, by go_num, (bel_chain hB6 hb610).setCell (Nat.le_refl _) _, ?_, ?_, o.set j lo, HOI.out.set j lo, HST.out, HZB.out⟩
                · have := hb610.size; simp only [World.size_setCell]; omega
                · exact OwnN.far (B := w.heap.size + 1) (OwnN.mono (HO9.out.below hb10) (by omega)) (p := ⟨w.heap.size, j, none⟩) (Nat.lt_succ_self _) _
              case measure => simp [intOf]
theorem t3divide_any (A1 : Option Addr) (n1 cap1 : Nat) (A2 : Option Addr) (n2 cap2 a b : Nat) (w : World) (hp : Ns w A1 n1 cap1 (lims a)) (hq : Ns w A2 n2 cap2 (lims b)) (hb0 : 0 < b) (h1 : n1 ≤ 100000) (h2 : n2 ≤ 100000) :
    Calls Tryz.prog 42 #[.slice A1 n1 cap1, .slice A2 n2 cap2] w (T3DivPost a b w) :=
  (t3divide_fresh A1 n1 cap1 A2 n2 cap2 a b w hp hq hb0 h1 h2).mono fun _ _ h => h.drop
end
section
open Go.RowKit Go.PlainAid
attribute [local go_sem] field_whole0 field_whole1
theorem lims_empty (a : Nat) : (lims a).isEmpty = decide (a = 0) := by
  rw [Bool.eq_iff_iff, List.isEmpty_iff, decide_eq_true_eq]; exact lims_ne_nil
theorem MulPost.w3 {s : Bool} {a : Nat} {w w' : World} {e : Ending} {z : Int} (h : MulPost s a w e w') (h1 : z.natAbs = a) (h2 : a ≠ 0 → s = decide (z < 0)) : W3Post z w e w' := by
  obtain ⟨A, n, cap, rfl, hns, hb⟩ := h
  refine ⟨_, rfl, ⟨A, n, cap, ?_, by rw [h1]; exact hns⟩, hb⟩
  have e : (s && !(lims a).isEmpty) = decide (z < 0) := by
    rw [lims_empty]
    by_cases h0 : a = 0
    · subst h0
      have : ¬ z < 0 := by omega
      simp [this]
    · rw [h2 h0]; simp [h0]
  rw [e]
theorem lims_len_zero {z : Int} {n : Nat} (h : (lims z.natAbs).length = n) : n = 0 ↔ z = 0 := by
  rw [← h, List.length_eq_zero_iff, lims_ne_nil]; omega
set_option maxRecDepth 100000 in
/-- schismaref03.SignW. -/
theorem t3sign_any (v : Value) (z : Int) (w : World) (h : W3 w v z) :
    Calls Tryz.prog 23 #[v] w (SmallRes (.int .i64 z.sign) w) := by
  obtain ⟨A, n, cap, rfl, hns⟩ := h
  have hz := lims_len_zero (z := z) hns.len
  have hcap := hns.cap_le
  have hle := hns.le
  clear hns
  unfold wv at *
  rcases Int.lt_trichotomy z 0 with h | h | h
  · have hs := Int.sign_eq_neg_one_of_neg h
    have hn : ((n : Int) == 0) = false := by rw [beq_eq_false_iff_ne]; omega
    have hd : decide (z < 0) = true := decide_eq_true h
    rw [hd] at *
    rw [hs]
    clear hz hs h hd
    go_enter Tryz.func23, Tryz.ntmps23
    go_wp2_with fail
    go_ret
    exact ⟨rfl, (Below.refl _ _).alloc (Nat.le_refl _) _⟩
  · subst h
    have hn : n = 0 := hz.2 rfl
    subst hn
    clear hz
    go_enter Tryz.func23, Tryz.ntmps23
    go_wp2_with fail
    go_ret
    exact ⟨rfl, (Below.refl _ _).alloc (Nat.le_refl _) _⟩
  · have hs := Int.sign_eq_one_of_pos h
    have hn : ((n : Int) == 0) = false := by rw [beq_eq_false_iff_ne]; omega
    have hd : decide (z < 0) = false := decide_eq_false (by omega)
    rw [hd] at *
    rw [hs]
    clear hz hs h hd
    go_enter Tryz.func23, Tryz.ntmps23
    go_wp2_with fail
    go_ret
    exact ⟨rfl, (Below.refl _ _).alloc (Nat.le_refl _) _⟩
set_option maxRecDepth 100000 in
theorem t3neg_raw (s : Bool) (A : Option Addr) (n cap a : Nat) (w : World) (h : Ns w A n cap (lims a)) :
    Calls Tryz.prog 62 #[wv s A n cap] w (MulPost (!s) a w) := by
  have hcap := h.cap_le
  have hle := h.le
  have HNS := Lib.hid (fun wz (hb : Below w.heap.size w wz) => h.below hb (Nat.le_refl _))
  have HTL := Lib.hid (show trimL (lims a) = lims a by rw [trimL_eq _ (Lims_lims a), lv_lims])
  have HLN := Lib.hid h.len
  have HBL : Below w.heap.size w ((w.alloc (.cells #[.bool s, .slice A n cap] 43)).alloc (.cells #[.bool false, .slice none 0 0] 43)) := ((Below.refl _ _).alloc (Nat.le_refl _) _).alloc (by simp only [World.size_alloc]; omega) _
  have hr := Box2.new (w.alloc (.cells #[.bool s, .slice A n cap] 43)) (.bool false) (.slice none 0 0) 43
  simp only [World.size_alloc] at hr
  have HR := Lib.hid hr
  clear h hr
  unfold wv
  go_enter Tryz.func62, Tryz.ntmps62
  go_wp2_with fail
  have hty := t3trim_any (!s) A n cap (lims a) _ (HNS.out _ HBL)
  rw [HTL.out, HLN.out] at hty
  unfold wv at hty
  refine hty.mono ?_
  rintro e w1 ⟨rfl, hb1⟩
  have hB1 := bel_chain HBL hb1
  have HR1 := Lib.hid (HR.out.later hb1)
  obtain ⟨hr0, hr1, hr2, hr3, hr4⟩ := HR1.out
  clear hty
  go_wp2_with fail
  refine ret_cell rfl rfl (load_whole (g := w.heap.size + 1) ((HR1.out.set0 _).set1 _)) rfl ?_
  exact ⟨A, n, cap, rfl, HNS.out _ ((hB1.setCell (by simp) _).setCell (by simp) _), (hB1.setCell (by simp) _).setCell (by simp) _⟩
/-- schismaref03.NegW. -/
theorem t3neg_any (v : Value) (z : Int) (w : World) (h : W3 w v z) : Calls Tryz.prog 62 #[v] w (W3Post (-z) w) := by
  obtain ⟨A, n, cap, rfl, hns⟩ := h
  refine (t3neg_raw _ A n cap z.natAbs w hns).mono fun e w' h => h.w3 (by omega) fun h0 => ?_
  rw [Bool.eq_iff_iff]
  simp only [Bool.not_eq_true', decide_eq_false_iff_not, decide_eq_true_eq]
  omega
end
section
open Go.RowKit Go.PlainAid
attribute [local go_sem] field_whole0 field_whole1
theorem Boxes3.of {w W : World} {b1 : Bool} {A1 : Option Addr} {n1 cap1 : Nat} {b2 : Bool} {A2 : Option Addr} {n2 cap2 : Nat} {T : TypeId}
    (h : (((w.alloc (.cells #[.bool b1, .slice A1 n1 cap1] T)).alloc (.cells #[.bool b2, .slice A2 n2 cap2] T)).alloc (.cells #[.bool false, .slice none 0 0] T)) = W) :
    Boxes3 w.heap.size (b1, A1, n1, cap1) (b2, A2, n2, cap2) W ∧ Below w.heap.size w W := by subst h; exact ⟨Boxes3.new _ _ _ _ _ _ _ _ _ _, bel3 _ _ _ _⟩
/-- Behind a store into the result's block. -/
theorem Boxes3.stored {g : Nat} {x y : Bool × Option Addr × Nat × Nat} {wr : World} (h : Boxes3 g x y wr) (u v : Value) :
    Box2 ((wr.setCell ⟨g + 1 + 1, 0, none⟩ u).setCell ⟨g + 1 + 1, 1, none⟩ v) g (.bool x.1) (.slice x.2.1 x.2.2.1 x.2.2.2) ∧
    Box2 ((wr.setCell ⟨g + 1 + 1, 0, none⟩ u).setCell ⟨g + 1 + 1, 1, none⟩ v) (g + 1) (.bool y.1) (.slice y.2.1 y.2.2.1 y.2.2.2) ∧
    Box2 ((wr.setCell ⟨g + 1 + 1, 0, none⟩ u).setCell ⟨g + 1 + 1, 1, none⟩ v) (g + 1 + 1) u v :=
  ⟨(h.1.far (by simp <;> omega) _).far (by simp <;> omega) _, (h.2.1.far (by simp) _).far (by simp) _, (h.2.2.set0 _).set1 _⟩
set_option maxRecDepth 100000 in
set_option maxHeartbeats 1000000 in
theorem t3add_same (s : Bool) (A1 : Option Addr) (n1 cap1 : Nat) (A2 : Option Addr) (n2 cap2 a b : Nat) (w : World) (hp : Ns w A1 n1 cap1 (lims a)) (hq : Ns w A2 n2 cap2 (lims b)) (h1 : n1 ≤ 1000000) (h2 : n2 ≤ 1000000) :
    Calls Tryz.prog 44 #[wv s A1 n1 cap1, wv s A2 n2 cap2] w (MulPost s (a + b) w) := by
  have HP := Lib.hid (fun wz (h : Below w.heap.size w wz) => hp.below h (Nat.le_refl _))
  have HQ := Lib.hid (fun wz (h : Below w.heap.size w wz) => hq.below h (Nat.le_refl _))
  clear hp hq
  unfold wv
  go_enter Tryz.func44, Tryz.ntmps44
  go_wp2_with fail
  obtain ⟨W, hW⟩ : ∃ W, (((w.alloc (.cells #[.bool s, .slice A1 n1 cap1] 43)).alloc (.cells #[.bool s, .slice A2 n2 cap2] 43)).alloc (.cells #[.bool false, .slice none 0 0] 43)) = W := ⟨_, rfl⟩
  rw [hW]
  obtain ⟨hX, hBW⟩ := Boxes3.of hW
  clear hW
  have HX := Lib.hid (fun wz (hb : Below W.heap.size W wz) => hX.later hb)
  have HPL := Lib.hid (t3plus_any A1 n1 cap1 A2 n2 cap2 a b W.drew (HP.out _ hBW.drew) (HQ.out _ hBW.drew) h1 h2)
  have HBW := Lib.hid hBW
  have HD := Lib.hid (((Below.refl W.heap.size W).drew))
  obtain ⟨⟨ga0, ga1, ga2, ga3, ga4⟩, ⟨gb0, gb1, gb2, gb3, gb4⟩, ⟨gr0, gr1, gr2, gr3, gr4⟩⟩ := hX
  clear hBW
  go_region_held3 (fun w' => w'.cell? ⟨w.heap.size, 0, none⟩ = some (.bool s) ∧ w'.cell? ⟨w.heap.size, 1, none⟩ = some (.slice A1 n1 cap1) ∧ w'.cell? ⟨w.heap.size + 1, 1, none⟩ = some (.slice A2 n2 cap2)) (first | exact ⟨(HX5.out.stored _ _).1.2.1, (HX5.out.stored _ _).1.2.2.1, (HX5.out.stored _ _).2.1.2.2.1⟩ | go_keep)
    (first
      | ((with_reducible refine HPL.out.mono ?_); rintro e w4 ⟨v4, xs4, rfl, ho4, hl4, hv4, hk4, hb4⟩; obtain ⟨A4, c4, hs4, hn4⟩ := ho4.ns; subst hs4; have hz4 := bel_chain HD.out hb4; have hx4 := HX.out _ hz4; obtain ⟨⟨_, a40, a41, _, _⟩, ⟨_, b40, b41, _, _⟩, ⟨r40, r41, r42, r43, r44⟩⟩ := hx4)
      | ((with_reducible refine Calls.mono (t3trim_agg _ A4 xs4.length c4 xs4 _ ?_) ?_); (focus (exact hn4)); rintro e w5 ⟨rfl, hb5⟩; have hz5 := bel_chain hz4 hb5; have hx5 := HX.out _ hz5; have HX5 := Lib.hid hx5; obtain ⟨⟨_, a50, a51, _, _⟩, ⟨_, b50, b51, _, _⟩, ⟨r50, r51, r52, r53, r54⟩⟩ := hx5))
  go_wp2_with fail
  refine ret_cell rfl rfl (load_whole (g := w.heap.size + 1 + 1) (HX5.out.stored _ _).2.2) rfl ?_
  have hB5 := bel_chain HBW.out hz5
  have ht := (ho4.trimmed).below hb5
  rw [trimL_eq _ hl4, hv4] at ht
  rw [trimL_eq _ hl4, hv4]
  have hlt : w.heap.size + 1 + 1 < W.drew.heap.size := gr0
  exact ⟨A4, _, c4, rfl, ((ht.far hlt _).far hlt _).ns_at, (hB5.setCell (by simp <;> omega) _).setCell (by simp <;> omega) _⟩
set_option maxRecDepth 100000 in
set_option maxHeartbeats 1000000 in
theorem t3add_ge (s : Bool) (A1 : Option Addr) (n1 cap1 : Nat) (A2 : Option Addr) (n2 cap2 a b : Nat) (w : World) (hp : Ns w A1 n1 cap1 (lims a)) (hq : Ns w A2 n2 cap2 (lims b)) (h1 : n1 ≤ 1000000) (hba : b ≤ a) :
    Calls Tryz.prog 44 #[wv s A1 n1 cap1, wv (!s) A2 n2 cap2] w (MulPost (s) (a - b) w) := by
  have HP := Lib.hid (fun wz (h : Below w.heap.size w wz) => hp.below h (Nat.le_refl _))
  have HQ := Lib.hid (fun wz (h : Below w.heap.size w wz) => hq.below h (Nat.le_refl _))
  have hne : (s == !s) = false := by cases s <;> rfl
  have HBA := Lib.hid hba
  have hcm : (0 : Int) ≤ cmpI a b := by unfold cmpI; rw [if_neg (by omega)]; split <;> omega
  clear hp hq hba
  unfold wv
  go_enter Tryz.func44, Tryz.ntmps44
  go_wp2_with fail
  obtain ⟨W, hW⟩ : ∃ W, (((w.alloc (.cells #[.bool s, .slice A1 n1 cap1] 43)).alloc (.cells #[.bool !s, .slice A2 n2 cap2] 43)).alloc (.cells #[.bool false, .slice none 0 0] 43)) = W := ⟨_, rfl⟩
  rw [hW]
  obtain ⟨hX, hBW⟩ := Boxes3.of hW
  clear hW
  refine (t3above_any A1 n1 cap1 A2 n2 cap2 a b W (HP.out _ hBW) (HQ.out _ hBW)).mono ?_
  rintro e W1 ⟨rfl, hbW1⟩
  have hX1 := hX.later hbW1
  have hBW1 := bel_chain hBW hbW1
  clear hX hBW hbW1
  have HX := Lib.hid (fun wz (hb : Below W1.heap.size W1 wz) => hX1.later hb)
  have HPL := Lib.hid (t3minus_any A1 n1 cap1 A2 n2 cap2 a b W1.drew (HP.out _ hBW1.drew) (HQ.out _ hBW1.drew) h1 HBA.out)
  have HBW := Lib.hid hBW1
  have HD := Lib.hid (((Below.refl W1.heap.size W1).drew))
  obtain ⟨⟨ga0, ga1, ga2, ga3, ga4⟩, ⟨gb0, gb1, gb2, gb3, gb4⟩, ⟨gr0, gr1, gr2, gr3, gr4⟩⟩ := hX1
  clear hBW1
  generalize cmpI a b = cm at *
  go_wp2_with fail
  go_region_held3 (fun w' => w'.cell? ⟨w.heap.size, 0, none⟩ = some (.bool s) ∧ w'.cell? ⟨w.heap.size, 1, none⟩ = some (.slice A1 n1 cap1) ∧ w'.cell? ⟨w.heap.size + 1, 1, none⟩ = some (.slice A2 n2 cap2)) (first | exact ⟨(HX5.out.stored _ _).1.2.1, (HX5.out.stored _ _).1.2.2.1, (HX5.out.stored _ _).2.1.2.2.1⟩ | go_keep)
    (first
      | ((with_reducible refine HPL.out.mono ?_); rintro e w4 ⟨v4, xs4, rfl, ho4, hl4, hv4, hk4, hb4⟩; obtain ⟨A4, c4, hs4, hn4⟩ := ho4.ns; subst hs4; have hz4 := bel_chain HD.out hb4; have hx4 := HX.out _ hz4; obtain ⟨⟨_, a40, a41, _, _⟩, ⟨_, b40, b41, _, _⟩, ⟨r40, r41, r42, r43, r44⟩⟩ := hx4)
      | ((with_reducible refine Calls.mono (t3trim_agg _ A4 xs4.length c4 xs4 _ ?_) ?_); (focus (exact hn4)); rintro e w5 ⟨rfl, hb5⟩; have hz5 := bel_chain hz4 hb5; have hx5 := HX.out _ hz5; have HX5 := Lib.hid hx5; obtain ⟨⟨_, a50, a51, _, _⟩, ⟨_, b50, b51, _, _⟩, ⟨r50, r51, r52, r53, r54⟩⟩ := hx5))
  go_wp2_with fail
  refine ret_cell rfl rfl (load_whole (g := w.heap.size + 1 + 1) (HX5.out.stored _ _).2.2) rfl ?_
  have hB5 := bel_chain HBW.out hz5
  have ht := (ho4.trimmed).below hb5
  rw [trimL_eq _ hl4, hv4] at ht
  rw [trimL_eq _ hl4, hv4]
  have hlt : w.heap.size + 1 + 1 < W1.drew.heap.size := gr0
  exact ⟨A4, _, c4, rfl, ((ht.far hlt _).far hlt _).ns_at, (hB5.setCell (by simp <;> omega) _).setCell (by simp <;> omega) _⟩
set_option maxRecDepth 100000 in
set_option maxHeartbeats 1000000 in
theorem t3add_lt (s : Bool) (A1 : Option Addr) (n1 cap1 : Nat) (A2 : Option Addr) (n2 cap2 a b : Nat) (w : World) (hp : Ns w A1 n1 cap1 (lims a)) (hq : Ns w A2 n2 cap2 (lims b)) (h2 : n2 ≤ 1000000) (hba : a < b) :
    Calls Tryz.prog 44 #[wv s A1 n1 cap1, wv (!s) A2 n2 cap2] w (MulPost (!s) (b - a) w) := by
  have HP := Lib.hid (fun wz (h : Below w.heap.size w wz) => hp.below h (Nat.le_refl _))
  have HQ := Lib.hid (fun wz (h : Below w.heap.size w wz) => hq.below h (Nat.le_refl _))
  have hne : (s == !s) = false := by cases s <;> rfl
  have HBA := Lib.hid hba
  have hcm : ¬ (0 : Int) ≤ cmpI a b := by rw [cmpI_lt hba]; decide
  clear hp hq hba
  unfold wv
  go_enter Tryz.func44, Tryz.ntmps44
  go_wp2_with fail
  obtain ⟨W, hW⟩ : ∃ W, (((w.alloc (.cells #[.bool s, .slice A1 n1 cap1] 43)).alloc (.cells #[.bool !s, .slice A2 n2 cap2] 43)).alloc (.cells #[.bool false, .slice none 0 0] 43)) = W := ⟨_, rfl⟩
  rw [hW]
  obtain ⟨hX, hBW⟩ := Boxes3.of hW
  clear hW
  refine (t3above_any A1 n1 cap1 A2 n2 cap2 a b W (HP.out _ hBW) (HQ.out _ hBW)).mono ?_
  rintro e W1 ⟨rfl, hbW1⟩
  have hX1 := hX.later hbW1
  have hBW1 := bel_chain hBW hbW1
  clear hX hBW hbW1
  have HX := Lib.hid (fun wz (hb : Below W1.heap.size W1 wz) => hX1.later hb)
  have HPL := Lib.hid (t3minus_any A2 n2 cap2 A1 n1 cap1 b a W1.drew (HQ.out _ hBW1.drew) (HP.out _ hBW1.drew) h2 (Nat.le_of_lt HBA.out))
  have HBW := Lib.hid hBW1
  have HD := Lib.hid (((Below.refl W1.heap.size W1).drew))
  obtain ⟨⟨ga0, ga1, ga2, ga3, ga4⟩, ⟨gb0, gb1, gb2, gb3, gb4⟩, ⟨gr0, gr1, gr2, gr3, gr4⟩⟩ := hX1
  clear hBW1
  generalize cmpI a b = cm at *
  go_wp2_with fail
  go_region_held3 (fun w' => w'.cell? ⟨w.heap.size + 1, 0, none⟩ = some (.bool !s) ∧ w'.cell? ⟨w.heap.size + 1, 1, none⟩ = some (.slice A2 n2 cap2) ∧ w'.cell? ⟨w.heap.size, 1, none⟩ = some (.slice A1 n1 cap1)) (first | exact ⟨(HX5.out.stored _ _).2.1.2.1, (HX5.out.stored _ _).2.1.2.2.1, (HX5.out.stored _ _).1.2.2.1⟩ | go_keep)
    (first
      | ((with_reducible refine HPL.out.mono ?_); rintro e w4 ⟨v4, xs4, rfl, ho4, hl4, hv4, hk4, hb4⟩; obtain ⟨A4, c4, hs4, hn4⟩ := ho4.ns; subst hs4; have hz4 := bel_chain HD.out hb4; have hx4 := HX.out _ hz4; obtain ⟨⟨_, a40, a41, _, _⟩, ⟨_, b40, b41, _, _⟩, ⟨r40, r41, r42, r43, r44⟩⟩ := hx4)
      | ((with_reducible refine Calls.mono (t3trim_agg _ A4 xs4.length c4 xs4 _ ?_) ?_); (focus (exact hn4)); rintro e w5 ⟨rfl, hb5⟩; have hz5 := bel_chain hz4 hb5; have hx5 := HX.out _ hz5; have HX5 := Lib.hid hx5; obtain ⟨⟨_, a50, a51, _, _⟩, ⟨_, b50, b51, _, _⟩, ⟨r50, r51, r52, r53, r54⟩⟩ := hx5))
  go_wp2_with fail
  refine ret_cell rfl rfl (load_whole (g := w.heap.size + 1 + 1) (HX5.out.stored _ _).2.2) rfl ?_
  have hB5 := bel_chain HBW.out hz5
  have ht := (ho4.trimmed).below hb5
  rw [trimL_eq _ hl4, hv4] at ht
  rw [trimL_eq _ hl4, hv4]
  have hlt : w.heap.size + 1 + 1 < W1.drew.heap.size := gr0
  exact ⟨A4, _, c4, rfl, ((ht.far hlt _).far hlt _).ns_at, (hB5.setCell (by simp <;> omega) _).setCell (by simp <;> omega) _⟩
theorem nz_lims {z : Int} {k : Nat} (h : nz z ≤ k) : (lims z.natAbs).length ≤ k := by
  rw [lims_len_le]
  have h1 := Lib.lt_pow_nDigits z.natAbs
  unfold nz at h
  refine Nat.lt_of_lt_of_le h1 (Nat.le_trans (Nat.pow_le_pow_right (by decide) h) (Nat.pow_le_pow_left (by decide) _))
/-- schismaref03.AddW. -/
theorem t3add_any (v1 v2 : Value) (a b : Int) (w : World) (h1 : W3 w v1 a) (h2 : W3 w v2 b) (ha : nz a ≤ 1000000) (hb : nz b ≤ 1000000) :
    Calls Tryz.prog 44 #[v1, v2] w (W3Post (a + b) w) := by
  obtain ⟨A1, n1, cap1, rfl, hp⟩ := h1
  obtain ⟨A2, n2, cap2, rfl, hq⟩ := h2
  have hn1 : n1 ≤ 1000000 := by rw [← hp.len]; exact nz_lims ha
  have hn2 : n2 ≤ 1000000 := by rw [← hq.len]; exact nz_lims hb
  by_cases hs : decide (a < 0) = decide (b < 0)
  · rw [← hs]
    refine (t3add_same _ A1 n1 cap1 A2 n2 cap2 _ _ w hp hq hn1 hn2).mono fun e w' h => h.w3 ?_ fun h0 => ?_
    · have := decide_eq_decide.1 hs; omega
    · have := decide_eq_decide.1 hs
      exact decide_eq_decide.2 (by omega)
  · have hs2 : decide (b < 0) = !decide (a < 0) := by
      cases h1 : decide (a < 0) <;> cases h2 : decide (b < 0) <;> simp_all
    have hs3 : ¬ (a < 0 ↔ b < 0) := fun h => hs (decide_eq_decide.2 h)
    rw [hs2]
    by_cases hba : b.natAbs ≤ a.natAbs
    · refine (t3add_ge _ A1 n1 cap1 A2 n2 cap2 _ _ w hp hq hn1 hba).mono fun e w' h => h.w3 (by omega) fun h0 => ?_
      exact decide_eq_decide.2 (by omega)
    · refine (t3add_lt _ A1 n1 cap1 A2 n2 cap2 _ _ w hp hq hn2 (by omega)).mono fun e w' h => h.w3 (by omega) fun h0 => ?_
      rw [← hs2]
      exact decide_eq_decide.2 (by omega)
/-- schismaref03.MulW. -/
theorem t3mul_any (v1 v2 : Value) (a b : Int) (w : World) (h1 : W3 w v1 a) (h2 : W3 w v2 b) (ha : nz a ≤ 1000000) (hb : nz b ≤ 1000000) :
    Calls Tryz.prog 88 #[v1, v2] w (W3Post (a * b) w) := by
  obtain ⟨A1, n1, cap1, rfl, hp⟩ := h1
  obtain ⟨A2, n2, cap2, rfl, hq⟩ := h2
  have hn1 : n1 ≤ 1000000 := by rw [← hp.len]; exact nz_lims ha
  have hn2 : n2 ≤ 1000000 := by rw [← hq.len]; exact nz_lims hb
  refine (t3mul_raw _ _ A1 n1 cap1 A2 n2 cap2 _ _ w hp hq (Lims_lims _) (Lims_lims _) hn1 hn2).mono fun e w' h => h.w3 ?_ fun h0 => ?_
  · rw [lv_lims, lv_lims, Int.natAbs_mul]
  · rw [lv_lims, lv_lims] at h0
    have ha0 : a ≠ 0 := fun e => by subst e; simp at h0
    have hb0 : b ≠ 0 := fun e => by subst e; simp at h0
    rw [Bool.eq_iff_iff, bne_iff_ne, ne_eq, decide_eq_decide, decide_eq_true_eq]
    rcases Int.lt_or_lt_of_ne ha0 with h1 | h1 <;> rcases Int.lt_or_lt_of_ne hb0 with h2 | h2
    · have := Int.mul_pos_of_neg_of_neg h1 h2; omega
    · have := Int.mul_neg_of_neg_of_pos h1 h2; omega
    · have := Int.mul_neg_of_pos_of_neg h1 h2; omega
    · have := Int.mul_pos h1 h2; omega
end
section
open Go.RowKit Go.PlainAid
attribute [local go_sem] field_whole0 field_whole1
/-- Block b holds cells of another type than int. -/
def NoInt (w : World) (b : Nat) : Prop := ∃ cs T fr, w.heap[b]? = some (.cells cs T fr) ∧ T ≠ 3
theorem NoInt.new (w : World) (cs : Array Value) (T : TypeId) (hT : T ≠ 3) : NoInt (w.alloc (.cells cs T)) w.heap.size := ⟨cs, T, _, heap_alloc_new w _, hT⟩
theorem NoInt.lt {w : World} {b : Nat} (h : NoInt w b) : b < w.heap.size := by
  obtain ⟨cs, T, fr, h, _⟩ := h
  exact (Array.getElem?_eq_some_iff.1 h).1
theorem NoInt.later {w w' : World} {b : Nat} (h : NoInt w b) (hb : Below w.heap.size w w') : NoInt w' b := by
  obtain ⟨cs, T, fr, e, hT⟩ := h
  exact ⟨cs, T, fr, (hb.block b (Array.getElem?_eq_some_iff.1 e).1).trans e, hT⟩
theorem NoInt.below {w w' : World} {b B : Nat} (h : NoInt w b) (hb : Below B w w') (hlt : b < B) : NoInt w' b := by
  obtain ⟨cs, T, fr, e, hT⟩ := h
  exact ⟨cs, T, fr, (hb.block b hlt).trans e, hT⟩
theorem NoInt.alloc {w : World} {b : Nat} (h : NoInt w b) (o : Obj) : NoInt (w.alloc o) b := h.later ((Below.refl _ _).alloc (Nat.le_refl _) o)
theorem NoInt.setCell {w : World} {b : Nat} (h : NoInt w b) (p : Addr) (u : Value) : NoInt (w.setCell p u) b := by
  obtain ⟨cs, T, fr, e, hT⟩ := h
  by_cases hp : p.block = b
  · subst hp
    refine ⟨if p.spot.isSome then cs else cs.setIfInBounds p.off u, T, fr, ?_, hT⟩
    simp only [World.setCell, Array.getElem?_modify, e, if_true, Option.map_some]
  · exact ⟨cs, T, fr, (Below.heap_setCell w p u b (fun h => hp h.symm)).trans e, hT⟩
theorem Nc.ne {w : World} {g n cap b : Nat} {xs : List Nat} (h : Nc w g n cap xs) (hb : NoInt w b) : g ≠ b := by
  intro e
  subst e
  obtain ⟨cur, hh, _⟩ := h.form
  obtain ⟨cs, T, fr, e, hT⟩ := hb
  rw [hh] at e
  injection e with e
  injection e with _ e2
  exact hT e2.symm
theorem Ns.store {w : World} {A : Option Addr} {n cap : Nat} {xs : List Nat} (h : Ns w A n cap xs) {p : Addr} (hb : NoInt w p.block) (u : Value) : Ns (w.setCell p u) A n cap xs := by
  rcases h with h | ⟨g, e, h⟩
  · exact .inl h
  · exact .inr ⟨g, e, h.far (h.ne hb) u⟩
theorem W3.store {w : World} {v : Value} {z : Int} (h : W3 w v z) {p : Addr} (hb : NoInt w p.block) (u : Value) : W3 (w.setCell p u) v z := by
  obtain ⟨A, n, cap, e, h⟩ := h
  exact ⟨A, n, cap, e, h.store hb u⟩
theorem W3.parts {w : World} {v : Value} {z : Int} (h : W3 w v z) : ∃ s A n cap, v = .agg #[.bool s, .slice A n cap] ∧ n = (lims z.natAbs).length ∧ n ≤ cap ∧ cap ≤ 9223372036854775807 ∧ ∀ wz, Below w.heap.size w wz → W3 wz (.agg #[.bool s, .slice A n cap]) z := by
  obtain ⟨A, n, cap, rfl, h⟩ := h
  exact ⟨_, A, n, cap, rfl, h.len.symm, h.le, h.cap_le, fun wz hb => ⟨A, n, cap, rfl, h.below hb (Nat.le_refl _)⟩⟩
/-- The types of three boxes. -/
theorem NoInt.three {w W : World} {c1 c2 c3 : Array Value} {T1 T2 T3 : TypeId} (h : (((w.alloc (.cells c1 T1)).alloc (.cells c2 T2)).alloc (.cells c3 T3)) = W) (hT : T3 ≠ 3) : NoInt W (w.heap.size + 1 + 1) := by
  subst h
  have := NoInt.new ((w.alloc (.cells c1 T1)).alloc (.cells c2 T2)) c3 T3 hT
  simp only [World.size_alloc] at this
  exact this
theorem whole_ne_int : 43 ≠ 3 := by decide
set_option maxRecDepth 100000 in
set_option maxHeartbeats 1000000 in
/-- schismaref03.SubW. -/
theorem t3sub_any (v1 v2 : Value) (a b : Int) (w : World) (h1 : W3 w v1 a) (h2 : W3 w v2 b) (ha : nz a ≤ 1000000) (hb : nz b ≤ 1000000) :
    Calls Tryz.prog 43 #[v1, v2] w (W3Post (a - b) w) := by
  obtain ⟨s1, A1, n1, cap1, rfl, hl1, hle1, hcap1, hp⟩ := h1.parts
  obtain ⟨s2, A2, n2, cap2, rfl, hl2, hle2, hcap2, hq⟩ := h2.parts
  have HP := Lib.hid hp
  have HQ := Lib.hid hq
  have hnb : nz (-b) ≤ 1000000 := by rw [nz_neg]; exact hb
  clear hp hq h1 h2 hl1 hl2
  go_enter Tryz.func43, Tryz.ntmps43
  go_wp2_with fail
  obtain ⟨W, hW⟩ : ∃ W, (((w.alloc (.cells #[.bool s1, .slice A1 n1 cap1] 43)).alloc (.cells #[.bool s2, .slice A2 n2 cap2] 43)).alloc (.cells #[.bool false, .slice none 0 0] 43)) = W := ⟨_, rfl⟩
  rw [hW]
  obtain ⟨hX, hBW⟩ := Boxes3.of hW
  have HNI := Lib.hid (NoInt.three hW whole_ne_int)
  clear hW
  have HX := Lib.hid (fun wz (hb : Below W.heap.size W wz) => hX.later hb)
  have HBW := Lib.hid hBW
  have HD := Lib.hid (((Below.refl W.heap.size W).drew))
  have HN := Lib.hid (t3neg_any _ b W.drew (HQ.out _ hBW.drew))
  obtain ⟨⟨ga0, ga1, ga2, ga3, ga4⟩, ⟨gb0, gb1, gb2, gb3, gb4⟩, ⟨gr0, gr1, gr2, gr3, gr4⟩⟩ := hX
  clear hBW
  go_region_held3 (fun w' => w'.cell? ⟨w.heap.size, 0, none⟩ = some (.bool s1) ∧ w'.cell? ⟨w.heap.size, 1, none⟩ = some (.slice A1 n1 cap1) ∧ w'.cell? ⟨w.heap.size + 1, 0, none⟩ = some (.bool s2) ∧ w'.cell? ⟨w.heap.size + 1, 1, none⟩ = some (.slice A2 n2 cap2))
    (first | exact ⟨(HX5.out.stored _ _).1.2.1, (HX5.out.stored _ _).1.2.2.1, (HX5.out.stored _ _).2.1.2.1, (HX5.out.stored _ _).2.1.2.2.1⟩ | go_keep)
    (first
      | ((with_reducible refine HN.out.mono ?_); rintro e w4 ⟨v4, rfl, hv4, hb4⟩; have hz4 := bel_chain HD.out hb4; have hx4 := HX.out _ hz4; have HADD := Lib.hid (t3add_any _ _ a (-b) w4 (HP.out _ (bel_chain HBW.out hz4)) hv4 ha hnb); clear hv4; obtain ⟨⟨_, a40, a41, _, _⟩, ⟨_, b40, b41, _, _⟩, ⟨r40, r41, r42, r43, r44⟩⟩ := hx4)
      | ((with_reducible refine HADD.out.mono ?_); rintro e w5 ⟨v5, rfl, ⟨A5, n5, c5, hv5, hns5⟩, hb5⟩; unfold wv at hv5; subst hv5; have hz5 := bel_chain hz4 hb5; have hx5 := HX.out _ hz5; have HX5 := Lib.hid hx5; obtain ⟨⟨_, a50, a51, _, _⟩, ⟨_, b50, b51, _, _⟩, ⟨r50, r51, r52, r53, r54⟩⟩ := hx5))
  go_wp2_with fail
  refine ret_cell rfl rfl (load_whole (g := w.heap.size + 1 + 1) (HX5.out.stored _ _).2.2) rfl ?_
  have hB5 := bel_chain HBW.out hz5
  have hni := HNI.out.later hz5
  exact ⟨_, rfl, ⟨A5, n5, c5, rfl, (hns5.store hni _).store (hni.setCell _ _) _⟩, (hB5.setCell (by simp <;> omega) _).setCell (by simp <;> omega) _⟩
end
end Go.Proofs.YtdpcmhdmdompnaaGreatDoor
