/- Greater text, out of: K44. -/
import Derived.Test.YtfokdhpccajmbaaGreatDoorK43
import Derived.Test.YtfokdhpccajmbaaGreatDoorK9
namespace Go.Proofs.YtfokdhpccajmbaaGreatDoor
open Go.RowKit Go.PlainAid
attribute [local go_sem] field_rat0 field_rat1
/-- How great a state's numbers are. -/
def Bd4 (c : P4) : Prop := c.p.natAbs ≤ 1000000000000000 ∧ 1 ≤ c.q ∧ c.q ≤ 1000000000000000 ∧ c.b.natAbs ≤ 1000000000000000 ∧ 0 ≤ c.u ∧ c.u ≤ 1000000000000000
theorem bd4_tms {n d : Int} (hd : 0 < d) (hg : Int.gcd n d = 1) (hn : n.natAbs ≤ 100000000000000) (hdd : d ≤ 100000000000000) : ∀ i, 1 ≤ i → i ≤ (tms n d).length → Bd4 (runC beg ((tms n d).take i)) := by
  intro i h1 h2
  obtain ⟨i, rfl⟩ : ∃ k, i = k + 1 := ⟨i - 1, by omega⟩
  have hcv := cv_take hd hg i
  have hrb := runC_beg ((tms n d).take (i + 1))
  have hsn : ∃ a, (tms n d).take (i + 1) = (tms n d).take i ++ [a] := ⟨(tms n d)[i], by rw [List.take_add_one, List.getElem?_eq_getElem (by omega)]; rfl⟩
  obtain ⟨a, ha⟩ := hsn
  have hbu : (runC beg ((tms n d).take (i + 1))).b = (runC beg ((tms n d).take i)).p ∧ (runC beg ((tms n d).take (i + 1))).u = (runC beg ((tms n d).take i)).q := by
    rw [ha, runC_append]; exact ⟨rfl, rfl⟩
  have hprev : (runC beg ((tms n d).take i)).p.natAbs ≤ 1000000000000000 ∧ 0 ≤ (runC beg ((tms n d).take i)).q ∧ (runC beg ((tms n d).take i)).q ≤ 1000000000000000 := by
    cases i with
    | zero => simp [runC, beg]
    | succ k =>
      have hcv := cv_take hd hg k
      have hrb := runC_beg ((tms n d).take (k + 1))
      rw [hrb.1, hrb.2]
      omega
  unfold Bd4
  rw [hbu.1, hbu.2, hrb.1, hrb.2]
  omega
theorem semis4_snoc (c : P4) {j : Int} (h : 1 ≤ j) : c.semis 1 j = c.semis 1 (j - 1) ++ [(c.num j, c.den j)] := by
  unfold P4.semis
  have := rng_snoc (lo := 1) (hi := j - 1) (by omega)
  rw [show j - 1 + 1 = j by omega] at this
  rw [this, List.map_append]; rfl
theorem semis4_zero (c : P4) {j : Int} (h : j ≤ 0) : c.semis 1 j = [] := by
  unfold P4.semis; rw [rng_none (by omega)]; rfl
/-- The inner loop's question. -/
theorem most_iff {c : P4} {a b j : Int} (hq : 1 ≤ c.q) : (j ≤ a ∧ c.u + j * c.q ≤ b) ↔ j ≤ c.most a b := by
  rw [most_eq hq]
  have he : j ≤ (b - c.u) / c.q ↔ j * c.q ≤ b - c.u := Int.le_ediv_iff_mul_le (by omega)
  split <;> constructor <;> intro h <;> omega
theorem pr4 {a b : Int} {A B : Nat} (ha : a.natAbs ≤ A) (hb : b.natAbs ≤ B) : (a * b).natAbs ≤ A * B := by
  rw [Int.natAbs_mul]; exact Nat.mul_le_mul ha hb
theorem semis4_end (c : P4) {j M : Int} (h : j ≤ M + 1 ∨ j = 1) (hn : ¬ j ≤ M) : c.semis 1 (j - 1) = c.semis 1 M := by
  by_cases e : j = M + 1
  · rw [e, show M + 1 - 1 = M by omega]
  · rw [semis4_zero c (by omega), semis4_zero c (by omega)]
set_option maxRecDepth 100000 in
set_option maxHeartbeats 8000000 in
/-- schismaref04.Semiconvergents. -/
theorem r4semis_any (A : Option Addr) (n cap : Nat) (T : List Int) (b : Int) (w : World) (h : InZ w A n cap T) (hb1 : 1 ≤ b) (hb2 : b ≤ 1000) (a0 : Int) (l : List Int) (hT : T = a0 :: l) (ha0 : I62 a0)
    (hbd : ∀ i, 1 ≤ i → i ≤ T.length → Bd4 (runC beg (T.take i))) (hpos : ∀ a ∈ l, 1 ≤ a) (hlen : n ≤ 1000) (hsl : (semiL oneF b T).length ≤ 100000) :
    Calls Tryz.prog 26 #[.slice A n cap, .int .i64 b] w (R1Res ((semiL oneF b T).map tr) w) := by
  have hTl := h.1
  have hle := h.2.1
  have hcap := h.2.2.1
  have hn0 : 0 < n := by rw [← hTl, hT]; exact Nat.succ_pos _
  obtain ⟨g, off, rfl, hgl, hc⟩ := h.2.2.2 hn0
  obtain ⟨RS, hRS⟩ : ∃ RS, semiL oneF b T = RS := ⟨_, rfl⟩
  have HRS := Lib.hid (show RS = (a0, 1) :: rsemi b (beg.nx a0) l by rw [← hRS, hT]; exact semiL_one b a0 l hpos)
  rw [hRS] at hsl ⊢
  have HT := Lib.hid hT
  have HTL := Lib.hid hTl
  have HCS := Lib.hid hc
  have HBD := Lib.hid hbd
  have h00 := hc 0 hn0
  rw [hT, List.getD_cons_zero, Nat.add_zero] at h00
  have HMK := Lib.hid (fun n d w (h : I62 n ∧ 1 ≤ d ∧ d ≤ 9000000000000000000) => r4make_any n d w h.1 h.2.1 h.2.2)
  have HA0 := Lib.hid ha0
  have hnn : (0 : Int) < (n : Int) := by omega
  clear h hT hTl hc hbd hRS hpos ha0
  go_enter Tryz.func26, Tryz.ntmps26
  go_wp2_with fail
  refine (HMK.out a0 1 w ⟨HA0.out, by omega, by omega⟩).mono ?_
  rintro e w1 ⟨rfl, hb⟩
  have h01 := (hb.cell (p := ⟨g, off, none⟩) hgl).trans h00
  obtain ⟨x0, hx0⟩ : ∃ q, Rat.divInt a0 1 = q := ⟨_, rfl⟩
  rw [hx0]
  have HX0 := Lib.hid (show tr (a0, 1) = x0 from hx0)
  have HCS0 := Lib.hid h00
  clear h00 hx0
  go_wp2_with fail
  obtain ⟨w2, hw2⟩ : ∃ W, w1.alloc (.cells #[.string (itx x0.num), .string (itx (x0.den : Int))] 24) = W := ⟨_, rfl⟩
  rw [hw2]
  have hb2' : Below w1.heap.size w1 w2 := hw2 ▸ (Below.refl _ _).alloc (Nat.le_refl _) _
  have hz2 := bel_chain hb hb2'
  have hown2 : OwnR w.heap.size w2 (.slice (some ⟨w1.heap.size, 0, none⟩) 1 1) ([(a0, 1)].map tr) := .inr ⟨_, 1, rfl, hb.size, by rw [List.map_cons, HX0.out]; exact hw2 ▸ Rc.one w1 x0⟩
  have HO2 := Lib.hid hown2
  have h02 := (hz2.cell (p := ⟨g, off, none⟩) hgl).trans HCS0.out
  clear hw2 hb2' hb h01 hown2
  have HZ2 := Lib.hid hz2
  clear hz2
  go_quiet (fail)
  go_wp2_with fail
  clear h02
  have HST := Lib.hid (show beg.nx a0 = ⟨a0, 1, 1, 0⟩ by simp [P4.nx, P4.num, P4.den, beg])
  go_loopw [5, 6, 7, 8, 9, 10] (fun vo va vb vp vq vi wr => ∃ (P Q B U : Int) (i : Nat) (pre : List (Int × Int)), 1 ≤ i ∧ i ≤ n ∧ va = .int .i64 B ∧ vb = .int .i64 U ∧ vp = .int .i64 P ∧ vq = .int .i64 Q ∧ vi = .int .i64 (i : Int) ∧ OwnR w.heap.size wr vo (pre.map tr) ∧ Hid (⟨P, Q, B, U⟩ = runC beg (T.take i)) ∧ Hid (RS = pre ++ rsemi b ⟨P, Q, B, U⟩ (T.drop i)) ∧ Below w.heap.size w wr) (fun _ _ _ _ _ vi _ => n - (intOf vi).toNat)
  case atStart =>
    refine ⟨a0, 1, 1, 0, 1, [(a0, 1)], Nat.le_refl _, by omega, rfl, rfl, rfl, rfl, rfl, HO2.out.drewN _, Lib.hid ?_, Lib.hid ?_, bel_drewN HZ2.out _⟩
    · rw [HT.out, ← HST.out]; rfl
    · rw [HRS.out, HT.out, ← HST.out]; rfl
  case round =>
    obtain ⟨P, Q, B, U, i, pre, hi1, hin, rfl, rfl, rfl, rfl, rfl, hown, HC, HE, hB⟩ := hrel
    have HO := Lib.hid hown
    have HB := Lib.hid hB
    obtain ⟨A1, c1, rfl, _⟩ := hown.ss
    clear hown
    by_cases hie : i = n
    · subst hie
      have hlt : ¬ (i : Int) < (i : Int) := by omega
      have HR := Lib.hid (show RS = pre by rw [HE.out, List.drop_of_length_le (by rw [HTL.out]; exact Nat.le_refl _)]; simp [rsemi])
      clear hB
      go_wp2_with fail
      go_ret
      obtain ⟨A2, c2, e2, h2⟩ := HO.out.ins
      cases e2
      rw [List.length_map] at h2
      exact ⟨_, _, _, rfl, by rw [HR.out]; exact h2, HB.out⟩
    · have hlt : (i : Int) < (n : Int) := by omega
      have hcell := (hB.cell (p := ⟨g, off + i, none⟩) hgl).trans (HCS.out i (by omega))
      have HIA := Lib.hid (show T[i]? = some (T.getD i 0) by rw [List.getD_eq_getElem?_getD, List.getElem?_eq_getElem (by rw [HTL.out]; omega)]; rfl)
      obtain ⟨a, ha⟩ : ∃ a, T.getD i 0 = a := ⟨_, rfl⟩
      rw [ha] at hcell HIA
      clear ha hB
      have hbd1 := HBD.out i hi1 (by rw [HTL.out]; omega)
      have hbd2 := HBD.out (i + 1) (by omega) (by rw [HTL.out]; omega)
      have hnx : runC beg (T.take (i + 1)) = (⟨P, Q, B, U⟩ : P4).nx a := by
        rw [List.take_add_one, HIA.out, runC_append, ← HC.out]; rfl
      rw [← HC.out] at hbd1
      rw [hnx] at hbd2
      obtain ⟨p1, p2, p3, p4, p5, p6⟩ := hbd1
      obtain ⟨q1, q2, q3, _, _, _⟩ := hbd2
      simp only [P4.nx, P4.num, P4.den] at p1 p2 p3 p4 p5 p6 q1 q2 q3
      have v1 : IntKind.i64.wrap (a * P) = a * P := IntWalk.i64_in _ (by omega)
      have v2 : IntKind.i64.wrap (B + a * P) = B + a * P := IntWalk.i64_in _ (by omega)
      have v3 : IntKind.i64.wrap (a * Q) = a * Q := IntWalk.i64_in _ (by omega)
      have v4 : IntKind.i64.wrap (U + a * Q) = U + a * Q := IntWalk.i64_in _ (by omega)
      have HNX := Lib.hid hnx
      have HV := Lib.hid (And.intro v1 (And.intro v2 (And.intro v3 v4)))
      have HP := Lib.hid (And.intro p1 (And.intro p2 (And.intro p3 (And.intro p4 (And.intro p5 p6)))))
      have HD := Lib.hid (show rsemi b ⟨P, Q, B, U⟩ (T.drop i) = (⟨P, Q, B, U⟩ : P4).semis 1 ((⟨P, Q, B, U⟩ : P4).most a b) ++ rsemi b ((⟨P, Q, B, U⟩ : P4).nx a) (T.drop (i + 1)) by
        obtain ⟨hil, hge⟩ := List.getElem?_eq_some_iff.1 HIA.out
        rw [List.drop_eq_getElem_cons hil, hge]; rfl)
      have HMI := Lib.hid (fun j => most_iff (c := ⟨P, Q, B, U⟩) (a := a) (b := b) (j := j) p2)
      obtain ⟨M, hM⟩ : ∃ M, (⟨P, Q, B, U⟩ : P4).most a b = M := ⟨_, rfl⟩
      have HMM := Lib.hid hM
      rw [hM] at HD
      have HMI2 := Lib.hid (show ∀ j : Int, (j ≤ a ∧ U + j * Q ≤ b) ↔ j ≤ M from fun j => by rw [← hM]; exact HMI.out j)
      have HMB := Lib.hid (show M ≤ 1000 from by
        have h1 := (HMI2.out M).2 (Int.le_refl _)
        have h2 := h1.2
        refine Decidable.by_contra fun h3 => ?_
        have := Int.mul_le_mul_of_nonneg_left p2 (show 0 ≤ M by omega)
        omega)
      clear hM hnx p1 p2 p3 p4 p5 p6 q1 q2 q3 v1 v2 v3 v4 HMI
      go_wp2_with fail
      go_loopw [5, 11] (fun vo vj wr => ∃ j : Int, 1 ≤ j ∧ (j ≤ M + 1 ∨ j = 1) ∧ vj = .int .i64 j ∧ OwnR w.heap.size wr vo ((pre ++ (⟨P, Q, B, U⟩ : P4).semis 1 (j - 1)).map tr) ∧ Below w.heap.size w wr) (fun _ vj _ => (2000 - intOf vj).toNat)
      case atStart => exact ⟨1, Int.le_refl _, .inr rfl, rfl, by rw [semis4_zero _ (by omega), List.append_nil]; exact HO.out, HB.out⟩
      case round =>
        obtain ⟨j, hj1, hj2, rfl, hown, hB⟩ := hrel
        obtain ⟨xs, hxs⟩ : ∃ xs, (pre ++ (⟨P, Q, B, U⟩ : P4).semis 1 (j - 1)).map tr = xs := ⟨_, rfl⟩
        rw [hxs] at hown
        have HXS := Lib.hid hxs
        have HLN := Lib.hid (show xs.length ≤ 1000000000 by
          have h1 := congrArg List.length HE.out
          rw [List.length_append] at h1
          rw [← hxs, List.length_map, List.length_append, semis_len]
          have := HMB.out
          omega)
        clear hxs
        have HO3 := Lib.hid hown
        have HB3 := Lib.hid hB
        obtain ⟨A3, c3, rfl, _⟩ := hown.ss
        clear hown hcell
        have hcell := (hB.cell (p := ⟨g, off + i, none⟩) hgl).trans (HCS.out i (by omega))
        have hga : T.getD i 0 = a := by rw [List.getD_eq_getElem?_getD, HIA.out]; rfl
        rw [hga] at hcell
        clear hga hB
        have hj3 : j.natAbs ≤ 1001 := by have := HMB.out; omega
        have k1 := pr4 (B := 1000000000000000) hj3 (show Q.natAbs ≤ 1000000000000000 by have := HP.out; omega)
        have k2 := pr4 (B := 1000000000000000) hj3 HP.out.1
        have kB := HP.out.2.2.2.1
        have kU := HP.out.2.2.2.2
        have u1 : IntKind.i64.wrap (j * Q) = j * Q := IntWalk.i64_in _ (by omega)
        have u2 : IntKind.i64.wrap (U + j * Q) = U + j * Q := IntWalk.i64_in _ (by omega)
        have u3 : IntKind.i64.wrap (j * P) = j * P := IntWalk.i64_in _ (by omega)
        have u4 : IntKind.i64.wrap (B + j * P) = B + j * P := IntWalk.i64_in _ (by omega)
        have u5 : IntKind.i64.wrap (j + 1) = j + 1 := IntWalk.i64_in _ (by omega)
        have HK := Lib.hid (And.intro k1 (And.intro k2 (And.intro kB kU)))
        clear k1 k2 kB kU hj3
        by_cases hja : j ≤ a
        · by_cases hjb : U + j * Q ≤ b
          · have HJM := Lib.hid ((HMI2.out j).1 ⟨hja, hjb⟩)
            have HQ1 := Lib.hid (show 1 ≤ U + j * Q by have := HP.out.2.1; have := HP.out.2.2.2.2.1; have := Int.mul_le_mul_of_nonneg_right hj1 (show 0 ≤ Q by omega); omega)
            have HSN := Lib.hid (semis4_snoc (⟨P, Q, B, U⟩ : P4) hj1)
            have HMKJ := Lib.hid (fun w => HMK.out (B + j * P) (U + j * Q) w ⟨⟨by have := HK.out; omega, by have := HK.out; omega⟩, HQ1.out, by omega⟩)
            obtain ⟨y, hy⟩ : ∃ y, Rat.divInt (B + j * P) (U + j * Q) = y := ⟨_, rfl⟩
            rw [hy] at HMKJ
            have HY := Lib.hid (show tr ((⟨P, Q, B, U⟩ : P4).num j, (⟨P, Q, B, U⟩ : P4).den j) = y from hy)
            clear hy
            go_wp2_with fail
            refine (HMKJ.out wr).mono ?_
            rintro e w3 ⟨rfl, hb3⟩
            have hown3 := HO3.out.below hb3
            have hB4 := bel_chain HB3.out hb3
            have HB4 := Lib.hid hB4
            have hlen3 := HLN.out
            clear hcell hb3
            go_wp2_with (at_builtin; refine append_OwnR rfl _ _ 37 rfl Tryz.underlying37 w.heap.size _ _ w3 rfl hown3 hB4.size hlen3 y rfl rfl ?_; intro v4 w4 hown4 hb4; have HO5 := Lib.hid hown4; have HB5 := Lib.hid hb4; clear hown4 hb4)
            go_roundw
            case rel =>
              refine ⟨j + 1, by omega, .inl (by have := HJM.out; omega), rfl, ?_, HB4.out.trans HB5.out⟩
              rw [show j + 1 - 1 = j by omega, HSN.out, ← List.append_assoc, List.map_append, HXS.out, List.map_cons, HY.out]
              exact HO5.out
            case measure => simp [intOf]; have := HMB.out; have := HJM.out; omega
          · have HEND := Lib.hid (semis4_end (⟨P, Q, B, U⟩ : P4) hj2 (fun h => hjb ((HMI2.out j).2 h).2))
            have HO4 := Lib.hid (show OwnR w.heap.size wr (.slice A3 xs.length c3) ((pre ++ (⟨P, Q, B, U⟩ : P4).semis 1 M).map tr) from by rw [← HEND.out, HXS.out]; exact HO3.out)
            obtain ⟨v1, v2, v3, v4⟩ := HV.out
            go_wp2_with fail
            go_quiet (fail)
            go_wp2_with fail
            go_roundw
            case rel =>
              refine ⟨B + a * P, U + a * Q, P, Q, i + 1, _, by omega, by omega, rfl, rfl, rfl, rfl, by go_num, HO4.out.drewN _, Lib.hid ?_, Lib.hid ?_, bel_drewN HB3.out _⟩
              · rw [HNX.out]; rfl
              · rw [HE.out, HD.out, List.append_assoc]; rfl
            case measure => simp [intOf]; omega
        · have HEND := Lib.hid (semis4_end (⟨P, Q, B, U⟩ : P4) hj2 (fun h => hja ((HMI2.out j).2 h).1))
          have HO4 := Lib.hid (show OwnR w.heap.size wr (.slice A3 xs.length c3) ((pre ++ (⟨P, Q, B, U⟩ : P4).semis 1 M).map tr) from by rw [← HEND.out, HXS.out]; exact HO3.out)
          obtain ⟨v1, v2, v3, v4⟩ := HV.out
          go_wp2_with fail
          go_quiet (fail)
          go_wp2_with fail
          go_roundw
          case rel =>
            refine ⟨B + a * P, U + a * Q, P, Q, i + 1, _, by omega, by omega, rfl, rfl, rfl, rfl, by go_num, HO4.out.drewN _, Lib.hid ?_, Lib.hid ?_, bel_drewN HB3.out _⟩
            · rw [HNX.out]; rfl
            · rw [HE.out, HD.out, List.append_assoc]; rfl
          case measure => simp [intOf]; omega
end Go.Proofs.YtfokdhpccajmbaaGreatDoor
