/- Greater text, out of: Q6. -/
import Derived.Test.YtolnojkdalbppaaGreatDoorQ4
import Derived.Test.YtolnojkdalbppaaGreatDoorGk
import Derived.Test.YtolnojkdalbppaaGreatDoorGu
namespace Go.Proofs.YtolnojkdalbppaaGreatDoor
open Go.RowKit Go.PlainAid
attribute [local go_sem] field_rat0 field_rat1
/-- What open returns. -/
def opn (ps : List Int) (a b : ByteArray) : Int := if chk ps = 0 then (if rightB a.data.toList b.data.toList = true then 0 else 2) else chk ps
set_option maxRecDepth 100000 in
/-- prime.open. -/
theorem open_any (A : Option Addr) (n cap : Nat) (ps : List Int) (a b : ByteArray) (w : World) (hamb : Amb w) (h : InZ w A n cap ps) (ha : a.size ≤ 1000000000) (hb : b.size ≤ 1000000000) :
    Calls Tryz.prog 28 #[.slice A n cap, .agg #[.string a, .string b]] w (SmallRes (.int .i64 (opn ps a b)) w) := by
  have HIN := Lib.hid (fun wz (hb : Below w.heap.size w wz) => h.below hb)
  have HAMB := Lib.hid hamb
  obtain ⟨c, hc⟩ : ∃ c, chk ps = c := ⟨_, rfl⟩
  have HCK := Lib.hid (fun wz (hz : InZ wz A n cap ps) => show Calls Tryz.prog 32 #[.slice A n cap] wz (SmallRes (.int .i64 c) wz) from hc ▸ pcheck_any A n cap ps wz hz)
  have HF := Lib.hid (fun wz (hz : Amb wz) => fcheck_any a b wz hz ha hb)
  obtain ⟨e2, he2⟩ : ∃ e2 : Int, (if rightB a.data.toList b.data.toList = true then (0 : Int) else 2) = e2 := ⟨_, rfl⟩
  rw [he2] at HF
  have HV := Lib.hid (show opn ps a b = if c = 0 then e2 else c by unfold opn; rw [hc, he2])
  clear h hamb hc he2 ha hb
  go_enter Tryz.func28, Tryz.ntmps28
  go_wp2_with fail
  obtain ⟨W, hW⟩ : ∃ W, (w.alloc (.cells #[.string a, .string b] 48)) = W := ⟨_, rfl⟩
  rw [hW]
  obtain ⟨hX, hBW⟩ := B1.of hW
  clear hW
  have HX := Lib.hid (fun wz (hb : Below W.heap.size W wz) => hX.later hb)
  have HB := Lib.hid hBW
  clear hX
  refine (HCK.out _ (HIN.out _ hBW)).mono ?_
  rintro e w1 ⟨rfl, hb1⟩
  have hz1 := bel_chain hBW hb1
  obtain ⟨_, c100, c101, f100, f101⟩ := HX.out _ hb1
  clear hBW hb1
  by_cases h0 : c = 0
  · have HV0 := Lib.hid (show opn ps a b = e2 by rw [HV.out, if_pos h0])
    subst h0
    go_wp2_with fail
    refine (HF.out _ (HAMB.out.below hz1)).mono ?_
    rintro e w2 ⟨rfl, hb2⟩
    have hz2 := bel_chain hz1 hb2
    go_wp2_with fail
    go_ret
    exact ⟨by rw [HV0.out]; rfl, hz2⟩
  · go_wp2_with fail
    go_ret
    exact ⟨by rw [HV.out, if_neg h0]; rfl, hz1⟩

/-- What prime.factor returns of a fraction greater than 0. -/
def FacPost (n : Nat) (a b : List Nat × Nat) (w : World) (e : Ending) (w' : World) : Prop := ∃ g cap, e = .returned (.tuple #[.slice (some ⟨g, 0, none⟩) n cap, .bool (decide (a.2 = 1) && decide (b.2 = 1))]) ∧ Zc w' g n cap (dif a.1 b.1) ∧ Below w.heap.size w w'
theorem pick_and (x y : Bool) : (if x = true then y else false) = (x && y) := by cases x <;> rfl

set_option maxRecDepth 100000 in
/-- prime.factor, of a fraction that is not greater than 0. -/
theorem factor_neg (v : Value) (p : Rat) (w : World) (hp : NQ p 20000) (h0 : p.num ≤ 0) :
    Calls Tryz.prog 30 #[v, rv p] w (SmallRes (.tuple #[.slice none 0 0, .bool false]) w) := by
  have hs : p.num.sign ≤ 0 := by
    rcases (show p.num = 0 ∨ p.num < 0 by omega) with h | h
    · rw [h]; decide
    · rw [Int.sign_eq_neg_one_of_neg h]; decide
  have HS := Lib.hid (fun wz => fsign_any p wz hp)
  obtain ⟨s, hs'⟩ : ∃ s, p.num.sign = s := ⟨_, rfl⟩
  rw [hs'] at HS hs
  clear hs' hp h0
  go_enter Tryz.func30, Tryz.ntmps30
  go_wp2_with fail
  obtain ⟨W, hW⟩ : ∃ W, (w.alloc (.cells #[.string (itx p.num), .string (itx (p.den : Int))] 48)) = W := ⟨_, rfl⟩
  rw [hW]
  obtain ⟨hX, hBW⟩ := B1.of hW
  clear hW
  obtain ⟨_, c000, c001, f000, f001⟩ := hX
  go_wp2_with fail
  refine (HS.out _).mono ?_
  rintro e w1 ⟨rfl, hb1⟩
  have hz1 := bel_chain hBW hb1
  clear hBW hb1
  go_wp2_with fail
  go_ret2
  exact ⟨rfl, hz1⟩
theorem lft_pos {ps : List Int} {N : Nat} (hps : ∀ i, i < ps.length → 2 ≤ ps.getD i 0) (h0 : 0 < N) : ∀ i, i ≤ ps.length → 0 < lft ps N i ∧ lft ps N i ≤ N := by
  intro i
  induction i with
  | zero => intro _; rw [lft_zero]; exact ⟨h0, Nat.le_refl _⟩
  | succ i ih =>
    intro hi
    obtain ⟨h1, h2⟩ := ih (by omega)
    have hp := hps i (by omega)
    rw [lft_succ ps N i (by omega)]
    have h3 := tk_spec (p := (ps.getD i 0).toNat) (by omega) _ _ (Nat.le_refl _) h1
    have h4 := tk_le (ps.getD i 0).toNat (lft ps N i) (by omega) h1
    exact ⟨h3.2.2, by omega⟩
theorem one_eq (r : Nat) : ((itx (r : Int)).toList == [49]) = decide (r = 1) := by
  by_cases h : r = 1
  · subst h
    rw [show ((1 : Nat) : Int) = 1 from rfl, itx_toList, itoa_one]; rfl
  · rw [itx_one_test (by omega), decide_eq_false h]
set_option maxRecDepth 100000 in
set_option maxHeartbeats 2000000 in
/-- prime.factor. -/
theorem factor_pos (A : Option Addr) (n cap : Nat) (ps : List Int) (p : Rat) (N D : Nat) (w : World) (hamb : Amb w) (h : InZ w A n cap ps) (hn6 : n ≤ 6) (hps : ∀ i, i < ps.length → 2 ≤ ps.getD i 0 ∧ ps.getD i 0 ≤ 97) (hp : NQ p 20000) (hN : p.num = (N : Int)) (hD : p.den = D) (h0 : 0 < N) :
    Calls Tryz.prog 30 #[.slice A n cap, rv p] w (FacPost n (stp ps N) (stp ps D) w) := by
  have hd0 : 0 < D := by have := p.den_pos; omega
  have hs : p.num.sign = 1 := Int.sign_eq_one_of_pos (by omega)
  have HS := Lib.hid (fun wz => fsign_any p wz hp)
  rw [hs] at HS
  have HND := Lib.hid (And.intro (hN ▸ hp.1) (hD ▸ hp.2))
  have HL := Lib.hid h.1
  have hle := h.2.1
  have hcap := h.2.2.1
  have HIN := Lib.hid (fun wz (hb : Below w.heap.size w wz) => h.below hb)
  have HAMB := Lib.hid hamb
  have HPS := Lib.hid hps
  have hmk := make_Zc 43 Tryz.underlying43 n n (Nat.le_refl _) (by omega)
  have HM := Lib.hid (fun wz => Zc.made wz n n (Nat.le_refl _) (by omega))
  unfold rv
  rw [hN, hD]
  have HRV := Lib.hid (show rv p = .agg #[.string (itx (N : Int)), .string (itx (D : Int))] by unfold rv; rw [hN, hD])
  rw [HRV.out] at HS
  have HDL := Lib.hid (show (dif (stp ps N).1 (stp ps D).1).length = n by rw [dif_len _ _ (by rw [stp_len, stp_len]), stp_len]; exact HL.out)
  have HDG := Lib.hid (fun i (hi : i < n) => show (dif (stp ps N).1 (stp ps D).1).getD i 0 = ((tk (ps.getD i 0).toNat (lft ps N i)).2 : Int) - ((tk (ps.getD i 0).toNat (lft ps D i)).2 : Int) by
    rw [dif_get _ _ _ (by rw [stp_len, HL.out]; exact hi) (by rw [stp_len, HL.out]; exact hi), stp_get _ _ _ (by rw [HL.out]; exact hi), stp_get _ _ _ (by rw [HL.out]; exact hi)])
  have HPZ := Lib.hid (fun xs => part_zero xs)
  clear h hamb hps hp hs hN hD
  go_enter Tryz.func30, Tryz.ntmps30
  go_wp2_with fail
  obtain ⟨W, hW⟩ : ∃ W, (w.alloc (.cells #[.string (itx (N : Int)), .string (itx (D : Int))] 48)) = W := ⟨_, rfl⟩
  rw [hW]
  obtain ⟨hX, hBW⟩ := B1.of hW
  clear hW
  obtain ⟨_, c000, c001, f000, f001⟩ := id hX
  have HX := Lib.hid (fun wz (hb : Below W.heap.size W wz) => hX.later hb)
  go_wp2_with fail
  refine (HS.out _).mono ?_
  rintro e w1 ⟨rfl, hb1⟩
  have HZ1 := Lib.hid (bel_chain hBW hb1)
  have HX1 := Lib.hid (HX.out _ hb1)
  clear hBW hb1 c000 c001 f000 f001 hX
  obtain ⟨L, hL⟩ : ∃ L, dif (stp ps N).1 (stp ps D).1 = L := ⟨_, rfl⟩
  rw [hL] at HDL HDG
  have HLL := Lib.hid hL
  clear hL
  have hx2 := HX1.out.later ((Below.refl w1.heap.size w1).alloc (Nat.le_refl _) (.cells (ZZ n) 3))
  have hz2 := HM.out w1
  have hb2 := bel_chain HZ1.out ((Below.refl w1.heap.size w1).alloc (Nat.le_refl _) (.cells (ZZ n) 3))
  have hg1 : w.heap.size ≤ w1.heap.size := HZ1.out.size
  go_upto_region 4 with fail
  clear hmk
  obtain ⟨W2, hW2⟩ : ∃ W, w1.alloc (.cells (ZZ n) 3) = W := ⟨_, rfl⟩
  rw [hW2] at hx2 hz2 hb2 ⊢
  obtain ⟨g, hg⟩ : ∃ g, w1.heap.size = g := ⟨_, rfl⟩
  rw [hg] at hz2 hg1 ⊢
  clear hW2 hg
  obtain ⟨_, c200, c201, f200, f201⟩ := hx2
  have HZ2 := Lib.hid hz2
  have HB2 := Lib.hid hb2
  clear hz2 hb2
  go_region_with fail
  all_goals
    go_wp2_with fail
    clear c200 c201 f200 f201
    have HST := Lib.hid (show Zc W2.drew g n n (part L 0) ∧ Below w.heap.size w W2.drew from ⟨by rw [HPZ.out, HDL.out]; exact HZ2.out.drew, bel_drewN HB2.out 1⟩)
    go_loopw [7, 8, 25] (fun v7 v8 vi wr => ∃ i : Nat, i ≤ n ∧ vi = .int .i64 (i : Int) ∧ v7 = .string (itx ((lft ps N i : Nat) : Int)) ∧ v8 = .string (itx ((lft ps D i : Nat) : Int)) ∧ Hid (Zc wr g n n (part L i)) ∧ Below w.heap.size w wr) (fun _ _ vi _ => n - (intOf vi).toNat)
    case atStart => exact ⟨0, Nat.zero_le _, rfl, by rw [lft_zero], by rw [lft_zero], Lib.hid HST.out.1, HST.out.2⟩
    case round =>
      obtain ⟨i, hi, rfl, rfl, rfl, HZ, hB⟩ := hrel
      by_cases hin : i = n
      · have HPA := Lib.hid (show part L i = dif (stp ps N).1 (stp ps D).1 by rw [hin, part_all HDL.out]; exact HLL.out.symm)
        have HL1 := Lib.hid (lft_all ps N i (by rw [HL.out]; omega))
        have HL2 := Lib.hid (lft_all ps D i (by rw [HL.out]; omega))
        have hlt : ¬ (i : Int) < (n : Int) := by omega
        have HBB := Lib.hid hB
        rw [HL1.out, HL2.out]
        obtain ⟨r, hr⟩ : ∃ r, (stp ps N).2 = r := ⟨_, rfl⟩
        obtain ⟨s, hs⟩ : ∃ s, (stp ps D).2 = s := ⟨_, rfl⟩
        rw [hr, hs]
        have HRS := Lib.hid (And.intro hr hs)
        have o1 := one_eq r
        have o2 := one_eq s
        clear hB hr hs hin
        subst_vars
        by_cases h1 : r = 1
        · by_cases h2 : s = 1
          · rw [decide_eq_true h1] at o1
            rw [decide_eq_true h2] at o2
            have H12 := Lib.hid (And.intro h1 h2)
            clear h1 h2
            go_wp2_with fail
            go_ret2
            exact ⟨g, _, by rw [HRS.out.1, HRS.out.2, H12.out.1, H12.out.2]; rfl, HPA.out ▸ HZ.out, HBB.out⟩
          · rw [decide_eq_true h1] at o1
            rw [decide_eq_false h2] at o2
            have H12 := Lib.hid (And.intro h1 h2)
            clear h1 h2
            go_wp2_with fail
            go_ret2
            exact ⟨g, _, by rw [HRS.out.1, HRS.out.2, decide_eq_true H12.out.1, decide_eq_false H12.out.2]; rfl, HPA.out ▸ HZ.out, HBB.out⟩
        · rw [decide_eq_false h1] at o1
          have H12 := Lib.hid h1
          clear h1 o2
          go_wp2_with fail
          go_ret2
          exact ⟨g, _, by rw [HRS.out.1, HRS.out.2, decide_eq_false H12.out, Bool.false_and]; rfl, HPA.out ▸ HZ.out, HBB.out⟩
      · have hlt : (i : Int) < (n : Int) := by omega
        obtain ⟨b, off, rfl, hbl, hc⟩ := (HIN.out _ hB).2.2.2 (by omega)
        have hcell := hc i (by omega)
        have hpb := HPS.out i (by rw [HL.out]; omega)
        have HF1 := Lib.hid (lft_pos (ps := ps) (N := N) (fun j hj => (HPS.out j hj).1) h0 i (by rw [HL.out]; omega))
        have HF2 := Lib.hid (lft_pos (ps := ps) (N := D) (fun j hj => (HPS.out j hj).1) hd0 i (by rw [HL.out]; omega))
        have HS1 := Lib.hid (lft_succ ps N i (by rw [HL.out]; omega))
        have HS2 := Lib.hid (lft_succ ps D i (by rw [HL.out]; omega))
        have HG := Lib.hid (HDG.out i (by omega))
        have HSET := Lib.hid (part_set (xs := L) (i := i) (by rw [HDL.out]; omega))
        obtain ⟨p0, hp0⟩ : ∃ p0 : Nat, ps.getD i 0 = (p0 : Int) := ⟨(ps.getD i 0).toNat, by omega⟩
        rw [hp0] at hcell HS1 HS2 HG hpb
        rw [Int.toNat_natCast] at HS1 HS2 HG
        obtain ⟨r, hr⟩ : ∃ r, lft ps N i = r := ⟨_, rfl⟩
        obtain ⟨s, hs⟩ : ∃ s, lft ps D i = s := ⟨_, rfl⟩
        rw [hr] at HF1 HS1 HG ⊢
        rw [hs] at HF2 HS2 HG ⊢
        have HN1 := Lib.hid (nz_le_nat HF1.out.2 HND.out.1)
        have HN2 := Lib.hid (nz_le_nat HF2.out.2 HND.out.2)
        have HT1 := Lib.hid (tk_bound (p := p0) (by omega) HF1.out.1 HN1.out)
        have HT2 := Lib.hid (tk_bound (p := p0) (by omega) HF2.out.1 HN2.out)
        have HD1 := Lib.hid (fun wz (hz : Amb wz) => pdivide_any r p0 wz hz HF1.out.1 (by omega) (by omega) (Nat.le_trans HN1.out (by omega)))
        have HD2 := Lib.hid (fun wz (hz : Amb wz) => pdivide_any s p0 wz hz HF2.out.1 (by omega) (by omega) (Nat.le_trans HN2.out (by omega)))
        obtain ⟨r1, hr1⟩ : ∃ r1, (tk p0 r).1 = r1 := ⟨_, rfl⟩
        obtain ⟨e1, he1⟩ : ∃ e1, (tk p0 r).2 = e1 := ⟨_, rfl⟩
        obtain ⟨s1, hs1⟩ : ∃ s1, (tk p0 s).1 = s1 := ⟨_, rfl⟩
        obtain ⟨e2, he2⟩ : ∃ e2, (tk p0 s).2 = e2 := ⟨_, rfl⟩
        rw [hr1, he1] at HD1
        rw [hs1, he2] at HD2
        rw [hr1] at HS1
        rw [hs1] at HS2
        rw [he1, he2] at HG
        rw [he1] at HT1
        rw [he2] at HT2
        have ht1 := HT1.out
        have ht2 := HT2.out
        have HB := Lib.hid hB
        clear hc hp0 hr hs hr1 he1 hs1 he2 hB hbl
        go_wp2_with fail
        refine (HD1.out _ (HAMB.out.below HB.out)).mono ?_
        rintro e w4 ⟨rfl, hb4⟩
        have HB4 := Lib.hid (bel_chain HB.out hb4)
        have HZ4 := Lib.hid (HZ.out.below hb4 HZ.out.lt)
        clear hb4
        go_wp2_with fail
        refine (HD2.out _ (HAMB.out.below HB4.out)).mono ?_
        rintro e w5 ⟨rfl, hb5⟩
        have HB5 := Lib.hid (bel_chain HB4.out hb5)
        have HZ5 := Lib.hid (HZ4.out.below hb5 HZ4.out.lt)
        have hcs := HZ5.out.cell i (by omega)
        have hfs := HZ5.out.free i
        clear hb5 hcell
        go_wp2_with fail
        go_roundw
        case rel =>
          refine ⟨i + 1, by omega, by go_num, by rw [HS1.out], by rw [HS2.out], Lib.hid ?_, HB5.out.setCell hg1 _⟩
          have hset := HZ5.out.set i ((e1 : Int) - (e2 : Int))
          rw [← HG.out, HSET.out] at hset
          rw [← HG.out]
          exact hset
        case measure => simp [intOf]; omega
end Go.Proofs.YtolnojkdalbppaaGreatDoor
