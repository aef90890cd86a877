/- Greater text, out of: QV5. -/
import Derived.Test.YtdjhngbpfdopnaaGreatDoorQ18
import Derived.Deep.DrawnRows
namespace Go.Proofs.YtdjhngbpfdopnaaGreatDoor
open Go.RowKit Go.PlainAid
attribute [local go_sem ↓] Go.wp_at_zero Go.wp_at_succ

theorem nameW {w a : World} (_h : Below w.heap.size w a) : ∃ b, b = a := ⟨a, rfl⟩
theorem fit_mv {qs ps xs : List Int} (hq : Okl qs) (hp : Okl ps) (hx : xs.length = ps.length) (hf : farB xs = false) : fit qs (mv qs ps xs ps.length).1 = 0 := by
  unfold fit
  rw [if_pos (mv_len qs ps xs _), mv_far hq hp hx hf, if_neg (by decide)]
set_option maxRecDepth 100000 in
set_option maxHeartbeats 4000000 in
theorem lawEmbeds_long (a b : Int) (A2 : Option Addr) (n2 cap2 : Nat) (w : World) (hamb : Amb11 w) (h8 : 8 < n2) :
    Calls Tryz.prog 7 #[.agg #[.int .u16 a, .int .u16 b], .slice A2 n2 cap2] w (SmallRes (.bool true) w) := by
  have h8' : 8 < (n2 : Int) := by omega
  have hal : Below w.heap.size w (w.alloc (.cells #[.int .u16 a, .int .u16 b] 33)) := (Below.refl _ _).alloc (Nat.le_refl _) _
  have HAMB := Lib.hid (fun wz (hb : Below w.heap.size w wz) => hamb.below hb)
  clear hamb h8
  go_enter Tryz.func7, Tryz.ntmps7
  go_wp2_with fail
  refine (known11_any _ (HAMB.out _ hal)).mono ?_
  rintro e w1 ⟨rfl, hb1⟩
  have hz1 := bel_chain hal hb1
  clear hal hb1
  go_wp2_with fail
  refine (known11_any _ (HAMB.out _ hz1)).mono ?_
  rintro e w2 ⟨rfl, hb2⟩
  have hz2 := bel_chain hz1 hb2
  clear hz1 hb2
  go_wp2_with fail
  go_ret
  exact ⟨rfl, hz2⟩
set_option maxRecDepth 100000 in
set_option maxHeartbeats 8000000 in
/-- The walk. -/
theorem lawEmbeds_walk (a b : Int) (_ha : 0 ≤ a ∧ a ≤ 65535) (_hb : 0 ≤ b ∧ b ≤ 65535) (A2 : Option Addr) (n2 cap2 : Nat) (xs : List Int) (w : World) (hamb : Amb11 w) (h2 : InZ w A2 n2 cap2 xs) :
    Calls Tryz.prog 7 #[.agg #[.int .u16 a, .int .u16 b], .slice A2 n2 cap2] w (SmallRes (.bool true) w) := by
  by_cases h8 : 8 < n2
  · exact lawEmbeds_long a b A2 n2 cap2 w hamb h8
  have h8' : ¬ 8 < (n2 : Int) := by omega
  have HAMB := Lib.hid (fun wz (hb : Below w.heap.size w wz) => hamb.below hb)
  have HIX := Lib.hid (fun wz (hb : Below w.heap.size w wz) => h2.below hb)
  clear hamb h2 h8 _ha _hb
  go_enter Tryz.func7, Tryz.ntmps7
  go_wp2_with fail
  obtain ⟨W, hW⟩ : ∃ W, (w.alloc (.cells #[.int .u16 a, .int .u16 b] 33)) = W := ⟨_, rfl⟩
  rw [hW]
  have hX : Box2 W w.heap.size (.int .u16 a) (.int .u16 b) := hW ▸ Box2.new w _ _ _
  have hBW : Below w.heap.size w W := hW ▸ (Below.refl _ _).alloc (Nat.le_refl _) _
  clear hW
  refine (known11_any _ (HAMB.out _ hBW)).mono ?_
  rintro e w1 ⟨rfl, hb1⟩
  have hz1 := bel_chain hBW hb1
  have hX1 := hX.later hb1
  clear hb1 hX
  go_upto_region 3 with fail
  go_cut [5, 6] (fun s5 s6 wx => ∃ A c ps A' c' qs, s5 = .slice A (List.length ps) c ∧ s6 = .slice A' (List.length qs) c' ∧ Mkl ps ∧ Mkl qs ∧ InZ wx A ps.length c ps ∧ InZ wx A' qs.length c' qs ∧ Below w.heap.size w wx)
  case first =>
    have HBX := Lib.hid hX1
    obtain ⟨_, c10, c11, f10, f11⟩ := hX1
    clear hBW
    go_region_with (first
      | (have _h := hz3; (with_reducible refine Calls.mono (make11_any b _) ?_); rintro e4 w4 ⟨v4, qs, rfl, hmk4, hown4, hb4⟩; obtain ⟨A4, c4, rfl, hin4⟩ := hown4.ins; have hz4 := bel_chain hz3 hb4; have hin34 := hin3.below hb4)
      | ((with_reducible refine Calls.mono (make11_any a _) ?_); rintro e3 w3 ⟨v3, ps, rfl, hmk3, hown3, hb3⟩; obtain ⟨A3, c3, rfl, hin3⟩ := hown3.ins; have hz3 := bel_chain (bel_drewN hz1 1) hb3; obtain ⟨_, c30, c31, f30, f31⟩ := HBX.out.later (bel_chain (bel_drewN (Below.refl _ _) 1) hb3)))
    all_goals (go_wp2_with fail; go_meet; exact ⟨_, _, _, _, _, _, rfl, rfl, hmk3, hmk4, hin34, hin4, hz4⟩)
  case rest =>
    obtain ⟨A, cap, ps, A', cap', qs, rfl, rfl, hmk, hmk', hin, hin', hz⟩ := hcut
    clear hX1 hz1 hBW
    obtain ⟨w0, hw0⟩ := nameW hz
    subst hw0
    have hck := hmk.1.chk
    have hck' := hmk'.1.chk
    have HIN := Lib.hid (fun wz (hb : Below w0.heap.size w0 wz) => hin.below hb)
    have HIN' := Lib.hid (fun wz (hb : Below w0.heap.size w0 wz) => hin'.below hb)
    have HIX2 := Lib.hid (fun wz (hb : Below w0.heap.size w0 wz) => HIX.out _ (bel_chain hz hb))
    have HZ2 := Lib.hid (fun wz (hb : Below w0.heap.size w0 wz) => bel_chain hz hb)
    have hlx : xs.length = n2 := (HIX.out _ hz).1
    have HCR := Lib.hid (fun wz (hb : Below w0.heap.size w0 wz) => lcheckRow_any A A2 ps.length cap n2 cap2 ps xs wz (HIN.out _ hb) (HIX2.out _ hb))
    have hr0 := Below.refl w0.heap.size w0
    have hpos' := hmk'.1.pos
    have hle' := hmk'.1.le
    have hpos := hmk.1.pos
    clear hin hin' hz
    by_cases hf : fit ps xs = 0
    · obtain ⟨hl, hfar⟩ := fit_zero hf
      obtain rfl : ps.length = n2 := by rw [← hl]; exact hlx
      rw [hf] at HCR
      have HR := Lib.hid (fun wz (hb : Below w0.heap.size w0 wz) => restrict_ok A A' A2 ps.length cap qs.length cap' cap2 ps qs xs wz (HIN.out _ hb) (HIN'.out _ hb) (HIX2.out _ hb) hck hck' hf)
      have HNP := Lib.hid (fun wz (hb : Below w0.heap.size w0 wz) => (HIN.out _ hb).2.2.2)
      have HNX := Lib.hid (fun wz (hb : Below w0.heap.size w0 wz) => (HIX2.out _ hb).2.2.2)
      have hc1 := (HIN.out _ hr0).2.1
      have hc2 := (HIN.out _ hr0).2.2.1
      have hc3 := (HIX2.out _ hr0).2.1
      have hc4 := (HIX2.out _ hr0).2.2.1
      have hc5 := (HIN'.out _ hr0).2.1
      have hc6 := (HIN'.out _ hr0).2.2.1
      have hmk9 := make_Zc 50 Tryz.underlying50 qs.length qs.length (Nat.le_refl _) (by omega)
      have HM := Lib.hid (fun wz => Zc.made wz qs.length qs.length (Nat.le_refl _) (by omega))
      have HLQ := Lib.hid (show (mv qs ps xs 0).1 = List.replicate qs.length 0 from by rw [mv_zero])
      have HIT := Lib.hid (fun i k => @mv_hit qs ps xs i k)
      have HMI := Lib.hid (fun i => @mv_miss qs ps xs i)
      have HIC := Lib.hid (fun i => idx_cases qs (ps.getD i 0))
      have HSI := Lib.hid (fun wz x (hb : Below w0.heap.size w0 wz) => sindex_any A' qs.length cap' qs x wz (HIN'.out _ hb) hpos')
      cases hlost : (mv qs ps xs ps.length).2 with
      | true =>
        have HE := Lib.hid (fun wz (hb : Below w0.heap.size w0 wz) => embed_lost A A' A2 ps.length cap qs.length cap' cap2 ps qs xs wz (HIN.out _ hb) (HIN'.out _ hb) (HIX2.out _ hb) hck hck' hf hlost)
        have HLO := Lib.hid hlost
        obtain ⟨m, hm⟩ : ∃ m, qs.length = m := ⟨_, rfl⟩
        obtain ⟨n, hn⟩ : ∃ n, ps.length = n := ⟨_, rfl⟩
        rw [hm] at HE HR hmk9 HM HLQ HSI hle' hpos' hc5 ⊢
        rw [hn] at HE HR HCR HNP HNX HLO h8' hc1 hc3 ⊢
        have HMM := Lib.hid hm
        have HNN := Lib.hid hn
        clear hlost hl hlx hf hfar hck hck' hmk hmk' hm hn
        go_wp2_with fail
        refine (HE.out _ hr0).mono ?_
        rintro e w3 ⟨rfl, hb3⟩
        go_wp2_with fail
        refine (HR.out _ hb3).mono ?_
        rintro e w4 ⟨gz, cz, rfl, hzz, hb4⟩
        have hz4 := bel_chain hb3 hb4
        have HZZ := Lib.hid (fun wz (hb : Below w4.heap.size w4 wz) => (hzz.below hb hzz.lt).ins)
        clear hb3 hb4 hzz
        go_wp2_with fail
        refine (HCR.out _ hz4).mono ?_
        rintro e w5 ⟨rfl, hb5'⟩
        have hz5' := bel_chain hz4 hb5'
        have hal5 : Below w5.heap.size w5 (w5.alloc (.cells (ZZ m) 3)) := (Below.refl _ _).alloc (Nat.le_refl _) _
        have HST := Lib.hid (show Zc (w5.alloc (.cells (ZZ m) 3)) w5.heap.size m m (mv qs ps xs 0).1 ∧ Below w4.heap.size w4 (w5.alloc (.cells (ZZ m) 3)) from ⟨by rw [HLQ.out]; exact HM.out w5, bel_chain hb5' hal5⟩)
        have hg4 : w4.heap.size ≤ w5.heap.size := hb5'.size
        have HB4 := Lib.hid (fun wz (hb : Below w4.heap.size w4 wz) => bel_chain hz4 hb)
        obtain ⟨gw, hgw⟩ : ∃ g, w5.heap.size = g := ⟨_, rfl⟩
        rw [hgw] at HST hg4
        have HEQ := Lib.hid (fun wz g1 g2 cA cB (h1 : InZ wz (some ⟨g1, 0, none⟩) m cA (mv qs ps xs n).1) (h2 : InZ wz (some ⟨g2, 0, none⟩) m cB (mv qs ps xs n).1) => show Calls Tryz.prog 40 #[.slice (some ⟨g1, 0, none⟩) m cA, .slice (some ⟨g2, 0, none⟩) m cB] wz (SmallRes (.bool true) wz) from by
          have hh := equalR_any _ _ _ _ _ _ _ _ wz h1 h2
          rw [beq_self_eq_true] at hh
          exact hh)
        clear hal5 hb5' hz5' hz4
        go_wp2_with fail
        clear hmk9 hgw
        go_loopw [13, 73] (fun vl vi wr => ∃ i : Nat, i ≤ n ∧ vi = .int .i64 (i : Int) ∧ vl = .bool (mv qs ps xs i).2 ∧ Hid (Zc wr gw m m (mv qs ps xs i).1) ∧ Below w4.heap.size w4 wr) (fun _ vi _ => n - (intOf vi).toNat)
        case atStart => exact ⟨0, Nat.zero_le _, rfl, rfl, Lib.hid HST.out.1, HST.out.2⟩
        case round =>
        obtain ⟨i, hi, rfl, rfl, HW9, hb5⟩ := hrel
        have hz5 := HB4.out _ hb5
        rcases (show i = n ∨ i < n by omega) with hin | hin
        · have hlt : ¬ (i : Int) < (n : Int) := by omega
          subst hin
          rw [HLO.out]
          have hc9 := HW9.out.le
          go_wp2_with fail
          refine (HEQ.out _ _ _ _ _ (HZZ.out _ hb5) HW9.out.ins).mono ?_
          rintro e w8 ⟨rfl, hb8⟩
          have hz8 := bel_chain hz5 hb8
          clear hb8 hz5 hb5
          go_wp2_with fail
          go_ret
          exact ⟨rfl, HZ2.out _ hz8⟩
        · have hlt : (i : Int) < (n : Int) := by omega
          obtain ⟨b, off, rfl, hbl, hc⟩ := HNP.out _ hz5 (by omega)
          obtain ⟨b3, off3, rfl, hbl3, hc3⟩ := HNX.out _ hz5 (by omega)
          have hcell := hc i (by omega)
          have hcell3 := hc3 i (by omega)
          have hic := HIC.out i
          have HIT1 := Lib.hid (fun k => HIT.out i k)
          have HMI1 := Lib.hid (HMI.out i)
          obtain ⟨p, hp⟩ : ∃ p, ps.getD i 0 = p := ⟨_, rfl⟩
          obtain ⟨x, hx⟩ : ∃ x, xs.getD i 0 = x := ⟨_, rfl⟩
          obtain ⟨⟨row, bl⟩, hr⟩ : ∃ r, mv qs ps xs i = r := ⟨_, rfl⟩
          have HC := Lib.hid (HSI.out _ p hz5)
          rw [hp] at hcell hic HIT1 HMI1
          rw [hx] at hcell3 HIT1 HMI1
          rw [hr] at HIT1 HMI1 HW9 ⊢
          have HZQ := Lib.hid HW9.out
          have HB5 := Lib.hid hb5
          clear hc hc3 hp hx hr hbl hbl3 hb5
          rcases hic with ⟨h1, _⟩ | ⟨k, hk, h1, _⟩
          · have HE9 := Lib.hid (HMI1.out h1)
            rw [h1] at HC
            clear h1
            cases bl with
            | true =>
              go_wp2_with fail
              refine HC.out.mono ?_
              rintro e w6 ⟨rfl, hb6⟩
              have HZ6 := Lib.hid (HZQ.out.below hb6 HZQ.out.lt)
              have HB6 := Lib.hid (bel_chain HB5.out hb6)
              clear hb6
              go_wp2_with fail
              go_roundw
              case rel => exact ⟨i + 1, by omega, by go_num, by rw [HE9.out]; rfl, Lib.hid (by rw [HE9.out]; exact HZ6.out), HB6.out⟩
              case measure => simp [intOf]; omega
            | false =>
              by_cases hx0 : x = 0
              · have HE2 := Lib.hid (show mv qs ps xs (i + 1) = (row, false) by rw [HE9.out, hx0]; rfl)
                clear HE9 HIT1 HMI1
                subst hx0
                go_wp2_with fail
                refine HC.out.mono ?_
                rintro e w6 ⟨rfl, hb6⟩
                have HZ6 := Lib.hid (HZQ.out.below hb6 HZQ.out.lt)
                have HB6 := Lib.hid (bel_chain HB5.out hb6)
                clear hb6
                go_wp2_with fail
                go_roundw
                case rel => exact ⟨i + 1, by omega, by go_num, by rw [HE2.out], Lib.hid (by rw [HE2.out]; exact HZ6.out), HB6.out⟩
                case measure => simp [intOf]; omega
              · have HE2 := Lib.hid (show mv qs ps xs (i + 1) = (row, true) by rw [HE9.out]; simp [hx0])
                clear HE9 HIT1 HMI1
                go_wp2_with fail
                refine HC.out.mono ?_
                rintro e w6 ⟨rfl, hb6⟩
                have HZ6 := Lib.hid (HZQ.out.below hb6 HZQ.out.lt)
                have HB6 := Lib.hid (bel_chain HB5.out hb6)
                clear hb6
                go_wp2_with fail
                go_roundw
                case rel => exact ⟨i + 1, by omega, by go_num, by rw [HE2.out]; simp [hx0], Lib.hid (by rw [HE2.out]; exact HZ6.out), HB6.out⟩
                case measure => simp [intOf]; omega
          · have HE9 := Lib.hid (HIT1.out k h1)
            rw [h1] at HC
            have hkm : k < m := by rw [← HMM.out]; exact hk
            clear h1 hk
            go_wp2_with fail
            refine HC.out.mono ?_
            rintro e w6 ⟨rfl, hb6⟩
            have HZ6 := Lib.hid (HZQ.out.below hb6 HZQ.out.lt)
            have HB6 := Lib.hid (bel_chain HB5.out hb6)
            have hcs := HZ6.out.cell k hkm
            have hfs := HZ6.out.free k
            have hkm' : (k : Int) < (m : Int) := by omega
            clear hb6 hcell hcell3
            go_wp2_with fail
            go_roundw
            case rel => exact ⟨i + 1, by omega, by go_num, by rw [HE9.out], Lib.hid (by rw [HE9.out]; exact HZ6.out.set k x), HB6.out.setCell (by show w4.heap.size ≤ gw; exact hg4) _⟩
            case measure => simp [intOf]; omega
      | false =>
        have HE := Lib.hid (fun wz (hb : Below w0.heap.size w0 wz) => embed_ok A A' A2 ps.length cap qs.length cap' cap2 ps qs xs wz (HIN.out _ hb) (HIN'.out _ hb) (HIX2.out _ hb) hck hck' hf hlost)
        have hbk := mv_back hmk'.1 hmk.1 hl hlost
        have hfm := fit_mv hmk'.1 hmk.1 hl hfar
        have HBK := Lib.hid (fun wz g c (hb : Below w0.heap.size w0 wz) (hy : InZ wz (some ⟨g, 0, none⟩) qs.length c (mv qs ps xs ps.length).1) => show Calls Tryz.prog 31 #[.slice A' qs.length cap', .slice A ps.length cap, .slice (some ⟨g, 0, none⟩) qs.length c] wz (RowPost ps.length xs wz) from by
          have hh := embed_ok A' A (some ⟨g, 0, none⟩) qs.length cap' ps.length cap c qs ps (mv qs ps xs ps.length).1 wz (HIN'.out _ hb) (HIN.out _ hb) hy hck' hck hfm (by rw [hbk])
          rw [hbk] at hh
          exact hh)
        have HLO := Lib.hid hlost
        obtain ⟨m, hm⟩ : ∃ m, qs.length = m := ⟨_, rfl⟩
        obtain ⟨n, hn⟩ : ∃ n, ps.length = n := ⟨_, rfl⟩
        rw [hm] at HE HR HBK hmk9 HM HLQ HSI hle' hpos' hc5 ⊢
        rw [hn] at HE HR HBK HCR HNP HNX HLO HIX2 h8' hc1 hc3 ⊢
        have HMM := Lib.hid hm
        have HNN := Lib.hid hn
        clear hlost hl hlx hf hfar hck hck' hmk hmk' hm hn hbk hfm
        go_wp2_with fail
        refine (HE.out _ hr0).mono ?_
        rintro e w3 ⟨gy, cy, rfl, hyy, hb3⟩
        go_wp2_with fail
        refine (HR.out _ hb3).mono ?_
        rintro e w4 ⟨gz, cz, rfl, hzz, hb4⟩
        have hz4 := bel_chain hb3 hb4
        have HZZ := Lib.hid (fun wz (hb : Below w4.heap.size w4 wz) => (hzz.below hb hzz.lt).ins)
        have HYY := Lib.hid (fun wz (hb : Below w4.heap.size w4 wz) => (hyy.below (bel_chain hb4 hb) hyy.lt).ins)
        clear hb3 hb4 hzz hyy
        go_wp2_with fail
        refine (HCR.out _ hz4).mono ?_
        rintro e w5 ⟨rfl, hb5'⟩
        have hz5' := bel_chain hz4 hb5'
        have hal5 : Below w5.heap.size w5 (w5.alloc (.cells (ZZ m) 3)) := (Below.refl _ _).alloc (Nat.le_refl _) _
        have HST := Lib.hid (show Zc (w5.alloc (.cells (ZZ m) 3)) w5.heap.size m m (mv qs ps xs 0).1 ∧ Below w4.heap.size w4 (w5.alloc (.cells (ZZ m) 3)) from ⟨by rw [HLQ.out]; exact HM.out w5, bel_chain hb5' hal5⟩)
        have hg4 : w4.heap.size ≤ w5.heap.size := hb5'.size
        have HB4 := Lib.hid (fun wz (hb : Below w4.heap.size w4 wz) => bel_chain hz4 hb)
        obtain ⟨gw, hgw⟩ : ∃ g, w5.heap.size = g := ⟨_, rfl⟩
        rw [hgw] at HST hg4
        have HEQ := Lib.hid (fun wz g1 g2 cA cB (h1 : InZ wz (some ⟨g1, 0, none⟩) m cA (mv qs ps xs n).1) (h2 : InZ wz (some ⟨g2, 0, none⟩) m cB (mv qs ps xs n).1) => show Calls Tryz.prog 40 #[.slice (some ⟨g1, 0, none⟩) m cA, .slice (some ⟨g2, 0, none⟩) m cB] wz (SmallRes (.bool true) wz) from by
          have hh := equalR_any _ _ _ _ _ _ _ _ wz h1 h2
          rw [beq_self_eq_true] at hh
          exact hh)
        clear hal5 hb5' hz5' hz4
        go_wp2_with fail
        clear hmk9 hgw
        go_loopw [13, 73] (fun vl vi wr => ∃ i : Nat, i ≤ n ∧ vi = .int .i64 (i : Int) ∧ vl = .bool (mv qs ps xs i).2 ∧ Hid (Zc wr gw m m (mv qs ps xs i).1) ∧ Below w4.heap.size w4 wr) (fun _ vi _ => n - (intOf vi).toNat)
        case atStart => exact ⟨0, Nat.zero_le _, rfl, rfl, Lib.hid HST.out.1, HST.out.2⟩
        case round =>
        obtain ⟨i, hi, rfl, rfl, HW9, hb5⟩ := hrel
        have hz5 := HB4.out _ hb5
        rcases (show i = n ∨ i < n by omega) with hin | hin
        · have hlt : ¬ (i : Int) < (n : Int) := by omega
          subst hin
          rw [HLO.out]
          have hc9 := HW9.out.le
          go_wp2_with fail
          refine (HEQ.out _ _ _ _ _ (HZZ.out _ hb5) HW9.out.ins).mono ?_
          rintro e w8 ⟨rfl, hb8⟩
          have hz8 := bel_chain hz5 hb8
          have hb58 := bel_chain hb5 hb8
          have HW8 := Lib.hid (HW9.out.below hb8 HW9.out.lt)
          go_wp2_with fail
          refine (HBK.out _ gy cy hz8 (HYY.out _ hb58)).mono ?_
          rintro e w10 ⟨gk, ck, rfl, hkk, hb10⟩
          have hz10 := bel_chain hz8 hb10
          have HKK := Lib.hid hkk
          have HW10 := Lib.hid (HW8.out.below hb10 HW8.out.lt)
          have hb410 := bel_chain hb58 hb10
          clear hkk hb8
          go_wp2_with fail
          refine (HEQ.out _ _ _ _ _ (HYY.out _ hb410) HW10.out.ins).mono ?_
          rintro e w11 ⟨rfl, hb11⟩
          have hz11 := bel_chain hz10 hb11
          go_wp2_with fail
          refine (equalR_any _ _ _ _ _ _ _ _ w11 (HKK.out.below hb11 HKK.out.lt).ins (HIX2.out _ hz11)).mono ?_
          rintro e w12 ⟨rfl, hb12⟩
          rw [beq_self_eq_true]
          have HZ12 := Lib.hid (bel_chain hz11 hb12)
          clear hz5 hz8 hz10 hz11 hb10 hb11 hb12 hb58 hb410 hb5
          go_wp2_with fail
          go_ret
          exact ⟨rfl, HZ2.out _ HZ12.out⟩
        · have hlt : (i : Int) < (n : Int) := by omega
          obtain ⟨b, off, rfl, hbl, hc⟩ := HNP.out _ hz5 (by omega)
          obtain ⟨b3, off3, rfl, hbl3, hc3⟩ := HNX.out _ hz5 (by omega)
          have hcell := hc i (by omega)
          have hcell3 := hc3 i (by omega)
          have hic := HIC.out i
          have HIT1 := Lib.hid (fun k => HIT.out i k)
          have HMI1 := Lib.hid (HMI.out i)
          obtain ⟨p, hp⟩ : ∃ p, ps.getD i 0 = p := ⟨_, rfl⟩
          obtain ⟨x, hx⟩ : ∃ x, xs.getD i 0 = x := ⟨_, rfl⟩
          obtain ⟨⟨row, bl⟩, hr⟩ : ∃ r, mv qs ps xs i = r := ⟨_, rfl⟩
          have HC := Lib.hid (HSI.out _ p hz5)
          rw [hp] at hcell hic HIT1 HMI1
          rw [hx] at hcell3 HIT1 HMI1
          rw [hr] at HIT1 HMI1 HW9 ⊢
          have HZQ := Lib.hid HW9.out
          have HB5 := Lib.hid hb5
          clear hc hc3 hp hx hr hbl hbl3 hb5
          rcases hic with ⟨h1, _⟩ | ⟨k, hk, h1, _⟩
          · have HE9 := Lib.hid (HMI1.out h1)
            rw [h1] at HC
            clear h1
            cases bl with
            | true =>
              go_wp2_with fail
              refine HC.out.mono ?_
              rintro e w6 ⟨rfl, hb6⟩
              have HZ6 := Lib.hid (HZQ.out.below hb6 HZQ.out.lt)
              have HB6 := Lib.hid (bel_chain HB5.out hb6)
              clear hb6
              go_wp2_with fail
              go_roundw
              case rel => exact ⟨i + 1, by omega, by go_num, by rw [HE9.out]; rfl, Lib.hid (by rw [HE9.out]; exact HZ6.out), HB6.out⟩
              case measure => simp [intOf]; omega
            | false =>
              by_cases hx0 : x = 0
              · have HE2 := Lib.hid (show mv qs ps xs (i + 1) = (row, false) by rw [HE9.out, hx0]; rfl)
                clear HE9 HIT1 HMI1
                subst hx0
                go_wp2_with fail
                refine HC.out.mono ?_
                rintro e w6 ⟨rfl, hb6⟩
                have HZ6 := Lib.hid (HZQ.out.below hb6 HZQ.out.lt)
                have HB6 := Lib.hid (bel_chain HB5.out hb6)
                clear hb6
                go_wp2_with fail
                go_roundw
                case rel => exact ⟨i + 1, by omega, by go_num, by rw [HE2.out], Lib.hid (by rw [HE2.out]; exact HZ6.out), HB6.out⟩
                case measure => simp [intOf]; omega
              · have HE2 := Lib.hid (show mv qs ps xs (i + 1) = (row, true) by rw [HE9.out]; simp [hx0])
                clear HE9 HIT1 HMI1
                go_wp2_with fail
                refine HC.out.mono ?_
                rintro e w6 ⟨rfl, hb6⟩
                have HZ6 := Lib.hid (HZQ.out.below hb6 HZQ.out.lt)
                have HB6 := Lib.hid (bel_chain HB5.out hb6)
                clear hb6
                go_wp2_with fail
                go_roundw
                case rel => exact ⟨i + 1, by omega, by go_num, by rw [HE2.out]; simp [hx0], Lib.hid (by rw [HE2.out]; exact HZ6.out), HB6.out⟩
                case measure => simp [intOf]; omega
          · have HE9 := Lib.hid (HIT1.out k h1)
            rw [h1] at HC
            have hkm : k < m := by rw [← HMM.out]; exact hk
            clear h1 hk
            go_wp2_with fail
            refine HC.out.mono ?_
            rintro e w6 ⟨rfl, hb6⟩
            have HZ6 := Lib.hid (HZQ.out.below hb6 HZQ.out.lt)
            have HB6 := Lib.hid (bel_chain HB5.out hb6)
            have hcs := HZ6.out.cell k hkm
            have hfs := HZ6.out.free k
            have hkm' : (k : Int) < (m : Int) := by omega
            clear hb6 hcell hcell3
            go_wp2_with fail
            go_roundw
            case rel => exact ⟨i + 1, by omega, by go_num, by rw [HE9.out], Lib.hid (by rw [HE9.out]; exact HZ6.out.set k x), HB6.out.setCell (by show w4.heap.size ≤ gw; exact hg4) _⟩
            case measure => simp [intOf]; omega
    · obtain ⟨c, hc⟩ : ∃ c, fit ps xs = c := ⟨_, rfl⟩
      rw [hc] at hf HCR
      have HE := Lib.hid (fun wz (hb : Below w0.heap.size w0 wz) => embed_fit A A' A2 ps.length cap qs.length cap' n2 cap2 ps qs xs wz (HIN.out _ hb) (HIN'.out _ hb) (HIX2.out _ hb) hck hck' c hc hf)
      have HR := Lib.hid (fun wz (hb : Below w0.heap.size w0 wz) => restrict_fit A A' A2 ps.length cap qs.length cap' n2 cap2 ps qs xs wz (HIN.out _ hb) (HIN'.out _ hb) (HIX2.out _ hb) hck hck' c hc hf)
      clear hc hck hck' hmk hmk' hlx
      obtain ⟨m, hm⟩ : ∃ m, qs.length = m := ⟨_, rfl⟩
      obtain ⟨n, hn⟩ : ∃ n, ps.length = n := ⟨_, rfl⟩
      rw [hm] at HE HR ⊢
      rw [hn] at HE HR HCR ⊢
      clear hm hn hle' hpos' hpos
      go_wp2_with fail
      refine (HE.out _ hr0).mono ?_
      rintro e w3 ⟨rfl, hb3⟩
      go_wp2_with fail
      refine (HR.out _ hb3).mono ?_
      rintro e w4 ⟨rfl, hb4⟩
      have hz4 := bel_chain hb3 hb4
      go_wp2_with fail
      refine (HCR.out _ hz4).mono ?_
      rintro e w5 ⟨rfl, hb5⟩
      have hz5 := bel_chain hz4 hb5
      clear hz4 hb3 hb4 hb5
      go_wp2_with fail
      go_ret
      exact ⟨rfl, HZ2.out _ hz5⟩
end Go.Proofs.YtdjhngbpfdopnaaGreatDoor
