/- Greater text, out of: QV3. -/
import Derived.Test.YtolnojkdalbppaaGreatDoorQ27
import Derived.Deep.DrawnRows
namespace Go.Proofs.YtolnojkdalbppaaGreatDoor
open Go.RowKit Go.PlainAid
attribute [local go_sem ↓] Go.wp_at_zero Go.wp_at_succ
theorem nameJ {w a : World} (_h : Below w.heap.size w a) : ∃ b, b = a := ⟨a, rfl⟩
set_option maxRecDepth 100000 in
set_option maxHeartbeats 8000000 in
/-- The walk. -/
theorem lawJoins_walk (a b : Int) (_ha : 0 ≤ a ∧ a ≤ 65535) (_hb : 0 ≤ b ∧ b ≤ 65535) (x : Int) (w : World) (hamb : Amb11 w) (_hx : -9223372036854775808 ≤ x ∧ x ≤ 9223372036854775807) :
    Calls Tryz.prog 3 #[.agg #[.int .u16 a, .int .u16 b], .int .i64 x] w (SmallRes (.bool true) w) := by
  have HAMB := Lib.hid (fun wz (hb : Below w.heap.size w wz) => hamb.below hb)
  clear hamb _ha _hb _hx
  go_enter Tryz.func3, Tryz.ntmps3
  go_wp2_with fail
  obtain ⟨W, hW⟩ : ∃ W, (w.alloc (.cells #[.int .u16 a, .int .u16 b] 24)) = W := ⟨_, rfl⟩
  rw [hW]
  have hX : Box2 W w.heap.size (.int .u16 a) (.int .u16 b) := hW ▸ Box2.new w _ _ _
  have hBW : Below w.heap.size w W := hW ▸ (Below.refl _ _).alloc (Nat.le_refl _) _
  clear hW
  refine (known11_any _ (HAMB.out _ hBW)).mono ?_
  rintro e w1 ⟨rfl, hb1⟩
  have hz1 := bel_chain hBW hb1
  have hX1 := hX.later hb1
  clear hb1 hX
  go_upto_region 3 with fail
  go_cut [5, 6] (fun s5 s6 wx => ∃ A c ps A' c' qs, s5 = .slice A (List.length ps) c ∧ s6 = .slice A' (List.length qs) c' ∧ Mkl ps ∧ Mkl qs ∧ InZ wx A ps.length c ps ∧ InZ wx A' qs.length c' qs ∧ Below w.heap.size w wx)
  case first =>
    have HBX := Lib.hid hX1
    obtain ⟨_, c10, c11, f10, f11⟩ := hX1
    clear hBW
    go_region_with (first
      | (have _h := hz3; (with_reducible refine Calls.mono (make11_any b _) ?_); rintro e4 w4 ⟨v4, qs, rfl, hmk4, hown4, hb4⟩; obtain ⟨A4, c4, rfl, hin4⟩ := hown4.ins; have hz4 := bel_chain hz3 hb4; have hin34 := hin3.below hb4)
      | ((with_reducible refine Calls.mono (make11_any a _) ?_); rintro e3 w3 ⟨v3, ps, rfl, hmk3, hown3, hb3⟩; obtain ⟨A3, c3, rfl, hin3⟩ := hown3.ins; have hz3 := bel_chain (bel_drewN hz1 1) hb3; obtain ⟨_, c30, c31, f30, f31⟩ := HBX.out.later (bel_chain (bel_drewN (Below.refl _ _) 1) hb3)))
    all_goals (go_wp2_with fail; go_meet; exact ⟨_, _, _, _, _, _, rfl, rfl, hmk3, hmk4, hin34, hin4, hz4⟩)
  case rest =>
    obtain ⟨A, cap, ps, A', cap', qs, rfl, rfl, hmk, hmk', hin, hin', hz⟩ := hcut
    clear hX1 hz1 hBW
    obtain ⟨w0, hw0⟩ := nameJ hz
    subst hw0
    have hck := hmk.1.chk
    have hck' := hmk'.1.chk
    have htwo : twoE ps qs = 0 := (twoE_snd qs hck).trans hck'
    have HIN := Lib.hid (fun wz (hb : Below w0.heap.size w0 wz) => hin.below hb)
    have HIN' := Lib.hid (fun wz (hb : Below w0.heap.size w0 wz) => hin'.below hb)
    have HZ2 := Lib.hid (fun wz (hb : Below w0.heap.size w0 wz) => bel_chain hz hb)
    have hr0 := Below.refl w0.heap.size w0
    have hpos := hmk.1.pos
    have hpos' := hmk'.1.pos
    have hle1 : ps.length ≤ 100 := by have := hmk.1.le; omega
    have hle2 : qs.length ≤ 100 := by have := hmk'.1.le; omega
    have HK := Lib.hid (fun wy wz (hb : Below w0.heap.size w0 wy) (hw : wz = wy.alloc (.cells #[.slice A ps.length cap, .slice A' qs.length cap'] 27)) => concat_new A A' ps.length qs.length cap cap' ps qs wy wz hw (HIN.out _ hb) (HIN'.out _ hb) hpos hpos' hle1 hle2)
    have hin2 := jn_inn (ps := ps) hmk'.1
    obtain ⟨m, hm⟩ : ∃ m, (jn ps qs).length = m := ⟨_, rfl⟩
    rw [hm] at hin2
    have HM := Lib.hid hm
    have hic := idx_cases ps x
    clear hin hin' hz hm hck hck' hmk hmk'
    rcases hic with ⟨h1, _⟩ | ⟨k, _, h1, _⟩
    · by_cases hmq : m = qs.length
      · by_cases h6 : 6 < m
        · have HX := Lib.hid (fun wz (hb : Below w0.heap.size w0 wz) => pindex_miss A ps.length cap ps x wz (HIN.out _ hb) hpos h1)
          have HSI := Lib.hid (fun wz (hb : Below w0.heap.size w0 wz) => h1 ▸ sindex_any A ps.length cap ps x wz (HIN.out _ hb) hpos)
          have HW := Lib.hid (fun wz (hb : Below w0.heap.size w0 wz) => within_ok A A' ps.length cap qs.length cap' ps qs true wz (HIN.out _ hb) (HIN'.out _ hb) hpos hpos' htwo (hin2.trans (decide_eq_true hmq)))
          have HJ := Lib.hid (fun wz (hb : Below w0.heap.size w0 wz) => join_many A A' ps.length cap qs.length cap' m ps qs wz (HIN.out _ hb) (HIN'.out _ hb) hpos hpos' hle1 hle2 htwo HM.out h6)
          have hmx : max (-1 : Int) 0 = 0 := by omega
          have h6' : 6 < (m : Int) := by omega
          obtain ⟨n2, hn2⟩ : ∃ n2, qs.length = n2 := ⟨_, rfl⟩
          obtain ⟨n1, hn1⟩ : ∃ n1, ps.length = n1 := ⟨_, rfl⟩
          rw [hn1] at HX HSI HW HJ HK hle1 hpos ⊢
          rw [hn2] at HW HJ HK hle2 hpos' hmq ⊢
          have HL := Lib.hid (show (ps ++ qs).length = n1 + n2 by rw [List.length_append, hn1, hn2])
          have hle : n1 + n2 ≤ 1000 := by omega
          subst hmq
          clear hn1 hn2 h1 htwo hin2
          go_wp2_with fail
          refine (HX.out _ hr0).mono ?_
          rintro e w3 ⟨rfl, hb3⟩
          go_wp2_with fail
          refine (HSI.out _ hb3).mono ?_
          rintro e w4 ⟨rfl, hb4⟩
          have hz4 := bel_chain hb3 hb4
          clear hb3 hb4
          go_wp2_with fail
          refine (HW.out _ hz4).mono ?_
          rintro e w5 ⟨rfl, hb5⟩
          have hz5 := bel_chain hz4 hb5
          clear hz4 hb5
          go_wp2_with fail
          refine (HJ.out _ hz5).mono ?_
          rintro e w6 ⟨rfl, hb6⟩
          have hz6 := bel_chain hz5 hb6
          clear hz5 hb6
          go_wp2_with fail
          refine (HK.out w6 _ hz6 rfl).mono ?_
          rintro e w7 ⟨g, c, rfl, hz, hg, hb7⟩
          rw [HL.out] at hz ⊢
          have HZ := Lib.hid hz
          have HB6 := Lib.hid hz6
          clear hz hz6
          go_wp2_with fail
          refine (sort_both g c _ ps qs _ HZ.out hle).mono ?_
          rintro e w8 ⟨rfl, hzs, hon8⟩
          have hb8 := bel_only hb7 hon8 hg hb7.size
          have HZS := Lib.hid hzs
          clear hzs hon8 hb7
          go_wp2_with fail
          refine (compact_both g c _ _ ps qs _ HZS.out hle HM.out).mono ?_
          rintro e w9 ⟨rfl, hzc, hon9⟩
          have hb9 := bel_only hb8 hon9 hg hb8.size
          have HZC := Lib.hid hzc
          have HB9 := Lib.hid hb9
          clear hzc hon9 hb8 hb9 hg
          go_wp2_with fail
          go_ret
          exact ⟨rfl, HZ2.out _ (bel_chain HB6.out HB9.out)⟩
        · have HX := Lib.hid (fun wz (hb : Below w0.heap.size w0 wz) => pindex_miss A ps.length cap ps x wz (HIN.out _ hb) hpos h1)
          have HSI := Lib.hid (fun wz (hb : Below w0.heap.size w0 wz) => h1 ▸ sindex_any A ps.length cap ps x wz (HIN.out _ hb) hpos)
          have HW := Lib.hid (fun wz (hb : Below w0.heap.size w0 wz) => within_ok A A' ps.length cap qs.length cap' ps qs true wz (HIN.out _ hb) (HIN'.out _ hb) hpos hpos' htwo (hin2.trans (decide_eq_true hmq)))
          have HJ := Lib.hid (fun wz (hb : Below w0.heap.size w0 wz) => join_few A A' ps.length cap qs.length cap' m ps qs wz (HIN.out _ hb) (HIN'.out _ hb) hpos hpos' hle1 hle2 htwo HM.out h6)
          have hmx : max (-1 : Int) 0 = 0 := by omega
          have h6' : ¬ 6 < (m : Int) := by omega
          obtain ⟨n2, hn2⟩ : ∃ n2, qs.length = n2 := ⟨_, rfl⟩
          obtain ⟨n1, hn1⟩ : ∃ n1, ps.length = n1 := ⟨_, rfl⟩
          rw [hn1] at HX HSI HW HJ HK hle1 hpos ⊢
          rw [hn2] at HW HJ HK hle2 hpos' hmq ⊢
          have HL := Lib.hid (show (ps ++ qs).length = n1 + n2 by rw [List.length_append, hn1, hn2])
          have hle : n1 + n2 ≤ 1000 := by omega
          subst hmq
          clear hn1 hn2 h1 htwo hin2
          go_wp2_with fail
          refine (HX.out _ hr0).mono ?_
          rintro e w3 ⟨rfl, hb3⟩
          go_wp2_with fail
          refine (HSI.out _ hb3).mono ?_
          rintro e w4 ⟨rfl, hb4⟩
          have hz4 := bel_chain hb3 hb4
          clear hb3 hb4
          go_wp2_with fail
          refine (HW.out _ hz4).mono ?_
          rintro e w5 ⟨rfl, hb5⟩
          have hz5 := bel_chain hz4 hb5
          clear hz4 hb5
          go_wp2_with fail
          refine (HJ.out _ hz5).mono ?_
          rintro e w6 ⟨gj, cj, rfl, hzj, hb6⟩
          have HZJ := Lib.hid hzj
          clear hzj
          have hz6 := bel_chain hz5 hb6
          clear hz5 hb6
          go_wp2_with fail
          refine (HK.out w6 _ hz6 rfl).mono ?_
          rintro e w7 ⟨g, c, rfl, hz, hg, hb7⟩
          rw [HL.out] at hz ⊢
          have HZ := Lib.hid hz
          have HB6 := Lib.hid hz6
          clear hz hz6
          go_wp2_with fail
          refine (sort_both g c _ ps qs _ HZ.out hle).mono ?_
          rintro e w8 ⟨rfl, hzs, hon8⟩
          have hb8 := bel_only hb7 hon8 hg hb7.size
          have HZS := Lib.hid hzs
          clear hzs hon8 hb7
          go_wp2_with fail
          refine (compact_both g c _ _ ps qs _ HZS.out hle HM.out).mono ?_
          rintro e w9 ⟨rfl, hzc, hon9⟩
          have hb9 := bel_only hb8 hon9 hg hb8.size
          have HZC := Lib.hid hzc
          have HB9 := Lib.hid hb9
          clear hzc hon9 hb8 hb9 hg
          have HEQ := Lib.hid (equalP_any _ _ _ _ _ _ _ _ _ (HZJ.out.below HB9.out HZJ.out.lt).ins HZC.out.ins)
          rw [beq_self_eq_true] at HEQ
          go_wp2_with fail
          refine HEQ.out.mono ?_
          rintro e w10 ⟨rfl, hb10⟩
          have HB10 := Lib.hid hb10
          clear hb10
          go_wp2_with fail
          go_ret
          exact ⟨rfl, HZ2.out _ (bel_chain HB6.out (bel_chain HB9.out HB10.out))⟩
      · by_cases h6 : 6 < m
        · have HX := Lib.hid (fun wz (hb : Below w0.heap.size w0 wz) => pindex_miss A ps.length cap ps x wz (HIN.out _ hb) hpos h1)
          have HSI := Lib.hid (fun wz (hb : Below w0.heap.size w0 wz) => h1 ▸ sindex_any A ps.length cap ps x wz (HIN.out _ hb) hpos)
          have HW := Lib.hid (fun wz (hb : Below w0.heap.size w0 wz) => within_ok A A' ps.length cap qs.length cap' ps qs false wz (HIN.out _ hb) (HIN'.out _ hb) hpos hpos' htwo (hin2.trans (decide_eq_false hmq)))
          have HJ := Lib.hid (fun wz (hb : Below w0.heap.size w0 wz) => join_many A A' ps.length cap qs.length cap' m ps qs wz (HIN.out _ hb) (HIN'.out _ hb) hpos hpos' hle1 hle2 htwo HM.out h6)
          have hmx : max (-1 : Int) 0 = 0 := by omega
          have h6' : 6 < (m : Int) := by omega
          obtain ⟨n2, hn2⟩ : ∃ n2, qs.length = n2 := ⟨_, rfl⟩
          obtain ⟨n1, hn1⟩ : ∃ n1, ps.length = n1 := ⟨_, rfl⟩
          rw [hn1] at HX HSI HW HJ HK hle1 hpos ⊢
          rw [hn2] at HW HJ HK hle2 hpos' hmq ⊢
          have HL := Lib.hid (show (ps ++ qs).length = n1 + n2 by rw [List.length_append, hn1, hn2])
          have hle : n1 + n2 ≤ 1000 := by omega
          have hmq' : ¬ (m : Int) = (n2 : Int) := by omega
          clear hn1 hn2 h1 htwo hin2 hmq
          go_wp2_with fail
          refine (HX.out _ hr0).mono ?_
          rintro e w3 ⟨rfl, hb3⟩
          go_wp2_with fail
          refine (HSI.out _ hb3).mono ?_
          rintro e w4 ⟨rfl, hb4⟩
          have hz4 := bel_chain hb3 hb4
          clear hb3 hb4
          go_wp2_with fail
          refine (HW.out _ hz4).mono ?_
          rintro e w5 ⟨rfl, hb5⟩
          have hz5 := bel_chain hz4 hb5
          clear hz4 hb5
          go_wp2_with fail
          refine (HJ.out _ hz5).mono ?_
          rintro e w6 ⟨rfl, hb6⟩
          have hz6 := bel_chain hz5 hb6
          clear hz5 hb6
          go_wp2_with fail
          refine (HK.out w6 _ hz6 rfl).mono ?_
          rintro e w7 ⟨g, c, rfl, hz, hg, hb7⟩
          rw [HL.out] at hz ⊢
          have HZ := Lib.hid hz
          have HB6 := Lib.hid hz6
          clear hz hz6
          go_wp2_with fail
          refine (sort_both g c _ ps qs _ HZ.out hle).mono ?_
          rintro e w8 ⟨rfl, hzs, hon8⟩
          have hb8 := bel_only hb7 hon8 hg hb7.size
          have HZS := Lib.hid hzs
          clear hzs hon8 hb7
          go_wp2_with fail
          refine (compact_both g c _ _ ps qs _ HZS.out hle HM.out).mono ?_
          rintro e w9 ⟨rfl, hzc, hon9⟩
          have hb9 := bel_only hb8 hon9 hg hb8.size
          have HZC := Lib.hid hzc
          have HB9 := Lib.hid hb9
          clear hzc hon9 hb8 hb9 hg
          go_wp2_with fail
          go_ret
          exact ⟨rfl, HZ2.out _ (bel_chain HB6.out HB9.out)⟩
        · have HX := Lib.hid (fun wz (hb : Below w0.heap.size w0 wz) => pindex_miss A ps.length cap ps x wz (HIN.out _ hb) hpos h1)
          have HSI := Lib.hid (fun wz (hb : Below w0.heap.size w0 wz) => h1 ▸ sindex_any A ps.length cap ps x wz (HIN.out _ hb) hpos)
          have HW := Lib.hid (fun wz (hb : Below w0.heap.size w0 wz) => within_ok A A' ps.length cap qs.length cap' ps qs false wz (HIN.out _ hb) (HIN'.out _ hb) hpos hpos' htwo (hin2.trans (decide_eq_false hmq)))
          have HJ := Lib.hid (fun wz (hb : Below w0.heap.size w0 wz) => join_few A A' ps.length cap qs.length cap' m ps qs wz (HIN.out _ hb) (HIN'.out _ hb) hpos hpos' hle1 hle2 htwo HM.out h6)
          have hmx : max (-1 : Int) 0 = 0 := by omega
          have h6' : ¬ 6 < (m : Int) := by omega
          obtain ⟨n2, hn2⟩ : ∃ n2, qs.length = n2 := ⟨_, rfl⟩
          obtain ⟨n1, hn1⟩ : ∃ n1, ps.length = n1 := ⟨_, rfl⟩
          rw [hn1] at HX HSI HW HJ HK hle1 hpos ⊢
          rw [hn2] at HW HJ HK hle2 hpos' hmq ⊢
          have HL := Lib.hid (show (ps ++ qs).length = n1 + n2 by rw [List.length_append, hn1, hn2])
          have hle : n1 + n2 ≤ 1000 := by omega
          have hmq' : ¬ (m : Int) = (n2 : Int) := by omega
          clear hn1 hn2 h1 htwo hin2 hmq
          go_wp2_with fail
          refine (HX.out _ hr0).mono ?_
          rintro e w3 ⟨rfl, hb3⟩
          go_wp2_with fail
          refine (HSI.out _ hb3).mono ?_
          rintro e w4 ⟨rfl, hb4⟩
          have hz4 := bel_chain hb3 hb4
          clear hb3 hb4
          go_wp2_with fail
          refine (HW.out _ hz4).mono ?_
          rintro e w5 ⟨rfl, hb5⟩
          have hz5 := bel_chain hz4 hb5
          clear hz4 hb5
          go_wp2_with fail
          refine (HJ.out _ hz5).mono ?_
          rintro e w6 ⟨gj, cj, rfl, hzj, hb6⟩
          have HZJ := Lib.hid hzj
          clear hzj
          have hz6 := bel_chain hz5 hb6
          clear hz5 hb6
          go_wp2_with fail
          refine (HK.out w6 _ hz6 rfl).mono ?_
          rintro e w7 ⟨g, c, rfl, hz, hg, hb7⟩
          rw [HL.out] at hz ⊢
          have HZ := Lib.hid hz
          have HB6 := Lib.hid hz6
          clear hz hz6
          go_wp2_with fail
          refine (sort_both g c _ ps qs _ HZ.out hle).mono ?_
          rintro e w8 ⟨rfl, hzs, hon8⟩
          have hb8 := bel_only hb7 hon8 hg hb7.size
          have HZS := Lib.hid hzs
          clear hzs hon8 hb7
          go_wp2_with fail
          refine (compact_both g c _ _ ps qs _ HZS.out hle HM.out).mono ?_
          rintro e w9 ⟨rfl, hzc, hon9⟩
          have hb9 := bel_only hb8 hon9 hg hb8.size
          have HZC := Lib.hid hzc
          have HB9 := Lib.hid hb9
          clear hzc hon9 hb8 hb9 hg
          have HEQ := Lib.hid (equalP_any _ _ _ _ _ _ _ _ _ (HZJ.out.below HB9.out HZJ.out.lt).ins HZC.out.ins)
          rw [beq_self_eq_true] at HEQ
          go_wp2_with fail
          refine HEQ.out.mono ?_
          rintro e w10 ⟨rfl, hb10⟩
          have HB10 := Lib.hid hb10
          clear hb10
          go_wp2_with fail
          go_ret
          exact ⟨rfl, HZ2.out _ (bel_chain HB6.out (bel_chain HB9.out HB10.out))⟩
    · by_cases hmq : m = qs.length
      · by_cases h6 : 6 < m
        · have HX := Lib.hid (fun wz (hb : Below w0.heap.size w0 wz) => pindex_hit A ps.length cap ps x k wz (HIN.out _ hb) hpos h1)
          have HSI := Lib.hid (fun wz (hb : Below w0.heap.size w0 wz) => h1 ▸ sindex_any A ps.length cap ps x wz (HIN.out _ hb) hpos)
          have HW := Lib.hid (fun wz (hb : Below w0.heap.size w0 wz) => within_ok A A' ps.length cap qs.length cap' ps qs true wz (HIN.out _ hb) (HIN'.out _ hb) hpos hpos' htwo (hin2.trans (decide_eq_true hmq)))
          have HJ := Lib.hid (fun wz (hb : Below w0.heap.size w0 wz) => join_many A A' ps.length cap qs.length cap' m ps qs wz (HIN.out _ hb) (HIN'.out _ hb) hpos hpos' hle1 hle2 htwo HM.out h6)
          have hk0 : 0 ≤ (k : Int) := by omega
          have hkm : max (k : Int) 0 = (k : Int) := by omega
          have h6' : 6 < (m : Int) := by omega
          obtain ⟨n2, hn2⟩ : ∃ n2, qs.length = n2 := ⟨_, rfl⟩
          obtain ⟨n1, hn1⟩ : ∃ n1, ps.length = n1 := ⟨_, rfl⟩
          rw [hn1] at HX HSI HW HJ HK hle1 hpos ⊢
          rw [hn2] at HW HJ HK hle2 hpos' hmq ⊢
          have HL := Lib.hid (show (ps ++ qs).length = n1 + n2 by rw [List.length_append, hn1, hn2])
          have hle : n1 + n2 ≤ 1000 := by omega
          subst hmq
          clear hn1 hn2 h1 htwo hin2
          go_wp2_with fail
          refine (HX.out _ hr0).mono ?_
          rintro e w3 ⟨rfl, hb3⟩
          go_wp2_with fail
          refine (HSI.out _ hb3).mono ?_
          rintro e w4 ⟨rfl, hb4⟩
          have hz4 := bel_chain hb3 hb4
          clear hb3 hb4
          go_wp2_with fail
          refine (HW.out _ hz4).mono ?_
          rintro e w5 ⟨rfl, hb5⟩
          have hz5 := bel_chain hz4 hb5
          clear hz4 hb5
          go_wp2_with fail
          refine (HJ.out _ hz5).mono ?_
          rintro e w6 ⟨rfl, hb6⟩
          have hz6 := bel_chain hz5 hb6
          clear hz5 hb6
          go_wp2_with fail
          refine (HK.out w6 _ hz6 rfl).mono ?_
          rintro e w7 ⟨g, c, rfl, hz, hg, hb7⟩
          rw [HL.out] at hz ⊢
          have HZ := Lib.hid hz
          have HB6 := Lib.hid hz6
          clear hz hz6
          go_wp2_with fail
          refine (sort_both g c _ ps qs _ HZ.out hle).mono ?_
          rintro e w8 ⟨rfl, hzs, hon8⟩
          have hb8 := bel_only hb7 hon8 hg hb7.size
          have HZS := Lib.hid hzs
          clear hzs hon8 hb7
          go_wp2_with fail
          refine (compact_both g c _ _ ps qs _ HZS.out hle HM.out).mono ?_
          rintro e w9 ⟨rfl, hzc, hon9⟩
          have hb9 := bel_only hb8 hon9 hg hb8.size
          have HZC := Lib.hid hzc
          have HB9 := Lib.hid hb9
          clear hzc hon9 hb8 hb9 hg
          go_wp2_with fail
          go_ret
          exact ⟨rfl, HZ2.out _ (bel_chain HB6.out HB9.out)⟩
        · have HX := Lib.hid (fun wz (hb : Below w0.heap.size w0 wz) => pindex_hit A ps.length cap ps x k wz (HIN.out _ hb) hpos h1)
          have HSI := Lib.hid (fun wz (hb : Below w0.heap.size w0 wz) => h1 ▸ sindex_any A ps.length cap ps x wz (HIN.out _ hb) hpos)
          have HW := Lib.hid (fun wz (hb : Below w0.heap.size w0 wz) => within_ok A A' ps.length cap qs.length cap' ps qs true wz (HIN.out _ hb) (HIN'.out _ hb) hpos hpos' htwo (hin2.trans (decide_eq_true hmq)))
          have HJ := Lib.hid (fun wz (hb : Below w0.heap.size w0 wz) => join_few A A' ps.length cap qs.length cap' m ps qs wz (HIN.out _ hb) (HIN'.out _ hb) hpos hpos' hle1 hle2 htwo HM.out h6)
          have hk0 : 0 ≤ (k : Int) := by omega
          have hkm : max (k : Int) 0 = (k : Int) := by omega
          have h6' : ¬ 6 < (m : Int) := by omega
          obtain ⟨n2, hn2⟩ : ∃ n2, qs.length = n2 := ⟨_, rfl⟩
          obtain ⟨n1, hn1⟩ : ∃ n1, ps.length = n1 := ⟨_, rfl⟩
          rw [hn1] at HX HSI HW HJ HK hle1 hpos ⊢
          rw [hn2] at HW HJ HK hle2 hpos' hmq ⊢
          have HL := Lib.hid (show (ps ++ qs).length = n1 + n2 by rw [List.length_append, hn1, hn2])
          have hle : n1 + n2 ≤ 1000 := by omega
          subst hmq
          clear hn1 hn2 h1 htwo hin2
          go_wp2_with fail
          refine (HX.out _ hr0).mono ?_
          rintro e w3 ⟨rfl, hb3⟩
          go_wp2_with fail
          refine (HSI.out _ hb3).mono ?_
          rintro e w4 ⟨rfl, hb4⟩
          have hz4 := bel_chain hb3 hb4
          clear hb3 hb4
          go_wp2_with fail
          refine (HW.out _ hz4).mono ?_
          rintro e w5 ⟨rfl, hb5⟩
          have hz5 := bel_chain hz4 hb5
          clear hz4 hb5
          go_wp2_with fail
          refine (HJ.out _ hz5).mono ?_
          rintro e w6 ⟨gj, cj, rfl, hzj, hb6⟩
          have HZJ := Lib.hid hzj
          clear hzj
          have hz6 := bel_chain hz5 hb6
          clear hz5 hb6
          go_wp2_with fail
          refine (HK.out w6 _ hz6 rfl).mono ?_
          rintro e w7 ⟨g, c, rfl, hz, hg, hb7⟩
          rw [HL.out] at hz ⊢
          have HZ := Lib.hid hz
          have HB6 := Lib.hid hz6
          clear hz hz6
          go_wp2_with fail
          refine (sort_both g c _ ps qs _ HZ.out hle).mono ?_
          rintro e w8 ⟨rfl, hzs, hon8⟩
          have hb8 := bel_only hb7 hon8 hg hb7.size
          have HZS := Lib.hid hzs
          clear hzs hon8 hb7
          go_wp2_with fail
          refine (compact_both g c _ _ ps qs _ HZS.out hle HM.out).mono ?_
          rintro e w9 ⟨rfl, hzc, hon9⟩
          have hb9 := bel_only hb8 hon9 hg hb8.size
          have HZC := Lib.hid hzc
          have HB9 := Lib.hid hb9
          clear hzc hon9 hb8 hb9 hg
          have HEQ := Lib.hid (equalP_any _ _ _ _ _ _ _ _ _ (HZJ.out.below HB9.out HZJ.out.lt).ins HZC.out.ins)
          rw [beq_self_eq_true] at HEQ
          go_wp2_with fail
          refine HEQ.out.mono ?_
          rintro e w10 ⟨rfl, hb10⟩
          have HB10 := Lib.hid hb10
          clear hb10
          go_wp2_with fail
          go_ret
          exact ⟨rfl, HZ2.out _ (bel_chain HB6.out (bel_chain HB9.out HB10.out))⟩
      · by_cases h6 : 6 < m
        · have HX := Lib.hid (fun wz (hb : Below w0.heap.size w0 wz) => pindex_hit A ps.length cap ps x k wz (HIN.out _ hb) hpos h1)
          have HSI := Lib.hid (fun wz (hb : Below w0.heap.size w0 wz) => h1 ▸ sindex_any A ps.length cap ps x wz (HIN.out _ hb) hpos)
          have HW := Lib.hid (fun wz (hb : Below w0.heap.size w0 wz) => within_ok A A' ps.length cap qs.length cap' ps qs false wz (HIN.out _ hb) (HIN'.out _ hb) hpos hpos' htwo (hin2.trans (decide_eq_false hmq)))
          have HJ := Lib.hid (fun wz (hb : Below w0.heap.size w0 wz) => join_many A A' ps.length cap qs.length cap' m ps qs wz (HIN.out _ hb) (HIN'.out _ hb) hpos hpos' hle1 hle2 htwo HM.out h6)
          have hk0 : 0 ≤ (k : Int) := by omega
          have hkm : max (k : Int) 0 = (k : Int) := by omega
          have h6' : 6 < (m : Int) := by omega
          obtain ⟨n2, hn2⟩ : ∃ n2, qs.length = n2 := ⟨_, rfl⟩
          obtain ⟨n1, hn1⟩ : ∃ n1, ps.length = n1 := ⟨_, rfl⟩
          rw [hn1] at HX HSI HW HJ HK hle1 hpos ⊢
          rw [hn2] at HW HJ HK hle2 hpos' hmq ⊢
          have HL := Lib.hid (show (ps ++ qs).length = n1 + n2 by rw [List.length_append, hn1, hn2])
          have hle : n1 + n2 ≤ 1000 := by omega
          have hmq' : ¬ (m : Int) = (n2 : Int) := by omega
          clear hn1 hn2 h1 htwo hin2 hmq
          go_wp2_with fail
          refine (HX.out _ hr0).mono ?_
          rintro e w3 ⟨rfl, hb3⟩
          go_wp2_with fail
          refine (HSI.out _ hb3).mono ?_
          rintro e w4 ⟨rfl, hb4⟩
          have hz4 := bel_chain hb3 hb4
          clear hb3 hb4
          go_wp2_with fail
          refine (HW.out _ hz4).mono ?_
          rintro e w5 ⟨rfl, hb5⟩
          have hz5 := bel_chain hz4 hb5
          clear hz4 hb5
          go_wp2_with fail
          refine (HJ.out _ hz5).mono ?_
          rintro e w6 ⟨rfl, hb6⟩
          have hz6 := bel_chain hz5 hb6
          clear hz5 hb6
          go_wp2_with fail
          refine (HK.out w6 _ hz6 rfl).mono ?_
          rintro e w7 ⟨g, c, rfl, hz, hg, hb7⟩
          rw [HL.out] at hz ⊢
          have HZ := Lib.hid hz
          have HB6 := Lib.hid hz6
          clear hz hz6
          go_wp2_with fail
          refine (sort_both g c _ ps qs _ HZ.out hle).mono ?_
          rintro e w8 ⟨rfl, hzs, hon8⟩
          have hb8 := bel_only hb7 hon8 hg hb7.size
          have HZS := Lib.hid hzs
          clear hzs hon8 hb7
          go_wp2_with fail
          refine (compact_both g c _ _ ps qs _ HZS.out hle HM.out).mono ?_
          rintro e w9 ⟨rfl, hzc, hon9⟩
          have hb9 := bel_only hb8 hon9 hg hb8.size
          have HZC := Lib.hid hzc
          have HB9 := Lib.hid hb9
          clear hzc hon9 hb8 hb9 hg
          go_wp2_with fail
          go_ret
          exact ⟨rfl, HZ2.out _ (bel_chain HB6.out HB9.out)⟩
        · have HX := Lib.hid (fun wz (hb : Below w0.heap.size w0 wz) => pindex_hit A ps.length cap ps x k wz (HIN.out _ hb) hpos h1)
          have HSI := Lib.hid (fun wz (hb : Below w0.heap.size w0 wz) => h1 ▸ sindex_any A ps.length cap ps x wz (HIN.out _ hb) hpos)
          have HW := Lib.hid (fun wz (hb : Below w0.heap.size w0 wz) => within_ok A A' ps.length cap qs.length cap' ps qs false wz (HIN.out _ hb) (HIN'.out _ hb) hpos hpos' htwo (hin2.trans (decide_eq_false hmq)))
          have HJ := Lib.hid (fun wz (hb : Below w0.heap.size w0 wz) => join_few A A' ps.length cap qs.length cap' m ps qs wz (HIN.out _ hb) (HIN'.out _ hb) hpos hpos' hle1 hle2 htwo HM.out h6)
          have hk0 : 0 ≤ (k : Int) := by omega
          have hkm : max (k : Int) 0 = (k : Int) := by omega
          have h6' : ¬ 6 < (m : Int) := by omega
          obtain ⟨n2, hn2⟩ : ∃ n2, qs.length = n2 := ⟨_, rfl⟩
          obtain ⟨n1, hn1⟩ : ∃ n1, ps.length = n1 := ⟨_, rfl⟩
          rw [hn1] at HX HSI HW HJ HK hle1 hpos ⊢
          rw [hn2] at HW HJ HK hle2 hpos' hmq ⊢
          have HL := Lib.hid (show (ps ++ qs).length = n1 + n2 by rw [List.length_append, hn1, hn2])
          have hle : n1 + n2 ≤ 1000 := by omega
          have hmq' : ¬ (m : Int) = (n2 : Int) := by omega
          clear hn1 hn2 h1 htwo hin2 hmq
          go_wp2_with fail
          refine (HX.out _ hr0).mono ?_
          rintro e w3 ⟨rfl, hb3⟩
          go_wp2_with fail
          refine (HSI.out _ hb3).mono ?_
          rintro e w4 ⟨rfl, hb4⟩
          have hz4 := bel_chain hb3 hb4
          clear hb3 hb4
          go_wp2_with fail
          refine (HW.out _ hz4).mono ?_
          rintro e w5 ⟨rfl, hb5⟩
          have hz5 := bel_chain hz4 hb5
          clear hz4 hb5
          go_wp2_with fail
          refine (HJ.out _ hz5).mono ?_
          rintro e w6 ⟨gj, cj, rfl, hzj, hb6⟩
          have HZJ := Lib.hid hzj
          clear hzj
          have hz6 := bel_chain hz5 hb6
          clear hz5 hb6
          go_wp2_with fail
          refine (HK.out w6 _ hz6 rfl).mono ?_
          rintro e w7 ⟨g, c, rfl, hz, hg, hb7⟩
          rw [HL.out] at hz ⊢
          have HZ := Lib.hid hz
          have HB6 := Lib.hid hz6
          clear hz hz6
          go_wp2_with fail
          refine (sort_both g c _ ps qs _ HZ.out hle).mono ?_
          rintro e w8 ⟨rfl, hzs, hon8⟩
          have hb8 := bel_only hb7 hon8 hg hb7.size
          have HZS := Lib.hid hzs
          clear hzs hon8 hb7
          go_wp2_with fail
          refine (compact_both g c _ _ ps qs _ HZS.out hle HM.out).mono ?_
          rintro e w9 ⟨rfl, hzc, hon9⟩
          have hb9 := bel_only hb8 hon9 hg hb8.size
          have HZC := Lib.hid hzc
          have HB9 := Lib.hid hb9
          clear hzc hon9 hb8 hb9 hg
          have HEQ := Lib.hid (equalP_any _ _ _ _ _ _ _ _ _ (HZJ.out.below HB9.out HZJ.out.lt).ins HZC.out.ins)
          rw [beq_self_eq_true] at HEQ
          go_wp2_with fail
          refine HEQ.out.mono ?_
          rintro e w10 ⟨rfl, hb10⟩
          have HB10 := Lib.hid hb10
          clear hb10
          go_wp2_with fail
          go_ret
          exact ⟨rfl, HZ2.out _ (bel_chain HB6.out (bel_chain HB9.out HB10.out))⟩
end Go.Proofs.YtolnojkdalbppaaGreatDoor
