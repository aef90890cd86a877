/- Greater text, out of: QV4. -/
import Derived.Test.YtdjhngbpfdopnaaGreatDoorQ22
namespace Go.Proofs.YtdjhngbpfdopnaaGreatDoor
open Go.RowKit Go.PlainAid

set_option maxRecDepth 100000 in
set_option maxHeartbeats 4000000 in
theorem lawTexts11_long (a b : Int) (s : ByteArray) (w : World) (hamb : Amb11 w) (h8 : 50 < s.size) :
    Calls Tryz.prog 8 #[.agg #[.int .u16 a, .int .u16 b], .string s] w (SmallRes (.bool true) w) := by
  have h8' : 50 < (s.size : Int) := by omega
  have hal : Below w.heap.size w (w.alloc (.cells #[.int .u16 a, .int .u16 b] 33)) := (Below.refl _ _).alloc (Nat.le_refl _) _
  have HAMB := Lib.hid (fun wz (hb : Below w.heap.size w wz) => hamb.below hb)
  clear hamb h8
  go_enter Tryz.func8, Tryz.ntmps8
  go_wp2_with fail
  refine (known11_any _ (HAMB.out _ hal)).mono ?_
  rintro e w1 ⟨rfl, hb1⟩
  have hz1 := bel_chain hal hb1
  clear hal hb1
  go_wp2_with fail
  refine (known11_any _ (HAMB.out _ hz1)).mono ?_
  rintro e w2 ⟨rfl, hb2⟩
  have hz2 := bel_chain hz1 hb2
  clear hz1 hb2
  go_wp2_with fail
  go_ret
  exact ⟨rfl, hz2⟩
set_option maxRecDepth 100000 in
set_option maxHeartbeats 8000000 in
/-- The walk. -/
theorem lawTexts11_walk (a b : Int) (_ha : 0 ≤ a ∧ a ≤ 65535) (_hb : 0 ≤ b ∧ b ≤ 65535) (s : ByteArray) (w : World) (hamb : Amb11 w) :
    Calls Tryz.prog 8 #[.agg #[.int .u16 a, .int .u16 b], .string s] w (SmallRes (.bool true) w) := by
  by_cases h8 : 50 < s.size
  · exact lawTexts11_long a b s w hamb h8
  have h8' : ¬ 50 < (s.size : Int) := by omega
  have HAMB := Lib.hid (fun wz (hb : Below w.heap.size w wz) => hamb.below hb)
  clear hamb h8 _ha _hb
  go_enter Tryz.func8, Tryz.ntmps8
  go_wp2_with fail
  obtain ⟨W, hW⟩ : ∃ W, (w.alloc (.cells #[.int .u16 a, .int .u16 b] 33)) = W := ⟨_, rfl⟩
  rw [hW]
  have hX : Box2 W w.heap.size (.int .u16 a) (.int .u16 b) := hW ▸ Box2.new w _ _ _
  have hBW : Below w.heap.size w W := hW ▸ (Below.refl _ _).alloc (Nat.le_refl _) _
  clear hW
  refine (known11_any _ (HAMB.out _ hBW)).mono ?_
  rintro e w1 ⟨rfl, hb1⟩
  have hz1 := bel_chain hBW hb1
  obtain ⟨_, c10, c11, f10, f11⟩ := hX.later hb1
  clear hBW hb1 hX
  go_wp2_with fail
  refine (make11_any a _).mono ?_
  rintro e w2 ⟨v, ps, rfl, hmk, hown, hb2⟩
  have hz2 := bel_chain hz1 hb2
  obtain ⟨A, cap, rfl, hin⟩ := hown.ins
  clear hown hb2 hz1 c10 c11 f10 f11
  have hok := hmk.1
  have hck := hok.chk
  have HIN := Lib.hid (fun wz (hb : Below w2.heap.size w2 wz) => hin.below hb)
  have HA2 := Lib.hid (fun wz (hb : Below w2.heap.size w2 wz) => HAMB.out _ (bel_chain hz2 hb))
  have HZ2 := Lib.hid (fun wz (hb : Below w2.heap.size w2 wz) => bel_chain hz2 hb)
  have hr0 := Below.refl w2.heap.size w2
  have HT := Lib.hid (fun wz (hb : Below w2.heap.size w2 wz) => Text_any A ps.length cap ps wz (HA2.out _ hb).a (HIN.out _ hb) hok)
  have HLT := Lib.hid (fun wz (hb : Below w2.heap.size w2 wz) => ltext_any A ps.length cap ps wz (HA2.out _ hb).a (HIN.out _ hb) hok)
  have hts := text_size hok
  have HPB := Lib.hid (fun wz (hb : Below w2.heap.size w2 wz) => show Calls Tryz.prog 41 #[.string (ltext ps)] wz (ZRes ps 0 wz) from by
    have hh := Parse_yes (ltext ps) ps (pcs_text hok) wz (HA2.out _ hb) (by omega)
    rw [prsX_ok hck, hck] at hh
    exact hh)
  have HEQ := Lib.hid (fun wz A1 c1 (hb : Below w2.heap.size w2 wz) (h1 : InZ wz A1 ps.length c1 ps) => show Calls Tryz.prog 25 #[.slice A1 ps.length c1, .slice A ps.length cap] wz (SmallRes (.bool true) wz) from by
    have hh := equalP_any _ _ _ _ _ _ _ _ wz h1 (HIN.out _ hb)
    rw [beq_self_eq_true] at hh
    exact hh)
  obtain ⟨T, hT⟩ : ∃ T, ltext ps = T := ⟨_, rfl⟩
  rw [hT] at HT HLT HPB
  have HLP := Lib.hid (fun A1 n1 c1 wz (h : InZ wz A1 n1 c1 ps) => show n1 = ps.length from h.1.symm)
  clear hin hz2 hok hck hmk hts hT
  obtain ⟨m, hm⟩ : ∃ m, ps.length = m := ⟨_, rfl⟩
  rw [hm] at HT HLT HEQ HLP ⊢
  clear hm
  go_wp2_with fail
  refine (HT.out _ hr0).mono ?_
  rintro e w3 ⟨rfl, hz3⟩
  go_wp2_with fail
  refine (HPB.out _ hz3).mono ?_
  rintro e w4 ⟨A4, n4, c4, rfl, hin4, hb4⟩
  obtain rfl : n4 = m := HLP.out _ _ _ _ hin4
  have hz4 := bel_chain hz3 hb4
  have HI4 := Lib.hid (fun wz (hb : Below w4.heap.size w4 wz) => hin4.below hb)
  clear hin4 hb4 hz3
  go_wp2_with fail
  refine (HLT.out _ hz4).mono ?_
  rintro e w5 ⟨rfl, hb5⟩
  have hz5 := bel_chain hz4 hb5
  go_wp2_with fail
  refine (HEQ.out _ _ _ hz5 (HI4.out _ hb5)).mono ?_
  rintro e w6 ⟨rfl, hb6⟩
  have hz6 := bel_chain hz5 hb6
  clear hb5 hb6 hz5 hz4
  by_cases h40 : 40 < s.size
  · go_wp2_with fail
    refine (Parse_long s _ h40).mono ?_
    rintro e w7 ⟨rfl, hb7⟩
    have hz7 := bel_chain hz6 hb7
    go_wp2_with fail
    refine (lparse_long s _ h40).mono ?_
    rintro e w8 ⟨rfl, hb8⟩
    have hz8 := bel_chain hz7 hb8
    clear hz6 hz7 hb7 hb8
    go_wp2_with fail
    go_ret
    exact ⟨rfl, HZ2.out _ hz8⟩
  · by_cases hex : ∃ zs, Pcs (pieces s) (pieces s).length zs
    · obtain ⟨zs, hpz⟩ := hex
      have HPZ := Lib.hid hpz
      clear hpz
      have hs40 : s.size ≤ 40 := by omega
      go_wp2_with fail
      refine (Parse_yes s zs HPZ.out _ (HA2.out _ hz6) hs40).mono ?_
      rintro e w7 ⟨A7, n7, c7, rfl, hin7, hb7⟩
      have hz7 := bel_chain hz6 hb7
      have HI7 := Lib.hid hin7
      clear hin7 hb7 hz6
      go_wp2_with fail
      refine (lparse_yes s zs HPZ.out _ (HA2.out _ hz7) hs40).mono ?_
      rintro e w8 ⟨A8, n8, c8, rfl, hin8, hb8⟩
      have hz8 := bel_chain hz7 hb8
      have HI8 := Lib.hid hin8
      have HC8 := Lib.hid (lcheck_any A8 n8 c8 zs w8 hin8)
      have HI78 := Lib.hid (HI7.out.below hb8)
      clear hin8 hb8 hz7
      obtain ⟨cc, hcc⟩ : ∃ cc, chk zs = cc := ⟨_, rfl⟩
      have HCC := Lib.hid hcc
      rw [hcc] at HC8 ⊢
      clear hcc
      go_wp2_with fail
      refine HC8.out.mono ?_
      rintro e w9 ⟨rfl, hb9⟩
      have hz9 := bel_chain hz8 hb9
      have HI79 := Lib.hid (HI78.out.below hb9)
      have HI89 := Lib.hid (HI8.out.below hb9)
      clear hb9 hz8
      by_cases hc0 : cc = 0
      · have HE9 := Lib.hid (show Calls Tryz.prog 25 #[.slice A7 n7 c7, .slice A8 n8 c8] w9 (SmallRes (.bool true) w9) from by
          have h7 := HI79.out
          rw [prsX_ok (HCC.out.trans hc0)] at h7
          have hh := equalP_any _ _ _ _ _ _ _ _ w9 h7 HI89.out
          rw [beq_self_eq_true] at hh
          exact hh)
        subst hc0
        go_wp2_with fail
        refine HE9.out.mono ?_
        rintro e w10 ⟨rfl, hb10⟩
        have hz10 := bel_chain hz9 hb10
        clear hz9 hb10
        go_wp2_with fail
        go_ret
        exact ⟨rfl, HZ2.out _ hz10⟩
      · have hn7 : n7 = 0 := by
          have h7 := HI79.out.1
          rw [prsX_no (by rw [HCC.out]; exact hc0)] at h7
          exact h7.symm
        subst hn7
        go_wp2_with fail
        go_ret
        exact ⟨rfl, HZ2.out _ hz9⟩
    · have HNO := Lib.hid (fun zs (h : Pcs (pieces s) (pieces s).length zs) => hex ⟨zs, h⟩)
      clear hex
      have hs40 : s.size ≤ 40 := by omega
      go_wp2_with fail
      refine (Parse_no s HNO.out _ (HA2.out _ hz6) hs40).mono ?_
      rintro e w7 ⟨rfl, hb7⟩
      have hz7 := bel_chain hz6 hb7
      go_wp2_with fail
      refine (lparse_no s HNO.out _ (HA2.out _ hz7) hs40).mono ?_
      rintro e w8 ⟨rfl, hb8⟩
      have hz8 := bel_chain hz7 hb8
      clear hz6 hz7 hb7 hb8
      go_wp2_with fail
      go_ret
      exact ⟨rfl, HZ2.out _ hz8⟩
end Go.Proofs.YtdjhngbpfdopnaaGreatDoor
