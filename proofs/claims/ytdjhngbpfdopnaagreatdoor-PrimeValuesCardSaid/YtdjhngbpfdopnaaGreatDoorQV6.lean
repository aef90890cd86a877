/- Greater text, out of: QV6. -/
import Derived.Test.YtdjhngbpfdopnaaGreatDoorQ16
namespace Go.Proofs.YtdjhngbpfdopnaaGreatDoor
open Go.RowKit Go.PlainAid
attribute [local go_sem] field_rat0 field_rat1

/-- prime.Smooth of two naturals. -/
theorem Smooth_nat (A : Option Addr) (n cap : Nat) (ps : List Int) (N D : Nat) (w : World) (hamb : Amb w) (h : InZ w A n cap ps) (hc : chk ps = 0) (h0 : 0 < N) (hD : 0 < D) (hg : Nat.gcd N D = 1) (hN : nz (N : Int) ≤ 400) (hD4 : nz (D : Int) ≤ 400)
    (a b : List Nat × Nat) (ha : stp ps N = a) (hb : stp ps D = b) :
    Calls Tryz.prog 29 #[.slice A n cap, .agg #[.string (itx (N : Int)), .string (itx (D : Int))]] w (SmallRes (.tuple #[.bool (decide (a.2 = 1) && decide (b.2 = 1)), .int .i64 0]) w) := by
  have hr := rat_of_right (n := (N : Int)) (d := (D : Int)) (by omega) (by rw [Int.gcd_natCast_natCast]; exact hg)
  have hx : rv (Rat.divInt (N : Int) (D : Int)) = .agg #[.string (itx (N : Int)), .string (itx (D : Int))] := by unfold rv; rw [hr.1, hr.2]
  have hq : NQ (Rat.divInt (N : Int) (D : Int)) 20000 := by unfold NQ; rw [hr.1, hr.2]; exact ⟨by omega, by omega⟩
  have hB : rightB (itx (Rat.divInt (N : Int) (D : Int)).num).data.toList (itx ((Rat.divInt (N : Int) (D : Int)).den : Int)).data.toList = true := by rw [hr.1, hr.2]; exact rightB_nat hg hD hN hD4
  have hf := Smooth_pos A n cap ps (Rat.divInt (N : Int) (D : Int)) N D w hamb h hc hB hq hr.1 (by have := hr.2; omega) h0 a b ha hb
  rw [hx] at hf
  exact hf
set_option maxRecDepth 100000 in
set_option maxHeartbeats 4000000 in
theorem lawValues_long (a b : Int) (A2 : Option Addr) (n2 cap2 : Nat) (w : World) (hamb : Amb11 w) (h8 : 8 < n2) :
    Calls Tryz.prog 10 #[.agg #[.int .u16 a, .int .u16 b], .slice A2 n2 cap2] w (SmallRes (.bool true) w) := by
  have h8' : 8 < (n2 : Int) := by omega
  have hal : Below w.heap.size w (w.alloc (.cells #[.int .u16 a, .int .u16 b] 33)) := (Below.refl _ _).alloc (Nat.le_refl _) _
  have HAMB := Lib.hid (fun wz (hb : Below w.heap.size w wz) => hamb.below hb)
  clear hamb h8
  go_enter Tryz.func10, Tryz.ntmps10
  go_wp2_with fail
  refine (known11_any _ (HAMB.out _ hal)).mono ?_
  rintro e w1 ⟨rfl, hb1⟩
  have hz1 := bel_chain hal hb1
  clear hal hb1
  go_wp2_with fail
  refine (known11_any _ (HAMB.out _ hz1)).mono ?_
  rintro e w2 ⟨rfl, hb2⟩
  have hz2 := bel_chain hz1 hb2
  clear hz1 hb2
  go_wp2_with fail
  go_ret
  exact ⟨rfl, hz2⟩
set_option maxRecDepth 100000 in
set_option maxHeartbeats 8000000 in
/-- The walk. -/
theorem lawValues_walk (a b : Int) (_ha : 0 ≤ a ∧ a ≤ 65535) (_hb : 0 ≤ b ∧ b ≤ 65535) (A2 : Option Addr) (n2 cap2 : Nat) (xs : List Int) (w : World) (hamb : Amb11 w) (h2 : InZ w A2 n2 cap2 xs) :
    Calls Tryz.prog 10 #[.agg #[.int .u16 a, .int .u16 b], .slice A2 n2 cap2] w (SmallRes (.bool true) w) := by
  by_cases h8 : 8 < n2
  · exact lawValues_long a b A2 n2 cap2 w hamb h8
  have h8' : ¬ 8 < (n2 : Int) := by omega
  have HAMB := Lib.hid (fun wz (hb : Below w.heap.size w wz) => hamb.below hb)
  have HIX := Lib.hid (fun wz (hb : Below w.heap.size w wz) => h2.below hb)
  clear hamb h2 h8 _ha _hb
  go_enter Tryz.func10, Tryz.ntmps10
  go_wp2_with fail
  obtain ⟨W, hW⟩ : ∃ W, (w.alloc (.cells #[.int .u16 a, .int .u16 b] 33)) = W := ⟨_, rfl⟩
  rw [hW]
  have hX : Box2 W w.heap.size (.int .u16 a) (.int .u16 b) := hW ▸ Box2.new w _ _ _
  have hBW : Below w.heap.size w W := hW ▸ (Below.refl _ _).alloc (Nat.le_refl _) _
  clear hW
  refine (known11_any _ (HAMB.out _ hBW)).mono ?_
  rintro e w1 ⟨rfl, hb1⟩
  have hz1 := bel_chain hBW hb1
  obtain ⟨_, c10, c11, f10, f11⟩ := hX.later hb1
  clear hBW hb1 hX
  go_wp2_with fail
  refine (make11_any a _).mono ?_
  rintro e w2 ⟨v, ps, rfl, hmk, hown, hb2⟩
  have hz2 := bel_chain hz1 hb2
  obtain ⟨A, cap, rfl, hin⟩ := hown.ins
  clear hown hb2 hz1 c10 c11 f10 f11
  have hok := hmk.1
  have hck := hok.chk
  have HIN := Lib.hid (fun wz (hb : Below w2.heap.size w2 wz) => hin.below hb)
  have HIX2 := Lib.hid (fun wz (hb : Below w2.heap.size w2 wz) => HIX.out _ (bel_chain hz2 hb))
  have HA2 := Lib.hid (fun wz (hb : Below w2.heap.size w2 wz) => (HAMB.out _ (bel_chain hz2 hb)).a)
  have HZ2 := Lib.hid (fun wz (hb : Below w2.heap.size w2 wz) => bel_chain hz2 hb)
  have hlx : xs.length = n2 := (HIX.out _ hz2).1
  have HCR := Lib.hid (fun wz (hb : Below w2.heap.size w2 wz) => lcheckRow_any A A2 ps.length cap n2 cap2 ps xs wz (HIN.out _ hb) (HIX2.out _ hb))
  have hr0 := Below.refl w2.heap.size w2
  clear hin hz2
  by_cases hf : fit ps xs = 0
  · obtain ⟨hl, hfar⟩ := fit_zero hf
    obtain rfl : ps.length = n2 := by rw [← hl]; exact hlx
    rw [hf] at HCR
    have hn6 := hok.le
    have HLV := Lib.hid (fun wz (hb : Below w2.heap.size w2 wz) => lvalue_any A A2 ps.length cap cap2 ps xs wz (HA2.out _ hb) (HIN.out _ hb) (HIX2.out _ hb) hn6 (fun i hi => hok.two i hi) (fun i hi => farB_no hfar hi))
    have hu0 : 0 < prod ps (ups xs) := prod_pos ps _ hok.rgt.1
    have hd0 : 0 < prod ps (dns xs) := prod_pos ps _ hok.rgt.1
    have HSU := Lib.hid (itx_size_nat (prod ps (ups xs)))
    have HSD := Lib.hid (itx_size_nat (prod ps (dns xs)))
    by_cases hu : nz ((prod ps (ups xs) : Nat) : Int) ≤ 400
    · by_cases hd : nz ((prod ps (dns xs) : Nat) : Int) ≤ 400
      · have HV := Lib.hid (fun wz (hb : Below w2.heap.size w2 wz) => value_yes A A2 ps.length cap ps.length cap2 ps xs wz (HA2.out _ hb) (HIN.out _ hb) (HIX2.out _ hb) hck hf hu hd)
        have hg : Nat.gcd (prod ps (ups xs)) (prod ps (dns xs)) = 1 := prod_two ps xs hok.rgt
        have s1 := stp_prod ps (ups xs) hok.rgt (by rw [ups_len, hl])
        have s2 := stp_prod ps (dns xs) hok.rgt (by rw [dns_len, hl])
        have HFA := Lib.hid (fun wz (hb : Below w2.heap.size w2 wz) => show Calls Tryz.prog 27 #[.slice A ps.length cap, .agg #[.string (itx ((prod ps (ups xs) : Nat) : Int)), .string (itx ((prod ps (dns xs) : Nat) : Int))]] wz (ZOk ps.length xs wz) from by
          have hh := (Factor_nat A ps.length cap ps _ _ wz (HA2.out _ hb) (HIN.out _ hb) hck hu0 hd0 hg hu hd _ _ s1 s2).1 ⟨rfl, rfl⟩ (by show farB (dif (ups xs) (dns xs)) = false; rw [dif_row]; exact hfar)
          rw [show dif (ups xs, 1).1 (dns xs, 1).1 = xs from dif_row xs] at hh
          exact hh)
        have HSM := Lib.hid (fun wz (hb : Below w2.heap.size w2 wz) => show Calls Tryz.prog 29 #[.slice A ps.length cap, .agg #[.string (itx ((prod ps (ups xs) : Nat) : Int)), .string (itx ((prod ps (dns xs) : Nat) : Int))]] wz (SmallRes (.tuple #[.bool true, .int .i64 0]) wz) from
          Smooth_nat A ps.length cap ps _ _ wz (HA2.out _ hb) (HIN.out _ hb) hck hu0 hd0 hg hu hd _ _ s1 s2)
        have h4u : ¬ 400 < ((itx ((prod ps (ups xs) : Nat) : Int)).size : Int) := by rw [HSU.out]; omega
        have h4d : ¬ 400 < ((itx ((prod ps (dns xs) : Nat) : Int)).size : Int) := by rw [HSD.out]; omega
        obtain ⟨U, hU⟩ : ∃ U, itx ((prod ps (ups xs) : Nat) : Int) = U := ⟨_, rfl⟩
        obtain ⟨V, hV⟩ : ∃ V, itx ((prod ps (dns xs) : Nat) : Int) = V := ⟨_, rfl⟩
        rw [hU, hV] at HV HFA HSM HLV
        rw [hU] at h4u
        rw [hV] at h4d
        clear hU hV s1 s2 hg hu hd hu0 hd0 HSU HSD hn6 hfar hf hck hok hmk hl
        obtain ⟨m, hm⟩ : ∃ m, ps.length = m := ⟨_, rfl⟩
        rw [hm] at HV HFA HSM HLV HCR h8' ⊢
        have HIX3 := Lib.hid (hm ▸ HIX2.out)
        clear hlx hm
        go_wp2_with fail
        refine (HV.out _ hr0).mono ?_
        rintro e w3 ⟨rfl, hb3⟩
        go_wp2_with fail
        obtain ⟨wx, hwx⟩ : ∃ W, w3.alloc (.cells #[.string U, .string V] 27) = W := ⟨_, rfl⟩
        have hxx : Box2 wx w3.heap.size (.string U) (.string V) := hwx ▸ Box2.new w3 _ _ _
        have hbx : Below w3.heap.size w3 wx := hwx ▸ (Below.refl _ _).alloc (Nat.le_refl _) _
        rw [hwx]
        have hzx := bel_chain hb3 hbx
        clear hwx hbx hb3
        refine (HCR.out _ hzx).mono ?_
        rintro e w4 ⟨rfl, hb4⟩
        have hz4 := bel_chain hzx hb4
        have hx4 := hxx.later hb4
        clear hzx hb4 hxx
        go_wp2_with fail
        refine (HLV.out _ hz4).mono ?_
        rintro e w5 ⟨rfl, hb5⟩
        have hz5 := bel_chain hz4 hb5
        have hx5 := hx4.later hb5
        clear hz4 hb5 hx4
        go_upto_region 9 with fail
        obtain ⟨wy, hwy⟩ : ∃ W, w5.alloc (.cells #[.string U, .string V] 27) = W := ⟨_, rfl⟩
        have hyy : Box2 wy w5.heap.size (.string U) (.string V) := hwy ▸ Box2.new w5 _ _ _
        have hby : Below w5.heap.size w5 wy := hwy ▸ (Below.refl _ _).alloc (Nat.le_refl _) _
        rw [hwy]
        obtain ⟨gy, hgy⟩ : ∃ g, w5.heap.size = g := ⟨_, rfl⟩
        obtain ⟨gx, hgx⟩ : ∃ g, w3.heap.size = g := ⟨_, rfl⟩
        rw [hgy] at hyy ⊢
        rw [hgx] at hx5 ⊢
        have hzy := bel_chain hz5 hby
        have hxy := hx5.later hby
        clear hwy hgy hgx hby hz5 hx5
        obtain ⟨_, c50, c51, f50, f51⟩ := id hyy
        go_wp2_with fail
        refine (HFA.out _ hzy).mono ?_
        rintro e w6 ⟨g6, c6, rfl, hzz, hb6⟩
        have hz6 := bel_chain hzy hb6
        have hx6 := hxy.later hb6
        have hy6 := hyy.later hb6
        clear hzy hxy hyy c50 c51 f50 f51
        obtain ⟨_, c60, c61, f60, f61⟩ := id hy6
        go_wp2_with fail
        refine (HSM.out _ hz6).mono ?_
        rintro e w7 ⟨rfl, hb7⟩
        have hz7 := bel_chain hz6 hb7
        obtain ⟨_, c70, c71, f70, f71⟩ := hx6.later hb7
        obtain ⟨_, d70, d71, k70, k71⟩ := hy6.later hb7
        have hi7 := (hzz.below hb7 hzz.lt).ins
        have HEQ := Lib.hid (equalR_any _ _ _ _ _ _ _ _ w7 hi7 (HIX3.out _ hz7))
        rw [beq_self_eq_true] at HEQ
        clear hz6 hx6 hy6 c60 c61 f60 f61 hb7 hi7 hzz hb6
        go_wp2_with fail
        refine HEQ.out.mono ?_
        rintro e w8 ⟨rfl, hb8⟩
        have hz8 := bel_chain hz7 hb8
        clear hz7 hb8 c70 c71 f70 f71 d70 d71 k70 k71
        go_wp2_with fail
        go_ret
        exact ⟨rfl, HZ2.out _ hz8⟩
      · have HV := Lib.hid (fun wz (hb : Below w2.heap.size w2 wz) => value_no2 A A2 ps.length cap ps.length cap2 ps xs wz (HA2.out _ hb) (HIN.out _ hb) (HIX2.out _ hb) hck hf hu hd)
        obtain ⟨U, hU⟩ : ∃ U, itx ((prod ps (ups xs) : Nat) : Int) = U := ⟨_, rfl⟩
        obtain ⟨V, hV⟩ : ∃ V, itx ((prod ps (dns xs) : Nat) : Int) = V := ⟨_, rfl⟩
        rw [hU, hV] at HLV
        have h4u : ¬ 400 < (U.size : Int) := by rw [← hU, HSU.out]; omega
        have h4d : 400 < (V.size : Int) := by rw [← hV, HSD.out]; omega
        clear hU hV hu hd hu0 hd0 HSU HSD hn6 hfar hf hck hok hmk hl
        obtain ⟨m, hm⟩ : ∃ m, ps.length = m := ⟨_, rfl⟩
        rw [hm] at HV HLV HCR h8' ⊢
        clear hlx hm
        go_wp2_with fail
        refine (HV.out _ hr0).mono ?_
        rintro e w3 ⟨rfl, hb3⟩
        go_wp2_with fail
        obtain ⟨wx, hwx⟩ : ∃ W, w3.alloc (.cells #[.string ⟨#[]⟩, .string ⟨#[]⟩] 27) = W := ⟨_, rfl⟩
        have hxx : Box2 wx w3.heap.size (.string ⟨#[]⟩) (.string ⟨#[]⟩) := hwx ▸ Box2.new w3 _ _ _
        have hbx : Below w3.heap.size w3 wx := hwx ▸ (Below.refl _ _).alloc (Nat.le_refl _) _
        rw [hwx]
        have hzx := bel_chain hb3 hbx
        clear hwx hbx hb3
        refine (HCR.out _ hzx).mono ?_
        rintro e w4 ⟨rfl, hb4⟩
        have hz4 := bel_chain hzx hb4
        have hx4 := hxx.later hb4
        clear hzx hb4 hxx
        go_wp2_with fail
        refine (HLV.out _ hz4).mono ?_
        rintro e w5 ⟨rfl, hb5⟩
        have hz5 := bel_chain hz4 hb5
        have hx5 := hx4.later hb5
        clear hz4 hb5 hx4
        go_upto_region 9 with fail
        obtain ⟨wy, hwy⟩ : ∃ W, w5.alloc (.cells #[.string U, .string V] 27) = W := ⟨_, rfl⟩
        have hyy : Box2 wy w5.heap.size (.string U) (.string V) := hwy ▸ Box2.new w5 _ _ _
        have hby : Below w5.heap.size w5 wy := hwy ▸ (Below.refl _ _).alloc (Nat.le_refl _) _
        rw [hwy]
        obtain ⟨gy, hgy⟩ : ∃ g, w5.heap.size = g := ⟨_, rfl⟩
        obtain ⟨gx, hgx⟩ : ∃ g, w3.heap.size = g := ⟨_, rfl⟩
        rw [hgy] at hyy ⊢
        rw [hgx] at hx5 ⊢
        have HZY := Lib.hid (bel_chain hz5 hby)
        obtain ⟨_, e50, e51, k50, k51⟩ := hx5.later hby
        obtain ⟨_, c50, c51, f50, f51⟩ := id hyy
        clear hwy hgy hgx hby hz5 hx5
        go_wp2_with fail
        go_ret
        exact ⟨rfl, HZ2.out _ HZY.out⟩
    · have HV := Lib.hid (fun wz (hb : Below w2.heap.size w2 wz) => value_no1 A A2 ps.length cap ps.length cap2 ps xs wz (HA2.out _ hb) (HIN.out _ hb) (HIX2.out _ hb) hck hf hu)
      obtain ⟨U, hU⟩ : ∃ U, itx ((prod ps (ups xs) : Nat) : Int) = U := ⟨_, rfl⟩
      obtain ⟨V, hV⟩ : ∃ V, itx ((prod ps (dns xs) : Nat) : Int) = V := ⟨_, rfl⟩
      rw [hU, hV] at HLV
      have h4u : 400 < (U.size : Int) := by rw [← hU, HSU.out]; omega
      clear hU hV hu hu0 hd0 HSU HSD hn6 hfar hf hck hok hmk hl
      obtain ⟨m, hm⟩ : ∃ m, ps.length = m := ⟨_, rfl⟩
      rw [hm] at HV HLV HCR h8' ⊢
      clear hlx hm
      go_wp2_with fail
      refine (HV.out _ hr0).mono ?_
      rintro e w3 ⟨rfl, hb3⟩
      go_wp2_with fail
      obtain ⟨wx, hwx⟩ : ∃ W, w3.alloc (.cells #[.string ⟨#[]⟩, .string ⟨#[]⟩] 27) = W := ⟨_, rfl⟩
      have hxx : Box2 wx w3.heap.size (.string ⟨#[]⟩) (.string ⟨#[]⟩) := hwx ▸ Box2.new w3 _ _ _
      have hbx : Below w3.heap.size w3 wx := hwx ▸ (Below.refl _ _).alloc (Nat.le_refl _) _
      rw [hwx]
      have hzx := bel_chain hb3 hbx
      clear hwx hbx hb3
      refine (HCR.out _ hzx).mono ?_
      rintro e w4 ⟨rfl, hb4⟩
      have hz4 := bel_chain hzx hb4
      have hx4 := hxx.later hb4
      clear hzx hb4 hxx
      go_wp2_with fail
      refine (HLV.out _ hz4).mono ?_
      rintro e w5 ⟨rfl, hb5⟩
      have hz5 := bel_chain hz4 hb5
      have hx5 := hx4.later hb5
      clear hz4 hb5 hx4
      go_upto_region 9 with fail
      obtain ⟨wy, hwy⟩ : ∃ W, w5.alloc (.cells #[.string U, .string V] 27) = W := ⟨_, rfl⟩
      have hyy : Box2 wy w5.heap.size (.string U) (.string V) := hwy ▸ Box2.new w5 _ _ _
      have hby : Below w5.heap.size w5 wy := hwy ▸ (Below.refl _ _).alloc (Nat.le_refl _) _
      rw [hwy]
      obtain ⟨gy, hgy⟩ : ∃ g, w5.heap.size = g := ⟨_, rfl⟩
      obtain ⟨gx, hgx⟩ : ∃ g, w3.heap.size = g := ⟨_, rfl⟩
      rw [hgy] at hyy ⊢
      rw [hgx] at hx5 ⊢
      have HZY := Lib.hid (bel_chain hz5 hby)
      obtain ⟨_, e50, e51, k50, k51⟩ := hx5.later hby
      obtain ⟨_, c50, c51, f50, f51⟩ := id hyy
      clear hwy hgy hgx hby hz5 hx5
      go_wp2_with fail
      go_ret
      exact ⟨rfl, HZ2.out _ HZY.out⟩
  · obtain ⟨c, hc⟩ : ∃ c, fit ps xs = c := ⟨_, rfl⟩
    rw [hc] at hf HCR
    have HV := Lib.hid (fun wz (hb : Below w2.heap.size w2 wz) => value_fit A A2 ps.length cap n2 cap2 ps xs wz (HIN.out _ hb) (HIX2.out _ hb) hck c hc hf)
    clear hc hck hok hmk hlx
    obtain ⟨m, hm⟩ : ∃ m, ps.length = m := ⟨_, rfl⟩
    rw [hm] at HV HCR ⊢
    clear hm
    go_wp2_with fail
    refine (HV.out _ hr0).mono ?_
    rintro e w3 ⟨rfl, hb3⟩
    go_wp2_with fail
    obtain ⟨wx, hwx⟩ : ∃ W, w3.alloc (.cells #[.string ⟨#[]⟩, .string ⟨#[]⟩] 27) = W := ⟨_, rfl⟩
    have hxx : Box2 wx w3.heap.size (.string ⟨#[]⟩) (.string ⟨#[]⟩) := hwx ▸ Box2.new w3 _ _ _
    have hbx : Below w3.heap.size w3 wx := hwx ▸ (Below.refl _ _).alloc (Nat.le_refl _) _
    rw [hwx]
    have hzx := bel_chain hb3 hbx
    clear hwx hbx hb3
    refine (HCR.out _ hzx).mono ?_
    rintro e w4 ⟨rfl, hb4⟩
    have HZ4 := Lib.hid (bel_chain hzx hb4)
    obtain ⟨_, c40, c41, f40, f41⟩ := hxx.later hb4
    clear hzx hb4 hxx
    go_wp2_with fail
    go_ret
    exact ⟨rfl, HZ2.out _ HZ4.out⟩
end Go.Proofs.YtdjhngbpfdopnaaGreatDoor
