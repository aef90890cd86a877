/- Greater text, out of: Q16. -/
import Derived.Test.YtdjhngbpfdopnaaGreatDoorQ14
import Derived.Test.YtdjhngbpfdopnaaGreatDoorQ15
import Derived.Deep.DrawnRows
namespace Go.Proofs.YtdjhngbpfdopnaaGreatDoor
open Go.RowKit Go.PlainAid
attribute [local go_sem] field_whole0 field_whole1 field_rat0 field_rat1
attribute [local go_sem ↓] Go.wp_at_zero Go.wp_at_succ

/-- The blocks of value: the result's, out, by. -/
def VlB (w : World) (g4 g5 g6 : Nat) (x y : Int) (wr : World) : Prop := Below w.heap.size w wr ∧ w.heap.size ≤ g4 ∧ g4 < g5 ∧ g5 < g6 ∧ Box2 wr g4 (.string ⟨#[]⟩) (.string ⟨#[]⟩) ∧ NoInt wr g4 ∧ HW wr g5 x ∧ HW wr g6 y
theorem VlB.later {w a b : World} {g4 g5 g6 : Nat} {x y : Int} (h : VlB w g4 g5 g6 x y a) (hb : Below a.heap.size a b) : VlB w g4 g5 g6 x y b :=
  ⟨bel_chain h.1 hb, h.2.1, h.2.2.1, h.2.2.2.1, h.2.2.2.2.1.later hb, h.2.2.2.2.2.1.later hb, h.2.2.2.2.2.2.1.later hb, h.2.2.2.2.2.2.2.later hb⟩
theorem VlB.put5 {w a : World} {g4 g5 g6 : Nat} {x y z : Int} {s : Bool} {A : Option Addr} {n c : Nat} (h : VlB w g4 g5 g6 x y a) (hv : W3 a (.agg #[.bool s, .slice A n c]) z) :
    VlB w g4 g5 g6 z y ((a.setCell ⟨g5, 0, none⟩ (.bool s)).setCell ⟨g5, 1, none⟩ (.slice A n c)) := by
  obtain ⟨h1, h2, h3, h4, h5, h6, h7, h8⟩ := h
  have hn5 := h7.1
  exact ⟨(h1.setCell (by show w.heap.size ≤ g5; omega) _).setCell (by show w.heap.size ≤ g5; omega) _, h2, h3, h4, (h5.far (by show g4 ≠ g5; omega) _).far (by show g4 ≠ g5; omega) _, (h6.setCell _ _).setCell _ _, h7.put hv, h8.far (by omega) hn5 _ _⟩
theorem VlB.put6 {w a : World} {g4 g5 g6 : Nat} {x y z : Int} {s : Bool} {A : Option Addr} {n c : Nat} (h : VlB w g4 g5 g6 x y a) (hv : W3 a (.agg #[.bool s, .slice A n c]) z) :
    VlB w g4 g5 g6 x z ((a.setCell ⟨g6, 0, none⟩ (.bool s)).setCell ⟨g6, 1, none⟩ (.slice A n c)) := by
  obtain ⟨h1, h2, h3, h4, h5, h6, h7, h8⟩ := h
  have hn6 := h8.1
  exact ⟨(h1.setCell (by show w.heap.size ≤ g6; omega) _).setCell (by show w.heap.size ≤ g6; omega) _, h2, h3, h4, (h5.far (by show g4 ≠ g6; omega) _).far (by show g4 ≠ g6; omega) _, (h6.setCell _ _).setCell _ _, h7.far (by omega) hn6 _ _, h8.put hv⟩
theorem nz_prodTo {ps : List Int} {es : List Nat} (hps : ∀ i, i < ps.length → 2 ≤ ps.getD i 0 ∧ ps.getD i 0 ≤ 97) (hl : es.length = ps.length) (he : ∀ i, i < es.length → es.getD i 0 ≤ 1000) : ∀ i, i ≤ ps.length → nz ((prodTo ps es i : Nat) : Int) ≤ 2001 * i + 1 := by
  intro i
  induction i with
  | zero => intro _; rw [prodTo_zero]; exact Nat.le_trans (show nz ((1 : Nat) : Int) ≤ 1 from (nz_le_iff 1 0).2 (by decide)) (by omega)
  | succ i ih =>
    intro hi
    have h1 := ih (by omega)
    have hb := hps i (by omega)
    rw [prodTo_succ ps es i (by omega) (by omega), Int.natCast_mul]
    have h2 := nz_mul ((prodTo ps es i : Nat) : Int) (((ps.getD i 0).toNat ^ es.getD i 0 : Nat) : Int)
    have h3 := nz_powp (p := (ps.getD i 0).toNat) (d := 1000) (by omega) (he i (by omega))
    omega
theorem prodTo_same {ps : List Int} {es : List Nat} {i : Nat} (h : i < ps.length) (h2 : i < es.length) (h0 : es.getD i 0 = 0) : prodTo ps es (i + 1) = prodTo ps es i := by
  rw [prodTo_succ ps es i h h2, h0, Nat.pow_zero, Nat.mul_one]
theorem ups_get (xs : List Int) (i : Nat) (h : i < xs.length) : (ups xs).getD i 0 = (xs.getD i 0).toNat := by simp [ups, List.getD_eq_getElem?_getD, List.getElem?_eq_getElem h]
theorem dns_get (xs : List Int) (i : Nat) (h : i < xs.length) : (dns xs).getD i 0 = (-(xs.getD i 0)).toNat := by simp [dns, List.getD_eq_getElem?_getD, List.getElem?_eq_getElem h]
set_option maxRecDepth 100000 in
set_option maxHeartbeats 4000000 in
/-- schismalaw11.value. -/
theorem lvalue_any (A A2 : Option Addr) (n cap cap2 : Nat) (ps xs : List Int) (w : World) (hamb : Amb w) (h : InZ w A n cap ps) (h2 : InZ w A2 n cap2 xs) (hn6 : n ≤ 6) (hps : ∀ i, i < ps.length → 2 ≤ ps.getD i 0 ∧ ps.getD i 0 ≤ 97)
    (hxs : ∀ i, i < xs.length → -1000 ≤ xs.getD i 0 ∧ xs.getD i 0 ≤ 1000) :
    Calls Tryz.prog 46 #[.slice A n cap, .slice A2 n cap2] w (SmallRes (.agg #[.string (itx ((prod ps (ups xs) : Nat) : Int)), .string (itx ((prod ps (dns xs) : Nat) : Int))]) w) := by
  have HL := Lib.hid h.1
  have HL2 := Lib.hid h2.1
  have hle := h.2.1
  have hcap := h.2.2.1
  have hcap2 := h2.2.2.1
  have hle2 := h2.2.1
  have HIN := Lib.hid (fun wz (hb : Below w.heap.size w wz) => (h.below hb).2.2.2)
  have HIN2 := Lib.hid (fun wz (hb : Below w.heap.size w wz) => (h2.below hb).2.2.2)
  have HAMB := Lib.hid (fun wz (hb : Below w.heap.size w wz) => hamb.below hb)
  have HPS := Lib.hid hps
  have HXS := Lib.hid hxs
  have HUG := Lib.hid (fun i (hi : i < n) => ups_get xs i (by rw [h2.1]; exact hi))
  have HDG := Lib.hid (fun i (hi : i < n) => dns_get xs i (by rw [h2.1]; exact hi))
  obtain ⟨us, hus⟩ : ∃ us, ups xs = us := ⟨_, rfl⟩
  obtain ⟨ds, hds⟩ : ∃ ds, dns xs = ds := ⟨_, rfl⟩
  have HUL := Lib.hid (show us.length = n by rw [← hus, ups_len, h2.1])
  have HDL := Lib.hid (show ds.length = n by rw [← hds, dns_len, h2.1])
  rw [hus] at HUG ⊢
  rw [hds] at HDG ⊢
  have HUN := Lib.hid (fun i (hi : i ≤ n) => nz_prodTo (es := us) hps (by rw [HUL.out, HL.out]) (fun j hj => by have h3 := HUG.out j (by rw [HUL.out] at hj; exact hj); have h4 := hxs j (by rw [HL2.out]; rw [HUL.out] at hj; exact hj); omega) i (by rw [HL.out]; exact hi))
  have HDN := Lib.hid (fun i (hi : i ≤ n) => nz_prodTo (es := ds) hps (by rw [HDL.out, HL.out]) (fun j hj => by have h3 := HDG.out j (by rw [HDL.out] at hj; exact hj); have h4 := hxs j (by rw [HL2.out]; rw [HDL.out] at hj; exact hj); omega) i (by rw [HL.out]; exact hi))
  clear h h2 hamb hps hxs hus hds
  go_enter Tryz.func46, Tryz.ntmps46
  go_wp2_with fail
  obtain ⟨W, hW⟩ : ∃ W, (w.alloc (.cells #[.string ⟨#[]⟩, .string ⟨#[]⟩] 27)) = W := ⟨_, rfl⟩
  rw [hW]
  have hx4 : Box2 W w.heap.size (.string ⟨#[]⟩) (.string ⟨#[]⟩) := hW ▸ Box2.new _ _ _ _
  have hn4 : NoInt W w.heap.size := hW ▸ NoInt.new w _ _ rat_ne_int
  have hbW : Below w.heap.size w W := hW ▸ (Below.refl _ _).alloc (Nat.le_refl _) _
  clear hW
  refine (t3of_any 1 _ (HAMB.out _ hbW) (by decide) (by decide)).mono ?_
  rintro e w1 ⟨v1, rfl, hv1, hb1⟩
  obtain ⟨s1, A1, n1, c1, hve1, hvl1, _, _, _⟩ := hv1.parts
  subst hve1
  clear hvl1
  have hz1 := bel_chain hbW hb1
  go_wp2_with fail
  refine (t3of_any 1 _ (HAMB.out _ hz1) (by decide) (by decide)).mono ?_
  rintro e w2 ⟨v2, rfl, hv2, hb2⟩
  obtain ⟨s2, A2', n2, c2, hve2, hvl2, _, _, _⟩ := hv2.parts
  subst hve2
  clear hvl2
  have hz2 := bel_chain hz1 hb2
  have hx42 := hx4.later (bel_chain hb1 hb2)
  have hn42 := hn4.later (bel_chain hb1 hb2)
  have hv12 := hv1.below hb2
  clear hx4 hn4 hbW hz1 hb1 hb2 hv1
  go_wp2_with fail
  obtain ⟨Wb, hWb⟩ : ∃ W, (w2.alloc (.cells #[.bool s1, .slice A1 n1 c1] 73)) = W := ⟨_, rfl⟩
  obtain ⟨g5, hg5⟩ : ∃ g, w2.heap.size = g := ⟨_, rfl⟩
  have hw5 := HW.new hv12 hWb hg5
  have hbb : Below w2.heap.size w2 Wb := hWb ▸ (Below.refl _ _).alloc (Nat.le_refl _) _
  have hsb : Wb.heap.size = w2.heap.size + 1 := hWb ▸ World.size_alloc _ _
  have hlt5 : w.heap.size < g5 := by have := hx42.1; omega
  rw [hWb, ← hsb, hg5]
  obtain ⟨Wc, hWc⟩ : ∃ W, (Wb.alloc (.cells #[.bool s2, .slice A2' n2 c2] 73)) = W := ⟨_, rfl⟩
  obtain ⟨g6, hg6⟩ : ∃ g, Wb.heap.size = g := ⟨_, rfl⟩
  have hw6 := HW.new (hv2.below hbb) hWc hg6
  have hbc : Below Wb.heap.size Wb Wc := hWc ▸ (Below.refl _ _).alloc (Nat.le_refl _) _
  have hlt6 : g5 < g6 := by omega
  rw [hWc, hg6]
  have HST := Lib.hid (show VlB w w.heap.size g5 g6 1 1 Wc from ⟨bel_chain hz2 (bel_chain hbb hbc), Nat.le_refl _, hlt5, hlt6, hx42.later (bel_chain hbb hbc), hn42.later (bel_chain hbb hbc), hw5.later hbc, hw6⟩)
  clear hWb hg5 hWc hg6 hsb hw5 hbb hlt5 hw6 hbc hlt6 hx42 hn42 hz2 hv12 hv2
  go_loopw [13] (fun vi wr => ∃ i : Nat, i ≤ n ∧ vi = .int .i64 (i : Int) ∧ Hid (VlB w w.heap.size g5 g6 ((prodTo ps us i : Nat) : Int) ((prodTo ps ds i : Nat) : Int) wr)) (fun vi _ => n - (intOf vi).toNat)
  case atStart => exact ⟨0, Nat.zero_le _, rfl, Lib.hid (by rw [prodTo_zero, prodTo_zero]; exact HST.out)⟩
  case round =>
    obtain ⟨i, hi, rfl, HV⟩ := hrel
    obtain ⟨wo, rfl⟩ : ∃ wo : World, wo = wr := ⟨_, rfl⟩
    by_cases hin : i = n
    · have HN1 := Lib.hid (HUN.out i hi)
      have HN2 := Lib.hid (HDN.out i hi)
      have HP1 := Lib.hid (prodTo_all ps us i (by rw [HL.out]; omega) (by rw [HUL.out]; omega))
      have HP2 := Lib.hid (prodTo_all ps ds i (by rw [HL.out]; omega) (by rw [HDL.out]; omega))
      rw [HP1.out] at HN1
      rw [HP2.out] at HN2
      rw [HP1.out, HP2.out] at HV
      have hlt : ¬ (i : Int) < (n : Int) := by omega
      subst hin
      obtain ⟨U, hU⟩ : ∃ U, ((prod ps us : Nat) : Int) = U := ⟨_, rfl⟩
      obtain ⟨V, hV⟩ : ∃ V, ((prod ps ds : Nat) : Int) = V := ⟨_, rfl⟩
      have HUV := Lib.hid (And.intro hU hV)
      rw [hU] at HN1 HV
      rw [hV] at HN2 HV
      clear hU hV
      obtain ⟨hgm, hle0, hl45, hl56, hb4, hn4, hw5, hw6⟩ := HV.out
      obtain ⟨_, s5, A5, n5, c5, ⟨_, xa, xb, xc, xd⟩, hv5⟩ := hw5
      obtain ⟨_, s6, A6, n6, c6, hb6, hv6⟩ := hw6
      have HB6 := Lib.hid hb6
      obtain ⟨_, ya, yb, yc, yd⟩ := hb6
      have HF1 := Lib.hid (fun wz (hb : Below wo.heap.size wo wz) => t3from_any _ U wz (HAMB.out _ (bel_chain hgm hb)) (hv5.below hb) (Nat.le_trans HN1.out (by omega)))
      have HF2 := Lib.hid (fun wz (hb : Below wo.heap.size wo wz) => t3from_any _ V wz (HAMB.out _ (bel_chain hgm hb)) (hv6.below hb) (Nat.le_trans HN2.out (by omega)))
      clear hgm hb4 hn4 hv5 hv6
      go_upto_region 9 with fail
      go_region_with (first
        | (have _h := hz7; (with_reducible refine Calls.mono (HF2.out _ hz7) ?_); rintro e8 w8 ⟨rfl, hb8⟩; have HV8 := Lib.hid (HV7.out.later hb8); obtain ⟨_, ra, rb, rc, rd⟩ := HV8.out.2.2.2.2.1)
        | ((with_reducible refine Calls.mono (HF1.out _ (bel_drewN (Below.refl _ _) 1)) ?_); rintro e7 w7 ⟨rfl, hb7⟩; have hz7 := bel_chain (bel_drewN (Below.refl _ wo) 1) hb7; have HV7 := Lib.hid (HV.out.later hz7); obtain ⟨_, za, zb, zc, zd⟩ := HB6.out.later hz7))
      all_goals
        go_wp2_with fail
        refine ret_cell rfl rfl (load_rat (g := w.heap.size) ((HV8.out.2.2.2.2.1.set0 _).set1 _)) rfl ?_
        exact ⟨by rw [HUV.out.1, HUV.out.2], (HV8.out.1.setCell (Nat.le_refl _) _).setCell (Nat.le_refl _) _⟩
    · have hlt : (i : Int) < (n : Int) := by omega
      obtain ⟨b, off, rfl, hbl, hc⟩ := HIN.out _ HV.out.1 (by omega)
      obtain ⟨b2, off2, rfl, hbl2, hc2⟩ := HIN2.out _ HV.out.1 (by omega)
      have hcell := hc i (by omega)
      have hcell2 := hc2 i (by omega)
      have HEU := Lib.hid (HUG.out i (by omega))
      have HED := Lib.hid (HDG.out i (by omega))
      have hpb := HPS.out i (by rw [HL.out]; omega)
      have hxb := HXS.out i (by rw [HL2.out]; omega)
      have HSU := Lib.hid (prodTo_succ ps us i (by rw [HL.out]; omega) (by rw [HUL.out]; omega))
      have HSD := Lib.hid (prodTo_succ ps ds i (by rw [HL.out]; omega) (by rw [HDL.out]; omega))
      have HNU := Lib.hid (HUN.out i hi)
      have HND := Lib.hid (HDN.out i hi)
      obtain ⟨Q, hQ⟩ : ∃ Q, prodTo ps us i = Q := ⟨_, rfl⟩
      obtain ⟨R, hR⟩ : ∃ R, prodTo ps ds i = R := ⟨_, rfl⟩
      obtain ⟨p, hp⟩ : ∃ p : Nat, ps.getD i 0 = (p : Int) := ⟨(ps.getD i 0).toNat, by omega⟩
      obtain ⟨x, hx⟩ : ∃ x, xs.getD i 0 = x := ⟨_, rfl⟩
      rw [hQ] at HV HSU HNU
      rw [hR] at HV HSD HND
      rw [hp] at hcell hpb HSU HSD
      rw [Int.toNat_natCast] at HSU HSD
      rw [hx] at hcell2 hxb HEU HED
      clear hc hc2 hQ hR hp hx hbl hbl2
      by_cases hx0 : 0 < x
      · obtain ⟨e, rfl⟩ : ∃ e : Nat, x = (e : Int) := ⟨x.toNat, by omega⟩
        have HS := Lib.hid (show VlB w w.heap.size g5 g6 ((Q : Int) * ((p ^ e : Nat) : Int)) (R : Int) = VlB w w.heap.size g5 g6 ((prodTo ps us (i + 1) : Nat) : Int) ((prodTo ps ds (i + 1) : Nat) : Int) by
          rw [HSU.out, HSD.out, HEU.out, HED.out, Int.toNat_natCast, show (-(e : Int)).toNat = 0 by omega, Nat.pow_zero, Nat.mul_one, Int.natCast_mul Q])
        have HPW := Lib.hid (fun wz (hz : Amb wz) => lpower_any p e wz hz (by omega) (by omega) (by omega))
        have HNA := Lib.hid (show nz (Q : Int) ≤ 1000000 from Nat.le_trans HNU.out (by omega))
        have HNP := Lib.hid (show nz ((p ^ e : Nat) : Int) ≤ 1000000 from Nat.le_trans (nz_powp (d := 1000) (by omega) (by omega)) (by omega))
        go_upto_region 6 with fail
        obtain ⟨hgm, hle0, hl45, hl56, hb4, hn4, hw5, hw6⟩ := HV.out
        obtain ⟨hng, sg, Ag, ng, cg, hbg, hvg⟩ := hw5
        have HBG := Lib.hid hbg
        obtain ⟨_, xa, xb, xc, xd⟩ := hbg
        have HVG := Lib.hid (fun wz (hb : Below wo.heap.size wo wz) => hvg.below hb)
        clear hb4 hn4 hw6 hng hvg
        go_region_with (first
          | ((with_reducible refine Calls.mono (HPW.out _ (HAMB.out _ (bel_chain hgm (bel_drewN (Below.refl _ _) 1)))) ?_); rintro e5 w5 ⟨v5, rfl, hv5, hb5⟩; obtain ⟨s5, A5, n5, c5, hve5, hvl5, _, _, _⟩ := hv5.parts; subst hve5; clear hvl5; have hbr := bel_chain (bel_drewN (Below.refl _ wo) 1) hb5; have HV5 := Lib.hid (HV.out.later hbr); obtain ⟨_, ya, yb, yc, yd⟩ := HBG.out.later hbr)
          | ((with_reducible refine Calls.mono (t3mul_any _ _ _ _ w5 (HVG.out _ hbr) hv5 (HNA.out) (HNP.out)) ?_); rintro e6 w6 ⟨v6, rfl, hv6, hb6⟩; obtain ⟨s6, A6, n6, c6, hve6, hvl6, _, _, _⟩ := hv6.parts; subst hve6; clear hvl6; have HV6 := Lib.hid (HV5.out.later hb6); obtain ⟨_, s'', A'', n'', c'', ⟨_, za, zb, zc, zd⟩, _⟩ := HV6.out.2.2.2.2.2.2.1; have HVV := Lib.hid hv6))
        all_goals
          go_wp2_with fail
          go_roundw
          case rel => exact ⟨i + 1, by omega, by go_num, Lib.hid (HS.out ▸ HV6.out.put5 HVV.out)⟩
          case measure => simp [intOf]; omega
      · obtain ⟨e, he⟩ : ∃ e : Nat, -x = (e : Int) := ⟨(-x).toNat, by omega⟩
        have hwe : IntKind.i64.wrap (e : Int) = (e : Int) := IntWalk.i64_in _ (by omega)
        have HS := Lib.hid (show VlB w w.heap.size g5 g6 (Q : Int) ((R : Int) * ((p ^ e : Nat) : Int)) = VlB w w.heap.size g5 g6 ((prodTo ps us (i + 1) : Nat) : Int) ((prodTo ps ds (i + 1) : Nat) : Int) by
          rw [HSU.out, HSD.out, HEU.out, HED.out, he, Int.toNat_natCast, show x.toNat = 0 by omega, Nat.pow_zero, Nat.mul_one, Int.natCast_mul R])
        have HPW := Lib.hid (fun wz (hz : Amb wz) => lpower_any p e wz hz (by omega) (by omega) (by omega))
        have HNA := Lib.hid (show nz (R : Int) ≤ 1000000 from Nat.le_trans HND.out (by omega))
        have HNP := Lib.hid (show nz ((p ^ e : Nat) : Int) ≤ 1000000 from Nat.le_trans (nz_powp (d := 1000) (by omega) (by omega)) (by omega))
        go_upto_region 7 with fail
        obtain ⟨hgm, hle0, hl45, hl56, hb4, hn4, hw5, hw6⟩ := HV.out
        obtain ⟨hng, sg, Ag, ng, cg, hbg, hvg⟩ := hw6
        have HBG := Lib.hid hbg
        obtain ⟨_, xa, xb, xc, xd⟩ := hbg
        have HVG := Lib.hid (fun wz (hb : Below wo.heap.size wo wz) => hvg.below hb)
        clear hb4 hn4 hw5 hng hvg
        go_region_with (first
          | ((with_reducible refine Calls.mono (HPW.out _ (HAMB.out _ (bel_chain hgm (bel_drewN (Below.refl _ _) 1)))) ?_); rintro e5 w5 ⟨v5, rfl, hv5, hb5⟩; obtain ⟨s5, A5, n5, c5, hve5, hvl5, _, _, _⟩ := hv5.parts; subst hve5; clear hvl5; have hbr := bel_chain (bel_drewN (Below.refl _ wo) 1) hb5; have HV5 := Lib.hid (HV.out.later hbr); obtain ⟨_, ya, yb, yc, yd⟩ := HBG.out.later hbr)
          | ((with_reducible refine Calls.mono (t3mul_any _ _ _ _ w5 (HVG.out _ hbr) hv5 (HNA.out) (HNP.out)) ?_); rintro e6 w6 ⟨v6, rfl, hv6, hb6⟩; obtain ⟨s6, A6, n6, c6, hve6, hvl6, _, _, _⟩ := hv6.parts; subst hve6; clear hvl6; have HV6 := Lib.hid (HV5.out.later hb6); obtain ⟨_, s'', A'', n'', c'', ⟨_, za, zb, zc, zd⟩, _⟩ := HV6.out.2.2.2.2.2.2.2; have HVV := Lib.hid hv6))
        all_goals
          go_wp2_with fail
          go_roundw
          case rel => exact ⟨i + 1, by omega, by go_num, Lib.hid (HS.out ▸ HV6.out.put6 HVV.out)⟩
          case measure => simp [intOf]; omega
end Go.Proofs.YtdjhngbpfdopnaaGreatDoor
