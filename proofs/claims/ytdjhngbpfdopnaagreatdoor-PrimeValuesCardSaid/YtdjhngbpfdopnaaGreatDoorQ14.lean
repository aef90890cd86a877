/- Greater text, out of: Q14. -/
import Derived.Test.YtdjhngbpfdopnaaGreatDoorQ13
import Derived.Test.YtdjhngbpfdopnaaGreatDoorT22
namespace Go.Proofs.YtdjhngbpfdopnaaGreatDoor
open Go.RowKit Go.PlainAid
attribute [local go_sem] field_whole0 field_whole1 field_rat0 field_rat1

theorem nz_pow9 (a : Nat) (n : Nat) : Lib.nDigits (a ^ n) ≤ Lib.nDigits a * n + 1 := by
  induction n with
  | zero => rw [Nat.pow_zero, Lib.nDigits_small (by omega)]; omega
  | succ n ih =>
    have h := nz_mul ((a ^ n : Nat) : Int) (a : Int)
    rw [← Int.natCast_mul, nz_nat, nz_nat, nz_nat] at h
    rw [Nat.pow_succ, Nat.mul_succ]; omega
theorem nz_powp {p a d : Nat} (hp : p ≤ 97) (ha : a ≤ d) : nz ((p ^ a : Nat) : Int) ≤ 2 * d + 1 := by
  have h1 : nz ((p ^ a : Nat) : Int) ≤ 2 * a + 1 := by
    rw [nz_nat]
    have h2 := nz_pow9 p a
    have h3 : Lib.nDigits p ≤ 2 := by
      have := (nz_le_iff (p : Int) 1).2 (by show p < 10 ^ 2; have e : (10 : Nat) ^ 2 = 100 := by decide
                                            omega)
      rw [nz_nat] at this
      exact this
    have h4 := Nat.mul_le_mul_right a h3
    omega
  omega
/-- The blocks of power: the result's, out, by. -/
def PwB (w : World) (g4 g5 g6 : Nat) (x y : Int) (wr : World) : Prop := Below w.heap.size w wr ∧ w.heap.size ≤ g4 ∧ g4 < g5 ∧ g5 < g6 ∧ Box2 wr g4 (.bool false) (.slice none 0 0) ∧ NoInt wr g4 ∧ HW wr g5 x ∧ HW wr g6 y
theorem PwB.later {w a b : World} {g4 g5 g6 : Nat} {x y : Int} (h : PwB w g4 g5 g6 x y a) (hb : Below a.heap.size a b) : PwB w g4 g5 g6 x y b :=
  ⟨bel_chain h.1 hb, h.2.1, h.2.2.1, h.2.2.2.1, h.2.2.2.2.1.later hb, h.2.2.2.2.2.1.later hb, h.2.2.2.2.2.2.1.later hb, h.2.2.2.2.2.2.2.later hb⟩
theorem PwB.put5 {w a : World} {g4 g5 g6 : Nat} {x y z : Int} {s : Bool} {A : Option Addr} {n c : Nat} (h : PwB w g4 g5 g6 x y a) (hv : W3 a (.agg #[.bool s, .slice A n c]) z) :
    PwB w g4 g5 g6 z y ((a.setCell ⟨g5, 0, none⟩ (.bool s)).setCell ⟨g5, 1, none⟩ (.slice A n c)) := by
  obtain ⟨h1, h2, h3, h4, h5, h6, h7, h8⟩ := h
  have hn5 := h7.1
  exact ⟨(h1.setCell (by show w.heap.size ≤ g5; omega) _).setCell (by show w.heap.size ≤ g5; omega) _, h2, h3, h4, (h5.far (by show g4 ≠ g5; omega) _).far (by show g4 ≠ g5; omega) _, (h6.setCell _ _).setCell _ _, h7.put hv, h8.far (by omega) hn5 _ _⟩
theorem PwB.put6 {w a : World} {g4 g5 g6 : Nat} {x y z : Int} {s : Bool} {A : Option Addr} {n c : Nat} (h : PwB w g4 g5 g6 x y a) (hv : W3 a (.agg #[.bool s, .slice A n c]) z) :
    PwB w g4 g5 g6 x z ((a.setCell ⟨g6, 0, none⟩ (.bool s)).setCell ⟨g6, 1, none⟩ (.slice A n c)) := by
  obtain ⟨h1, h2, h3, h4, h5, h6, h7, h8⟩ := h
  have hn6 := h8.1
  exact ⟨(h1.setCell (by show w.heap.size ≤ g6; omega) _).setCell (by show w.heap.size ≤ g6; omega) _, h2, h3, h4, (h5.far (by show g4 ≠ g6; omega) _).far (by show g4 ≠ g6; omega) _, (h6.setCell _ _).setCell _ _, h7.far (by omega) hn6 _ _, h8.put hv⟩
set_option maxRecDepth 100000 in
set_option maxHeartbeats 2000000 in
/-- schismalaw11.power. -/
theorem lpower_any (p e0 : Nat) (w : World) (hamb : Amb w) (hp2 : 2 ≤ p) (hp : p ≤ 97) (he : e0 ≤ 1300) :
    Calls Tryz.prog 45 #[.int .i64 (p : Int), .int .i64 (e0 : Int)] w (W3Post ((p ^ e0 : Nat) : Int) w) := by
  have HAMB := Lib.hid (fun wz (hb : Below w.heap.size w wz) => hamb.below hb)
  have HNZ := Lib.hid (fun (a : Nat) (ha : a ≤ 2 * e0 + 1) => show nz ((p ^ a : Nat) : Int) ≤ 1000000 from Nat.le_trans (nz_powp hp ha) (by omega))
  clear hamb
  go_enter Tryz.func45, Tryz.ntmps45
  go_wp2_with fail
  obtain ⟨W, hW⟩ : ∃ W, (w.alloc (.cells #[.bool false, .slice none 0 0] 73)) = W := ⟨_, rfl⟩
  rw [hW]
  have hx4 : Box2 W w.heap.size (.bool false) (.slice none 0 0) := hW ▸ Box2.new _ _ _ _
  have hn4 : NoInt W w.heap.size := hW ▸ NoInt.new w _ _ whole_ne_int
  have hbW : Below w.heap.size w W := hW ▸ (Below.refl _ _).alloc (Nat.le_refl _) _
  clear hW
  refine (t3of_any 1 _ (HAMB.out _ hbW) (by decide) (by decide)).mono ?_
  rintro e w1 ⟨v1, rfl, hv1, hb1⟩
  obtain ⟨s1, A1, n1, c1, hve1, hvl1, _, _, _⟩ := hv1.parts
  subst hve1
  clear hvl1
  have hx41 := hx4.later hb1
  have hn41 := hn4.later hb1
  have hz1 := bel_chain hbW hb1
  clear hx4 hn4 hbW hb1
  go_upto_region 2 with fail
  obtain ⟨Wb, hWb⟩ : ∃ W, (w1.alloc (.cells #[.bool s1, .slice A1 n1 c1] 73)) = W := ⟨_, rfl⟩
  obtain ⟨g5, hg5⟩ : ∃ g, w1.heap.size = g := ⟨_, rfl⟩
  have hw5 := HW.new hv1 hWb hg5
  have hbb : Below w1.heap.size w1 Wb := hWb ▸ (Below.refl _ _).alloc (Nat.le_refl _) _
  have hlt5 : w.heap.size < g5 := by have := hx41.1; omega
  rw [hWb, hg5]
  have hx42 := hx41.later hbb
  have hn42 := hn41.later hbb
  have hz2 := bel_chain hz1 hbb
  clear hWb hg5 hbb hx41 hn41 hz1 hv1
  go_wp2_with fail
  refine (t3of_any (p : Int) _ (HAMB.out _ hz2) (by omega) (by omega)).mono ?_
  rintro e w3 ⟨v3, rfl, hv3, hb3⟩
  obtain ⟨s3, A3, n3, c3, hve3, hvl3, _, _, _⟩ := hv3.parts
  subst hve3
  clear hvl3
  have hx43 := hx42.later hb3
  have hn43 := hn42.later hb3
  have hw53 := hw5.later hb3
  have hz3 := bel_chain hz2 hb3
  have hlt6 : g5 < w3.heap.size := hw53.2.choose_spec.choose_spec.choose_spec.choose_spec.1.1
  clear hx42 hn42 hz2 hw5 hb3
  go_wp2_with fail
  obtain ⟨Wc, hWc⟩ : ∃ W, (w3.alloc (.cells #[.bool s3, .slice A3 n3 c3] 73)) = W := ⟨_, rfl⟩
  obtain ⟨g6, hg6⟩ : ∃ g, w3.heap.size = g := ⟨_, rfl⟩
  have hw6 := HW.new hv3 hWc hg6
  have hbc : Below w3.heap.size w3 Wc := hWc ▸ (Below.refl _ _).alloc (Nat.le_refl _) _
  rw [hWc, hg6]
  rw [hg6] at hlt6
  have HST := Lib.hid (show PwB w w.heap.size g5 g6 1 (p : Int) Wc from ⟨bel_chain hz3 hbc, Nat.le_refl _, hlt5, hlt6, hx43.later hbc, hn43.later hbc, hw53.later hbc, hw6⟩)
  clear hWc hg6 hw6 hbc hx43 hn43 hw53 hz3 hlt6 hlt5 hv3
  go_loopw [1] (fun ve wr => ∃ E a b : Nat, ve = .int .i64 (E : Int) ∧ E ≤ 1300 ∧ Hid (a + b * E = e0) ∧ b ≤ 2 * e0 + 1 ∧ Hid (PwB w w.heap.size g5 g6 ((p ^ a : Nat) : Int) ((p ^ b : Nat) : Int) wr)) (fun ve _ => (intOf ve).toNat)
  case atStart => exact ⟨e0, 0, 1, rfl, he, Lib.hid (by omega), by omega, Lib.hid (by rw [Nat.pow_zero, Nat.pow_one]; exact HST.out)⟩
  case round =>
    obtain ⟨E, a, b, rfl, hE, HE, hb, HP⟩ := hrel
    by_cases hE0 : E = 0
    · have HA := Lib.hid (show a = e0 by have := HE.out; rw [hE0, Nat.mul_zero] at this; omega)
      have hlt : ¬ 0 < (E : Int) := by omega
      subst hE0
      obtain ⟨_, _, _, _, ⟨_, x40, x41, x42, x43⟩, _, ⟨_, sx, Ax, nx, cx, ⟨_, x50, x51, x52, x53⟩, hwx⟩, _⟩ := HP.out
      have HWX := Lib.hid hwx
      clear hwx
      go_wp2_with fail
      refine ret_cell rfl rfl (load_whole (g := w.heap.size) ((HP.out.2.2.2.2.1.set0 _).set1 _)) rfl ?_
      refine ⟨_, rfl, ?_, ?_⟩
      · rw [← HA.out]; exact HWX.out.store2 HP.out.2.2.2.2.2.1 _ _
      · exact (HP.out.1.setCell (by show w.heap.size ≤ w.heap.size; omega) _).setCell (by show w.heap.size ≤ w.heap.size; omega) _
    · have hlt : 0 < (E : Int) := by omega
      have hbe : b ≤ e0 := by
        have h1 := HE.out
        have h2 : b * 1 ≤ b * E := Nat.mul_le_mul_left _ (by omega)
        omega
      have hae : a ≤ e0 := by have := HE.out; omega
      have hte : (E : Int).tmod 2 = ((E % 2 : Nat) : Int) := by rw [Int.tmod_eq_emod_of_nonneg (by omega)]; omega
      have htq : (E : Int).tdiv 2 = ((E / 2 : Nat) : Int) := by rw [Int.tdiv_eq_ediv_of_nonneg (by omega)]; omega
      obtain ⟨h, hh⟩ : ∃ h, E / 2 = h := ⟨_, rfl⟩
      rw [hh] at htq
      have hh1 : h < E := by omega
      rcases (show E % 2 = 0 ∨ E % 2 = 1 by omega) with h2 | h2
      · rw [h2] at hte
        have HE2 := Lib.hid (show a + (b + b) * h = e0 by
          have h1 := HE.out
          have e1 : E = h + h := by omega
          rw [e1, Nat.mul_add] at h1
          rw [Nat.add_mul]; omega)
        obtain ⟨_, _, _, _, _, _, _, ⟨_, sy, Ay, ny, cy, ⟨_, x60, x61, x62, x63⟩, hwy⟩⟩ := HP.out
        have HM := Lib.hid (t3mul_any _ _ _ _ wr hwy hwy (HNZ.out b hb) (HNZ.out b hb))
        rw [← Int.natCast_mul, ← Nat.pow_add] at HM
        clear hwy hh h2
        go_wp2_with fail
        refine HM.out.mono ?_
        rintro e w5 ⟨v5, rfl, hv5, hb5⟩
        obtain ⟨s5, A5, n5, c5, hve5, hvl5, _, _, _⟩ := hv5.parts
        subst hve5
        clear hvl5
        have HP5 := Lib.hid (HP.out.later hb5)
        have HV5 := Lib.hid hv5
        obtain ⟨_, _, _, _, _, _, _, ⟨_, sz, Az, nz', cz, ⟨_, y60, y61, y62, y63⟩, _⟩⟩ := HP5.out
        clear hb5 hv5 x60 x61 x62 x63
        go_wp2_with fail
        go_roundw
        case rel => exact ⟨h, a, b + b, by go_num, by omega, HE2, by omega, Lib.hid (HP5.out.put6 HV5.out)⟩
        case measure => simp [intOf]; omega
      · rw [h2] at hte
        have HE2 := Lib.hid (show a + b + (b + b) * h = e0 by
          have h1 := HE.out
          have e1 : E = h + h + 1 := by omega
          rw [e1, Nat.mul_add, Nat.mul_add, Nat.mul_one] at h1
          rw [Nat.add_mul]; omega)
        have hab : a + b ≤ e0 := by have := HE2.out; omega
        obtain ⟨_, _, _, _, _, _, ⟨_, sx, Ax, nx, cx, ⟨_, x50, x51, x52, x53⟩, hwx⟩, ⟨_, sy, Ay, ny, cy, ⟨_, x60, x61, x62, x63⟩, hwy⟩⟩ := HP.out
        have HM := Lib.hid (t3mul_any _ _ _ _ wr hwx hwy (HNZ.out a (by omega)) (HNZ.out b hb))
        rw [← Int.natCast_mul, ← Nat.pow_add] at HM
        clear hwx hwy hh h2
        go_wp2_with fail
        refine HM.out.mono ?_
        rintro e w5 ⟨v5, rfl, hv5, hb5⟩
        obtain ⟨s5, A5, n5, c5, hve5, hvl5, _, _, _⟩ := hv5.parts
        subst hve5
        clear hvl5
        have HP5 := Lib.hid (HP.out.later hb5)
        have HV5 := Lib.hid hv5
        obtain ⟨_, _, _, _, _, _, ⟨_, s5', A5', n5', c5', ⟨_, y50, y51, y52, y53⟩, _⟩, _⟩ := HP5.out
        clear hb5 hv5 x50 x51 x52 x53 x60 x61 x62 x63
        go_upto_region 7 with fail
        obtain ⟨w6, hw6⟩ : ∃ W, ((w5.setCell ⟨g5, 0, none⟩ (.bool s5)).setCell ⟨g5, 1, none⟩ (.slice A5 n5 c5)) = W := ⟨_, rfl⟩
        have HP6 := Lib.hid (hw6 ▸ HP5.out.put5 HV5.out)
        rw [hw6]
        clear hw6 y50 y51 y52 y53
        obtain ⟨_, _, _, _, _, _, _, ⟨_, sz, Az, nz', cz, ⟨_, y60, y61, y62, y63⟩, hwz⟩⟩ := HP6.out
        have HM2 := Lib.hid (t3mul_any _ _ _ _ w6 hwz hwz (HNZ.out b hb) (HNZ.out b hb))
        rw [← Int.natCast_mul, ← Nat.pow_add] at HM2
        clear hwz
        go_wp2_with fail
        refine HM2.out.mono ?_
        rintro e w7 ⟨v7, rfl, hv7, hb7⟩
        obtain ⟨s7, A7, n7, c7, hve7, hvl7, _, _, _⟩ := hv7.parts
        subst hve7
        clear hvl7
        have HP7 := Lib.hid (HP6.out.later hb7)
        have HV7 := Lib.hid hv7
        obtain ⟨_, _, _, _, _, _, _, ⟨_, su, Au, nu, cu, ⟨_, z60, z61, z62, z63⟩, _⟩⟩ := HP7.out
        clear hb7 hv7 y60 y61 y62 y63
        go_wp2_with fail
        go_roundw
        case rel => exact ⟨h, a + b, b + b, by go_num, by omega, HE2, by omega, Lib.hid (HP7.out.put6 HV7.out)⟩
        case measure => simp [intOf]; omega
end Go.Proofs.YtdjhngbpfdopnaaGreatDoor
