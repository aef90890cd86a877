/- Greater text, out of: T22. -/
import Derived.Test.YtdjhngbpfdopnaaGreatDoorGw
import Derived.Test.YtdjhngbpfdopnaaGreatDoorGm
import Derived.Test.YtdjhngbpfdopnaaGreatDoorI3
namespace Go.Proofs.YtdjhngbpfdopnaaGreatDoor
open Go.RowKit Go.PlainAid
attribute [local go_sem] field_whole0 field_whole1 field_rat0 field_rat1

theorem rat_ne_int : 27 ≠ 3 := by decide
/-- A block of an integer's. -/
def HW (w : World) (g : Nat) (x : Int) : Prop := NoInt w g ∧ ∃ s A n c, Box2 w g (.bool s) (.slice A n c) ∧ W3 w (.agg #[.bool s, .slice A n c]) x
theorem HW.later {w w' : World} {g : Nat} {x : Int} (h : HW w g x) (hb : Below w.heap.size w w') : HW w' g x := by
  obtain ⟨hn, s, A, n, c, hx, hv⟩ := h
  exact ⟨hn.later hb, s, A, n, c, hx.later hb, hv.below hb⟩
theorem HW.far {w : World} {g g' : Nat} {x : Int} (h : HW w g x) (hne : g ≠ g') (hn : NoInt w g') (u v : Value) : HW ((w.setCell ⟨g', 0, none⟩ u).setCell ⟨g', 1, none⟩ v) g x := by
  obtain ⟨hg, s, A, n, c, hx, hv⟩ := h
  exact ⟨(hg.setCell _ _).setCell _ _, s, A, n, c, (hx.far hne _).far hne _, hv.store2 hn _ _⟩
theorem HW.put {w : World} {g : Nat} {x y : Int} (h : HW w g x) {s : Bool} {A : Option Addr} {n c : Nat} (hv : W3 w (.agg #[.bool s, .slice A n c]) y) : HW ((w.setCell ⟨g, 0, none⟩ (.bool s)).setCell ⟨g, 1, none⟩ (.slice A n c)) g y := by
  obtain ⟨hg, _, _, _, _, hx, _⟩ := h
  exact ⟨(hg.setCell _ _).setCell _ _, s, A, n, c, (hx.set0 _).set1 _, hv.store2 hg _ _⟩
theorem HW.new {w w' : World} {g : Nat} {x : Int} {s : Bool} {A : Option Addr} {n c : Nat} (hv : W3 w (.agg #[.bool s, .slice A n c]) x) (hw : w.alloc (.cells #[.bool s, .slice A n c] 73) = w') (hg : w.heap.size = g) : HW w' g x := by
  subst hw; subst hg
  exact ⟨NoInt.new w _ _ whole_ne_int, s, A, n, c, Box2.new _ _ _ _, hv.below ((Below.refl _ _).alloc (Nat.le_refl _) _)⟩
/-- The result's block. -/
def P0 (w wx : World) : Prop := Below w.heap.size w wx ∧ Box2 wx w.heap.size (.string ⟨#[]⟩) (.string ⟨#[]⟩) ∧ NoInt wx w.heap.size
theorem P0.start {w W : World} (h : w.alloc (.cells #[.string ⟨#[]⟩, .string ⟨#[]⟩] 27) = W) : P0 w W := by
  subst h
  exact ⟨(Below.refl _ _).alloc (Nat.le_refl _) _, Box2.new _ _ _ _, NoInt.new w _ _ rat_ne_int⟩
theorem P0.later {w a b : World} (h : P0 w a) (hb : Below a.heap.size a b) : P0 w b := ⟨bel_chain h.1 hb, h.2.1.later hb, h.2.2.later hb⟩
theorem P0.lt {w a : World} (h : P0 w a) : w.heap.size < a.heap.size := h.2.1.1
theorem P0.far {w a : World} {g : Nat} (h : P0 w a) (hg : w.heap.size < g) (u v : Value) : P0 w ((a.setCell ⟨g, 0, none⟩ u).setCell ⟨g, 1, none⟩ v) :=
  ⟨(h.1.setCell (by show w.heap.size ≤ g; omega) _).setCell (by show w.heap.size ≤ g; omega) _, (h.2.1.far (by show w.heap.size ≠ g; omega) _).far (by show w.heap.size ≠ g; omega) _, (h.2.2.setCell _ _).setCell _ _⟩
/-- The denominator's block beside it; the numerator's. -/
def P1 (w : World) (g8 : Nat) (x8 : Int) (wx : World) : Prop := P0 w wx ∧ w.heap.size < g8 ∧ HW wx g8 x8
def P2 (w : World) (g8 g9 : Nat) (x8 x9 : Int) (wx : World) : Prop := P1 w g8 x8 wx ∧ g8 < g9 ∧ HW wx g9 x9
theorem P1.later {w a b : World} {g8 : Nat} {x8 : Int} (h : P1 w g8 x8 a) (hb : Below a.heap.size a b) : P1 w g8 x8 b := ⟨h.1.later hb, h.2.1, h.2.2.later hb⟩
theorem P2.later {w a b : World} {g8 g9 : Nat} {x8 x9 : Int} (h : P2 w g8 g9 x8 x9 a) (hb : Below a.heap.size a b) : P2 w g8 g9 x8 x9 b := ⟨h.1.later hb, h.2.1, h.2.2.later hb⟩
theorem P0.next {w a b : World} {g8 : Nat} {x : Int} {s : Bool} {A : Option Addr} {n c : Nat} (h : P0 w a) (hv : W3 a (.agg #[.bool s, .slice A n c]) x) (hw : a.alloc (.cells #[.bool s, .slice A n c] 73) = b) (hg : a.heap.size = g8) : P1 w g8 x b :=
  ⟨h.later (by subst hw; exact (Below.refl _ _).alloc (Nat.le_refl _) _), by have := h.lt; omega, HW.new hv hw hg⟩
theorem P1.next {w a b : World} {g8 g9 : Nat} {x8 x : Int} {s : Bool} {A : Option Addr} {n c : Nat} (h : P1 w g8 x8 a) (hv : W3 a (.agg #[.bool s, .slice A n c]) x) (hw : a.alloc (.cells #[.bool s, .slice A n c] 73) = b) (hg : a.heap.size = g9) : P2 w g8 g9 x8 x b :=
  ⟨h.later (by subst hw; exact (Below.refl _ _).alloc (Nat.le_refl _) _), by
    obtain ⟨_, _, _, _, _, hx, _⟩ := h.2.2
    have := hx.1; omega, HW.new hv hw hg⟩
theorem P2.put8 {w a : World} {g8 g9 : Nat} {x8 x9 y : Int} {s : Bool} {A : Option Addr} {n c : Nat} (h : P2 w g8 g9 x8 x9 a) (hv : W3 a (.agg #[.bool s, .slice A n c]) y) : P2 w g8 g9 y x9 ((a.setCell ⟨g8, 0, none⟩ (.bool s)).setCell ⟨g8, 1, none⟩ (.slice A n c)) :=
  ⟨⟨h.1.1.far h.1.2.1 _ _, h.1.2.1, h.1.2.2.put hv⟩, h.2.1, h.2.2.far (by have := h.2.1; omega) h.1.2.2.1 _ _⟩
theorem P2.put9 {w a : World} {g8 g9 : Nat} {x8 x9 y : Int} {s : Bool} {A : Option Addr} {n c : Nat} (h : P2 w g8 g9 x8 x9 a) (hv : W3 a (.agg #[.bool s, .slice A n c]) y) : P2 w g8 g9 x8 y ((a.setCell ⟨g9, 0, none⟩ (.bool s)).setCell ⟨g9, 1, none⟩ (.slice A n c)) :=
  ⟨⟨h.1.1.far (by have := h.1.2.1; have := h.2.1; omega) _ _, h.1.2.1, h.1.2.2.far (by have := h.2.1; omega) h.2.2.1 _ _⟩, h.2.1, h.2.2.put hv⟩
set_option maxRecDepth 100000 in
set_option maxHeartbeats 4000000 in
theorem t3parse_n0 (s t : ByteArray) (m : List UInt8) (w : World) (hamb : Amb w) (hs : s.size ≤ 400)
    (HTP : Hid (∀ w, Calls Tryz.prog 66 #[.string s, .string ⟨#[45]⟩] w (fun e w' => e = .returned (.string t) ∧ w' = w))) (htm : t.data.toList = m) (hts : t.size ≤ s.size) (HIX : Hid (∀ w, Calls Tryz.prog 62 #[.string t, .string ⟨#[47, 46]⟩] w (SmallRes (.int .i64 (-1)) w))) (hd : digs m = false) :
    Calls Tryz.prog 15 #[.string s] w (SmallRes (.tuple #[noRat, .int .i64 15]) w) := by
  have HTM := Lib.hid htm
  have h4i : ¬ (400 : Int) < (s.size : Int) := by omega
  have hsz : t.size ≤ 1000000 := by omega
  have HAMB := Lib.hid hamb
  have HDG := Lib.hid (fun w => show Calls _ _ _ w (SmallRes (.bool false) w) from hd ▸ t3digits_any t m w htm hsz)
  clear htm hd
  clear hamb
  go_enter Tryz.func15, Tryz.ntmps15
  go_wp2_with fail
  obtain ⟨W, hW⟩ : ∃ W, (w.alloc (.cells #[.string ⟨#[]⟩, .string ⟨#[]⟩] 27)) = W := ⟨_, rfl⟩
  rw [hW]
  have p1 := P0.start hW
  clear hW
  refine (HTP.out _).mono ?_
  rintro e w1 ⟨rfl, rfl⟩
  have q1 := Lib.hid p1
  clear p1
  go_wp2_with fail
  refine (HIX.out _).mono ?_
  rintro e w2 ⟨rfl, hb2⟩
  have q2 := Lib.hid (q1.out.later hb2)
  clear hb2
  go_wp2_with fail
  refine (t3of_any 1 _ (HAMB.out.below q2.out.1) (by decide) (by decide)).mono ?_
  rintro e w3 ⟨v3, rfl, hv3, hb3⟩
  obtain ⟨s3, A3, n3, c3, hve3, hvl3, _, _, _⟩ := hv3.parts
  subst hve3
  clear hvl3
  have q3 := Lib.hid (q2.out.later hb3)
  have HV3 := Lib.hid hv3
  clear hb3 hv3
  go_upto_region 6 with fail
  obtain ⟨w4, hw4⟩ : ∃ W, (w3.alloc (.cells #[.bool s3, .slice A3 n3 c3] 73)) = W := ⟨_, rfl⟩
  obtain ⟨g8, hg8⟩ : ∃ g, w3.heap.size = g := ⟨_, rfl⟩
  have q4 := Lib.hid (q3.out.next HV3.out hw4 hg8)
  rw [hw4, hg8]
  clear hw4 hg8
  go_wp2_with fail
  refine (HDG.out _).mono ?_
  rintro e w5 ⟨rfl, hb5⟩
  have q5 := Lib.hid (q4.out.later hb5)
  clear hb5
  obtain ⟨_, ra5, rb5, rc5, rd5⟩ := (q5.out.1).2.1
  go_wp2_with fail
  refine ret_cell_tmp rfl rfl (load_rat (g := w.heap.size) (((q5.out.1).2.1.set0 _).set1 _)) rfl ?_
  exact ⟨rfl, ((q5.out.1).1.setCell (Nat.le_refl _) _).setCell (Nat.le_refl _) _⟩

set_option maxRecDepth 100000 in
set_option maxHeartbeats 4000000 in
theorem t3parse_n10 (s t : ByteArray) (m : List UInt8) (w : World) (hamb : Amb w) (hs : s.size ≤ 400)
    (HTP : Hid (∀ w, Calls Tryz.prog 66 #[.string s, .string ⟨#[45]⟩] w (fun e w' => e = .returned (.string t) ∧ w' = w))) (htm : t.data.toList = m) (hts : t.size ≤ s.size) (HIX : Hid (∀ w, Calls Tryz.prog 62 #[.string t, .string ⟨#[47, 46]⟩] w (SmallRes (.int .i64 (-1)) w))) (hd : digs m = true) (hs5 : t.size ≤ 100000) (Q : Rat) (hsg : t.size = s.size) (hpos : 0 < (1 : Int)) (hQ : Rat.divInt ((val m : Nat) : Int) (1 : Int) = Q) (hn9 : nz ((val m : Nat) : Int) ≤ 90000) (hn8 : nz (1 : Int) ≤ 90000) :
    Calls Tryz.prog 15 #[.string s] w (SmallRes (.tuple #[rv Q, .int .i64 0]) w) := by
  have HTM := Lib.hid htm
  have h4i : ¬ (400 : Int) < (s.size : Int) := by omega
  have hsz : t.size ≤ 1000000 := by omega
  have HAMB := Lib.hid hamb
  have HDG := Lib.hid (fun w => show Calls _ _ _ w (SmallRes (.bool true) w) from hd ▸ t3digits_any t m w htm hsz)
  have HNU := Lib.hid (fun w => t3number_any t m w htm hd hs5)
  have HSG := Lib.hid (show ((1 : Int) : Int).sign = 1 from Int.sign_eq_one_of_pos hpos)
  have HQ0 := Lib.hid (show ((1 : Int) : Int) ≠ 0 by omega)
  have HQ := Lib.hid (show Rat.divInt ((val m : Nat) : Int) (1 : Int) = Q from hQ)
  have HN9 := Lib.hid (show nz ((val m : Nat) : Int) ≤ 90000 by exact hn9)
  have HN8 := Lib.hid hn8
  have hlt : ¬ (t.size : Int) < (s.size : Int) := by omega
  clear hpos hQ hn9 hn8 hsg
  clear htm hd hs5
  clear hamb
  go_enter Tryz.func15, Tryz.ntmps15
  go_wp2_with fail
  obtain ⟨W, hW⟩ : ∃ W, (w.alloc (.cells #[.string ⟨#[]⟩, .string ⟨#[]⟩] 27)) = W := ⟨_, rfl⟩
  rw [hW]
  have p1 := P0.start hW
  clear hW
  refine (HTP.out _).mono ?_
  rintro e w1 ⟨rfl, rfl⟩
  have q1 := Lib.hid p1
  clear p1
  go_wp2_with fail
  refine (HIX.out _).mono ?_
  rintro e w2 ⟨rfl, hb2⟩
  have q2 := Lib.hid (q1.out.later hb2)
  clear hb2
  go_wp2_with fail
  refine (t3of_any 1 _ (HAMB.out.below q2.out.1) (by decide) (by decide)).mono ?_
  rintro e w3 ⟨v3, rfl, hv3, hb3⟩
  obtain ⟨s3, A3, n3, c3, hve3, hvl3, _, _, _⟩ := hv3.parts
  subst hve3
  clear hvl3
  have q3 := Lib.hid (q2.out.later hb3)
  have HV3 := Lib.hid hv3
  clear hb3 hv3
  go_upto_region 6 with fail
  obtain ⟨w4, hw4⟩ : ∃ W, (w3.alloc (.cells #[.bool s3, .slice A3 n3 c3] 73)) = W := ⟨_, rfl⟩
  obtain ⟨g8, hg8⟩ : ∃ g, w3.heap.size = g := ⟨_, rfl⟩
  have q4 := Lib.hid (q3.out.next HV3.out hw4 hg8)
  rw [hw4, hg8]
  clear hw4 hg8
  go_wp2_with fail
  refine (HDG.out _).mono ?_
  rintro e w5 ⟨rfl, hb5⟩
  have q5 := Lib.hid (q4.out.later hb5)
  clear hb5
  go_wp2_with fail
  refine (HNU.out _).mono ?_
  rintro e w6 ⟨v6, rfl, hv6, hb6⟩
  obtain ⟨s6, A6, n6, c6, hve6, hvl6, _, _, _⟩ := hv6.parts
  subst hve6
  clear hvl6
  have q6 := Lib.hid (q5.out.later hb6)
  have HV6 := Lib.hid hv6
  clear hb6 hv6
  go_upto_region 11 with fail
  obtain ⟨w7, hw7⟩ : ∃ W, (w6.alloc (.cells #[.bool s6, .slice A6 n6 c6] 73)) = W := ⟨_, rfl⟩
  obtain ⟨g9, hg9⟩ : ∃ g, w6.heap.size = g := ⟨_, rfl⟩
  have q7 := Lib.hid (q6.out.next HV6.out hw7 hg9)
  rw [hw7, hg9]
  clear hw7 hg9
  obtain ⟨_, b87, B87, m87, k87, ⟨_, ca87, cb87, cc87, cd87⟩, hw87⟩ := q7.out.1.2.2
  go_wp2_with fail
  refine (show Calls _ _ _ _ (SmallRes (.int .i64 1) _) from HSG.out ▸ t3sign_any _ (1 : Int) w7 hw87).mono ?_
  rintro e w8 ⟨rfl, hb8⟩
  have q8 := Lib.hid (q7.out.later hb8)
  clear hb8
  obtain ⟨_, b98, B98, m98, k98, ⟨_, ca98, cb98, cc98, cd98⟩, hw98⟩ := q8.out.2.2
  obtain ⟨_, b88, B88, m88, k88, ⟨_, ca88, cb88, cc88, cd88⟩, hw88⟩ := q8.out.1.2.2
  go_wp2_with fail
  refine (t3make_eq _ _ ((val m : Nat) : Int) (1 : Int) w8 (HAMB.out.below q8.out.1.1.1) hw98 hw88 HQ0.out HN9.out HN8.out HQ.out).mono ?_
  rintro e w9 ⟨rfl, hb9⟩
  have q9 := Lib.hid (q8.out.later hb9)
  clear hb9
  obtain ⟨_, ra9, rb9, rc9, rd9⟩ := (q9.out.1.1).2.1
  go_wp2_with fail
  refine ret_cell_tmp rfl rfl (load_rat (g := w.heap.size) (((q9.out.1.1).2.1.set0 _).set1 _)) rfl ?_
  exact ⟨rfl, ((q9.out.1.1).1.setCell (Nat.le_refl _) _).setCell (Nat.le_refl _) _⟩

set_option maxRecDepth 100000 in
set_option maxHeartbeats 4000000 in
theorem t3parse_n11 (s t : ByteArray) (m : List UInt8) (w : World) (hamb : Amb w) (hs : s.size ≤ 400)
    (HTP : Hid (∀ w, Calls Tryz.prog 66 #[.string s, .string ⟨#[45]⟩] w (fun e w' => e = .returned (.string t) ∧ w' = w))) (htm : t.data.toList = m) (_hts : t.size ≤ s.size) (HIX : Hid (∀ w, Calls Tryz.prog 62 #[.string t, .string ⟨#[47, 46]⟩] w (SmallRes (.int .i64 (-1)) w))) (hd : digs m = true) (hs5 : t.size ≤ 100000) (Q : Rat) (hsg : t.size + 1 = s.size) (hpos : 0 < (1 : Int)) (hQ : Rat.divInt (-((val m : Nat) : Int)) (1 : Int) = Q) (hn9 : nz ((val m : Nat) : Int) ≤ 90000) (hn8 : nz (1 : Int) ≤ 90000) :
    Calls Tryz.prog 15 #[.string s] w (SmallRes (.tuple #[rv Q, .int .i64 0]) w) := by
  have HTM := Lib.hid htm
  have h4i : ¬ (400 : Int) < (s.size : Int) := by omega
  have hsz : t.size ≤ 1000000 := by omega
  have HAMB := Lib.hid hamb
  have HDG := Lib.hid (fun w => show Calls _ _ _ w (SmallRes (.bool true) w) from hd ▸ t3digits_any t m w htm hsz)
  have HNU := Lib.hid (fun w => t3number_any t m w htm hd hs5)
  have HSG := Lib.hid (show ((1 : Int) : Int).sign = 1 from Int.sign_eq_one_of_pos hpos)
  have HQ0 := Lib.hid (show ((1 : Int) : Int) ≠ 0 by omega)
  have HQ := Lib.hid (show Rat.divInt (-((val m : Nat) : Int)) (1 : Int) = Q from hQ)
  have HN9 := Lib.hid (show nz (-((val m : Nat) : Int)) ≤ 90000 by rw [nz_neg]; exact hn9)
  have HN8 := Lib.hid hn8
  have hlt : (t.size : Int) < (s.size : Int) := by omega
  clear hpos hQ hn9 hn8 hsg
  clear htm hd hs5
  clear hamb
  go_enter Tryz.func15, Tryz.ntmps15
  go_wp2_with fail
  obtain ⟨W, hW⟩ : ∃ W, (w.alloc (.cells #[.string ⟨#[]⟩, .string ⟨#[]⟩] 27)) = W := ⟨_, rfl⟩
  rw [hW]
  have p1 := P0.start hW
  clear hW
  refine (HTP.out _).mono ?_
  rintro e w1 ⟨rfl, rfl⟩
  have q1 := Lib.hid p1
  clear p1
  go_wp2_with fail
  refine (HIX.out _).mono ?_
  rintro e w2 ⟨rfl, hb2⟩
  have q2 := Lib.hid (q1.out.later hb2)
  clear hb2
  go_wp2_with fail
  refine (t3of_any 1 _ (HAMB.out.below q2.out.1) (by decide) (by decide)).mono ?_
  rintro e w3 ⟨v3, rfl, hv3, hb3⟩
  obtain ⟨s3, A3, n3, c3, hve3, hvl3, _, _, _⟩ := hv3.parts
  subst hve3
  clear hvl3
  have q3 := Lib.hid (q2.out.later hb3)
  have HV3 := Lib.hid hv3
  clear hb3 hv3
  go_upto_region 6 with fail
  obtain ⟨w4, hw4⟩ : ∃ W, (w3.alloc (.cells #[.bool s3, .slice A3 n3 c3] 73)) = W := ⟨_, rfl⟩
  obtain ⟨g8, hg8⟩ : ∃ g, w3.heap.size = g := ⟨_, rfl⟩
  have q4 := Lib.hid (q3.out.next HV3.out hw4 hg8)
  rw [hw4, hg8]
  clear hw4 hg8
  go_wp2_with fail
  refine (HDG.out _).mono ?_
  rintro e w5 ⟨rfl, hb5⟩
  have q5 := Lib.hid (q4.out.later hb5)
  clear hb5
  go_wp2_with fail
  refine (HNU.out _).mono ?_
  rintro e w6 ⟨v6, rfl, hv6, hb6⟩
  obtain ⟨s6, A6, n6, c6, hve6, hvl6, _, _, _⟩ := hv6.parts
  subst hve6
  clear hvl6
  have q6 := Lib.hid (q5.out.later hb6)
  have HV6 := Lib.hid hv6
  clear hb6 hv6
  go_upto_region 11 with fail
  obtain ⟨w7, hw7⟩ : ∃ W, (w6.alloc (.cells #[.bool s6, .slice A6 n6 c6] 73)) = W := ⟨_, rfl⟩
  obtain ⟨g9, hg9⟩ : ∃ g, w6.heap.size = g := ⟨_, rfl⟩
  have q7 := Lib.hid (q6.out.next HV6.out hw7 hg9)
  rw [hw7, hg9]
  clear hw7 hg9
  obtain ⟨_, b87, B87, m87, k87, ⟨_, ca87, cb87, cc87, cd87⟩, hw87⟩ := q7.out.1.2.2
  go_wp2_with fail
  refine (show Calls _ _ _ _ (SmallRes (.int .i64 1) _) from HSG.out ▸ t3sign_any _ (1 : Int) w7 hw87).mono ?_
  rintro e w8 ⟨rfl, hb8⟩
  have q8 := Lib.hid (q7.out.later hb8)
  clear hb8
  obtain ⟨_, b98, B98, m98, k98, ⟨_, ca98, cb98, cc98, cd98⟩, hw98⟩ := q8.out.2.2
  go_wp2_with fail
  refine (t3neg_any _ ((val m : Nat) : Int) w8 hw98).mono ?_
  rintro e w9 ⟨v9, rfl, hv9, hb9⟩
  obtain ⟨s9, A9, n9, c9, hve9, hvl9, _, _, _⟩ := hv9.parts
  subst hve9
  clear hvl9
  have q9 := Lib.hid (q8.out.later hb9)
  have HV9 := Lib.hid hv9
  clear hb9 hv9
  obtain ⟨_, b99, B99, m99, k99, ⟨_, ca99, cb99, cc99, cd99⟩, hw99⟩ := q9.out.2.2
  go_upto_region 19 with fail
  obtain ⟨w10, hw10⟩ : ∃ W, ((w9.setCell ⟨g9, 0, none⟩ (.bool s9)).setCell ⟨g9, 1, none⟩ (.slice A9 n9 c9)) = W := ⟨_, rfl⟩
  have q10 := Lib.hid (hw10 ▸ q9.out.put9 HV9.out)
  rw [hw10]
  clear hw10
  obtain ⟨_, b910, B910, m910, k910, ⟨_, ca910, cb910, cc910, cd910⟩, hw910⟩ := q10.out.2.2
  obtain ⟨_, b810, B810, m810, k810, ⟨_, ca810, cb810, cc810, cd810⟩, hw810⟩ := q10.out.1.2.2
  go_wp2_with fail
  refine (t3make_eq _ _ (-((val m : Nat) : Int)) (1 : Int) w10 (HAMB.out.below q10.out.1.1.1) hw910 hw810 HQ0.out HN9.out HN8.out HQ.out).mono ?_
  rintro e w11 ⟨rfl, hb11⟩
  have q11 := Lib.hid (q10.out.later hb11)
  clear hb11
  obtain ⟨_, ra11, rb11, rc11, rd11⟩ := (q11.out.1.1).2.1
  go_wp2_with fail
  refine ret_cell_tmp rfl rfl (load_rat (g := w.heap.size) (((q11.out.1.1).2.1.set0 _).set1 _)) rfl ?_
  exact ⟨rfl, ((q11.out.1.1).1.setCell (Nat.le_refl _) _).setCell (Nat.le_refl _) _⟩

set_option maxRecDepth 100000 in
set_option maxHeartbeats 4000000 in
theorem t3parse_k0 (s t : ByteArray) (m : List UInt8) (w : World) (hamb : Amb w) (hs : s.size ≤ 400)
    (HTP : Hid (∀ w, Calls Tryz.prog 66 #[.string s, .string ⟨#[45]⟩] w (fun e w' => e = .returned (.string t) ∧ w' = w))) (htm : t.data.toList = m) (hts : t.size ≤ s.size) (k : Nat) (hk : k < t.size) (HIX : Hid (∀ w, Calls Tryz.prog 62 #[.string t, .string ⟨#[47, 46]⟩] w (SmallRes (.int .i64 (k : Int)) w))) (hd : digs (m.take k) = false) :
    Calls Tryz.prog 15 #[.string s] w (SmallRes (.tuple #[noRat, .int .i64 15]) w) := by
  have HTM := Lib.hid htm
  have h4i : ¬ (400 : Int) < (s.size : Int) := by omega
  have hsz : t.size ≤ 1000000 := by omega
  have HAMB := Lib.hid hamb
  obtain ⟨a, ha⟩ : ∃ a, t.extract 0 k = a := ⟨_, rfl⟩
  obtain ⟨b, hbb⟩ : ∃ b, t.extract (k + 1) t.size = b := ⟨_, rfl⟩
  have hx1 : a.data.toList = m.take k := by rw [← ha, extract_list, htm]; simp
  have hx2 : b.data.toList = m.drop (k + 1) := by rw [← hbb, extract_list, htm, List.take_of_length_le (by rw [← htm, str_size]; exact Nat.le_refl _)]
  have hl1 : a.size = k := by rw [← str_size, hx1, List.length_take, ← htm, str_size]; omega
  have hl2 : b.size = t.size - (k + 1) := by rw [← str_size, hx2, List.length_drop, ← htm, str_size]
  have hk1 : (k : Int) < (t.size : Int) := by omega
  have hwk : IntKind.i64.wrap ((k : Int) + 1) = (k : Int) + 1 := IntWalk.i64_in _ (by omega)
  have hwk0 : (0 : Int) ≤ (k : Int) + 1 := by omega
  have hwkn : ((k : Int) + 1).toNat = k + 1 := by omega
  have hk2 : (k : Int) + 1 ≤ (t.size : Int) := by omega
  have hk3 : (0 : Int) ≤ (k : Int) := by omega
  have hk4 : (k : Int) ≤ (t.size : Int) := by omega
  have HDA := Lib.hid (fun w => show Calls _ _ _ w (SmallRes (.bool false) w) from hd ▸ t3digits_any a (m.take k) w hx1 (by omega))
  clear htm hd hx1 hx2 hl1 hl2 hk
  clear hamb
  go_enter Tryz.func15, Tryz.ntmps15
  go_wp2_with fail
  obtain ⟨W, hW⟩ : ∃ W, (w.alloc (.cells #[.string ⟨#[]⟩, .string ⟨#[]⟩] 27)) = W := ⟨_, rfl⟩
  rw [hW]
  have p1 := P0.start hW
  clear hW
  refine (HTP.out _).mono ?_
  rintro e w1 ⟨rfl, rfl⟩
  have q1 := Lib.hid p1
  clear p1
  go_wp2_with fail
  refine (HIX.out _).mono ?_
  rintro e w2 ⟨rfl, hb2⟩
  have q2 := Lib.hid (q1.out.later hb2)
  clear hb2
  go_wp2_with fail
  refine (t3of_any 1 _ (HAMB.out.below q2.out.1) (by decide) (by decide)).mono ?_
  rintro e w3 ⟨v3, rfl, hv3, hb3⟩
  obtain ⟨s3, A3, n3, c3, hve3, hvl3, _, _, _⟩ := hv3.parts
  subst hve3
  clear hvl3
  have q3 := Lib.hid (q2.out.later hb3)
  have HV3 := Lib.hid hv3
  clear hb3 hv3
  go_upto_region 6 with fail
  obtain ⟨w4, hw4⟩ : ∃ W, (w3.alloc (.cells #[.bool s3, .slice A3 n3 c3] 73)) = W := ⟨_, rfl⟩
  obtain ⟨g8, hg8⟩ : ∃ g, w3.heap.size = g := ⟨_, rfl⟩
  have q4 := Lib.hid (q3.out.next HV3.out hw4 hg8)
  rw [hw4, hg8]
  clear hw4 hg8
  go_wp2_with fail
  go_region_with fail
  go_wp2_with fail
  have q4d := Lib.hid (q4.out.later (Below.refl _ _).drew)
  refine (HDA.out _).mono ?_
  rintro e w5 ⟨rfl, hb5⟩
  have q5 := Lib.hid (q4d.out.later hb5)
  clear hb5
  obtain ⟨_, ra5, rb5, rc5, rd5⟩ := (q5.out.1).2.1
  go_wp2_with fail
  refine ret_cell_tmp rfl rfl (load_rat (g := w.heap.size) (((q5.out.1).2.1.set0 _).set1 _)) rfl ?_
  exact ⟨rfl, ((q5.out.1).1.setCell (Nat.le_refl _) _).setCell (Nat.le_refl _) _⟩

set_option maxRecDepth 100000 in
set_option maxHeartbeats 4000000 in
theorem t3parse_k1 (s t : ByteArray) (m : List UInt8) (w : World) (hamb : Amb w) (hs : s.size ≤ 400)
    (HTP : Hid (∀ w, Calls Tryz.prog 66 #[.string s, .string ⟨#[45]⟩] w (fun e w' => e = .returned (.string t) ∧ w' = w))) (htm : t.data.toList = m) (hts : t.size ≤ s.size) (k : Nat) (hk : k < t.size) (HIX : Hid (∀ w, Calls Tryz.prog 62 #[.string t, .string ⟨#[47, 46]⟩] w (SmallRes (.int .i64 (k : Int)) w))) (hd : digs (m.take k) = true) (hd2 : digs (m.drop (k + 1)) = false) :
    Calls Tryz.prog 15 #[.string s] w (SmallRes (.tuple #[noRat, .int .i64 15]) w) := by
  have HTM := Lib.hid htm
  have h4i : ¬ (400 : Int) < (s.size : Int) := by omega
  have hsz : t.size ≤ 1000000 := by omega
  have HAMB := Lib.hid hamb
  obtain ⟨a, ha⟩ : ∃ a, t.extract 0 k = a := ⟨_, rfl⟩
  obtain ⟨b, hbb⟩ : ∃ b, t.extract (k + 1) t.size = b := ⟨_, rfl⟩
  have hx1 : a.data.toList = m.take k := by rw [← ha, extract_list, htm]; simp
  have hx2 : b.data.toList = m.drop (k + 1) := by rw [← hbb, extract_list, htm, List.take_of_length_le (by rw [← htm, str_size]; exact Nat.le_refl _)]
  have hl1 : a.size = k := by rw [← str_size, hx1, List.length_take, ← htm, str_size]; omega
  have hl2 : b.size = t.size - (k + 1) := by rw [← str_size, hx2, List.length_drop, ← htm, str_size]
  have hk1 : (k : Int) < (t.size : Int) := by omega
  have hwk : IntKind.i64.wrap ((k : Int) + 1) = (k : Int) + 1 := IntWalk.i64_in _ (by omega)
  have hwk0 : (0 : Int) ≤ (k : Int) + 1 := by omega
  have hwkn : ((k : Int) + 1).toNat = k + 1 := by omega
  have hk2 : (k : Int) + 1 ≤ (t.size : Int) := by omega
  have hk3 : (0 : Int) ≤ (k : Int) := by omega
  have hk4 : (k : Int) ≤ (t.size : Int) := by omega
  have HDA := Lib.hid (fun w => show Calls _ _ _ w (SmallRes (.bool true) w) from hd ▸ t3digits_any a (m.take k) w hx1 (by omega))
  have HDB := Lib.hid (fun w => show Calls _ _ _ w (SmallRes (.bool false) w) from hd2 ▸ t3digits_any b (m.drop (k + 1)) w hx2 (by omega))
  clear htm hd hd2 hx1 hx2 hl1 hl2 hk
  clear hamb
  go_enter Tryz.func15, Tryz.ntmps15
  go_wp2_with fail
  obtain ⟨W, hW⟩ : ∃ W, (w.alloc (.cells #[.string ⟨#[]⟩, .string ⟨#[]⟩] 27)) = W := ⟨_, rfl⟩
  rw [hW]
  have p1 := P0.start hW
  clear hW
  refine (HTP.out _).mono ?_
  rintro e w1 ⟨rfl, rfl⟩
  have q1 := Lib.hid p1
  clear p1
  go_wp2_with fail
  refine (HIX.out _).mono ?_
  rintro e w2 ⟨rfl, hb2⟩
  have q2 := Lib.hid (q1.out.later hb2)
  clear hb2
  go_wp2_with fail
  refine (t3of_any 1 _ (HAMB.out.below q2.out.1) (by decide) (by decide)).mono ?_
  rintro e w3 ⟨v3, rfl, hv3, hb3⟩
  obtain ⟨s3, A3, n3, c3, hve3, hvl3, _, _, _⟩ := hv3.parts
  subst hve3
  clear hvl3
  have q3 := Lib.hid (q2.out.later hb3)
  have HV3 := Lib.hid hv3
  clear hb3 hv3
  go_upto_region 6 with fail
  obtain ⟨w4, hw4⟩ : ∃ W, (w3.alloc (.cells #[.bool s3, .slice A3 n3 c3] 73)) = W := ⟨_, rfl⟩
  obtain ⟨g8, hg8⟩ : ∃ g, w3.heap.size = g := ⟨_, rfl⟩
  have q4 := Lib.hid (q3.out.next HV3.out hw4 hg8)
  rw [hw4, hg8]
  clear hw4 hg8
  go_wp2_with fail
  go_region_with fail
  go_wp2_with fail
  have q4d := Lib.hid (q4.out.later (Below.refl _ _).drew)
  refine (HDA.out _).mono ?_
  rintro e w5 ⟨rfl, hb5⟩
  have q5 := Lib.hid (q4d.out.later hb5)
  clear hb5
  go_wp2_with fail
  refine (HDB.out _).mono ?_
  rintro e w6 ⟨rfl, hb6⟩
  have q6 := Lib.hid (q5.out.later hb6)
  clear hb6
  obtain ⟨_, ra6, rb6, rc6, rd6⟩ := (q6.out.1).2.1
  go_wp2_with fail
  refine ret_cell_tmp rfl rfl (load_rat (g := w.heap.size) (((q6.out.1).2.1.set0 _).set1 _)) rfl ?_
  exact ⟨rfl, ((q6.out.1).1.setCell (Nat.le_refl _) _).setCell (Nat.le_refl _) _⟩

set_option maxRecDepth 100000 in
set_option maxHeartbeats 4000000 in
theorem t3parse_z (s t : ByteArray) (m : List UInt8) (w : World) (hamb : Amb w) (hs : s.size ≤ 400)
    (HTP : Hid (∀ w, Calls Tryz.prog 66 #[.string s, .string ⟨#[45]⟩] w (fun e w' => e = .returned (.string t) ∧ w' = w))) (htm : t.data.toList = m) (hts : t.size ≤ s.size) (k : Nat) (hk : k < t.size) (HIX : Hid (∀ w, Calls Tryz.prog 62 #[.string t, .string ⟨#[47, 46]⟩] w (SmallRes (.int .i64 (k : Int)) w))) (hd : digs (m.take k) = true) (hd2 : digs (m.drop (k + 1)) = true) (hc : m.getD k 0 = 47) (hz : val (m.drop (k + 1)) = 0) :
    Calls Tryz.prog 15 #[.string s] w (SmallRes (.tuple #[noRat, .int .i64 17]) w) := by
  have HTM := Lib.hid htm
  have h4i : ¬ (400 : Int) < (s.size : Int) := by omega
  have hsz : t.size ≤ 1000000 := by omega
  have HAMB := Lib.hid hamb
  obtain ⟨a, ha⟩ : ∃ a, t.extract 0 k = a := ⟨_, rfl⟩
  obtain ⟨b, hbb⟩ : ∃ b, t.extract (k + 1) t.size = b := ⟨_, rfl⟩
  have hx1 : a.data.toList = m.take k := by rw [← ha, extract_list, htm]; simp
  have hx2 : b.data.toList = m.drop (k + 1) := by rw [← hbb, extract_list, htm, List.take_of_length_le (by rw [← htm, str_size]; exact Nat.le_refl _)]
  have hl1 : a.size = k := by rw [← str_size, hx1, List.length_take, ← htm, str_size]; omega
  have hl2 : b.size = t.size - (k + 1) := by rw [← str_size, hx2, List.length_drop, ← htm, str_size]
  have hk1 : (k : Int) < (t.size : Int) := by omega
  have hwk : IntKind.i64.wrap ((k : Int) + 1) = (k : Int) + 1 := IntWalk.i64_in _ (by omega)
  have hwk0 : (0 : Int) ≤ (k : Int) + 1 := by omega
  have hwkn : ((k : Int) + 1).toNat = k + 1 := by omega
  have hk2 : (k : Int) + 1 ≤ (t.size : Int) := by omega
  have hk3 : (0 : Int) ≤ (k : Int) := by omega
  have hk4 : (k : Int) ≤ (t.size : Int) := by omega
  have HDA := Lib.hid (fun w => show Calls _ _ _ w (SmallRes (.bool true) w) from hd ▸ t3digits_any a (m.take k) w hx1 (by omega))
  have HDB := Lib.hid (fun w => show Calls _ _ _ w (SmallRes (.bool true) w) from hd2 ▸ t3digits_any b (m.drop (k + 1)) w hx2 (by omega))
  have HNA := Lib.hid (fun w => t3number_any a (m.take k) w hx1 hd (by omega))
  have h47 : bt t k = 47 := by rw [bt_at t k hk, htm, hc]; rfl
  have HNB := Lib.hid (fun w => t3number_any b (m.drop (k + 1)) w hx2 hd2 (by omega))
  have hbt := get_bt t
  have HSG := Lib.hid (show (((val (m.drop (k + 1)) : Nat) : Int) : Int).sign = 0 by rw [hz]; rfl)
  clear htm hd hd2 hx1 hx2 hl1 hl2 hk hc hz
  clear hamb
  go_enter Tryz.func15, Tryz.ntmps15
  go_wp2_with fail
  obtain ⟨W, hW⟩ : ∃ W, (w.alloc (.cells #[.string ⟨#[]⟩, .string ⟨#[]⟩] 27)) = W := ⟨_, rfl⟩
  rw [hW]
  have p1 := P0.start hW
  clear hW
  refine (HTP.out _).mono ?_
  rintro e w1 ⟨rfl, rfl⟩
  have q1 := Lib.hid p1
  clear p1
  go_wp2_with fail
  refine (HIX.out _).mono ?_
  rintro e w2 ⟨rfl, hb2⟩
  have q2 := Lib.hid (q1.out.later hb2)
  clear hb2
  go_wp2_with fail
  refine (t3of_any 1 _ (HAMB.out.below q2.out.1) (by decide) (by decide)).mono ?_
  rintro e w3 ⟨v3, rfl, hv3, hb3⟩
  obtain ⟨s3, A3, n3, c3, hve3, hvl3, _, _, _⟩ := hv3.parts
  subst hve3
  clear hvl3
  have q3 := Lib.hid (q2.out.later hb3)
  have HV3 := Lib.hid hv3
  clear hb3 hv3
  go_upto_region 6 with fail
  obtain ⟨w4, hw4⟩ : ∃ W, (w3.alloc (.cells #[.bool s3, .slice A3 n3 c3] 73)) = W := ⟨_, rfl⟩
  obtain ⟨g8, hg8⟩ : ∃ g, w3.heap.size = g := ⟨_, rfl⟩
  have q4 := Lib.hid (q3.out.next HV3.out hw4 hg8)
  rw [hw4, hg8]
  clear hw4 hg8
  go_wp2_with fail
  go_region_with fail
  go_wp2_with fail
  have q4d := Lib.hid (q4.out.later (Below.refl _ _).drew)
  refine (HDA.out _).mono ?_
  rintro e w5 ⟨rfl, hb5⟩
  have q5 := Lib.hid (q4d.out.later hb5)
  clear hb5
  go_wp2_with fail
  refine (HDB.out _).mono ?_
  rintro e w6 ⟨rfl, hb6⟩
  have q6 := Lib.hid (q5.out.later hb6)
  clear hb6
  go_wp2_with fail
  refine (HNA.out _).mono ?_
  rintro e w7 ⟨v7, rfl, hv7, hb7⟩
  obtain ⟨s7, A7, n7, c7, hve7, hvl7, _, _, _⟩ := hv7.parts
  subst hve7
  clear hvl7
  have q7 := Lib.hid (q6.out.later hb7)
  have HV7 := Lib.hid hv7
  clear hb7 hv7
  go_upto_region 11 with fail
  obtain ⟨w8, hw8⟩ : ∃ W, (w7.alloc (.cells #[.bool s7, .slice A7 n7 c7] 73)) = W := ⟨_, rfl⟩
  obtain ⟨g9, hg9⟩ : ∃ g, w7.heap.size = g := ⟨_, rfl⟩
  have q8 := Lib.hid (q7.out.next HV7.out hw8 hg9)
  rw [hw8, hg9]
  clear hw8 hg9
  go_wp2_with fail
  refine (HNB.out _).mono ?_
  rintro e w9 ⟨v9, rfl, hv9, hb9⟩
  obtain ⟨s9, A9, n9, c9, hve9, hvl9, _, _, _⟩ := hv9.parts
  subst hve9
  clear hvl9
  have q9 := Lib.hid (q8.out.later hb9)
  have HV9 := Lib.hid hv9
  clear hb9 hv9
  obtain ⟨_, b89, B89, m89, k89, ⟨_, ca89, cb89, cc89, cd89⟩, hw89⟩ := q9.out.1.2.2
  go_upto_region 13 with fail
  obtain ⟨w10, hw10⟩ : ∃ W, ((w9.setCell ⟨g8, 0, none⟩ (.bool s9)).setCell ⟨g8, 1, none⟩ (.slice A9 n9 c9)) = W := ⟨_, rfl⟩
  have q10 := Lib.hid (hw10 ▸ q9.out.put8 HV9.out)
  rw [hw10]
  clear hw10
  obtain ⟨_, b810, B810, m810, k810, ⟨_, ca810, cb810, cc810, cd810⟩, hw810⟩ := q10.out.1.2.2
  go_wp2_with fail
  refine (show Calls _ _ _ _ (SmallRes (.int .i64 0) _) from HSG.out ▸ t3sign_any _ ((val (m.drop (k + 1)) : Nat) : Int) w10 hw810).mono ?_
  rintro e w11 ⟨rfl, hb11⟩
  have q11 := Lib.hid (q10.out.later hb11)
  clear hb11
  obtain ⟨_, ra11, rb11, rc11, rd11⟩ := (q11.out.1.1).2.1
  go_wp2_with fail
  refine ret_cell_tmp rfl rfl (load_rat (g := w.heap.size) (((q11.out.1.1).2.1.set0 _).set1 _)) rfl ?_
  exact ⟨rfl, ((q11.out.1.1).1.setCell (Nat.le_refl _) _).setCell (Nat.le_refl _) _⟩

set_option maxRecDepth 100000 in
set_option maxHeartbeats 4000000 in
theorem t3parse_s0 (s t : ByteArray) (m : List UInt8) (w : World) (hamb : Amb w) (hs : s.size ≤ 400)
    (HTP : Hid (∀ w, Calls Tryz.prog 66 #[.string s, .string ⟨#[45]⟩] w (fun e w' => e = .returned (.string t) ∧ w' = w))) (htm : t.data.toList = m) (hts : t.size ≤ s.size) (k : Nat) (hk : k < t.size) (HIX : Hid (∀ w, Calls Tryz.prog 62 #[.string t, .string ⟨#[47, 46]⟩] w (SmallRes (.int .i64 (k : Int)) w))) (hd : digs (m.take k) = true) (hd2 : digs (m.drop (k + 1)) = true) (hc : m.getD k 0 = 47) (Q : Rat) (hsg : t.size = s.size) (hpos : 0 < ((val (m.drop (k + 1)) : Nat) : Int)) (hQ : Rat.divInt ((val (m.take k) : Nat) : Int) ((val (m.drop (k + 1)) : Nat) : Int) = Q) (hn9 : nz ((val (m.take k) : Nat) : Int) ≤ 90000) (hn8 : nz ((val (m.drop (k + 1)) : Nat) : Int) ≤ 90000) :
    Calls Tryz.prog 15 #[.string s] w (SmallRes (.tuple #[rv Q, .int .i64 0]) w) := by
  have HTM := Lib.hid htm
  have h4i : ¬ (400 : Int) < (s.size : Int) := by omega
  have hsz : t.size ≤ 1000000 := by omega
  have HAMB := Lib.hid hamb
  obtain ⟨a, ha⟩ : ∃ a, t.extract 0 k = a := ⟨_, rfl⟩
  obtain ⟨b, hbb⟩ : ∃ b, t.extract (k + 1) t.size = b := ⟨_, rfl⟩
  have hx1 : a.data.toList = m.take k := by rw [← ha, extract_list, htm]; simp
  have hx2 : b.data.toList = m.drop (k + 1) := by rw [← hbb, extract_list, htm, List.take_of_length_le (by rw [← htm, str_size]; exact Nat.le_refl _)]
  have hl1 : a.size = k := by rw [← str_size, hx1, List.length_take, ← htm, str_size]; omega
  have hl2 : b.size = t.size - (k + 1) := by rw [← str_size, hx2, List.length_drop, ← htm, str_size]
  have hk1 : (k : Int) < (t.size : Int) := by omega
  have hwk : IntKind.i64.wrap ((k : Int) + 1) = (k : Int) + 1 := IntWalk.i64_in _ (by omega)
  have hwk0 : (0 : Int) ≤ (k : Int) + 1 := by omega
  have hwkn : ((k : Int) + 1).toNat = k + 1 := by omega
  have hk2 : (k : Int) + 1 ≤ (t.size : Int) := by omega
  have hk3 : (0 : Int) ≤ (k : Int) := by omega
  have hk4 : (k : Int) ≤ (t.size : Int) := by omega
  have HDA := Lib.hid (fun w => show Calls _ _ _ w (SmallRes (.bool true) w) from hd ▸ t3digits_any a (m.take k) w hx1 (by omega))
  have HDB := Lib.hid (fun w => show Calls _ _ _ w (SmallRes (.bool true) w) from hd2 ▸ t3digits_any b (m.drop (k + 1)) w hx2 (by omega))
  have HNA := Lib.hid (fun w => t3number_any a (m.take k) w hx1 hd (by omega))
  have h47 : bt t k = 47 := by rw [bt_at t k hk, htm, hc]; rfl
  have HNB := Lib.hid (fun w => t3number_any b (m.drop (k + 1)) w hx2 hd2 (by omega))
  have hbt := get_bt t
  have HSG := Lib.hid (show (((val (m.drop (k + 1)) : Nat) : Int) : Int).sign = 1 from Int.sign_eq_one_of_pos hpos)
  have HQ0 := Lib.hid (show (((val (m.drop (k + 1)) : Nat) : Int) : Int) ≠ 0 by omega)
  have HQ := Lib.hid (show Rat.divInt ((val (m.take k) : Nat) : Int) ((val (m.drop (k + 1)) : Nat) : Int) = Q from hQ)
  have HN9 := Lib.hid (show nz ((val (m.take k) : Nat) : Int) ≤ 90000 by exact hn9)
  have HN8 := Lib.hid hn8
  have hlt : ¬ (t.size : Int) < (s.size : Int) := by omega
  clear hpos hQ hn9 hn8 hsg
  clear htm hd hd2 hx1 hx2 hl1 hl2 hk hc
  clear hamb
  go_enter Tryz.func15, Tryz.ntmps15
  go_wp2_with fail
  obtain ⟨W, hW⟩ : ∃ W, (w.alloc (.cells #[.string ⟨#[]⟩, .string ⟨#[]⟩] 27)) = W := ⟨_, rfl⟩
  rw [hW]
  have p1 := P0.start hW
  clear hW
  refine (HTP.out _).mono ?_
  rintro e w1 ⟨rfl, rfl⟩
  have q1 := Lib.hid p1
  clear p1
  go_wp2_with fail
  refine (HIX.out _).mono ?_
  rintro e w2 ⟨rfl, hb2⟩
  have q2 := Lib.hid (q1.out.later hb2)
  clear hb2
  go_wp2_with fail
  refine (t3of_any 1 _ (HAMB.out.below q2.out.1) (by decide) (by decide)).mono ?_
  rintro e w3 ⟨v3, rfl, hv3, hb3⟩
  obtain ⟨s3, A3, n3, c3, hve3, hvl3, _, _, _⟩ := hv3.parts
  subst hve3
  clear hvl3
  have q3 := Lib.hid (q2.out.later hb3)
  have HV3 := Lib.hid hv3
  clear hb3 hv3
  go_upto_region 6 with fail
  obtain ⟨w4, hw4⟩ : ∃ W, (w3.alloc (.cells #[.bool s3, .slice A3 n3 c3] 73)) = W := ⟨_, rfl⟩
  obtain ⟨g8, hg8⟩ : ∃ g, w3.heap.size = g := ⟨_, rfl⟩
  have q4 := Lib.hid (q3.out.next HV3.out hw4 hg8)
  rw [hw4, hg8]
  clear hw4 hg8
  go_wp2_with fail
  go_region_with fail
  go_wp2_with fail
  have q4d := Lib.hid (q4.out.later (Below.refl _ _).drew)
  refine (HDA.out _).mono ?_
  rintro e w5 ⟨rfl, hb5⟩
  have q5 := Lib.hid (q4d.out.later hb5)
  clear hb5
  go_wp2_with fail
  refine (HDB.out _).mono ?_
  rintro e w6 ⟨rfl, hb6⟩
  have q6 := Lib.hid (q5.out.later hb6)
  clear hb6
  go_wp2_with fail
  refine (HNA.out _).mono ?_
  rintro e w7 ⟨v7, rfl, hv7, hb7⟩
  obtain ⟨s7, A7, n7, c7, hve7, hvl7, _, _, _⟩ := hv7.parts
  subst hve7
  clear hvl7
  have q7 := Lib.hid (q6.out.later hb7)
  have HV7 := Lib.hid hv7
  clear hb7 hv7
  go_upto_region 11 with fail
  obtain ⟨w8, hw8⟩ : ∃ W, (w7.alloc (.cells #[.bool s7, .slice A7 n7 c7] 73)) = W := ⟨_, rfl⟩
  obtain ⟨g9, hg9⟩ : ∃ g, w7.heap.size = g := ⟨_, rfl⟩
  have q8 := Lib.hid (q7.out.next HV7.out hw8 hg9)
  rw [hw8, hg9]
  clear hw8 hg9
  go_wp2_with fail
  refine (HNB.out _).mono ?_
  rintro e w9 ⟨v9, rfl, hv9, hb9⟩
  obtain ⟨s9, A9, n9, c9, hve9, hvl9, _, _, _⟩ := hv9.parts
  subst hve9
  clear hvl9
  have q9 := Lib.hid (q8.out.later hb9)
  have HV9 := Lib.hid hv9
  clear hb9 hv9
  obtain ⟨_, b89, B89, m89, k89, ⟨_, ca89, cb89, cc89, cd89⟩, hw89⟩ := q9.out.1.2.2
  go_upto_region 13 with fail
  obtain ⟨w10, hw10⟩ : ∃ W, ((w9.setCell ⟨g8, 0, none⟩ (.bool s9)).setCell ⟨g8, 1, none⟩ (.slice A9 n9 c9)) = W := ⟨_, rfl⟩
  have q10 := Lib.hid (hw10 ▸ q9.out.put8 HV9.out)
  rw [hw10]
  clear hw10
  obtain ⟨_, b810, B810, m810, k810, ⟨_, ca810, cb810, cc810, cd810⟩, hw810⟩ := q10.out.1.2.2
  go_wp2_with fail
  refine (show Calls _ _ _ _ (SmallRes (.int .i64 1) _) from HSG.out ▸ t3sign_any _ ((val (m.drop (k + 1)) : Nat) : Int) w10 hw810).mono ?_
  rintro e w11 ⟨rfl, hb11⟩
  have q11 := Lib.hid (q10.out.later hb11)
  clear hb11
  obtain ⟨_, b911, B911, m911, k911, ⟨_, ca911, cb911, cc911, cd911⟩, hw911⟩ := q11.out.2.2
  obtain ⟨_, b811, B811, m811, k811, ⟨_, ca811, cb811, cc811, cd811⟩, hw811⟩ := q11.out.1.2.2
  go_wp2_with fail
  refine (t3make_eq _ _ ((val (m.take k) : Nat) : Int) ((val (m.drop (k + 1)) : Nat) : Int) w11 (HAMB.out.below q11.out.1.1.1) hw911 hw811 HQ0.out HN9.out HN8.out HQ.out).mono ?_
  rintro e w12 ⟨rfl, hb12⟩
  have q12 := Lib.hid (q11.out.later hb12)
  clear hb12
  obtain ⟨_, ra12, rb12, rc12, rd12⟩ := (q12.out.1.1).2.1
  go_wp2_with fail
  refine ret_cell_tmp rfl rfl (load_rat (g := w.heap.size) (((q12.out.1.1).2.1.set0 _).set1 _)) rfl ?_
  exact ⟨rfl, ((q12.out.1.1).1.setCell (Nat.le_refl _) _).setCell (Nat.le_refl _) _⟩

set_option maxRecDepth 100000 in
set_option maxHeartbeats 4000000 in
theorem t3parse_s1 (s t : ByteArray) (m : List UInt8) (w : World) (hamb : Amb w) (hs : s.size ≤ 400)
    (HTP : Hid (∀ w, Calls Tryz.prog 66 #[.string s, .string ⟨#[45]⟩] w (fun e w' => e = .returned (.string t) ∧ w' = w))) (htm : t.data.toList = m) (_hts : t.size ≤ s.size) (k : Nat) (hk : k < t.size) (HIX : Hid (∀ w, Calls Tryz.prog 62 #[.string t, .string ⟨#[47, 46]⟩] w (SmallRes (.int .i64 (k : Int)) w))) (hd : digs (m.take k) = true) (hd2 : digs (m.drop (k + 1)) = true) (hc : m.getD k 0 = 47) (Q : Rat) (hsg : t.size + 1 = s.size) (hpos : 0 < ((val (m.drop (k + 1)) : Nat) : Int)) (hQ : Rat.divInt (-((val (m.take k) : Nat) : Int)) ((val (m.drop (k + 1)) : Nat) : Int) = Q) (hn9 : nz ((val (m.take k) : Nat) : Int) ≤ 90000) (hn8 : nz ((val (m.drop (k + 1)) : Nat) : Int) ≤ 90000) :
    Calls Tryz.prog 15 #[.string s] w (SmallRes (.tuple #[rv Q, .int .i64 0]) w) := by
  have HTM := Lib.hid htm
  have h4i : ¬ (400 : Int) < (s.size : Int) := by omega
  have hsz : t.size ≤ 1000000 := by omega
  have HAMB := Lib.hid hamb
  obtain ⟨a, ha⟩ : ∃ a, t.extract 0 k = a := ⟨_, rfl⟩
  obtain ⟨b, hbb⟩ : ∃ b, t.extract (k + 1) t.size = b := ⟨_, rfl⟩
  have hx1 : a.data.toList = m.take k := by rw [← ha, extract_list, htm]; simp
  have hx2 : b.data.toList = m.drop (k + 1) := by rw [← hbb, extract_list, htm, List.take_of_length_le (by rw [← htm, str_size]; exact Nat.le_refl _)]
  have hl1 : a.size = k := by rw [← str_size, hx1, List.length_take, ← htm, str_size]; omega
  have hl2 : b.size = t.size - (k + 1) := by rw [← str_size, hx2, List.length_drop, ← htm, str_size]
  have hk1 : (k : Int) < (t.size : Int) := by omega
  have hwk : IntKind.i64.wrap ((k : Int) + 1) = (k : Int) + 1 := IntWalk.i64_in _ (by omega)
  have hwk0 : (0 : Int) ≤ (k : Int) + 1 := by omega
  have hwkn : ((k : Int) + 1).toNat = k + 1 := by omega
  have hk2 : (k : Int) + 1 ≤ (t.size : Int) := by omega
  have hk3 : (0 : Int) ≤ (k : Int) := by omega
  have hk4 : (k : Int) ≤ (t.size : Int) := by omega
  have HDA := Lib.hid (fun w => show Calls _ _ _ w (SmallRes (.bool true) w) from hd ▸ t3digits_any a (m.take k) w hx1 (by omega))
  have HDB := Lib.hid (fun w => show Calls _ _ _ w (SmallRes (.bool true) w) from hd2 ▸ t3digits_any b (m.drop (k + 1)) w hx2 (by omega))
  have HNA := Lib.hid (fun w => t3number_any a (m.take k) w hx1 hd (by omega))
  have h47 : bt t k = 47 := by rw [bt_at t k hk, htm, hc]; rfl
  have HNB := Lib.hid (fun w => t3number_any b (m.drop (k + 1)) w hx2 hd2 (by omega))
  have hbt := get_bt t
  have HSG := Lib.hid (show (((val (m.drop (k + 1)) : Nat) : Int) : Int).sign = 1 from Int.sign_eq_one_of_pos hpos)
  have HQ0 := Lib.hid (show (((val (m.drop (k + 1)) : Nat) : Int) : Int) ≠ 0 by omega)
  have HQ := Lib.hid (show Rat.divInt (-((val (m.take k) : Nat) : Int)) ((val (m.drop (k + 1)) : Nat) : Int) = Q from hQ)
  have HN9 := Lib.hid (show nz (-((val (m.take k) : Nat) : Int)) ≤ 90000 by rw [nz_neg]; exact hn9)
  have HN8 := Lib.hid hn8
  have hlt : (t.size : Int) < (s.size : Int) := by omega
  clear hpos hQ hn9 hn8 hsg
  clear htm hd hd2 hx1 hx2 hl1 hl2 hk hc
  clear hamb
  go_enter Tryz.func15, Tryz.ntmps15
  go_wp2_with fail
  obtain ⟨W, hW⟩ : ∃ W, (w.alloc (.cells #[.string ⟨#[]⟩, .string ⟨#[]⟩] 27)) = W := ⟨_, rfl⟩
  rw [hW]
  have p1 := P0.start hW
  clear hW
  refine (HTP.out _).mono ?_
  rintro e w1 ⟨rfl, rfl⟩
  have q1 := Lib.hid p1
  clear p1
  go_wp2_with fail
  refine (HIX.out _).mono ?_
  rintro e w2 ⟨rfl, hb2⟩
  have q2 := Lib.hid (q1.out.later hb2)
  clear hb2
  go_wp2_with fail
  refine (t3of_any 1 _ (HAMB.out.below q2.out.1) (by decide) (by decide)).mono ?_
  rintro e w3 ⟨v3, rfl, hv3, hb3⟩
  obtain ⟨s3, A3, n3, c3, hve3, hvl3, _, _, _⟩ := hv3.parts
  subst hve3
  clear hvl3
  have q3 := Lib.hid (q2.out.later hb3)
  have HV3 := Lib.hid hv3
  clear hb3 hv3
  go_upto_region 6 with fail
  obtain ⟨w4, hw4⟩ : ∃ W, (w3.alloc (.cells #[.bool s3, .slice A3 n3 c3] 73)) = W := ⟨_, rfl⟩
  obtain ⟨g8, hg8⟩ : ∃ g, w3.heap.size = g := ⟨_, rfl⟩
  have q4 := Lib.hid (q3.out.next HV3.out hw4 hg8)
  rw [hw4, hg8]
  clear hw4 hg8
  go_wp2_with fail
  go_region_with fail
  go_wp2_with fail
  have q4d := Lib.hid (q4.out.later (Below.refl _ _).drew)
  refine (HDA.out _).mono ?_
  rintro e w5 ⟨rfl, hb5⟩
  have q5 := Lib.hid (q4d.out.later hb5)
  clear hb5
  go_wp2_with fail
  refine (HDB.out _).mono ?_
  rintro e w6 ⟨rfl, hb6⟩
  have q6 := Lib.hid (q5.out.later hb6)
  clear hb6
  go_wp2_with fail
  refine (HNA.out _).mono ?_
  rintro e w7 ⟨v7, rfl, hv7, hb7⟩
  obtain ⟨s7, A7, n7, c7, hve7, hvl7, _, _, _⟩ := hv7.parts
  subst hve7
  clear hvl7
  have q7 := Lib.hid (q6.out.later hb7)
  have HV7 := Lib.hid hv7
  clear hb7 hv7
  go_upto_region 11 with fail
  obtain ⟨w8, hw8⟩ : ∃ W, (w7.alloc (.cells #[.bool s7, .slice A7 n7 c7] 73)) = W := ⟨_, rfl⟩
  obtain ⟨g9, hg9⟩ : ∃ g, w7.heap.size = g := ⟨_, rfl⟩
  have q8 := Lib.hid (q7.out.next HV7.out hw8 hg9)
  rw [hw8, hg9]
  clear hw8 hg9
  go_wp2_with fail
  refine (HNB.out _).mono ?_
  rintro e w9 ⟨v9, rfl, hv9, hb9⟩
  obtain ⟨s9, A9, n9, c9, hve9, hvl9, _, _, _⟩ := hv9.parts
  subst hve9
  clear hvl9
  have q9 := Lib.hid (q8.out.later hb9)
  have HV9 := Lib.hid hv9
  clear hb9 hv9
  obtain ⟨_, b89, B89, m89, k89, ⟨_, ca89, cb89, cc89, cd89⟩, hw89⟩ := q9.out.1.2.2
  go_upto_region 13 with fail
  obtain ⟨w10, hw10⟩ : ∃ W, ((w9.setCell ⟨g8, 0, none⟩ (.bool s9)).setCell ⟨g8, 1, none⟩ (.slice A9 n9 c9)) = W := ⟨_, rfl⟩
  have q10 := Lib.hid (hw10 ▸ q9.out.put8 HV9.out)
  rw [hw10]
  clear hw10
  obtain ⟨_, b810, B810, m810, k810, ⟨_, ca810, cb810, cc810, cd810⟩, hw810⟩ := q10.out.1.2.2
  go_wp2_with fail
  refine (show Calls _ _ _ _ (SmallRes (.int .i64 1) _) from HSG.out ▸ t3sign_any _ ((val (m.drop (k + 1)) : Nat) : Int) w10 hw810).mono ?_
  rintro e w11 ⟨rfl, hb11⟩
  have q11 := Lib.hid (q10.out.later hb11)
  clear hb11
  obtain ⟨_, b911, B911, m911, k911, ⟨_, ca911, cb911, cc911, cd911⟩, hw911⟩ := q11.out.2.2
  go_wp2_with fail
  refine (t3neg_any _ ((val (m.take k) : Nat) : Int) w11 hw911).mono ?_
  rintro e w12 ⟨v12, rfl, hv12, hb12⟩
  obtain ⟨s12, A12, n12, c12, hve12, hvl12, _, _, _⟩ := hv12.parts
  subst hve12
  clear hvl12
  have q12 := Lib.hid (q11.out.later hb12)
  have HV12 := Lib.hid hv12
  clear hb12 hv12
  obtain ⟨_, b912, B912, m912, k912, ⟨_, ca912, cb912, cc912, cd912⟩, hw912⟩ := q12.out.2.2
  go_upto_region 19 with fail
  obtain ⟨w13, hw13⟩ : ∃ W, ((w12.setCell ⟨g9, 0, none⟩ (.bool s12)).setCell ⟨g9, 1, none⟩ (.slice A12 n12 c12)) = W := ⟨_, rfl⟩
  have q13 := Lib.hid (hw13 ▸ q12.out.put9 HV12.out)
  rw [hw13]
  clear hw13
  obtain ⟨_, b913, B913, m913, k913, ⟨_, ca913, cb913, cc913, cd913⟩, hw913⟩ := q13.out.2.2
  obtain ⟨_, b813, B813, m813, k813, ⟨_, ca813, cb813, cc813, cd813⟩, hw813⟩ := q13.out.1.2.2
  go_wp2_with fail
  refine (t3make_eq _ _ (-((val (m.take k) : Nat) : Int)) ((val (m.drop (k + 1)) : Nat) : Int) w13 (HAMB.out.below q13.out.1.1.1) hw913 hw813 HQ0.out HN9.out HN8.out HQ.out).mono ?_
  rintro e w14 ⟨rfl, hb14⟩
  have q14 := Lib.hid (q13.out.later hb14)
  clear hb14
  obtain ⟨_, ra14, rb14, rc14, rd14⟩ := (q14.out.1.1).2.1
  go_wp2_with fail
  refine ret_cell_tmp rfl rfl (load_rat (g := w.heap.size) (((q14.out.1.1).2.1.set0 _).set1 _)) rfl ?_
  exact ⟨rfl, ((q14.out.1.1).1.setCell (Nat.le_refl _) _).setCell (Nat.le_refl _) _⟩

set_option maxRecDepth 100000 in
set_option maxHeartbeats 4000000 in
theorem t3parse_p0 (s t : ByteArray) (m : List UInt8) (w : World) (hamb : Amb w) (hs : s.size ≤ 400)
    (HTP : Hid (∀ w, Calls Tryz.prog 66 #[.string s, .string ⟨#[45]⟩] w (fun e w' => e = .returned (.string t) ∧ w' = w))) (htm : t.data.toList = m) (hts : t.size ≤ s.size) (k : Nat) (hk : k < t.size) (HIX : Hid (∀ w, Calls Tryz.prog 62 #[.string t, .string ⟨#[47, 46]⟩] w (SmallRes (.int .i64 (k : Int)) w))) (hd : digs (m.take k) = true) (hd2 : digs (m.drop (k + 1)) = true) (hc : m.getD k 0 = 46) (Q : Rat) (hsg : t.size = s.size) (hpos : 0 < ((10 ^ (t.size - (k + 1)) : Nat) : Int)) (hQ : Rat.divInt ((val (m.take k ++ m.drop (k + 1)) : Nat) : Int) ((10 ^ (t.size - (k + 1)) : Nat) : Int) = Q) (hn9 : nz ((val (m.take k ++ m.drop (k + 1)) : Nat) : Int) ≤ 90000) (hn8 : nz ((10 ^ (t.size - (k + 1)) : Nat) : Int) ≤ 90000) :
    Calls Tryz.prog 15 #[.string s] w (SmallRes (.tuple #[rv Q, .int .i64 0]) w) := by
  have HTM := Lib.hid htm
  have h4i : ¬ (400 : Int) < (s.size : Int) := by omega
  have hsz : t.size ≤ 1000000 := by omega
  have HAMB := Lib.hid hamb
  obtain ⟨a, ha⟩ : ∃ a, t.extract 0 k = a := ⟨_, rfl⟩
  obtain ⟨b, hbb⟩ : ∃ b, t.extract (k + 1) t.size = b := ⟨_, rfl⟩
  have hx1 : a.data.toList = m.take k := by rw [← ha, extract_list, htm]; simp
  have hx2 : b.data.toList = m.drop (k + 1) := by rw [← hbb, extract_list, htm, List.take_of_length_le (by rw [← htm, str_size]; exact Nat.le_refl _)]
  have hl1 : a.size = k := by rw [← str_size, hx1, List.length_take, ← htm, str_size]; omega
  have hl2 : b.size = t.size - (k + 1) := by rw [← str_size, hx2, List.length_drop, ← htm, str_size]
  have hk1 : (k : Int) < (t.size : Int) := by omega
  have hwk : IntKind.i64.wrap ((k : Int) + 1) = (k : Int) + 1 := IntWalk.i64_in _ (by omega)
  have hwk0 : (0 : Int) ≤ (k : Int) + 1 := by omega
  have hwkn : ((k : Int) + 1).toNat = k + 1 := by omega
  have hk2 : (k : Int) + 1 ≤ (t.size : Int) := by omega
  have hk3 : (0 : Int) ≤ (k : Int) := by omega
  have hk4 : (k : Int) ≤ (t.size : Int) := by omega
  have HDA := Lib.hid (fun w => show Calls _ _ _ w (SmallRes (.bool true) w) from hd ▸ t3digits_any a (m.take k) w hx1 (by omega))
  have HDB := Lib.hid (fun w => show Calls _ _ _ w (SmallRes (.bool true) w) from hd2 ▸ t3digits_any b (m.drop (k + 1)) w hx2 (by omega))
  have HNA := Lib.hid (fun w => t3number_any a (m.take k) w hx1 hd (by omega))
  have h47 : bt t k = 46 := by rw [bt_at t k hk, htm, hc]; rfl
  have h12 := digs_append hd hd2
  have hx12 : (a ++ b).data.toList = m.take k ++ m.drop (k + 1) := by rw [ByteArray.data_append, Array.toList_append, hx1, hx2]
  have hl12 : (a ++ b).size ≤ 100000 := by rw [← str_size, hx12, List.length_append, ← hx1, ← hx2, str_size, str_size]; omega
  have HNC := Lib.hid (fun w => t3number_any (a ++ b) (m.take k ++ m.drop (k + 1)) w hx12 h12 hl12)
  have hcat : (a.size : Int) + (b.size : Int) ≤ 100000 := by omega
  obtain ⟨n, hn⟩ : ∃ n, t.size - (k + 1) = n := ⟨_, rfl⟩
  have hbn : b.size = n := by omega
  have hn4 : n ≤ 400 := by omega
  have hrp := fun w => Tryz.strings_Repeat ⟨#[48]⟩ n w (by omega) (by show 1 * n ≤ _; omega)
  have hzs := one_zeros n
  have hrl : (⟨(Lib.repeatL [48] n).toArray⟩ : ByteArray).size = n := by
    rw [← str_size]
    simp [Lib.repeatL_length]
  obtain ⟨Z, hZ⟩ : ∃ Z : ByteArray, ⟨(Lib.repeatL [48] n).toArray⟩ = Z := ⟨_, rfl⟩
  rw [hZ] at hzs hrl
  have HRP := Lib.hid (fun w => show Calls Tryz.prog 13 #[.string ⟨#[48]⟩, .int .i64 (b.size : Int)] w (SmallRes (.string Z) w) from by rw [hbn]; exact hZ ▸ hrp w)
  have hr1 : (1 : Int) + (Z.size : Int) ≤ 1000001 := by omega
  have hdt : (dec (10 ^ n)).data.toList = Lib.decDigits (10 ^ n) := by rw [← ByteArray.toList_eq, dec_toList]
  have HND := Lib.hid (fun w => show Calls Tryz.prog 69 #[.string ((⟨#[49]⟩ : ByteArray) ++ Z)] w (W3Post ((10 ^ n : Nat) : Int) w) from by
    have h := t3number_any ((⟨#[49]⟩ : ByteArray) ++ Z) (Lib.decDigits (10 ^ n)) w (by rw [hzs, hdt]) (by unfold digs; rw [all_dd]; cases h : Lib.decDigits (10 ^ n) with
      | nil => exact absurd h (dd_ne_nil _)
      | cons _ _ => rfl) (by rw [append_size, hrl]; show 1 + n ≤ _; omega)
    rw [val_dd] at h
    exact h)
  rw [hn] at hpos hQ hn8
  have hbt := get_bt t
  have HSG := Lib.hid (show (((10 ^ (n) : Nat) : Int) : Int).sign = 1 from Int.sign_eq_one_of_pos hpos)
  have HQ0 := Lib.hid (show (((10 ^ (n) : Nat) : Int) : Int) ≠ 0 by omega)
  have HQ := Lib.hid (show Rat.divInt ((val (m.take k ++ m.drop (k + 1)) : Nat) : Int) ((10 ^ (n) : Nat) : Int) = Q from hQ)
  have HN9 := Lib.hid (show nz ((val (m.take k ++ m.drop (k + 1)) : Nat) : Int) ≤ 90000 by exact hn9)
  have HN8 := Lib.hid hn8
  have hlt : ¬ (t.size : Int) < (s.size : Int) := by omega
  clear hpos hQ hn9 hn8 hsg
  clear htm hd hd2 hx1 hx2 hl1 hl2 hk hc h12 hx12 hl12 hn hbn hn4 hrp hzs hrl hZ hdt
  clear hamb
  go_enter Tryz.func15, Tryz.ntmps15
  go_wp2_with fail
  obtain ⟨W, hW⟩ : ∃ W, (w.alloc (.cells #[.string ⟨#[]⟩, .string ⟨#[]⟩] 27)) = W := ⟨_, rfl⟩
  rw [hW]
  have p1 := P0.start hW
  clear hW
  refine (HTP.out _).mono ?_
  rintro e w1 ⟨rfl, rfl⟩
  have q1 := Lib.hid p1
  clear p1
  go_wp2_with fail
  refine (HIX.out _).mono ?_
  rintro e w2 ⟨rfl, hb2⟩
  have q2 := Lib.hid (q1.out.later hb2)
  clear hb2
  go_wp2_with fail
  refine (t3of_any 1 _ (HAMB.out.below q2.out.1) (by decide) (by decide)).mono ?_
  rintro e w3 ⟨v3, rfl, hv3, hb3⟩
  obtain ⟨s3, A3, n3, c3, hve3, hvl3, _, _, _⟩ := hv3.parts
  subst hve3
  clear hvl3
  have q3 := Lib.hid (q2.out.later hb3)
  have HV3 := Lib.hid hv3
  clear hb3 hv3
  go_upto_region 6 with fail
  obtain ⟨w4, hw4⟩ : ∃ W, (w3.alloc (.cells #[.bool s3, .slice A3 n3 c3] 73)) = W := ⟨_, rfl⟩
  obtain ⟨g8, hg8⟩ : ∃ g, w3.heap.size = g := ⟨_, rfl⟩
  have q4 := Lib.hid (q3.out.next HV3.out hw4 hg8)
  rw [hw4, hg8]
  clear hw4 hg8
  go_wp2_with fail
  go_region_with fail
  go_wp2_with fail
  have q4d := Lib.hid (q4.out.later (Below.refl _ _).drew)
  refine (HDA.out _).mono ?_
  rintro e w5 ⟨rfl, hb5⟩
  have q5 := Lib.hid (q4d.out.later hb5)
  clear hb5
  go_wp2_with fail
  refine (HDB.out _).mono ?_
  rintro e w6 ⟨rfl, hb6⟩
  have q6 := Lib.hid (q5.out.later hb6)
  clear hb6
  go_wp2_with fail
  refine (HNA.out _).mono ?_
  rintro e w7 ⟨v7, rfl, hv7, hb7⟩
  obtain ⟨s7, A7, n7, c7, hve7, hvl7, _, _, _⟩ := hv7.parts
  subst hve7
  clear hvl7
  have q7 := Lib.hid (q6.out.later hb7)
  have HV7 := Lib.hid hv7
  clear hb7 hv7
  go_upto_region 11 with fail
  obtain ⟨w8, hw8⟩ : ∃ W, (w7.alloc (.cells #[.bool s7, .slice A7 n7 c7] 73)) = W := ⟨_, rfl⟩
  obtain ⟨g9, hg9⟩ : ∃ g, w7.heap.size = g := ⟨_, rfl⟩
  have q8 := Lib.hid (q7.out.next HV7.out hw8 hg9)
  rw [hw8, hg9]
  clear hw8 hg9
  go_wp2_with fail
  refine (HNC.out _).mono ?_
  rintro e w9 ⟨v9, rfl, hv9, hb9⟩
  obtain ⟨s9, A9, n9, c9, hve9, hvl9, _, _, _⟩ := hv9.parts
  subst hve9
  clear hvl9
  have q9 := Lib.hid (q8.out.later hb9)
  have HV9 := Lib.hid hv9
  clear hb9 hv9
  go_wp2_with fail
  refine (HRP.out _).mono ?_
  rintro e w10 ⟨rfl, hb10⟩
  have q10 := Lib.hid (q9.out.later hb10)
  have HV9a := Lib.hid (HV9.out.below hb10)
  clear hb10
  go_wp2_with fail
  refine (HND.out _).mono ?_
  rintro e w11 ⟨v11, rfl, hv11, hb11⟩
  obtain ⟨s11, A11, n11, c11, hve11, hvl11, _, _, _⟩ := hv11.parts
  subst hve11
  clear hvl11
  have q11 := Lib.hid (q10.out.later hb11)
  have HV9b := Lib.hid (HV9a.out.below hb11)
  have HV11 := Lib.hid hv11
  clear hb11 hv11
  obtain ⟨_, b911, B911, m911, k911, ⟨_, ca911, cb911, cc911, cd911⟩, hw911⟩ := q11.out.2.2
  obtain ⟨_, b811, B811, m811, k811, ⟨_, ca811, cb811, cc811, cd811⟩, hw811⟩ := q11.out.1.2.2
  have hne89 : ¬ g8 = g9 := by have := q11.out.2.1; omega
  have hne98 : ¬ g9 = g8 := by have := q11.out.2.1; omega
  have hvd := Lib.hid (HV11.out.store2 (b := g9) (i := 0) (j := 1) q11.out.2.2.1 (.bool s9) (.slice A9 n9 c9))
  go_upto_region 15 with fail
  obtain ⟨wS, hwS⟩ : ∃ W, ((((w11.setCell ⟨g9, 0, none⟩ (.bool s9)).setCell ⟨g9, 1, none⟩ (.slice A9 n9 c9)).setCell ⟨g8, 0, none⟩ (.bool s11)).setCell ⟨g8, 1, none⟩ (.slice A11 n11 c11)) = W := ⟨_, rfl⟩
  have q12 := Lib.hid (hwS ▸ (q11.out.put9 HV9b.out).put8 hvd.out)
  rw [hwS]
  clear hwS
  obtain ⟨w12, hwe⟩ : ∃ W, wS = W := ⟨_, rfl⟩
  rw [hwe] at q12 ⊢
  clear hwe
  obtain ⟨_, b812, B812, m812, k812, ⟨_, ca812, cb812, cc812, cd812⟩, hw812⟩ := q12.out.1.2.2
  go_wp2_with fail
  refine (show Calls _ _ _ _ (SmallRes (.int .i64 1) _) from HSG.out ▸ t3sign_any _ ((10 ^ (n) : Nat) : Int) w12 hw812).mono ?_
  rintro e w13 ⟨rfl, hb13⟩
  have q13 := Lib.hid (q12.out.later hb13)
  clear hb13
  obtain ⟨_, b913, B913, m913, k913, ⟨_, ca913, cb913, cc913, cd913⟩, hw913⟩ := q13.out.2.2
  obtain ⟨_, b813, B813, m813, k813, ⟨_, ca813, cb813, cc813, cd813⟩, hw813⟩ := q13.out.1.2.2
  go_wp2_with fail
  refine (t3make_eq _ _ ((val (m.take k ++ m.drop (k + 1)) : Nat) : Int) ((10 ^ (n) : Nat) : Int) w13 (HAMB.out.below q13.out.1.1.1) hw913 hw813 HQ0.out HN9.out HN8.out HQ.out).mono ?_
  rintro e w14 ⟨rfl, hb14⟩
  have q14 := Lib.hid (q13.out.later hb14)
  clear hb14
  obtain ⟨_, ra14, rb14, rc14, rd14⟩ := (q14.out.1.1).2.1
  go_wp2_with fail
  refine ret_cell_tmp rfl rfl (load_rat (g := w.heap.size) (((q14.out.1.1).2.1.set0 _).set1 _)) rfl ?_
  exact ⟨rfl, ((q14.out.1.1).1.setCell (Nat.le_refl _) _).setCell (Nat.le_refl _) _⟩

set_option maxRecDepth 100000 in
set_option maxHeartbeats 4000000 in
theorem t3parse_p1 (s t : ByteArray) (m : List UInt8) (w : World) (hamb : Amb w) (hs : s.size ≤ 400)
    (HTP : Hid (∀ w, Calls Tryz.prog 66 #[.string s, .string ⟨#[45]⟩] w (fun e w' => e = .returned (.string t) ∧ w' = w))) (htm : t.data.toList = m) (_hts : t.size ≤ s.size) (k : Nat) (hk : k < t.size) (HIX : Hid (∀ w, Calls Tryz.prog 62 #[.string t, .string ⟨#[47, 46]⟩] w (SmallRes (.int .i64 (k : Int)) w))) (hd : digs (m.take k) = true) (hd2 : digs (m.drop (k + 1)) = true) (hc : m.getD k 0 = 46) (Q : Rat) (hsg : t.size + 1 = s.size) (hpos : 0 < ((10 ^ (t.size - (k + 1)) : Nat) : Int)) (hQ : Rat.divInt (-((val (m.take k ++ m.drop (k + 1)) : Nat) : Int)) ((10 ^ (t.size - (k + 1)) : Nat) : Int) = Q) (hn9 : nz ((val (m.take k ++ m.drop (k + 1)) : Nat) : Int) ≤ 90000) (hn8 : nz ((10 ^ (t.size - (k + 1)) : Nat) : Int) ≤ 90000) :
    Calls Tryz.prog 15 #[.string s] w (SmallRes (.tuple #[rv Q, .int .i64 0]) w) := by
  have HTM := Lib.hid htm
  have h4i : ¬ (400 : Int) < (s.size : Int) := by omega
  have hsz : t.size ≤ 1000000 := by omega
  have HAMB := Lib.hid hamb
  obtain ⟨a, ha⟩ : ∃ a, t.extract 0 k = a := ⟨_, rfl⟩
  obtain ⟨b, hbb⟩ : ∃ b, t.extract (k + 1) t.size = b := ⟨_, rfl⟩
  have hx1 : a.data.toList = m.take k := by rw [← ha, extract_list, htm]; simp
  have hx2 : b.data.toList = m.drop (k + 1) := by rw [← hbb, extract_list, htm, List.take_of_length_le (by rw [← htm, str_size]; exact Nat.le_refl _)]
  have hl1 : a.size = k := by rw [← str_size, hx1, List.length_take, ← htm, str_size]; omega
  have hl2 : b.size = t.size - (k + 1) := by rw [← str_size, hx2, List.length_drop, ← htm, str_size]
  have hk1 : (k : Int) < (t.size : Int) := by omega
  have hwk : IntKind.i64.wrap ((k : Int) + 1) = (k : Int) + 1 := IntWalk.i64_in _ (by omega)
  have hwk0 : (0 : Int) ≤ (k : Int) + 1 := by omega
  have hwkn : ((k : Int) + 1).toNat = k + 1 := by omega
  have hk2 : (k : Int) + 1 ≤ (t.size : Int) := by omega
  have hk3 : (0 : Int) ≤ (k : Int) := by omega
  have hk4 : (k : Int) ≤ (t.size : Int) := by omega
  have HDA := Lib.hid (fun w => show Calls _ _ _ w (SmallRes (.bool true) w) from hd ▸ t3digits_any a (m.take k) w hx1 (by omega))
  have HDB := Lib.hid (fun w => show Calls _ _ _ w (SmallRes (.bool true) w) from hd2 ▸ t3digits_any b (m.drop (k + 1)) w hx2 (by omega))
  have HNA := Lib.hid (fun w => t3number_any a (m.take k) w hx1 hd (by omega))
  have h47 : bt t k = 46 := by rw [bt_at t k hk, htm, hc]; rfl
  have h12 := digs_append hd hd2
  have hx12 : (a ++ b).data.toList = m.take k ++ m.drop (k + 1) := by rw [ByteArray.data_append, Array.toList_append, hx1, hx2]
  have hl12 : (a ++ b).size ≤ 100000 := by rw [← str_size, hx12, List.length_append, ← hx1, ← hx2, str_size, str_size]; omega
  have HNC := Lib.hid (fun w => t3number_any (a ++ b) (m.take k ++ m.drop (k + 1)) w hx12 h12 hl12)
  have hcat : (a.size : Int) + (b.size : Int) ≤ 100000 := by omega
  obtain ⟨n, hn⟩ : ∃ n, t.size - (k + 1) = n := ⟨_, rfl⟩
  have hbn : b.size = n := by omega
  have hn4 : n ≤ 400 := by omega
  have hrp := fun w => Tryz.strings_Repeat ⟨#[48]⟩ n w (by omega) (by show 1 * n ≤ _; omega)
  have hzs := one_zeros n
  have hrl : (⟨(Lib.repeatL [48] n).toArray⟩ : ByteArray).size = n := by
    rw [← str_size]
    simp [Lib.repeatL_length]
  obtain ⟨Z, hZ⟩ : ∃ Z : ByteArray, ⟨(Lib.repeatL [48] n).toArray⟩ = Z := ⟨_, rfl⟩
  rw [hZ] at hzs hrl
  have HRP := Lib.hid (fun w => show Calls Tryz.prog 13 #[.string ⟨#[48]⟩, .int .i64 (b.size : Int)] w (SmallRes (.string Z) w) from by rw [hbn]; exact hZ ▸ hrp w)
  have hr1 : (1 : Int) + (Z.size : Int) ≤ 1000001 := by omega
  have hdt : (dec (10 ^ n)).data.toList = Lib.decDigits (10 ^ n) := by rw [← ByteArray.toList_eq, dec_toList]
  have HND := Lib.hid (fun w => show Calls Tryz.prog 69 #[.string ((⟨#[49]⟩ : ByteArray) ++ Z)] w (W3Post ((10 ^ n : Nat) : Int) w) from by
    have h := t3number_any ((⟨#[49]⟩ : ByteArray) ++ Z) (Lib.decDigits (10 ^ n)) w (by rw [hzs, hdt]) (by unfold digs; rw [all_dd]; cases h : Lib.decDigits (10 ^ n) with
      | nil => exact absurd h (dd_ne_nil _)
      | cons _ _ => rfl) (by rw [append_size, hrl]; show 1 + n ≤ _; omega)
    rw [val_dd] at h
    exact h)
  rw [hn] at hpos hQ hn8
  have hbt := get_bt t
  have HSG := Lib.hid (show (((10 ^ (n) : Nat) : Int) : Int).sign = 1 from Int.sign_eq_one_of_pos hpos)
  have HQ0 := Lib.hid (show (((10 ^ (n) : Nat) : Int) : Int) ≠ 0 by omega)
  have HQ := Lib.hid (show Rat.divInt (-((val (m.take k ++ m.drop (k + 1)) : Nat) : Int)) ((10 ^ (n) : Nat) : Int) = Q from hQ)
  have HN9 := Lib.hid (show nz (-((val (m.take k ++ m.drop (k + 1)) : Nat) : Int)) ≤ 90000 by rw [nz_neg]; exact hn9)
  have HN8 := Lib.hid hn8
  have hlt : (t.size : Int) < (s.size : Int) := by omega
  clear hpos hQ hn9 hn8 hsg
  clear htm hd hd2 hx1 hx2 hl1 hl2 hk hc h12 hx12 hl12 hn hbn hn4 hrp hzs hrl hZ hdt
  clear hamb
  go_enter Tryz.func15, Tryz.ntmps15
  go_wp2_with fail
  obtain ⟨W, hW⟩ : ∃ W, (w.alloc (.cells #[.string ⟨#[]⟩, .string ⟨#[]⟩] 27)) = W := ⟨_, rfl⟩
  rw [hW]
  have p1 := P0.start hW
  clear hW
  refine (HTP.out _).mono ?_
  rintro e w1 ⟨rfl, rfl⟩
  have q1 := Lib.hid p1
  clear p1
  go_wp2_with fail
  refine (HIX.out _).mono ?_
  rintro e w2 ⟨rfl, hb2⟩
  have q2 := Lib.hid (q1.out.later hb2)
  clear hb2
  go_wp2_with fail
  refine (t3of_any 1 _ (HAMB.out.below q2.out.1) (by decide) (by decide)).mono ?_
  rintro e w3 ⟨v3, rfl, hv3, hb3⟩
  obtain ⟨s3, A3, n3, c3, hve3, hvl3, _, _, _⟩ := hv3.parts
  subst hve3
  clear hvl3
  have q3 := Lib.hid (q2.out.later hb3)
  have HV3 := Lib.hid hv3
  clear hb3 hv3
  go_upto_region 6 with fail
  obtain ⟨w4, hw4⟩ : ∃ W, (w3.alloc (.cells #[.bool s3, .slice A3 n3 c3] 73)) = W := ⟨_, rfl⟩
  obtain ⟨g8, hg8⟩ : ∃ g, w3.heap.size = g := ⟨_, rfl⟩
  have q4 := Lib.hid (q3.out.next HV3.out hw4 hg8)
  rw [hw4, hg8]
  clear hw4 hg8
  go_wp2_with fail
  go_region_with fail
  go_wp2_with fail
  have q4d := Lib.hid (q4.out.later (Below.refl _ _).drew)
  refine (HDA.out _).mono ?_
  rintro e w5 ⟨rfl, hb5⟩
  have q5 := Lib.hid (q4d.out.later hb5)
  clear hb5
  go_wp2_with fail
  refine (HDB.out _).mono ?_
  rintro e w6 ⟨rfl, hb6⟩
  have q6 := Lib.hid (q5.out.later hb6)
  clear hb6
  go_wp2_with fail
  refine (HNA.out _).mono ?_
  rintro e w7 ⟨v7, rfl, hv7, hb7⟩
  obtain ⟨s7, A7, n7, c7, hve7, hvl7, _, _, _⟩ := hv7.parts
  subst hve7
  clear hvl7
  have q7 := Lib.hid (q6.out.later hb7)
  have HV7 := Lib.hid hv7
  clear hb7 hv7
  go_upto_region 11 with fail
  obtain ⟨w8, hw8⟩ : ∃ W, (w7.alloc (.cells #[.bool s7, .slice A7 n7 c7] 73)) = W := ⟨_, rfl⟩
  obtain ⟨g9, hg9⟩ : ∃ g, w7.heap.size = g := ⟨_, rfl⟩
  have q8 := Lib.hid (q7.out.next HV7.out hw8 hg9)
  rw [hw8, hg9]
  clear hw8 hg9
  go_wp2_with fail
  refine (HNC.out _).mono ?_
  rintro e w9 ⟨v9, rfl, hv9, hb9⟩
  obtain ⟨s9, A9, n9, c9, hve9, hvl9, _, _, _⟩ := hv9.parts
  subst hve9
  clear hvl9
  have q9 := Lib.hid (q8.out.later hb9)
  have HV9 := Lib.hid hv9
  clear hb9 hv9
  go_wp2_with fail
  refine (HRP.out _).mono ?_
  rintro e w10 ⟨rfl, hb10⟩
  have q10 := Lib.hid (q9.out.later hb10)
  have HV9a := Lib.hid (HV9.out.below hb10)
  clear hb10
  go_wp2_with fail
  refine (HND.out _).mono ?_
  rintro e w11 ⟨v11, rfl, hv11, hb11⟩
  obtain ⟨s11, A11, n11, c11, hve11, hvl11, _, _, _⟩ := hv11.parts
  subst hve11
  clear hvl11
  have q11 := Lib.hid (q10.out.later hb11)
  have HV9b := Lib.hid (HV9a.out.below hb11)
  have HV11 := Lib.hid hv11
  clear hb11 hv11
  obtain ⟨_, b911, B911, m911, k911, ⟨_, ca911, cb911, cc911, cd911⟩, hw911⟩ := q11.out.2.2
  obtain ⟨_, b811, B811, m811, k811, ⟨_, ca811, cb811, cc811, cd811⟩, hw811⟩ := q11.out.1.2.2
  have hne89 : ¬ g8 = g9 := by have := q11.out.2.1; omega
  have hne98 : ¬ g9 = g8 := by have := q11.out.2.1; omega
  have hvd := Lib.hid (HV11.out.store2 (b := g9) (i := 0) (j := 1) q11.out.2.2.1 (.bool s9) (.slice A9 n9 c9))
  go_upto_region 15 with fail
  obtain ⟨wS, hwS⟩ : ∃ W, ((((w11.setCell ⟨g9, 0, none⟩ (.bool s9)).setCell ⟨g9, 1, none⟩ (.slice A9 n9 c9)).setCell ⟨g8, 0, none⟩ (.bool s11)).setCell ⟨g8, 1, none⟩ (.slice A11 n11 c11)) = W := ⟨_, rfl⟩
  have q12 := Lib.hid (hwS ▸ (q11.out.put9 HV9b.out).put8 hvd.out)
  rw [hwS]
  clear hwS
  obtain ⟨w12, hwe⟩ : ∃ W, wS = W := ⟨_, rfl⟩
  rw [hwe] at q12 ⊢
  clear hwe
  obtain ⟨_, b812, B812, m812, k812, ⟨_, ca812, cb812, cc812, cd812⟩, hw812⟩ := q12.out.1.2.2
  go_wp2_with fail
  refine (show Calls _ _ _ _ (SmallRes (.int .i64 1) _) from HSG.out ▸ t3sign_any _ ((10 ^ (n) : Nat) : Int) w12 hw812).mono ?_
  rintro e w13 ⟨rfl, hb13⟩
  have q13 := Lib.hid (q12.out.later hb13)
  clear hb13
  obtain ⟨_, b913, B913, m913, k913, ⟨_, ca913, cb913, cc913, cd913⟩, hw913⟩ := q13.out.2.2
  go_wp2_with fail
  refine (t3neg_any _ ((val (m.take k ++ m.drop (k + 1)) : Nat) : Int) w13 hw913).mono ?_
  rintro e w14 ⟨v14, rfl, hv14, hb14⟩
  obtain ⟨s14, A14, n14, c14, hve14, hvl14, _, _, _⟩ := hv14.parts
  subst hve14
  clear hvl14
  have q14 := Lib.hid (q13.out.later hb14)
  have HV14 := Lib.hid hv14
  clear hb14 hv14
  obtain ⟨_, b914, B914, m914, k914, ⟨_, ca914, cb914, cc914, cd914⟩, hw914⟩ := q14.out.2.2
  go_upto_region 19 with fail
  obtain ⟨w15, hw15⟩ : ∃ W, ((w14.setCell ⟨g9, 0, none⟩ (.bool s14)).setCell ⟨g9, 1, none⟩ (.slice A14 n14 c14)) = W := ⟨_, rfl⟩
  have q15 := Lib.hid (hw15 ▸ q14.out.put9 HV14.out)
  rw [hw15]
  clear hw15
  obtain ⟨_, b915, B915, m915, k915, ⟨_, ca915, cb915, cc915, cd915⟩, hw915⟩ := q15.out.2.2
  obtain ⟨_, b815, B815, m815, k815, ⟨_, ca815, cb815, cc815, cd815⟩, hw815⟩ := q15.out.1.2.2
  go_wp2_with fail
  refine (t3make_eq _ _ (-((val (m.take k ++ m.drop (k + 1)) : Nat) : Int)) ((10 ^ (n) : Nat) : Int) w15 (HAMB.out.below q15.out.1.1.1) hw915 hw815 HQ0.out HN9.out HN8.out HQ.out).mono ?_
  rintro e w16 ⟨rfl, hb16⟩
  have q16 := Lib.hid (q15.out.later hb16)
  clear hb16
  obtain ⟨_, ra16, rb16, rc16, rd16⟩ := (q16.out.1.1).2.1
  go_wp2_with fail
  refine ret_cell_tmp rfl rfl (load_rat (g := w.heap.size) (((q16.out.1.1).2.1.set0 _).set1 _)) rfl ?_
  exact ⟨rfl, ((q16.out.1.1).1.setCell (Nat.le_refl _) _).setCell (Nat.le_refl _) _⟩

set_option maxRecDepth 100000 in
theorem t3parse_long (s : ByteArray) (w : World) (h : (400 : Int) < (s.size : Int)) : Calls Tryz.prog 15 #[.string s] w (SmallRes (.tuple #[noRat, .int .i64 16]) w) := by
  go_enter Tryz.func15, Tryz.ntmps15
  go_wp2_with fail
  refine ret_cell_tmp rfl rfl (load_rat (g := w.heap.size) ((Box2.new w _ _ 27))) rfl ?_
  exact ⟨rfl, (Below.refl _ _).alloc (Nat.le_refl _) _⟩
theorem mag_sign (l : List UInt8) : (negT l = true → (magT l).length + 1 = l.length) ∧ (negT l = false → (magT l).length = l.length) := by
  unfold negT magT Lib.trimPrefix
  refine ⟨fun h => ?_, fun h => ?_⟩
  · rw [if_pos h, List.length_drop]
    cases l with
    | nil => exact absurd h (by decide)
    | cons a r => simp
  · rw [if_neg (by rw [h]; decide)]
/-- schismaref03.Parse. -/
theorem t3parse_any (s : ByteArray) (w : World) (hamb : Amb w) (hs6 : s.size ≤ 1000000) : Calls Tryz.prog 15 #[.string s] w (SmallRes (ParseQ s.data.toList) w) := by
  obtain ⟨V, hV⟩ : ∃ V, ParseQ s.data.toList = V := ⟨_, rfl⟩
  rw [hV]
  have hsl : s.data.toList.length = s.size := str_size s
  have HR := Lib.hid hV
  unfold ParseQ at hV
  rw [hsl] at hV
  by_cases h4 : 400 < s.size
  · rw [if_pos h4] at hV
    exact hV ▸ t3parse_long s w (by omega)
  rw [if_neg h4] at hV
  obtain ⟨t, ht⟩ : ∃ t : ByteArray, (⟨(magT s.data.toList).toArray⟩ : ByteArray) = t := ⟨_, rfl⟩
  obtain ⟨m, hm⟩ : ∃ m, magT s.data.toList = m := ⟨_, rfl⟩
  have htm : t.data.toList = m := by rw [← ht, hm]
  have hml := mag_len s.data.toList
  have hms := mag_sign s.data.toList
  rw [hm, hsl] at hms hml
  rw [hm] at hV
  have hts : t.size = m.length := by rw [← htm, str_size]
  have HTP := Lib.hid (fun w => show Calls Tryz.prog 66 #[.string s, .string ⟨#[45]⟩] w (fun e w' => e = .returned (.string t) ∧ w' = w) from
    (Tryz.strings_TrimPrefix s ⟨#[45]⟩ w).mono fun e w' h => by rw [← ht]; exact h)
  have hsp := indexAny_spec [47, 46] m
  have hix := fun w => indexAny_any t w (by omega)
  rw [htm] at hix
  have h400 : s.size ≤ 400 := by omega
  have htl : t.size ≤ s.size := by omega
  have hng : ∀ b, negT s.data.toList = b → (if b = true then t.size + 1 = s.size else t.size = s.size) := fun b hb => by
    cases b with
    | true => rw [if_pos rfl, hts]; exact hms.1 hb
    | false => rw [if_neg (by decide), hts]; exact hms.2 hb
  generalize negT s.data.toList = ng at *
  have hgn := hng ng rfl
  have big : ∀ x : Nat, Lib.nDigits x ≤ m.length + 1 → nz (x : Int) ≤ 90000 := fun x hx => by rw [nz_nat]; omega
  rcases hsp with hk | ⟨k, hk, hkl, hc⟩
  · have HIX := Lib.hid (fun w => show Calls Tryz.prog 62 #[.string t, .string ⟨#[47, 46]⟩] w (SmallRes (.int .i64 (-1)) w) from hk ▸ hix w)
    have hp : parseND m = if digs m = true then some (val m, 1) else none := by unfold parseND; rw [hk, if_pos (by decide)]
    rw [hp] at hV
    cases hd : digs m with
    | false =>
      rw [if_neg (by rw [hd]; decide)] at hV
      exact hV ▸ t3parse_n0 s t m w hamb h400 HTP htm htl HIX hd
    | true =>
      rw [if_pos hd] at hV
      simp only [Nat.one_ne_zero, if_false] at hV
      have h9 := big _ (nd_val hd)
      have h8 : nz (1 : Int) ≤ 90000 := Nat.le_trans ((nz_le_iff 1 0).2 (by decide)) (by omega)
      cases ng with
      | true => exact hV ▸ t3parse_n11 s t m w hamb h400 HTP htm htl HIX hd (by omega) _ hgn (by omega) rfl h9 h8
      | false => exact hV ▸ t3parse_n10 s t m w hamb h400 HTP htm htl HIX hd (by omega) _ hgn (by omega) rfl h9 h8
  · have HIX := Lib.hid (fun w => show Calls Tryz.prog 62 #[.string t, .string ⟨#[47, 46]⟩] w (SmallRes (.int .i64 (k : Int)) w) from hk ▸ hix w)
    have hkt : k < t.size := by omega
    have hp : parseND m = if digs (m.take k) = true ∧ digs (m.drop (k + 1)) = true then (if m.getD k 0 = 47 then some (val (m.take k), val (m.drop (k + 1))) else some (val (m.take k ++ m.drop (k + 1)), 10 ^ (m.length - k - 1))) else none := by
      unfold parseND; rw [hk, if_neg (by omega)]; rfl
    rw [hp] at hV
    cases hd : digs (m.take k) with
    | false =>
      rw [if_neg (by rw [hd]; simp)] at hV
      exact hV ▸ t3parse_k0 s t m w hamb h400 HTP htm htl k hkt HIX hd
    | true =>
      cases hd2 : digs (m.drop (k + 1)) with
      | false =>
        rw [if_neg (by rw [hd2]; simp)] at hV
        exact hV ▸ t3parse_k1 s t m w hamb h400 HTP htm htl k hkt HIX hd hd2
      | true =>
        rw [if_pos ⟨hd, hd2⟩] at hV
        have e1 := nd_val hd
        have e2 := nd_val hd2
        rw [List.length_take] at e1
        rw [List.length_drop] at e2
        by_cases h47 : m.getD k 0 = 47
        · rw [if_pos h47] at hV
          by_cases hz : val (m.drop (k + 1)) = 0
          · simp only [hz, if_true] at hV
            exact hV ▸ t3parse_z s t m w hamb h400 HTP htm htl k hkt HIX hd hd2 h47 hz
          · simp only [hz, if_false] at hV
            cases ng with
            | true => exact hV ▸ t3parse_s1 s t m w hamb h400 HTP htm htl k hkt HIX hd hd2 h47 _ hgn (by omega) rfl (big _ (by omega)) (big _ (by omega))
            | false => exact hV ▸ t3parse_s0 s t m w hamb h400 HTP htm htl k hkt HIX hd hd2 h47 _ hgn (by omega) rfl (big _ (by omega)) (big _ (by omega))
        · rw [if_neg h47] at hV
          have h46 : m.getD k 0 = 46 := by
            simp at hc
            rcases hc with h | h
            · exact absurd (by rw [List.getD_eq_getElem?_getD]; exact h) h47
            · rw [List.getD_eq_getElem?_getD]; exact h
          have e3 := nd_val (digs_append hd hd2)
          rw [List.length_append, List.length_take, List.length_drop] at e3
          have e4 := nd_pow (t.size - (k + 1))
          have hpos : 0 < 10 ^ (t.size - (k + 1)) := Nat.pow_pos (by decide)
          rw [show m.length - k - 1 = t.size - (k + 1) by omega] at hV
          simp only [Nat.ne_of_gt hpos, if_false] at hV
          cases ng with
          | true => exact hV ▸ t3parse_p1 s t m w hamb h400 HTP htm htl k hkt HIX hd hd2 h46 _ hgn (by omega) rfl (big _ (by omega)) (big _ (by omega))
          | false => exact hV ▸ t3parse_p0 s t m w hamb h400 HTP htm htl k hkt HIX hd hd2 h46 _ hgn (by omega) rfl (big _ (by omega)) (big _ (by omega))
end Go.Proofs.YtdjhngbpfdopnaaGreatDoor
