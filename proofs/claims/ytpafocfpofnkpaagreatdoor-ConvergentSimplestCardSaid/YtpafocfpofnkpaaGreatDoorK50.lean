/- Greater text, out of: K50. -/
import Derived.Test.YtpafocfpofnkpaaGreatDoorK44
import Derived.Test.YtpafocfpofnkpaaGreatDoorK9
namespace Go.Proofs.YtpafocfpofnkpaaGreatDoor
open Go.RowKit Go.PlainAid
attribute [local go_sem] field_rat0 field_rat1
set_option maxRecDepth 100000 in
set_option maxHeartbeats 2000000 in
/-- schismaref04.Nearer. -/
theorem r4nearer_any (n d p q r s : Int) (w : World) (hn : n.natAbs ≤ 10000000) (hd : d.natAbs ≤ 10000000) (hp : p.natAbs ≤ 1000000000) (hr : r.natAbs ≤ 1000000000) (hq : q.natAbs ≤ 100) (hs : s.natAbs ≤ 100) :
    Calls Tryz.prog 43 #[.int .i64 n, .int .i64 d, .int .i64 p, .int .i64 q, .int .i64 r, .int .i64 s] w (SmallRes (.bool (nearer n d p q r s)) w) := by
  have p1 := pr4 (a := n) (b := q) hn hq
  have p2 := pr4 (a := p) (b := d) hp hd
  have p3 := pr4 (a := n) (b := s) hn hs
  have p4 := pr4 (a := r) (b := d) hr hd
  obtain ⟨x, hx⟩ : ∃ x, n * q - p * d = x := ⟨_, rfl⟩
  obtain ⟨y, hy⟩ : ∃ y, n * s - r * d = y := ⟨_, rfl⟩
  have v1 : IntKind.i64.wrap (n * q) = n * q := IntWalk.i64_in _ (by omega)
  have v2 : IntKind.i64.wrap (p * d) = p * d := IntWalk.i64_in _ (by omega)
  have v3 : IntKind.i64.wrap (n * s) = n * s := IntWalk.i64_in _ (by omega)
  have v4 : IntKind.i64.wrap (r * d) = r * d := IntWalk.i64_in _ (by omega)
  have v5 : IntKind.i64.wrap (n * q - p * d) = x := by rw [hx]; exact IntWalk.i64_in _ (by omega)
  have v6 : IntKind.i64.wrap (n * s - r * d) = y := by rw [hy]; exact IntWalk.i64_in _ (by omega)
  obtain ⟨X, hX⟩ : ∃ X : Int, (x.natAbs : Int) = X := ⟨_, rfl⟩
  obtain ⟨Y, hY⟩ : ∃ Y : Int, (y.natAbs : Int) = Y := ⟨_, rfl⟩
  have p5 := pr4 (a := X) (b := s) (A := 11000000000000000) (by omega) hs
  have p6 := pr4 (a := Y) (b := q) (A := 11000000000000000) (by omega) hq
  have v7 : IntKind.i64.wrap (X * s) = X * s := IntWalk.i64_in _ (by omega)
  have v8 : IntKind.i64.wrap (Y * q) = Y * q := IntWalk.i64_in _ (by omega)
  have HV := Lib.hid (show nearer n d p q r s = decide (X * s < Y * q) by unfold nearer dl; rw [hx, hy, hX, hY])
  rw [HV.out]
  obtain ⟨V, hV⟩ : ∃ V, decide (X * s < Y * q) = V := ⟨_, rfl⟩
  rw [hV]
  have v9 : IntKind.i64.wrap (0 - x) = -x := by rw [show 0 - x = -x by omega]; exact IntWalk.i64_in _ (by omega)
  have v10 : IntKind.i64.wrap (-x) = -x := IntWalk.i64_in _ (by omega)
  have v11 : IntKind.i64.wrap (0 - y) = -y := by rw [show 0 - y = -y by omega]; exact IntWalk.i64_in _ (by omega)
  have v12 : IntKind.i64.wrap (-y) = -y := IntWalk.i64_in _ (by omega)
  by_cases hx0 : x < 0
  · obtain rfl : X = -x := by omega
    by_cases hy0 : y < 0
    · obtain rfl : Y = -y := by omega
      clear hx hy hX hY HV p1 p2 p3 p4 p5 p6 hn hd hp hr hq hs
      go_enter Tryz.func43, Tryz.ntmps43
      go_wp2_with fail
      go_ret
      exact ⟨by rw [← hV]; rfl, Below.refl _ _⟩
    · obtain rfl : Y = y := by omega
      clear hx hy hX hY HV p1 p2 p3 p4 p5 p6 hn hd hp hr hq hs
      go_enter Tryz.func43, Tryz.ntmps43
      go_wp2_with fail
      go_ret
      exact ⟨by rw [← hV]; rfl, Below.refl _ _⟩
  · obtain rfl : X = x := by omega
    by_cases hy0 : y < 0
    · obtain rfl : Y = -y := by omega
      clear hx hy hX hY HV p1 p2 p3 p4 p5 p6 hn hd hp hr hq hs
      go_enter Tryz.func43, Tryz.ntmps43
      go_wp2_with fail
      go_ret
      exact ⟨by rw [← hV]; rfl, Below.refl _ _⟩
    · obtain rfl : Y = y := by omega
      clear hx hy hX hY HV p1 p2 p3 p4 p5 p6 hn hd hp hr hq hs
      go_enter Tryz.func43, Tryz.ntmps43
      go_wp2_with fail
      go_ret
      exact ⟨by rw [← hV]; rfl, Below.refl _ _⟩

/-- The last one so far, or none. -/
def lastZ (l : List (Int × Int)) : Int × Int := l.getLast?.getD (0, 0)
theorem rb_mem (n d : Int) : ∀ k : Nat, ∀ z ∈ rb n d k, 1 ≤ z.2 ∧ z.2 ≤ (k : Int) ∧ z.1 = pick n d z.2 := by
  intro k
  induction k with
  | zero => intro z hz; cases hz
  | succ k ih =>
    intro z hz
    have hz' : z ∈ rbStep n d (rb n d k) ((k : Int) + 1) := hz
    have hold : z ∈ rb n d k → 1 ≤ z.2 ∧ z.2 ≤ ((k + 1 : Nat) : Int) ∧ z.1 = pick n d z.2 := fun h => by have := ih z h; omega
    have hnew : z = (pick n d ((k : Int) + 1), (k : Int) + 1) → 1 ≤ z.2 ∧ z.2 ≤ ((k + 1 : Nat) : Int) ∧ z.1 = pick n d z.2 := fun h => by subst h; exact ⟨by simp; omega, by simp, rfl⟩
    unfold rbStep at hz'
    split at hz'
    · exact hnew (by simpa using hz')
    · split at hz'
      · rcases List.mem_append.1 hz' with h | h
        · exact hold h
        · exact hnew (by simpa using h)
      · exact hold hz'
theorem rb_len (n d : Int) : ∀ k : Nat, (rb n d k).length ≤ k := by
  intro k
  induction k with
  | zero => exact Nat.le_refl _
  | succ k ih =>
    show (rbStep n d (rb n d k) ((k : Int) + 1)).length ≤ k + 1
    unfold rbStep
    split
    · simp
    · split
      · simp only [List.length_append, List.length_cons, List.length_nil]; omega
      · omega
theorem pick_bd {n d q : Int} (hd : 1 ≤ d) (hn : n.natAbs ≤ 9999999) (hq : q.natAbs ≤ 100) : (n * q / d).natAbs ≤ 999999900 ∧ (pick n d q = n * q / d ∨ pick n d q = n * q / d + 1) := by
  have p1 := pr4 (a := n) (b := q) hn hq
  have := natAbs_ediv_le (n * q) d (by omega)
  refine ⟨by omega, ?_⟩
  unfold pick
  split
  · exact .inr rfl
  · exact .inl rfl

set_option maxRecDepth 100000 in
set_option maxHeartbeats 8000000 in
/-- schismaref04.Best. -/
theorem r4best_any (n d : Int) (b : Nat) (w : World) (hn : n.natAbs ≤ 9999999) (hd0 : 1 ≤ d) (hd : d ≤ 9999999) (hb : b ≤ 60) :
    Calls Tryz.prog 15 #[.int .i64 n, .int .i64 d, .int .i64 (b : Int)] w (R1Res ((rb n d b).map tr) w) := by
  have HFLR := Lib.hid (fun u w (hu : I62 u) => r4floor_any u d w hu hd0 (by omega))
  have HNRR := Lib.hid (fun p q r s w (hp : p.natAbs ≤ 1000000000) (hq : q.natAbs ≤ 100) (hr : r.natAbs ≤ 1000000000) (hs : s.natAbs ≤ 100) => r4nearer_any n d p q r s w (by omega) (by omega) hp hr hq hs)
  have HPB := Lib.hid (fun q (hq : q.natAbs ≤ 100) => pick_bd (n := n) (d := d) (q := q) hd0 (by omega) hq)
  have HPR := Lib.hid (fun q (hq : q.natAbs ≤ 100) => pr4 (a := n) (b := q) (A := 10000000) (by omega) hq)
  clear hn hd0 hd
  go_enter Tryz.func15, Tryz.ntmps15
  go_wp2_with fail
  go_loopw [7, 8, 9, 10] (fun vo vr vs vq wr => ∃ k : Nat, k ≤ b ∧ vq = .int .i64 ((k : Int) + 1) ∧ vr = .int .i64 (lastZ (rb n d k)).1 ∧ vs = .int .i64 (lastZ (rb n d k)).2 ∧ OwnR w.heap.size wr vo ((rb n d k).map tr) ∧ Below w.heap.size w wr) (fun _ _ _ vq _ => b + 1 - (intOf vq).toNat)
  case atStart => exact ⟨0, Nat.zero_le _, by first | rfl | (simp; done), rfl, rfl, OwnR.nil _ _, Below.refl _ _⟩
  case round =>
    obtain ⟨k, hk, rfl, rfl, rfl, hown, hB⟩ := hrel
    obtain ⟨qs, hqs⟩ : ∃ qs, (rb n d k).map tr = qs := ⟨_, rfl⟩
    rw [hqs] at hown
    have HQS := Lib.hid hqs
    have hxl : qs.length ≤ 1000000000 := by have := rb_len n d k; rw [← hqs, List.length_map]; omega
    clear hqs
    have HO := Lib.hid hown
    have HB := Lib.hid hB
    obtain ⟨A1, c1, rfl, _⟩ := hown.ss
    clear hown hB
    by_cases hkb : k = b
    · subst hkb
      have hlt : ¬ (k : Int) + 1 ≤ (k : Int) := by omega
      obtain ⟨x1, hx1⟩ : ∃ x, (lastZ (rb n d k)).1 = x := ⟨_, rfl⟩
      obtain ⟨x2, hx2⟩ : ∃ x, (lastZ (rb n d k)).2 = x := ⟨_, rfl⟩
      rw [hx1, hx2]
      clear hx1 hx2
      go_wp2_with fail
      go_ret
      obtain ⟨A2, c2, e2, h2⟩ := HO.out.ins
      cases e2
      rw [HQS.out]
      exact ⟨_, _, _, rfl, h2, HB.out⟩
    have hlt : (k : Int) + 1 ≤ (b : Int) := by omega
    obtain ⟨q, hq⟩ : ∃ q : Int, (k : Int) + 1 = q := ⟨_, rfl⟩
    have HQK := Lib.hid hq
    rw [hq] at hlt
    have hqb : q.natAbs ≤ 100 := by omega
    have hpk := HPB.out q hqb
    have hpr := HPR.out q hqb
    have HL := Lib.hid (rb_mem n d k)
    have HST := Lib.hid (show rb n d (k + 1) = rbStep n d (rb n d k) q from hq ▸ rfl)
    rw [HQK.out]
    have hw1 : IntKind.i64.wrap (n * q) = n * q := IntWalk.i64_in _ (by omega)
    have HFL := Lib.hid (fun w => HFLR.out (n * q) w ⟨by omega, by omega⟩)
    obtain ⟨p0, hp0⟩ : ∃ p, n * q / d = p := ⟨_, rfl⟩
    have hpick : pick n d q = if nearer n d (p0 + 1) q p0 q = true then p0 + 1 else p0 := by rw [← hp0]; rfl
    rw [hp0] at hpk HFL
    have hw2 : IntKind.i64.wrap (p0 + 1) = p0 + 1 := IntWalk.i64_in _ (by omega)
    have hw3 : IntKind.i64.wrap (q + 1) = q + 1 := IntWalk.i64_in _ (by omega)
    have HN1 := Lib.hid (fun w => HNRR.out (p0 + 1) q p0 q w (by omega) hqb (by omega) hqb)
    obtain ⟨b1, hb1⟩ : ∃ b1, nearer n d (p0 + 1) q p0 q = b1 := ⟨_, rfl⟩
    have HB1 := Lib.hid hb1
    rw [hb1] at hpick
    have hqn : (q == 0) = false := by rw [beq_eq_false_iff_ne]; omega
    obtain ⟨P, hP⟩ : ∃ P, pick n d q = P := ⟨_, rfl⟩
    rw [hP] at hpick
    have HMK := Lib.hid (fun w => r4make_any P q w ⟨by rw [hpick]; split <;> omega, by rw [hpick]; split <;> omega⟩ (by omega) (by omega))
    obtain ⟨Y, hY⟩ : ∃ Y, Rat.divInt P q = Y := ⟨_, rfl⟩
    rw [hY] at HMK
    have HPBD := Lib.hid (show P.natAbs ≤ 1000000000 by have := HPB.out q hqb; rw [hp0, hP] at this; rw [hpick]; split <;> omega)
    have HN2 := Lib.hid (fun r s w (hr : r.natAbs ≤ 1000000000) (hs : s.natAbs ≤ 100) => HNRR.out P q r s w HPBD.out hqb hr hs)
    have HSTEP := Lib.hid (show rb n d (k + 1) = match (rb n d k).getLast? with | none => [(P, q)] | some z => if nearer n d P q z.1 z.2 = true then rb n d k ++ [(P, q)] else rb n d k by rw [HST.out, ← hP]; rfl)
    have HYT := Lib.hid (show tr (P, q) = Y from hY)
    clear hpk hpr hq hp0 hP hY HST hb1
    obtain ⟨L, hL⟩ : ∃ L, rb n d k = L := ⟨_, rfl⟩
    rw [hL] at HQS HL HSTEP ⊢
    clear hL
    rcases (show L = [] ∨ ∃ zs z, L = zs ++ [z] from by rcases List.eq_nil_or_concat L with h | ⟨a, b, h⟩; exact .inl h; exact .inr ⟨a, b, by simpa using h⟩) with rfl | ⟨zs, z, rfl⟩
    · have HNEW := Lib.hid (show lastZ (rb n d (k + 1)) = (P, q) by rw [HSTEP.out]; rfl)
      have HROW := Lib.hid (show (rb n d (k + 1)).map tr = qs ++ [Y] by rw [HSTEP.out, ← HYT.out, ← HQS.out]; rfl)
      rw [show (lastZ []).1 = 0 from rfl, show (lastZ []).2 = 0 from rfl]
      clear HSTEP HL
      cases b1
      · obtain rfl : P = p0 := hpick
        go_wp2_with fail
        refine (HFL.out wr).mono ?_
        rintro e w5 ⟨rfl, hb5⟩
        go_wp2_with fail
        refine (HN1.out w5).mono ?_
        rintro e w6 ⟨rfl, hb6⟩
        have hz6 := bel_chain hb5 hb6
        clear hb5 hb6
        rw [HB1.out]
        have hz7 : Below wr.heap.size wr w6 := hz6
        clear hz6
        go_wp2_with fail
        refine (HMK.out _).mono ?_
        rintro e w8 ⟨rfl, hb8⟩
        have hz8 := bel_chain hz7 hb8
        have hown8 := HO.out.below hz8
        have hB8 := bel_chain HB.out hz8
        have HB8 := Lib.hid hB8
        clear hb8 hz8 hz7
        go_wp2_with (at_builtin; refine append_OwnR rfl _ _ 29 rfl Tryz.underlying29 w.heap.size _ _ w8 rfl hown8 hB8.size hxl Y rfl rfl ?_; intro v9 w9 hown9 hb9; have HO9 := Lib.hid hown9; have HB9 := Lib.hid hb9; clear hown9 hb9)
        go_roundw
        case rel => exact ⟨k + 1, by omega, by have hqk := HQK.out; congr 1; omega, by rw [HNEW.out], by rw [HNEW.out], by rw [HROW.out]; exact HO9.out, HB8.out.trans HB9.out⟩
        case measure => have hqk := HQK.out; simp [intOf]; omega
      · obtain rfl : P = p0 + 1 := hpick
        go_wp2_with fail
        refine (HFL.out wr).mono ?_
        rintro e w5 ⟨rfl, hb5⟩
        go_wp2_with fail
        refine (HN1.out w5).mono ?_
        rintro e w6 ⟨rfl, hb6⟩
        have hz6 := bel_chain hb5 hb6
        clear hb5 hb6
        rw [HB1.out]
        have hz7 : Below wr.heap.size wr w6 := hz6
        clear hz6
        go_wp2_with fail
        refine (HMK.out _).mono ?_
        rintro e w8 ⟨rfl, hb8⟩
        have hz8 := bel_chain hz7 hb8
        have hown8 := HO.out.below hz8
        have hB8 := bel_chain HB.out hz8
        have HB8 := Lib.hid hB8
        clear hb8 hz8 hz7
        go_wp2_with (at_builtin; refine append_OwnR rfl _ _ 29 rfl Tryz.underlying29 w.heap.size _ _ w8 rfl hown8 hB8.size hxl Y rfl rfl ?_; intro v9 w9 hown9 hb9; have HO9 := Lib.hid hown9; have HB9 := Lib.hid hb9; clear hown9 hb9)
        go_roundw
        case rel => exact ⟨k + 1, by omega, by have hqk := HQK.out; congr 1; omega, by rw [HNEW.out], by rw [HNEW.out], by rw [HROW.out]; exact HO9.out, HB8.out.trans HB9.out⟩
        case measure => have hqk := HQK.out; simp [intOf]; omega
    · have hlz : lastZ (zs ++ [z]) = z := by unfold lastZ; rw [List.getLast?_concat]; rfl
      have hgl : (zs ++ [z]).getLast? = some z := List.getLast?_concat
      have hzm := HL.out z (by simp)
      rw [hlz]
      have hz1 : z.1.natAbs ≤ 1000000000 := by
        have := HPB.out z.2 (by omega)
        rw [hzm.2.2]
        rcases this.2 with h | h <;> rw [h] <;> omega
      have HN3 := Lib.hid (fun w => HN2.out z.1 z.2 w hz1 (by omega))
      have hz0 : (z.2 == 0) = false := by rw [beq_eq_false_iff_ne]; omega
      have hz0i : ¬ z.2 = 0 := by omega
      rw [hgl] at HSTEP
      obtain ⟨b2, hb2⟩ : ∃ b2, nearer n d P q z.1 z.2 = b2 := ⟨_, rfl⟩
      have HB2 := Lib.hid hb2
      obtain ⟨z1, hz1'⟩ : ∃ x, z.1 = x := ⟨_, rfl⟩
      obtain ⟨z2, hz2'⟩ : ∃ x, z.2 = x := ⟨_, rfl⟩
      rw [hz1', hz2'] at HN3 HB2
      rw [hz2'] at hz0 hz0i
      rw [hz1', hz2']
      have HZP := Lib.hid (show z = (z1, z2) by rw [← hz1', ← hz2'])
      clear hlz hgl hzm hz1
      cases b2
      · have hst : rb n d (k + 1) = zs ++ [z] := by rw [HSTEP.out]; show (if nearer n d P q z.1 z.2 = true then _ else _) = _; rw [hb2, if_neg (by decide)]
        have HNEW := Lib.hid (show lastZ (rb n d (k + 1)) = (z1, z2) by rw [hst, ← HZP.out]; unfold lastZ; rw [List.getLast?_concat]; rfl)
        have HROW := Lib.hid (show (rb n d (k + 1)).map tr = qs by rw [hst]; exact HQS.out)
        clear hst hb2 HSTEP hz1' hz2'
        cases b1
        · obtain rfl : P = p0 := hpick
          go_wp2_with fail
          refine (HFL.out wr).mono ?_
          rintro e w5 ⟨rfl, hb5⟩
          go_wp2_with fail
          refine (HN1.out w5).mono ?_
          rintro e w6 ⟨rfl, hb6⟩
          have hz6 := bel_chain hb5 hb6
          clear hb5 hb6
          rw [HB1.out]
          go_wp2_with fail
          refine (HN3.out w6).mono ?_
          rintro e w7 ⟨rfl, hb7⟩
          have hz7 := bel_chain hz6 hb7
          clear hz6 hb7
          rw [HB2.out]
          go_wp2_with fail
          go_roundw
          case rel => exact ⟨k + 1, by omega, by have hqk := HQK.out; congr 1; omega, by rw [HNEW.out], by rw [HNEW.out], by rw [HROW.out]; exact HO.out.below hz7, bel_chain HB.out hz7⟩
          case measure => have hqk := HQK.out; simp [intOf]; omega
        · obtain rfl : P = p0 + 1 := hpick
          go_wp2_with fail
          refine (HFL.out wr).mono ?_
          rintro e w5 ⟨rfl, hb5⟩
          go_wp2_with fail
          refine (HN1.out w5).mono ?_
          rintro e w6 ⟨rfl, hb6⟩
          have hz6 := bel_chain hb5 hb6
          clear hb5 hb6
          rw [HB1.out]
          go_wp2_with fail
          refine (HN3.out w6).mono ?_
          rintro e w7 ⟨rfl, hb7⟩
          have hz7 := bel_chain hz6 hb7
          clear hz6 hb7
          rw [HB2.out]
          go_wp2_with fail
          go_roundw
          case rel => exact ⟨k + 1, by omega, by have hqk := HQK.out; congr 1; omega, by rw [HNEW.out], by rw [HNEW.out], by rw [HROW.out]; exact HO.out.below hz7, bel_chain HB.out hz7⟩
          case measure => have hqk := HQK.out; simp [intOf]; omega
      · have hst : rb n d (k + 1) = zs ++ [z] ++ [(P, q)] := by rw [HSTEP.out]; show (if nearer n d P q z.1 z.2 = true then _ else _) = _; rw [hb2, if_pos rfl]
        have HNEW := Lib.hid (show lastZ (rb n d (k + 1)) = (P, q) by rw [hst]; unfold lastZ; rw [List.getLast?_concat]; rfl)
        have HROW := Lib.hid (show (rb n d (k + 1)).map tr = qs ++ [Y] by rw [hst, List.map_append, ← HYT.out, HQS.out]; rfl)
        clear hst hb2 HSTEP hz1' hz2'
        cases b1
        · obtain rfl : P = p0 := hpick
          go_wp2_with fail
          refine (HFL.out wr).mono ?_
          rintro e w5 ⟨rfl, hb5⟩
          go_wp2_with fail
          refine (HN1.out w5).mono ?_
          rintro e w6 ⟨rfl, hb6⟩
          have hz6 := bel_chain hb5 hb6
          clear hb5 hb6
          rw [HB1.out]
          go_wp2_with fail
          refine (HN3.out w6).mono ?_
          rintro e w7 ⟨rfl, hb7⟩
          have hz7 := bel_chain hz6 hb7
          clear hz6 hb7
          rw [HB2.out]
          go_wp2_with fail
          refine (HMK.out _).mono ?_
          rintro e w8 ⟨rfl, hb8⟩
          have hz8 := bel_chain hz7 hb8
          have hown8 := HO.out.below hz8
          have hB8 := bel_chain HB.out hz8
          have HB8 := Lib.hid hB8
          clear hb8 hz8 hz7
          go_wp2_with (at_builtin; refine append_OwnR rfl _ _ 29 rfl Tryz.underlying29 w.heap.size _ _ w8 rfl hown8 hB8.size hxl Y rfl rfl ?_; intro v9 w9 hown9 hb9; have HO9 := Lib.hid hown9; have HB9 := Lib.hid hb9; clear hown9 hb9)
          go_roundw
          case rel => exact ⟨k + 1, by omega, by have hqk := HQK.out; congr 1; omega, by rw [HNEW.out], by rw [HNEW.out], by rw [HROW.out]; exact HO9.out, HB8.out.trans HB9.out⟩
          case measure => have hqk := HQK.out; simp [intOf]; omega
        · obtain rfl : P = p0 + 1 := hpick
          go_wp2_with fail
          refine (HFL.out wr).mono ?_
          rintro e w5 ⟨rfl, hb5⟩
          go_wp2_with fail
          refine (HN1.out w5).mono ?_
          rintro e w6 ⟨rfl, hb6⟩
          have hz6 := bel_chain hb5 hb6
          clear hb5 hb6
          rw [HB1.out]
          go_wp2_with fail
          refine (HN3.out w6).mono ?_
          rintro e w7 ⟨rfl, hb7⟩
          have hz7 := bel_chain hz6 hb7
          clear hz6 hb7
          rw [HB2.out]
          go_wp2_with fail
          refine (HMK.out _).mono ?_
          rintro e w8 ⟨rfl, hb8⟩
          have hz8 := bel_chain hz7 hb8
          have hown8 := HO.out.below hz8
          have hB8 := bel_chain HB.out hz8
          have HB8 := Lib.hid hB8
          clear hb8 hz8 hz7
          go_wp2_with (at_builtin; refine append_OwnR rfl _ _ 29 rfl Tryz.underlying29 w.heap.size _ _ w8 rfl hown8 hB8.size hxl Y rfl rfl ?_; intro v9 w9 hown9 hb9; have HO9 := Lib.hid hown9; have HB9 := Lib.hid hb9; clear hown9 hb9)
          go_roundw
          case rel => exact ⟨k + 1, by omega, by have hqk := HQK.out; congr 1; omega, by rw [HNEW.out], by rw [HNEW.out], by rw [HROW.out]; exact HO9.out, HB8.out.trans HB9.out⟩
          case measure => have hqk := HQK.out; simp [intOf]; omega
end Go.Proofs.YtpafocfpofnkpaaGreatDoor
