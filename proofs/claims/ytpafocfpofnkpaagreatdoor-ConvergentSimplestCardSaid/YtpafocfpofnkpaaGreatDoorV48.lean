/- Greater text, out of: V48. -/
import Derived.Test.YtpafocfpofnkpaaGreatDoorV46
import Derived.Test.YtpafocfpofnkpaaGreatDoorK53
import Derived.Test.YtpafocfpofnkpaaGreatDoorK64
namespace Go.Proofs.YtpafocfpofnkpaaGreatDoor
open Go.RowKit Go.PlainAid
attribute [local go_sem] field_rat0 field_rat1
set_option maxRecDepth 100000 in
set_option maxHeartbeats 8000000 in
/-- the first one too long. -/
theorem lawSimplest_long1 (n0 d0 n1 d1 : ByteArray) (w : World) (hamb : Amb w) (h : ¬ (n0.size ≤ 7 ∧ d0.size ≤ 7)) :
    Calls Tryz.prog 5 #[.agg #[.string n0, .string d0], .agg #[.string n1, .string d1]] w (SmallRes (.bool true) w) := by
  have HSH1 := Lib.hid (fun w => show Calls Tryz.prog 10 #[.agg #[.string n0, .string d0]] w (SmallRes (.bool false) w) from by
    have := small4_all n0 d0 w
    rw [show (decide (n0.size ≤ 7) && decide (d0.size ≤ 7)) = false by rw [Bool.and_eq_false_iff, decide_eq_false_iff_not, decide_eq_false_iff_not]; omega] at this
    exact this)
  have HAMB := Lib.hid hamb
  clear hamb h
  go_enter Tryz.func5, Tryz.ntmps5
  go_wp2_with fail
  obtain ⟨W, hW⟩ : ∃ W, (w.alloc (.cells #[.string n0, .string d0] 24)).alloc (.cells #[.string n1, .string d1] 24) = W := ⟨_, rfl⟩
  rw [hW]
  obtain ⟨hX, hBW⟩ := B2.of hW
  clear hW
  have HX := Lib.hid (fun wz (hb : Below W.heap.size W wz) => hX.later hb)
  have HB := Lib.hid hBW
  have HA := Lib.hid (fun wz (hb : Below W.heap.size W wz) => HAMB.out.below (bel_chain HB.out hb))
  clear hX hBW
  refine (known04_any W (HA.out _ (Below.refl _ _))).mono ?_
  rintro e w1 ⟨rfl, hz1⟩
  obtain ⟨⟨_, x0, x1, _, _⟩, _⟩ := HX.out _ hz1
  go_wp2_with fail
  refine (HSH1.out w1).mono ?_
  rintro e w2 ⟨rfl, hb2⟩
  have hz2 := bel_chain hz1 hb2
  clear x0 x1 hz1 hb2
  go_wp2_with fail
  refine (known04_any w2 (HA.out _ hz2)).mono ?_
  rintro e w3 ⟨rfl, hb3⟩
  have hz3 := bel_chain hz2 hb3
  go_wp2_with fail
  go_ret
  exact ⟨rfl, bel_chain HB.out hz3⟩
set_option maxRecDepth 100000 in
set_option maxHeartbeats 8000000 in
/-- the second one too long. -/
theorem lawSimplest_long2 (n0 d0 n1 d1 : ByteArray) (w : World) (hamb : Amb w) (h0 : n0.size ≤ 7) (h1 : d0.size ≤ 7) (h : ¬ (n1.size ≤ 7 ∧ d1.size ≤ 7)) :
    Calls Tryz.prog 5 #[.agg #[.string n0, .string d0], .agg #[.string n1, .string d1]] w (SmallRes (.bool true) w) := by
  have HSH1 := Lib.hid (fun w => show Calls Tryz.prog 10 #[.agg #[.string n0, .string d0]] w (SmallRes (.bool true) w) from by
    have := small4_all n0 d0 w
    rw [decide_eq_true h0, decide_eq_true h1] at this
    exact this)
  have HSH2 := Lib.hid (fun w => show Calls Tryz.prog 10 #[.agg #[.string n1, .string d1]] w (SmallRes (.bool false) w) from by
    have := small4_all n1 d1 w
    rw [show (decide (n1.size ≤ 7) && decide (d1.size ≤ 7)) = false by rw [Bool.and_eq_false_iff, decide_eq_false_iff_not, decide_eq_false_iff_not]; omega] at this
    exact this)
  have HAMB := Lib.hid hamb
  clear hamb h h0 h1
  go_enter Tryz.func5, Tryz.ntmps5
  go_wp2_with fail
  obtain ⟨W, hW⟩ : ∃ W, (w.alloc (.cells #[.string n0, .string d0] 24)).alloc (.cells #[.string n1, .string d1] 24) = W := ⟨_, rfl⟩
  rw [hW]
  obtain ⟨hX, hBW⟩ := B2.of hW
  clear hW
  have HX := Lib.hid (fun wz (hb : Below W.heap.size W wz) => hX.later hb)
  have HB := Lib.hid hBW
  have HA := Lib.hid (fun wz (hb : Below W.heap.size W wz) => HAMB.out.below (bel_chain HB.out hb))
  clear hX hBW
  refine (known04_any W (HA.out _ (Below.refl _ _))).mono ?_
  rintro e w1 ⟨rfl, hz1⟩
  obtain ⟨⟨_, x0, x1, _, _⟩, _⟩ := HX.out _ hz1
  go_wp2_with fail
  refine (HSH1.out w1).mono ?_
  rintro e w2 ⟨rfl, hb2⟩
  have hz2 := bel_chain hz1 hb2
  clear x0 x1 hz1 hb2
  obtain ⟨_, ⟨_, x0, x1, _, _⟩⟩ := HX.out _ hz2
  go_wp2_with fail
  refine (HSH2.out w2).mono ?_
  rintro e w3 ⟨rfl, hb3⟩
  have hz3 := bel_chain hz2 hb3
  clear x0 x1 hz2 hb3
  go_wp2_with fail
  refine (known04_any w3 (HA.out _ hz3)).mono ?_
  rintro e w4 ⟨rfl, hb4⟩
  have hz4 := bel_chain hz3 hb4
  go_wp2_with fail
  go_ret
  exact ⟨rfl, bel_chain HB.out hz4⟩
set_option maxRecDepth 100000 in
set_option maxHeartbeats 8000000 in
/-- one of them is not right. -/
theorem lawSimplest_no (n0 d0 n1 d1 : ByteArray) (w : World) (hamb : Amb w) (h0 : n0.size ≤ 7) (h1 : d0.size ≤ 7) (h2 : n1.size ≤ 7) (h3 : d1.size ≤ 7) (r s : Bool) (hr : RB n0 d0 = r) (hs : RB n1 d1 = s) (h : r = false ∨ s = false) :
    Calls Tryz.prog 5 #[.agg #[.string n0, .string d0], .agg #[.string n1, .string d1]] w (SmallRes (.bool true) w) := by
  have HSH1 := Lib.hid (fun w => show Calls Tryz.prog 10 #[.agg #[.string n0, .string d0]] w (SmallRes (.bool true) w) from by
    have := small4_all n0 d0 w
    rw [decide_eq_true h0, decide_eq_true h1] at this
    exact this)
  have HSH2 := Lib.hid (fun w => show Calls Tryz.prog 10 #[.agg #[.string n1, .string d1]] w (SmallRes (.bool true) w) from by
    have := small4_all n1 d1 w
    rw [decide_eq_true h2, decide_eq_true h3] at this
    exact this)
  have HSM := Lib.hid (fun w hw => Simplest_no n0 d0 n1 d1 w hw (by omega) (by omega) (by omega) (by omega) r s hr hs h)
  obtain ⟨i1, i2, hp1⟩ := r4parts_len n0 d0 (by omega) (by omega) r hr
  obtain ⟨j1, j2, hp2⟩ := r4parts_len n1 d1 (by omega) (by omega) s hs
  have HP1 := Lib.hid hp1
  have HP2 := Lib.hid hp2
  have HAMB := Lib.hid hamb
  clear hamb h0 h1 h2 h3 hr hs hp1 hp2
  go_enter Tryz.func5, Tryz.ntmps5
  go_wp2_with fail
  obtain ⟨W, hW⟩ : ∃ W, (w.alloc (.cells #[.string n0, .string d0] 24)).alloc (.cells #[.string n1, .string d1] 24) = W := ⟨_, rfl⟩
  rw [hW]
  obtain ⟨hX, hBW⟩ := B2.of hW
  clear hW
  have HX := Lib.hid (fun wz (hb : Below W.heap.size W wz) => hX.later hb)
  have HB := Lib.hid hBW
  have HA := Lib.hid (fun wz (hb : Below W.heap.size W wz) => HAMB.out.below (bel_chain HB.out hb))
  clear hX hBW
  refine (known04_any W (HA.out _ (Below.refl _ _))).mono ?_
  rintro e w1 ⟨rfl, hz1⟩
  obtain ⟨⟨_, x0, x1, _, _⟩, _⟩ := HX.out _ hz1
  go_wp2_with fail
  refine (HSH1.out w1).mono ?_
  rintro e w2 ⟨rfl, hb2⟩
  have hz2 := bel_chain hz1 hb2
  clear x0 x1 hz1 hb2
  obtain ⟨_, ⟨_, x0, x1, _, _⟩⟩ := HX.out _ hz2
  go_wp2_with fail
  refine (HSH2.out w2).mono ?_
  rintro e w3 ⟨rfl, hb3⟩
  have hz3 := bel_chain hz2 hb3
  clear x0 x1 hz2 hb3
  obtain ⟨⟨_, x0, x1, _, _⟩, _⟩ := HX.out _ hz3
  go_wp2_with fail
  refine (HP1.out w3).mono ?_
  rintro e w4 ⟨rfl, hb4⟩
  have hz4 := bel_chain hz3 hb4
  clear x0 x1 hz3 hb4
  obtain ⟨_, ⟨_, x0, x1, _, _⟩⟩ := HX.out _ hz4
  go_wp2_with fail
  refine (HP2.out w4).mono ?_
  rintro e w5 ⟨rfl, hb5⟩
  have hz5 := bel_chain hz4 hb5
  clear x0 x1 hz4 hb5
  obtain ⟨⟨_, x0, x1, _, _⟩, ⟨_, y0, y1, _, _⟩⟩ := HX.out _ hz5
  cases r
  · clear h
    cases s
    ·
      go_wp2_with fail
      refine (HSM.out w5 (HA.out _ hz5)).mono ?_
      rintro e w6 ⟨rfl, hb6⟩
      have hz6 := bel_chain hz5 hb6
      clear x0 x1 y0 y1 hz5 hb6
      go_wp2_with fail
      obtain ⟨w7, hw7⟩ : ∃ x, w6.alloc (.cells #[.string ⟨#[]⟩, .string ⟨#[]⟩] 24) = x := ⟨_, rfl⟩
      try rw [hw7]
      obtain ⟨hn7, hb7⟩ := B1.of hw7
      have hz7 := bel_chain hz6 hb7
      obtain ⟨_, y0, y1, _, _⟩ := hn7
      clear hw7 hz6 hb7
      try go_wp2_with fail
      refine (none4_yes w7).mono ?_
      rintro e w8 ⟨rfl, hb8⟩
      have hz8 := bel_chain hz7 hb8
      go_wp2_with fail
      go_ret
      exact ⟨rfl, bel_chain HB.out hz8⟩
    · by_cases hb : j2 > 200
      ·
        go_wp2_with fail
        go_ret
        exact ⟨rfl, bel_chain HB.out hz5⟩
      ·
        go_wp2_with fail
        refine (HSM.out w5 (HA.out _ hz5)).mono ?_
        rintro e w6 ⟨rfl, hb6⟩
        have hz6 := bel_chain hz5 hb6
        clear x0 x1 y0 y1 hz5 hb6
        go_wp2_with fail
        obtain ⟨w7, hw7⟩ : ∃ x, w6.alloc (.cells #[.string ⟨#[]⟩, .string ⟨#[]⟩] 24) = x := ⟨_, rfl⟩
        try rw [hw7]
        obtain ⟨hn7, hb7⟩ := B1.of hw7
        have hz7 := bel_chain hz6 hb7
        obtain ⟨_, y0, y1, _, _⟩ := hn7
        clear hw7 hz6 hb7
        try go_wp2_with fail
        refine (none4_yes w7).mono ?_
        rintro e w8 ⟨rfl, hb8⟩
        have hz8 := bel_chain hz7 hb8
        go_wp2_with fail
        go_ret
        exact ⟨rfl, bel_chain HB.out hz8⟩
  · obtain rfl : s = false := by rcases h with h | h; cases h; exact h
    by_cases hb : i2 > 200
    ·
      go_wp2_with fail
      go_ret
      exact ⟨rfl, bel_chain HB.out hz5⟩
    ·
      go_wp2_with fail
      refine (HSM.out w5 (HA.out _ hz5)).mono ?_
      rintro e w6 ⟨rfl, hb6⟩
      have hz6 := bel_chain hz5 hb6
      clear x0 x1 y0 y1 hz5 hb6
      go_wp2_with fail
      obtain ⟨w7, hw7⟩ : ∃ x, w6.alloc (.cells #[.string ⟨#[]⟩, .string ⟨#[]⟩] 24) = x := ⟨_, rfl⟩
      try rw [hw7]
      obtain ⟨hn7, hb7⟩ := B1.of hw7
      have hz7 := bel_chain hz6 hb7
      obtain ⟨_, y0, y1, _, _⟩ := hn7
      clear hw7 hz6 hb7
      try go_wp2_with fail
      refine (none4_yes w7).mono ?_
      rintro e w8 ⟨rfl, hb8⟩
      have hz8 := bel_chain hz7 hb8
      go_wp2_with fail
      go_ret
      exact ⟨rfl, bel_chain HB.out hz8⟩
set_option maxRecDepth 100000 in
set_option maxHeartbeats 8000000 in
/-- both right. -/
theorem lawSimplest_yes (p q : Rat) (w : World) (hamb : Amb w) (h0 : (itx p.num).size ≤ 7) (h1 : (itx (p.den : Int)).size ≤ 7) (h2 : (itx q.num).size ≤ 7) (h3 : (itx (q.den : Int)).size ≤ 7) :
    Calls Tryz.prog 5 #[.agg #[.string (itx p.num), .string (itx (p.den : Int))], .agg #[.string (itx q.num), .string (itx (q.den : Int))]] w (SmallRes (.bool true) w) := by
  have HSH1 := Lib.hid (fun w => show Calls Tryz.prog 10 #[.agg #[.string (itx p.num), .string (itx (p.den : Int))]] w (SmallRes (.bool true) w) from by
    have := small4_all (itx p.num) (itx (p.den : Int)) w
    rw [decide_eq_true h0, decide_eq_true h1] at this
    exact this)
  have HSH2 := Lib.hid (fun w => show Calls Tryz.prog 10 #[.agg #[.string (itx q.num), .string (itx (q.den : Int))]] w (SmallRes (.bool true) w) from by
    have := small4_all (itx q.num) (itx (q.den : Int)) w
    rw [decide_eq_true h2, decide_eq_true h3] at this
    exact this)
  have hp : NQ p 7 := ⟨Nat.le_trans (itx_size_ge _) h0, Nat.le_trans (itx_size_ge _) h1⟩
  have hq : NQ q 7 := ⟨Nat.le_trans (itx_size_ge _) h2, Nat.le_trans (itx_size_ge _) h3⟩
  have p1 := (nz_le_iff p.num 6).1 hp.1
  have p2 := (nz_le_iff (p.den : Int) 6).1 hp.2
  have q1 := (nz_le_iff q.num 6).1 hq.1
  have q2 := (nz_le_iff (q.den : Int) 6).1 hq.2
  have hpd := rden_pos p
  have hqd := rden_pos q
  have HP1 := Lib.hid (fun w => r4parts_yes p w (hp.mono (by omega)))
  have HP2 := Lib.hid (fun w => r4parts_yes q w (hq.mono (by omega)))
  have HORD := Lib.hid (fun (hlt : q.num * (p.den : Int) < p.num * (q.den : Int)) w h => Simplest_order p q w h (hp.mono (by omega)) (hq.mono (by omega)) hlt)
  have HANY := Lib.hid (fun (b1 : p.den ≤ 200) (b2 : q.den ≤ 200) (hle : p.num * (q.den : Int) ≤ q.num * (p.den : Int)) w h => Simplest_any p q w h (by omega) (by omega) b1 b2 hle)
  have HREF := Lib.hid (fun (b1 : p.den ≤ 200) (b2 : q.den ≤ 200) (Q : Nat) (P R : Int) w (hQ : 1 ≤ Q) (hQ2 : Q ≤ 1000) hno hyes => r4simplest_any p.num (p.den : Int) q.num (q.den : Int) Q P R w (by omega) (by omega) (by omega) (by omega) (by omega) (by omega) hQ hQ2 hno hyes)
  have k1 := prod_bd (a := p.num) (b := (q.den : Int)) (A := 10000000) (B := 10000000) (by omega) (by omega) (by omega)
  have k2 := prod_bd (a := q.num) (b := (p.den : Int)) (A := 10000000) (B := 10000000) (by omega) (by omega) (by omega)
  have v1 : IntKind.i64.wrap (p.num * (q.den : Int)) = p.num * (q.den : Int) := IntWalk.i64_in _ (by omega)
  have v2 : IntKind.i64.wrap (q.num * (p.den : Int)) = q.num * (p.den : Int) := IntWalk.i64_in _ (by omega)
  have HAMB := Lib.hid hamb
  clear hamb h0 h1 h2 h3 hp hq p1 p2 q1 q2 hpd hqd k1 k2
  go_enter Tryz.func5, Tryz.ntmps5
  go_wp2_with fail
  obtain ⟨W, hW⟩ : ∃ W, (w.alloc (.cells #[.string (itx p.num), .string (itx (p.den : Int))] 24)).alloc (.cells #[.string (itx q.num), .string (itx (q.den : Int))] 24) = W := ⟨_, rfl⟩
  rw [hW]
  obtain ⟨hX, hBW⟩ := B2.of hW
  clear hW
  have HX := Lib.hid (fun wz (hb : Below W.heap.size W wz) => hX.later hb)
  have HB := Lib.hid hBW
  have HA := Lib.hid (fun wz (hb : Below W.heap.size W wz) => HAMB.out.below (bel_chain HB.out hb))
  clear hX hBW
  refine (known04_any W (HA.out _ (Below.refl _ _))).mono ?_
  rintro e w1 ⟨rfl, hz1⟩
  obtain ⟨⟨_, x0, x1, _, _⟩, _⟩ := HX.out _ hz1
  go_wp2_with fail
  refine (HSH1.out w1).mono ?_
  rintro e w2 ⟨rfl, hb2⟩
  have hz2 := bel_chain hz1 hb2
  clear x0 x1 hz1 hb2
  obtain ⟨_, ⟨_, x0, x1, _, _⟩⟩ := HX.out _ hz2
  go_wp2_with fail
  refine (HSH2.out w2).mono ?_
  rintro e w3 ⟨rfl, hb3⟩
  have hz3 := bel_chain hz2 hb3
  clear x0 x1 hz2 hb3
  obtain ⟨⟨_, x0, x1, _, _⟩, _⟩ := HX.out _ hz3
  go_wp2_with fail
  refine (HP1.out w3).mono ?_
  rintro e w4 ⟨rfl, hb4⟩
  have hz4 := bel_chain hz3 hb4
  clear x0 x1 hz3 hb4
  obtain ⟨_, ⟨_, x0, x1, _, _⟩⟩ := HX.out _ hz4
  go_wp2_with fail
  refine (HP2.out w4).mono ?_
  rintro e w5 ⟨rfl, hb5⟩
  have hz5 := bel_chain hz4 hb5
  clear x0 x1 hz4 hb5
  obtain ⟨⟨_, x0, x1, _, _⟩, ⟨_, y0, y1, _, _⟩⟩ := HX.out _ hz5
  by_cases hb : (p.den : Int) > 200
  ·
    go_wp2_with fail
    go_ret
    exact ⟨rfl, bel_chain HB.out hz5⟩
  · by_cases hb2 : (q.den : Int) > 200
    ·
      go_wp2_with fail
      go_ret
      exact ⟨rfl, bel_chain HB.out hz5⟩
    · by_cases hlt : p.num * (q.den : Int) > q.num * (p.den : Int)
      · have HSM := Lib.hid (HORD.out hlt)
        unfold rv at HSM
        go_wp2_with fail
        refine (HSM.out w5 (HA.out _ hz5)).mono ?_
        rintro e w6 ⟨rfl, hb6⟩
        have hz6 := bel_chain hz5 hb6
        clear x0 x1 y0 y1 hz5 hb6
        go_wp2_with fail
        obtain ⟨w7, hw7⟩ : ∃ x, w6.alloc (.cells #[.string ⟨#[]⟩, .string ⟨#[]⟩] 24) = x := ⟨_, rfl⟩
        try rw [hw7]
        obtain ⟨hn7, hb7⟩ := B1.of hw7
        have hz7 := bel_chain hz6 hb7
        obtain ⟨_, y0, y1, _, _⟩ := hn7
        clear hw7 hz6 hb7
        try go_wp2_with fail
        refine (none4_yes w7).mono ?_
        rintro e w8 ⟨rfl, hb8⟩
        have hz8 := bel_chain hz7 hb8
        go_wp2_with fail
        go_ret
        exact ⟨rfl, bel_chain HB.out hz8⟩
      · have HSM := Lib.hid (HANY.out (by omega) (by omega) (by omega))
        have HR2 := Lib.hid (HREF.out (by omega) (by omega))
        unfold rv at HSM
        clear HANY HREF HORD
        go_wp2_with fail
        refine (HSM.out w5 (HA.out _ hz5)).mono ?_
        rintro e w6 ⟨Q, P, R, hQ, hQ2, hno, hyes, rfl, hb6⟩
        have hz6 := bel_chain hz5 hb6
        clear x0 x1 y0 y1 hz5 hb6
        obtain ⟨V, hV⟩ : ∃ V, Rat.divInt P R = V := ⟨_, rfl⟩
        have HR3 := Lib.hid (fun w => HR2.out Q P R w hQ hQ2 hno hyes)
        rw [hV] at HR3 ⊢
        clear hno hyes hQ hQ2 hV HR2
        go_wp2_with fail
        obtain ⟨w7, hw7⟩ : ∃ x, w6.alloc (.cells #[.string (itx V.num), .string (itx (V.den : Int))] 24) = x := ⟨_, rfl⟩
        try rw [hw7]
        obtain ⟨hn7, hb7⟩ := B1.of hw7
        have hz7 := bel_chain hz6 hb7
        have HN := Lib.hid (fun wz (hb : Below w7.heap.size w7 wz) => hn7.later hb)
        have HZ7 := Lib.hid hz7
        clear hw7 hz6 hb7 hz7 hn7
        try go_wp2_with fail
        try go_upto_region 12 with fail
        have hzd : Below w7.heap.size w7 w7.drew := (Below.refl _ _).drew
        have HC1 := Lib.hid (HR3.out w7.drew)
        obtain ⟨_, v0, v1', _, _⟩ := HN.out _ hzd
        go_region_held3 (fun w' => w'.cell? ⟨w6.heap.size, 0, none⟩ = some (.string (itx V.num)) ∧ w'.cell? ⟨w6.heap.size, 1, none⟩ = some (.string (itx (V.den : Int)))) (go_keep)
          (first
            | ((with_reducible refine HC1.out.mono ?_); rintro e w8 ⟨rfl, hb8⟩; have hz8 := bel_chain hzd hb8; obtain ⟨_, v0, v1', _, _⟩ := HN.out _ hz8))
        all_goals
          go_wp2_with fail
          go_ret
          exact ⟨rfl, bel_chain HB.out (bel_chain HZ7.out hz8)⟩
theorem lawSimplest_walk (n0 d0 n1 d1 : ByteArray) (w : World) (hamb : Amb w) :
    Calls Tryz.prog 5 #[.agg #[.string n0, .string d0], .agg #[.string n1, .string d1]] w (SmallRes (.bool true) w) := by
  by_cases h : n0.size ≤ 7 ∧ d0.size ≤ 7
  · obtain ⟨h0, h1⟩ := h
    by_cases h : n1.size ≤ 7 ∧ d1.size ≤ 7
    · obtain ⟨h2, h3⟩ := h
      cases hr : RB n0 d0 with
      | false => exact lawSimplest_no n0 d0 n1 d1 w hamb h0 h1 h2 h3 _ _ hr rfl (.inl rfl)
      | true =>
        cases hs : RB n1 d1 with
        | false => exact lawSimplest_no n0 d0 n1 d1 w hamb h0 h1 h2 h3 _ _ hr hs (.inr rfl)
        | true =>
          obtain ⟨p, rfl, rfl, _⟩ := rightB_rat hr
          obtain ⟨q, rfl, rfl, _⟩ := rightB_rat hs
          exact lawSimplest_yes p q w hamb h0 h1 h2 h3
    · exact lawSimplest_long2 n0 d0 n1 d1 w hamb h0 h1 h
  · exact lawSimplest_long1 n0 d0 n1 d1 w hamb h
end Go.Proofs.YtpafocfpofnkpaaGreatDoor
