/- Greater text, out of: K58. -/
import Derived.Test.YtpafocfpofnkpaaGreatDoorK57
import Derived.Test.YtpafocfpofnkpaaGreatDoorK41
import Derived.Test.YtpafocfpofnkpaaGreatDoorK62
namespace Go.Proofs.YtpafocfpofnkpaaGreatDoor
open Go.RowKit Go.PlainAid
attribute [local go_sem] field_rat0 field_rat1
theorem ret_cell2_tmp {fn : Func} {p u t : Tmp} {T U : TypeId} (h : fn.results = #[.cell p T, .cell u U, .tmp t]) {a : Act} {w : World} {R : Ending → World → Prop} {ad ae : Addr} {v x : Value} (hp : a.tmps.getD p undef = .pointer (some ad)) (hu : a.tmps.getD u undef = .pointer (some ae))
    (hl : (loadVar T ad).run Tryz.prog w = .ok v w) (hl2 : (loadVar U ae).run Tryz.prog w = .ok x w) (hd : a.defers = []) (hR : R (.returned (.tuple #[v, x, a.tmps.getD t undef])) w) : bodyPost Tryz.prog fn R .ret a w := by
  refine bodyPost_ret (v := .tuple #[v, x, a.tmps.getD t undef]) ?_ hd hR
  rw [Array.getD_eq_getD_getElem?] at hp hu
  simp [results, h, hp, hu, asAddr, hl, hl2]
set_option maxHeartbeats 2000000 in
/-- Nearest, where the fraction or the bound is wrong. -/
theorem Near_err (n d : ByteArray) (b E : Int) (w : World) (hamb : Amb w) (hn : n.size ≤ 1000000000) (hd : d.size ≤ 1000000000) (r : Bool) (hr : RB n d = r) (hb0 : -9223372036854775808 ≤ b) (hb1 : b ≤ 9223372036854775807) (hE : bndE r b = E) (h0 : E ≠ 0) :
    Calls Tryz.prog 13 #[.agg #[.string n, .string d], .int .i64 b] w (SmallRes (.tuple #[.agg #[.string ⟨#[]⟩, .string ⟨#[]⟩], .int .i64 E]) w) := by
  have HBD := Lib.hid (fun w h => show Calls Tryz.prog 32 #[.agg #[.string n, .string d], .int .i64 b] w (SmallRes (.int .i64 E) w) from hE ▸ bounded_any n d b w h hn hd r hr hb0 hb1)
  have hEb : (E == 0) = false := by rw [beq_eq_false_iff_ne]; exact h0
  have hEn : (E != 0) = true := by rw [bne, hEb]; rfl
  have HAMB := Lib.hid hamb
  clear hamb hn hd hr hb0 hb1 hE
  go_enter Tryz.func13, Tryz.ntmps13
  go_wp2_with fail
  obtain ⟨W, hW⟩ : ∃ W, ((w.alloc (.cells #[.string n, .string d] 24)).alloc (.cells #[.string ⟨#[]⟩, .string ⟨#[]⟩] 24)) = W := ⟨_, rfl⟩
  rw [hW]
  obtain ⟨hX, hBW⟩ := B2.of hW
  clear hW
  refine (HBD.out W (HAMB.out.below hBW)).mono ?_
  rintro e w1 ⟨rfl, hc1⟩
  have HL := Lib.hid (hX.later hc1)
  obtain ⟨⟨_, c0, c1, _, _⟩, ⟨_, c2, c3, f2, f3⟩⟩ := hX.later hc1
  have hz1 := bel_chain hBW hc1
  clear hX hBW hc1
  go_wp2_with fail
  refine ret_cell_tmp rfl rfl (load_rat (g := w.heap.size + 1) (HL.out.store1 _ _).2) rfl ?_
  exact ⟨rfl, (hz1.setCell (by simp <;> omega) _).setCell (by simp <;> omega) _⟩
set_option maxHeartbeats 2000000 in
/-- Neighbours, where the fraction or the bound is wrong. -/
theorem Neigh_err (n d : ByteArray) (b E : Int) (w : World) (hamb : Amb w) (hn : n.size ≤ 1000000000) (hd : d.size ≤ 1000000000) (r : Bool) (hr : RB n d = r) (hb0 : -9223372036854775808 ≤ b) (hb1 : b ≤ 9223372036854775807) (hE : bndE r b = E) (h0 : E ≠ 0) :
    Calls Tryz.prog 17 #[.agg #[.string n, .string d], .int .i64 b] w (SmallRes (.tuple #[.agg #[.string ⟨#[]⟩, .string ⟨#[]⟩], .agg #[.string ⟨#[]⟩, .string ⟨#[]⟩], .int .i64 E]) w) := by
  have HBD := Lib.hid (fun w h => show Calls Tryz.prog 32 #[.agg #[.string n, .string d], .int .i64 b] w (SmallRes (.int .i64 E) w) from hE ▸ bounded_any n d b w h hn hd r hr hb0 hb1)
  have hEb : (E == 0) = false := by rw [beq_eq_false_iff_ne]; exact h0
  have hEn : (E != 0) = true := by rw [bne, hEb]; rfl
  have HAMB := Lib.hid hamb
  clear hamb hn hd hr hb0 hb1 hE
  go_enter Tryz.func17, Tryz.ntmps17
  go_wp2_with fail
  obtain ⟨W, hW⟩ : ∃ W, (((w.alloc (.cells #[.string n, .string d] 24)).alloc (.cells #[.string ⟨#[]⟩, .string ⟨#[]⟩] 24)).alloc (.cells #[.string ⟨#[]⟩, .string ⟨#[]⟩] 24)) = W := ⟨_, rfl⟩
  rw [hW]
  obtain ⟨hX, hBW⟩ := B3.of hW
  clear hW
  refine (HBD.out W (HAMB.out.below hBW)).mono ?_
  rintro e w1 ⟨rfl, hc1⟩
  have HL := Lib.hid (hX.later hc1)
  obtain ⟨⟨_, c0, c1, _, _⟩, ⟨_, c2, c3, f2, f3⟩, ⟨_, c4, c5, f4, f5⟩⟩ := hX.later hc1
  have hz1 := bel_chain hBW hc1
  clear hX hBW hc1
  go_wp2_with fail
  refine ret_cell2_tmp rfl rfl rfl (load_rat (g := w.heap.size + 1) ((HL.out.store1 _ _).store2 _ _).2.1) (load_rat (g := w.heap.size + 1 + 1) ((HL.out.store1 _ _).store2 _ _).2.2) rfl ?_
  exact ⟨rfl, (((hz1.setCell (by simp <;> omega) _).setCell (by simp <;> omega) _).setCell (by simp <;> omega) _).setCell (by simp <;> omega) _⟩

set_option maxRecDepth 100000 in
set_option maxHeartbeats 4000000 in
/-- convergent.Nearest, of a fraction of the bound. -/
theorem Nearest_self (n d : Int) (b : Int) (w : World) (hamb : Amb w) (_hd : 0 < d) (hnn : nz n ≤ 14) (hnd : nz d ≤ 14) (hr : RB (itx n) (itx d) = true) (hb0 : 1 ≤ b) (hb1 : b ≤ 900) (hdb : d ≤ b) :
    Calls Tryz.prog 13 #[.agg #[.string (itx n), .string (itx d)], .int .i64 b] w (SmallRes (.tuple #[.agg #[.string (itx n), .string (itx d)], .int .i64 0]) w) := by
  have hbe : bndE true b = 0 := by unfold bndE; rw [if_neg (by decide), if_neg (by omega)]
  have HBD := Lib.hid (fun w h => show Calls Tryz.prog 32 #[.agg #[.string (itx n), .string (itx d)], .int .i64 b] w (SmallRes (.int .i64 0) w) from by
    rw [← hbe]; exact bounded_any (itx n) (itx d) b w h (by have := itx_size_le n; omega) (by have := itx_size_le d; omega) true hr (by omega) (by omega))
  have HOF := Lib.hid (fun w h => wof_any b w h (by omega) (by omega))
  have hnb : nz b ≤ 3 := (nz_le_iff b 2).2 (by omega)
  have HCM := Lib.hid (fun w => wcompare_any d b w (by omega) (by omega))
  have hC : cmpZ d b ≤ 0 := cmpZ_le.2 hdb
  obtain ⟨C, hCC⟩ : ∃ C, cmpZ d b = C := ⟨_, rfl⟩
  rw [hCC] at HCM hC
  have HAMB := Lib.hid hamb
  clear hamb hnn hnd hr hbe hnb hCC
  go_enter Tryz.func13, Tryz.ntmps13
  go_wp2_with fail
  obtain ⟨W, hW⟩ : ∃ W, ((w.alloc (.cells #[.string (itx n), .string (itx d)] 24)).alloc (.cells #[.string ⟨#[]⟩, .string ⟨#[]⟩] 24)) = W := ⟨_, rfl⟩
  rw [hW]
  obtain ⟨hX, hBW⟩ := B2.of hW
  clear hW
  have HX := Lib.hid (fun wz (hb : Below W.heap.size W wz) => hX.later hb)
  have HB := Lib.hid hBW
  have HA := Lib.hid (fun wz (hb : Below W.heap.size W wz) => HAMB.out.below (bel_chain HB.out hb))
  clear hX hBW
  refine (HBD.out W (HA.out _ (Below.refl _ _))).mono ?_
  rintro e w1 ⟨rfl, hz1⟩
  obtain ⟨⟨_, c0, c1, _, _⟩, _⟩ := HX.out _ hz1
  go_upto_region 4 with fail
  have hzd := hz1.drew
  have HC1 := Lib.hid (HOF.out w1.drew (HA.out _ hzd))
  go_region_held3 (fun w' => w'.cell? ⟨w.heap.size, 0, none⟩ = some (.string (itx n)) ∧ w'.cell? ⟨w.heap.size, 1, none⟩ = some (.string (itx d))) (go_keep)
    (first
      | ((with_reducible refine HC2.out.mono ?_); rintro e w3 ⟨rfl, hb3⟩; have hz3 := bel_chain hz2 hb3; obtain ⟨⟨_, c30, c31, _, _⟩, _⟩ := HX.out _ hz3)
      | ((with_reducible refine HC1.out.mono ?_); rintro e w2 ⟨rfl, hb2⟩; have hz2 := bel_chain hzd hb2; obtain ⟨⟨_, c20, c21, _, _⟩, _⟩ := HX.out _ hz2; have HC2 := Lib.hid (HCM.out w2)))
  obtain ⟨_, ⟨_, c2, c3, f2, f3⟩⟩ := HX.out _ hz3
  have HL := Lib.hid (HX.out _ hz3)
  go_wp2_with fail
  refine ret_cell_tmp rfl rfl (load_rat (g := w.heap.size + 1) (HL.out.store1 _ _).2) rfl ?_
  exact ⟨rfl, ((bel_chain HB.out hz3).setCell (by simp <;> omega) _).setCell (by simp <;> omega) _⟩
theorem ab_mem (n d : Int) : ∀ (l : List (Int × Int)) (st : (Int × Int) × (Int × Int)), ((l.foldl (abStep n d) st).1 = st.1 ∨ (l.foldl (abStep n d) st).1 ∈ l) ∧ ((l.foldl (abStep n d) st).2 = st.2 ∨ (l.foldl (abStep n d) st).2 ∈ l) := by
  intro l
  induction l with
  | nil => intro st; exact ⟨.inl rfl, .inl rfl⟩
  | cons y l ih =>
    intro st
    obtain ⟨h1, h2⟩ := ih (abStep n d st y)
    rw [List.foldl_cons]
    have e1 : (abStep n d st y).1 = st.1 ∨ (abStep n d st y).1 = y := by unfold abStep; split; exact .inr rfl; exact .inl rfl
    have e2 : (abStep n d st y).2 = st.2 ∨ (abStep n d st y).2 = y := by unfold abStep; split; exact .inl rfl; exact .inr rfl
    constructor
    · rcases h1 with h | h
      · rcases e1 with e | e
        · exact .inl (h.trans e)
        · exact .inr (List.mem_cons.2 (.inl (h.trans e)))
      · exact .inr (List.mem_cons.2 (.inr h))
    · rcases h2 with h | h
      · rcases e2 with e | e
        · exact .inl (h.trans e)
        · exact .inr (List.mem_cons.2 (.inl (h.trans e)))
      · exact .inr (List.mem_cons.2 (.inr h))
/-- The neighbours are semiconvergents. -/
theorem ab_semi {n d b : Int} (h : Arnd n d b (ab n d (semiL lastF b (tms n d))).1 (ab n d (semiL lastF b (tms n d))).2) : (ab n d (semiL lastF b (tms n d))).1 ∈ semiL lastF b (tms n d) ∧ (ab n d (semiL lastF b (tms n d))).2 ∈ semiL lastF b (tms n d) := by
  obtain ⟨h1, h2⟩ := ab_mem n d (semiL lastF b (tms n d)) ((0, 0), (0, 0))
  constructor
  · rcases h1 with e | e
    · have := h.a1
      rw [show (ab n d (semiL lastF b (tms n d))).1 = (0, 0) from e] at this
      exact absurd this (by decide)
    · exact e
  · rcases h2 with e | e
    · have := h.b1
      rw [show (ab n d (semiL lastF b (tms n d))).2 = (0, 0) from e] at this
      exact absurd this (by decide)
    · exact e
/-- How the program chooses between the neighbours. -/
theorem near_choice {n d : Int} {b : Nat} {A B : Int × Int} {z : Int × Int} (hd : 0 < d) (hg : Int.gcd n d = 1) (hb : 1 ≤ b) (hbd : (b : Int) < d) (ha : Arnd n d (b : Int) A B) (hz : (rb n d b).getLast? = some z) (C : Int) (hC : cmpQ (Rat.divInt n d - tr A).abs (Rat.divInt n d - tr B).abs = C) :
    ((C < 0 ∨ (C = 0 ∧ A.2 ≤ B.2)) → tr z = tr A) ∧ ((0 < C ∨ (C = 0 ∧ B.2 < A.2)) → tr z = tr B) := by
  obtain ⟨z', hz', h1, h2⟩ := near_pick hd hg hb hbd ha
  obtain rfl : z' = z := Option.some.inj (hz'.symm.trans hz)
  obtain ⟨gA, gB⟩ := ha.good
  have k1 := near_cmp (n := n) hd gA gB
  have k2 := near_cmp (n := n) hd gB gA
  rw [hC] at k1
  have k3 : 0 < C ↔ nearer n d B.1 B.2 A.1 A.2 = true := by rw [← k2, ← hC, cmpQ_pos_iff, cmpQ_neg_iff]
  have k4 : C = 0 → nearer n d A.1 A.2 B.1 B.2 = false ∧ nearer n d B.1 B.2 A.1 A.2 = false := by
    intro h
    constructor
    · cases e : nearer n d A.1 A.2 B.1 B.2 with
      | false => rfl
      | true => have := k1.2 e; omega
    · cases e : nearer n d B.1 B.2 A.1 A.2 with
      | false => rfl
      | true => have := k3.2 e; omega
  refine ⟨fun h => h1 ?_, fun h => h2 ?_⟩
  · rcases h with h | ⟨h, h'⟩
    · exact .inl (k1.1 h)
    · exact .inr ⟨(k4 h).2, h'⟩
  · rcases h with h | ⟨h, h'⟩
    · exact .inl (k3.1 h)
    · exact .inr ⟨(k4 h).1, h'⟩
set_option maxRecDepth 100000 in
set_option maxHeartbeats 8000000 in
/-- convergent.Nearest, of a fraction that is none of the bound. -/
theorem Nearest_far (n d : Int) (b : Nat) (z : Int × Int) (w : World) (hamb : Amb w) (hd : 0 < d) (hg : Int.gcd n d = 1) (hnn : nz n ≤ 14) (hnd : nz d ≤ 14) (hr : RB (itx n) (itx d) = true) (hb0 : 1 ≤ b) (hb1 : b ≤ 900) (hdb : (b : Int) < d) (hz : (rb n d b).getLast? = some z) :
    Calls Tryz.prog 13 #[.agg #[.string (itx n), .string (itx d)], .int .i64 (b : Int)] w (SmallRes (.tuple #[rv (tr z), .int .i64 0]) w) := by
  have hbe : bndE true (b : Int) = 0 := by unfold bndE; rw [if_neg (by decide), if_neg (by omega)]
  have HBD := Lib.hid (fun w h => show Calls Tryz.prog 32 #[.agg #[.string (itx n), .string (itx d)], .int .i64 (b : Int)] w (SmallRes (.int .i64 0) w) from by
    rw [← hbe]; exact bounded_any (itx n) (itx d) b w h (by have := itx_size_le n; omega) (by have := itx_size_le d; omega) true hr (by omega) (by omega))
  have HOF := Lib.hid (fun w h => wof_any (b : Int) w h (by omega) (by omega))
  have hnb : nz (b : Int) ≤ 3 := (nz_le_iff (b : Int) 2).2 (by omega)
  have HCM := Lib.hid (fun w => wcompare_any d (b : Int) w (by omega) (by omega))
  have hC : ¬ cmpZ d (b : Int) ≤ 0 := fun h => by have := cmpZ_le.1 h; omega
  obtain ⟨C0, hCC⟩ : ∃ C, cmpZ d (b : Int) = C := ⟨_, rfl⟩
  rw [hCC] at HCM hC
  have har := around_same hd hg hdb (show (1 : Int) ≤ (b : Int) by omega)
  have HAR := Lib.hid (fun w h => around_any n d (b : Int) w h hd hg hnn hnd (by omega) (by omega) hdb)
  obtain ⟨mA, mB⟩ := ab_semi har
  have hdA := semiL_num (bound := (b : Int)) hd lastF _ mA
  have hdB := semiL_num (bound := (b : Int)) hd lastF _ mB
  obtain ⟨A, hA⟩ : ∃ A, (ab n d (semiL lastF (b : Int) (tms n d))).1 = A := ⟨_, rfl⟩
  obtain ⟨B, hB⟩ : ∃ B, (ab n d (semiL lastF (b : Int) (tms n d))).2 = B := ⟨_, rfl⟩
  rw [hA] at har HAR hdA
  rw [hB] at har HAR hdB
  obtain ⟨gA, gB⟩ := har.good
  obtain ⟨an, ad, aq, xq, aD⟩ := near_facts hd hnn hnd (by omega) gA hdA
  obtain ⟨bn, bd, bq, _, bD⟩ := near_facts hd hnn hnd (by omega) gB hdB
  have hxq := rat_of_right hd hg
  have hch := near_choice hd hg hb0 hdb har hz _ rfl
  obtain ⟨X, hX⟩ : ∃ X, Rat.divInt n d = X := ⟨_, rfl⟩
  obtain ⟨q1, hq1⟩ : ∃ q, tr A = q := ⟨_, rfl⟩
  obtain ⟨q2, hq2⟩ : ∃ q, tr B = q := ⟨_, rfl⟩
  rw [hX] at xq aD bD hxq hch
  rw [hq1] at an ad aq aD hch HAR
  rw [hq2] at bn bd bq bD hch HAR
  have HD1 := Lib.hid (fun W' h => show Calls Tryz.prog 38 #[.agg #[.string (itx n), .string (itx d)], .agg #[.string (itx q1.num), .string (itx (q1.den : Int))]] W' (SmallRes (rv (X - q1).abs) W') from by
    have := distance_any X q1 W' h (xq.mono (by omega)) (aq.mono (by omega))
    unfold rv at this
    rw [hxq.1, hxq.2] at this
    exact this)
  have HD2 := Lib.hid (fun W' h => show Calls Tryz.prog 38 #[.agg #[.string (itx n), .string (itx d)], .agg #[.string (itx q2.num), .string (itx (q2.den : Int))]] W' (SmallRes (rv (X - q2).abs) W') from by
    have := distance_any X q2 W' h (xq.mono (by omega)) (bq.mono (by omega))
    unfold rv at this
    rw [hxq.1, hxq.2] at this
    exact this)
  have HCQ := Lib.hid (fun W' h => fcompare_any (X - q1).abs (X - q2).abs W' h (aD.mono (by omega)) (bD.mono (by omega)))
  have HCD := Lib.hid (fun w => wcompare_any (q1.den : Int) (q2.den : Int) w (by have := aq.2; omega) (by have := bq.2; omega))
  have HLE := Lib.hid (show cmpZ (q1.den : Int) (q2.den : Int) ≤ 0 ↔ A.2 ≤ B.2 by rw [cmpZ_le, ad, bd])
  obtain ⟨C, hCC2⟩ : ∃ C, cmpQ (X - q1).abs (X - q2).abs = C := ⟨_, rfl⟩
  rw [hCC2] at HCQ hch
  have HCH := Lib.hid hch
  obtain ⟨E, hE⟩ : ∃ E, cmpZ (q1.den : Int) (q2.den : Int) = E := ⟨_, rfl⟩
  rw [hE] at HCD HLE
  obtain ⟨Z, hZ⟩ : ∃ Z, tr z = Z := ⟨_, rfl⟩
  have HZ := Lib.hid hZ
  rw [hZ] at HCH
  have HAMB := Lib.hid hamb
  clear hamb hd hnn hnd hr hbe hnb hCC hg har mA mB hdA hdB hA hB gA gB an ad aq xq aD bn bd bq bD hxq hch hX hq1 hq2 hCC2 hE hZ hz
  go_enter Tryz.func13, Tryz.ntmps13
  go_wp2_with fail
  obtain ⟨W, hW⟩ : ∃ W, ((w.alloc (.cells #[.string (itx n), .string (itx d)] 24)).alloc (.cells #[.string ⟨#[]⟩, .string ⟨#[]⟩] 24)) = W := ⟨_, rfl⟩
  rw [hW]
  obtain ⟨hX, hBW⟩ := B2.of hW
  clear hW
  have HX := Lib.hid (fun wz (hb : Below W.heap.size W wz) => hX.later hb)
  have HB := Lib.hid hBW
  have HA := Lib.hid (fun wz (hb : Below W.heap.size W wz) => HAMB.out.below (bel_chain HB.out hb))
  clear hX hBW
  refine (HBD.out W (HA.out _ (Below.refl _ _))).mono ?_
  rintro e w1 ⟨rfl, hz1⟩
  obtain ⟨⟨_, c0, c1, _, _⟩, _⟩ := HX.out _ hz1
  go_upto_region 4 with fail
  have hzd := hz1.drew
  have HC1 := Lib.hid (HOF.out w1.drew (HA.out _ hzd))
  go_region_held3 (fun w' => w'.cell? ⟨w.heap.size, 0, none⟩ = some (.string (itx n)) ∧ w'.cell? ⟨w.heap.size, 1, none⟩ = some (.string (itx d))) (go_keep)
    (first
      | ((with_reducible refine HC2.out.mono ?_); rintro e w3 ⟨rfl, hb3⟩; have hz3 := bel_chain hz2 hb3; obtain ⟨⟨_, c30, c31, _, _⟩, _⟩ := HX.out _ hz3)
      | ((with_reducible refine HC1.out.mono ?_); rintro e w2 ⟨rfl, hb2⟩; have hz2 := bel_chain hzd hb2; obtain ⟨⟨_, c20, c21, _, _⟩, _⟩ := HX.out _ hz2; have HC2 := Lib.hid (HCM.out w2)))
  have HZ3 := Lib.hid hz3
  clear hz1 hzd HC1 HC2 hb2 hz2 c0 c1 c20 c21 hb3
  go_wp2_with fail
  refine (HAR.out w3 (HA.out _ HZ3.out)).mono ?_
  rintro e w4 ⟨rfl, hb4⟩
  have HZ4 := Lib.hid (bel_chain HZ3.out hb4)
  clear hb4 c30 c31 hz3
  go_upto_region 7 with fail
  obtain ⟨V, hV⟩ : ∃ V, ((w4.alloc (.cells #[.string (itx q1.num), .string (itx (q1.den : Int))] 24)).alloc (.cells #[.string (itx q2.num), .string (itx (q2.den : Int))] 24)) = V := ⟨_, rfl⟩
  try rw [hV]
  obtain ⟨hY, hBV⟩ := B2.of hV
  clear hV
  have HY := Lib.hid (fun wz (hb : Below V.heap.size V wz) => hY.later hb)
  have HZV := Lib.hid (bel_chain HZ4.out hBV)
  have HXV := Lib.hid (fun wz (hb : Below V.heap.size V wz) => HX.out _ (bel_chain HZV.out hb))
  have HAV := Lib.hid (fun wz (hb : Below V.heap.size V wz) => HA.out _ (bel_chain HZV.out hb))
  clear hY hBV
  have hzd : Below V.heap.size V V.drew := (Below.refl _ _).drew
  obtain ⟨⟨_, c0, c1, _, _⟩, _⟩ := HXV.out _ (Below.refl _ _)
  obtain ⟨⟨_, a0, a1, _, _⟩, ⟨_, b0, b1, _, _⟩⟩ := HY.out _ (Below.refl _ _)
  have HC1 := Lib.hid (HD1.out V.drew (HAV.out _ hzd))
  go_region_held3 (fun w' => w'.cell? ⟨w.heap.size, 0, none⟩ = some (.string (itx n)) ∧ w'.cell? ⟨w.heap.size, 1, none⟩ = some (.string (itx d)) ∧ w'.cell? ⟨w4.heap.size, 0, none⟩ = some (.string (itx q1.num)) ∧ w'.cell? ⟨w4.heap.size, 1, none⟩ = some (.string (itx (q1.den : Int))) ∧ w'.cell? ⟨w4.heap.size + 1, 0, none⟩ = some (.string (itx q2.num)) ∧ w'.cell? ⟨w4.heap.size + 1, 1, none⟩ = some (.string (itx (q2.den : Int)))) (go_keep)
    (first
      | ((with_reducible refine HC3.out.mono ?_); rintro e w7 ⟨rfl, hb7⟩; have hz7 := bel_chain hz6 hb7; obtain ⟨⟨_, c0, c1, _, _⟩, _⟩ := HXV.out _ hz7; obtain ⟨⟨_, a0, a1, _, _⟩, ⟨_, b0, b1, _, _⟩⟩ := HY.out _ hz7)
      | ((with_reducible refine HC2.out.mono ?_); rintro e w6 ⟨rfl, hb6⟩; have hz6 := bel_chain hz5 hb6; obtain ⟨⟨_, c0, c1, _, _⟩, _⟩ := HXV.out _ hz6; obtain ⟨⟨_, a0, a1, _, _⟩, ⟨_, b0, b1, _, _⟩⟩ := HY.out _ hz6; have HC3 := Lib.hid (HCQ.out w6 (HAV.out _ hz6)))
      | ((with_reducible refine HC1.out.mono ?_); rintro e w5 ⟨rfl, hb5⟩; have hz5 := bel_chain hzd hb5; obtain ⟨⟨_, c0, c1, _, _⟩, _⟩ := HXV.out _ hz5; obtain ⟨⟨_, a0, a1, _, _⟩, ⟨_, b0, b1, _, _⟩⟩ := HY.out _ hz5; have HC2 := Lib.hid (HD2.out w5 (HAV.out _ hz5))))
  have HZ7 := Lib.hid hz7
  clear hz7 hz6 hz5 hzd hb5 hb6 hb7 HC1 HC2 HC3 c0 c1 a0 a1 b0 b1
  by_cases hC0 : C = 0
  · subst hC0
    obtain ⟨⟨_, a0, a1, _, _⟩, ⟨_, b0, b1, _, _⟩⟩ := HY.out _ HZ7.out
    go_wp2_with fail
    refine (HCD.out w7).mono ?_
    rintro e w8 ⟨rfl, hb8⟩
    have hz8 := bel_chain HZ7.out hb8
    clear a0 a1 b0 b1
    obtain ⟨⟨_, a0, a1, _, _⟩, ⟨_, b0, b1, _, _⟩⟩ := HY.out _ hz8
    obtain ⟨_, ⟨_, r0, r1, g0, g1⟩⟩ := HXV.out _ hz8
    have HL := Lib.hid (HXV.out _ hz8)
    by_cases hE0 : E ≤ 0
    · have HR := Lib.hid (HCH.out.1 (.inr ⟨by trivial, HLE.out.1 hE0⟩))
      clear b0 b1
      go_wp2_with fail
      refine ret_cell_tmp rfl rfl (load_rat (g := w.heap.size + 1) (HL.out.store1 _ _).2) rfl ?_
      rw [HZ.out, HR.out]
      exact ⟨rfl, ((bel_chain HB.out (bel_chain HZV.out hz8)).setCell (by simp <;> omega) _).setCell (by simp <;> omega) _⟩
    · have HR := Lib.hid (HCH.out.2 (.inr ⟨by trivial, by
        refine Decidable.by_contra fun hc => hE0 (HLE.out.2 (by omega))⟩))
      clear a0 a1
      go_wp2_with fail
      refine ret_cell_tmp rfl rfl (load_rat (g := w.heap.size + 1) (HL.out.store1 _ _).2) rfl ?_
      rw [HZ.out, HR.out]
      exact ⟨rfl, ((bel_chain HB.out (bel_chain HZV.out hz8)).setCell (by simp <;> omega) _).setCell (by simp <;> omega) _⟩
  · have hCb : (C == 0) = false := by rw [beq_eq_false_iff_ne]; exact hC0
    obtain ⟨⟨_, a0, a1, _, _⟩, ⟨_, b0, b1, _, _⟩⟩ := HY.out _ HZ7.out
    obtain ⟨_, ⟨_, r0, r1, g0, g1⟩⟩ := HXV.out _ HZ7.out
    have HL := Lib.hid (HXV.out _ HZ7.out)
    by_cases hC1 : C ≤ 0
    · have HR := Lib.hid (HCH.out.1 (.inl (by omega)))
      clear b0 b1
      go_wp2_with fail
      refine ret_cell_tmp rfl rfl (load_rat (g := w.heap.size + 1) (HL.out.store1 _ _).2) rfl ?_
      rw [HZ.out, HR.out]
      exact ⟨rfl, ((bel_chain HB.out (bel_chain HZV.out HZ7.out)).setCell (by simp <;> omega) _).setCell (by simp <;> omega) _⟩
    · have HR := Lib.hid (HCH.out.2 (.inl (by omega)))
      clear a0 a1
      go_wp2_with fail
      refine ret_cell_tmp rfl rfl (load_rat (g := w.heap.size + 1) (HL.out.store1 _ _).2) rfl ?_
      rw [HZ.out, HR.out]
      exact ⟨rfl, ((bel_chain HB.out (bel_chain HZV.out HZ7.out)).setCell (by simp <;> omega) _).setCell (by simp <;> omega) _⟩
theorem Nearest_any (n d : Int) (b : Nat) (z : Int × Int) (w : World) (hamb : Amb w) (hd : 0 < d) (hg : Int.gcd n d = 1) (hnn : nz n ≤ 14) (hnd : nz d ≤ 14) (hr : RB (itx n) (itx d) = true) (hb0 : 1 ≤ b) (hb1 : b ≤ 900) (hz : (rb n d b).getLast? = some z) :
    Calls Tryz.prog 13 #[.agg #[.string (itx n), .string (itx d)], .int .i64 (b : Int)] w (SmallRes (.tuple #[rv (tr z), .int .i64 0]) w) := by
  by_cases hdb : d ≤ (b : Int)
  · obtain ⟨z', hz', e⟩ := near_self hd hb0 hdb (n := n)
    obtain rfl : z' = z := Option.some.inj (hz'.symm.trans hz)
    have := Nearest_self n d (b : Int) w hamb hd hnn hnd hr (by omega) (by omega) hdb
    rw [e]
    have hx := rat_of_right hd hg
    unfold rv
    rw [show (tr (n, d)).num = n from hx.1, show ((tr (n, d)).den : Int) = d from hx.2]
    exact this
  · exact Nearest_far n d b z w hamb hd hg hnn hnd hr hb0 hb1 (by omega) hz
end Go.Proofs.YtpafocfpofnkpaaGreatDoor
