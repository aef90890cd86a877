/- Greater text, out of: K38. -/
import Derived.Test.YtpafocfpofnkpaaGreatDoorK31
import Derived.Test.YtpafocfpofnkpaaGreatDoorK35
namespace Go.Proofs.YtpafocfpofnkpaaGreatDoor
open Go.RowKit Go.PlainAid
attribute [local go_sem] field_rat0 field_rat1
set_option maxRecDepth 100000 in
set_option maxHeartbeats 2000000 in
/-- schismaref04.Make. -/
theorem r4make_any (n d : Int) (w : World) (hn : I62 n) (hd0 : 1 ≤ d) (hd : d ≤ 9000000000000000000) :
    Calls Tryz.prog 27 #[.int .i64 n, .int .i64 d] w (SmallRes (rv (Rat.divInt n d)) w) := by
  have HGC := Lib.hid (fun w => r4gcd_any n d w hn ⟨by omega, hd⟩)
  obtain ⟨h0, h1⟩ := hn
  obtain ⟨Q, hQ⟩ : ∃ Q, Rat.divInt n d = Q := ⟨_, rfl⟩
  obtain ⟨g, hg⟩ : ∃ g, Int.gcd n d = g := ⟨_, rfl⟩
  have HNUM := Lib.hid (show Q.num = n / (g : Int) by rw [← hQ, ← hg]; exact divInt_pos_num n d (by omega))
  have HDEN := Lib.hid (show (Q.den : Int) = d / (g : Int) by rw [← hQ, ← hg]; exact divInt_pos_den n d (by omega))
  have hg0 : 0 < g := by rw [← hg]; exact Nat.pos_of_ne_zero fun h => by have := Int.gcd_eq_zero_iff.1 h; omega
  have HGN := Lib.hid (show (g : Int) ∣ n by rw [← hg]; exact Int.gcd_dvd_left _ _)
  have HGD := Lib.hid (show (g : Int) ∣ d by rw [← hg]; exact Int.gcd_dvd_right _ _)
  have hg1 : (1 : Int) ≤ (g : Int) := by omega
  have hgb : ((g : Int) == 0) = false := by rw [beq_eq_false_iff_ne]; omega
  have hgz : ¬ ((g : Int) = 0) := by omega
  have hgn : ¬ (g = 0) := by omega
  have hq1 : n.tdiv (g : Int) = Q.num := by rw [HNUM.out]; exact Int.tdiv_eq_ediv_of_dvd HGN.out
  have hq2 : d.tdiv (g : Int) = (Q.den : Int) := by rw [HDEN.out]; exact Int.tdiv_eq_ediv_of_dvd HGD.out
  have hb1 := natAbs_ediv_le n (g : Int) (by omega)
  have hb2 := natAbs_ediv_le d (g : Int) (by omega)
  rw [← HNUM.out] at hb1
  rw [← HDEN.out] at hb2
  have hw1 : IntKind.i64.wrap (Q.num) = Q.num := IntWalk.i64_in _ (by omega)
  have hw2 : IntKind.i64.wrap (Q.den : Int) = (Q.den : Int) := IntWalk.i64_in _ (by omega)
  have HC1 := Lib.hid (fun w => r4of_any Q.num w ⟨by omega, by omega⟩)
  have HC2 := Lib.hid (fun w => r4of_any (Q.den : Int) w ⟨by omega, by omega⟩)
  rw [hg] at HGC
  rw [hQ]
  clear hb1 hb2 hg hQ h0 h1 hd hd0
  go_enter Tryz.func27, Tryz.ntmps27
  go_wp2_with fail
  obtain ⟨W, hW⟩ : ∃ W, (w.alloc (.cells #[.string ⟨#[]⟩, .string ⟨#[]⟩] 24)) = W := ⟨_, rfl⟩
  rw [hW]
  obtain ⟨hX, hBW⟩ := B1.of hW
  clear hW
  have HX := Lib.hid (fun wz (hb : Below W.heap.size W wz) => hX.later hb)
  have HB := Lib.hid hBW
  clear hX hBW
  refine (HGC.out W).mono ?_
  rintro e w2 ⟨rfl, hb2⟩
  have hzd := hb2.drew
  obtain ⟨_, c20, c21, f20, f21⟩ := HX.out _ hb2
  have HXL := Lib.hid (HX.out _ hzd)
  go_wp2_with fail
  go_region_held3 (fun w' => w'.frozen? ⟨w.heap.size, 0, none⟩ = false ∧ w'.frozen? ⟨w.heap.size, 1, none⟩ = false) (first | exact ⟨(HXL.out.store0 _ _).2.2.2.1, (HXL.out.store0 _ _).2.2.2.2⟩ | go_keep)
    (first
      | ((with_reducible refine (HC2.out _).mono ?_); rintro e w4 ⟨rfl, hb4⟩; have hz4 := bel_chain hz3 hb4; have HXL := Lib.hid (HX.out _ hz4); obtain ⟨_, c40, c41, f40, f41⟩ := HX.out _ hz4)
      | ((with_reducible refine (HC1.out _).mono ?_); rintro e w3 ⟨rfl, hb3⟩; have hz3 := bel_chain hzd hb3; have HXL := Lib.hid (HX.out _ hz3); obtain ⟨_, c30, c31, f30, f31⟩ := HX.out _ hz3))
  all_goals
    go_wp2_with fail
    refine ret_cell rfl rfl (load_rat (g := w.heap.size) (HXL.out.store0 _ _)) rfl ?_
    exact ⟨rfl, ((bel_chain HB.out hz4).setCell (by simp <;> omega) _).setCell (by simp <;> omega) _⟩
theorem canonR_itoa (n : Int) (h : nz n ≤ 400) : canonR (itx n).data.toList = true := by
  have h1 := mag_itoa n
  unfold canonR canonT
  rw [itx_data, h1.1, h1.2, canon_dd, Lib.decDigits_length]
  have h2 : Lib.nDigits n.natAbs ≤ 400 := h
  rw [decide_eq_true h2, Bool.and_true, Bool.and_true]
  by_cases hn : n < 0
  · have hv : (Lib.decDigits n.natAbs == [48]) = false := by
      rw [beq_eq_false_iff_ne]
      intro e
      have := val_dd n.natAbs
      rw [e] at this
      have : val [48] = 0 := by decide
      omega
    rw [hv, Bool.and_false]; rfl
  · rw [decide_eq_false hn]; rfl
/-- What the reference's Int says of two texts. -/
theorem iv4_itx (n : Int) (h : nz n ≤ 17) : iv4 (itx n).data.toList = (n, true) := by
  have hc := canonR_itoa n (by omega)
  have hm := (mag_itoa n).1
  rw [← itx_data] at hm
  have hl : (magT (itx n).data.toList).length ≤ 17 := by rw [hm, Lib.decDigits_length]; exact h
  have e := canonR_itx hc
  unfold canonR at hc
  rw [Bool.and_eq_true] at hc
  unfold iv4
  rw [if_pos ⟨hc.1, hl⟩, ← itx_inj e.1]
theorem canonR_short {l : List UInt8} (h : l.length ≤ 17) : canonR l = canonT l := by
  unfold canonR
  rw [decide_eq_true (Nat.le_trans (mag_size l) (by omega)), Bool.and_true]
set_option maxRecDepth 100000 in
set_option maxHeartbeats 2000000 in
theorem r4parts_gen (s t : ByteArray) (n d : Int) (a b r : Bool) (w : World) (hs : s.size ≤ 100000) (ht : t.size ≤ 100000) (h1 : iv4 s.data.toList = (n, a)) (h2 : iv4 t.data.toList = (d, b)) (hn : I62 n) (hd : I62 d)
    (hr : (a && b && decide (0 < d) && decide (Int.gcd n d = 1)) = r) :
    Calls Tryz.prog 11 #[.agg #[.string s, .string t]] w (SmallRes (.tuple #[.int .i64 (if r = true then n else 0), .int .i64 (if r = true then d else 0), .bool r]) w) := by
  have HI1 := Lib.hid (fun w => show Calls Tryz.prog 30 #[.string s] w (SmallRes (.tuple #[.int .i64 n, .bool a]) w) from by have := r4int_any s w hs; rw [h1] at this; exact this)
  have HI2 := Lib.hid (fun w => show Calls Tryz.prog 30 #[.string t] w (SmallRes (.tuple #[.int .i64 d, .bool b]) w) from by have := r4int_any t w ht; rw [h2] at this; exact this)
  have HG := Lib.hid (fun w => r4gcd_any n d w hn hd)
  obtain ⟨h0, h1'⟩ := hn
  obtain ⟨d0, d1⟩ := hd
  obtain ⟨g, hg⟩ : ∃ g, Int.gcd n d = g := ⟨_, rfl⟩
  rw [hg] at HG hr
  obtain ⟨V, hV⟩ : ∃ V, (Value.tuple #[.int .i64 (if r = true then n else 0), .int .i64 (if r = true then d else 0), .bool r]) = V := ⟨_, rfl⟩
  have HV := Lib.hid hV
  rw [hV]
  clear h1 h2 hg hs ht hV
  go_enter Tryz.func11, Tryz.ntmps11
  go_wp2_with fail
  obtain ⟨W, hW⟩ : ∃ W, (w.alloc (.cells #[.string s, .string t] 24)) = W := ⟨_, rfl⟩
  rw [hW]
  obtain ⟨hX, hBW⟩ := B1.of hW
  clear hW
  have HX := Lib.hid (fun wz (hb : Below W.heap.size W wz) => hX.later hb)
  have HB := Lib.hid hBW
  clear hX hBW
  refine (HI1.out _).mono ?_
  rintro e w2 ⟨rfl, hb2⟩
  obtain ⟨_, c20, c21, f20, f21⟩ := HX.out _ hb2
  go_wp2_with fail
  refine (HI2.out _).mono ?_
  rintro e w3 ⟨rfl, hb3⟩
  have hz3 := bel_chain hb2 hb3
  clear c20 c21 f20 f21 hb2 hb3
  have hrf : ∀ w', Below W.heap.size W w' → r = false → SmallRes V w (.returned (.tuple #[.int .i64 0, .int .i64 0, .bool false])) w' := by
    intro w' hb h
    rw [← HV.out, h]
    exact ⟨rfl, bel_chain HB.out hb⟩
  have HRF := Lib.hid hrf
  clear hrf
  cases a
  · have HR := Lib.hid (show r = false from hr.symm)
    clear hr
    go_wp2_with fail
    go_ret3
    exact HRF.out _ hz3 HR.out
  cases b
  · have HR := Lib.hid (show r = false from hr.symm)
    clear hr
    go_wp2_with fail
    go_ret3
    exact HRF.out _ hz3 HR.out
  by_cases hd0 : d ≤ 0
  · have HR := Lib.hid (show r = false by rw [← hr, show decide (0 < d) = false by rw [decide_eq_false_iff_not]; omega]; rfl)
    clear hr
    go_wp2_with fail
    go_ret3
    exact HRF.out _ hz3 HR.out
  · have HRG := Lib.hid (show decide (g = 1) = r by rw [← hr, show decide (0 < d) = true by rw [decide_eq_true_eq]; omega]; rfl)
    clear hr
    go_wp2_with fail
    refine (HG.out _).mono ?_
    rintro e w4 ⟨rfl, hb4⟩
    have hz4 := bel_chain hz3 hb4
    by_cases hg1 : g = 1
    · have HR := Lib.hid (show r = true by rw [← HRG.out, decide_eq_true hg1])
      subst hg1
      go_wp2_with fail
      go_ret3
      rw [← HV.out, HR.out]
      exact ⟨rfl, bel_chain HB.out hz4⟩
    · have HR := Lib.hid (show r = false by rw [← HRG.out, decide_eq_false hg1])
      have hgb : ((g : Int) == 1) = false := by rw [beq_eq_false_iff_ne]; omega
      have hgi : ¬ (g : Int) = 1 := by omega
      have hgn : ((g : Int) != 1) = true := by rw [bne, hgb]; rfl
      go_wp2_with fail
      go_ret3
      exact HRF.out _ hz4 HR.out
/-- schismaref04.Parts of a right fraction. -/
theorem r4parts_yes (q : Rat) (w : World) (h : NQ q 17) :
    Calls Tryz.prog 11 #[.agg #[.string (itx q.num), .string (itx (q.den : Int))]] w (SmallRes (.tuple #[.int .i64 q.num, .int .i64 (q.den : Int), .bool true]) w) := by
  have b1 := (nz_le_iff q.num 16).1 h.1
  have b2 := (nz_le_iff (q.den : Int) 16).1 h.2
  have hp := rden_pos q
  have := r4parts_gen (itx q.num) (itx (q.den : Int)) q.num (q.den : Int) true true true w (by have := itx_size_le q.num; have := h.1; omega) (by have := itx_size_le (q.den : Int); have := h.2; omega) (iv4_itx _ h.1) (iv4_itx _ h.2) ⟨by omega, by omega⟩ ⟨by omega, by omega⟩
    (by rw [decide_eq_true hp, decide_eq_true (rat_gcd q)]; rfl)
  exact this
theorem iv4_I62 (l : List UInt8) : I62 (iv4 l).1 := by
  unfold iv4 I62
  split
  · rename_i h
    have hl : (val (magT l)) < 10 ^ 17 := Nat.lt_of_lt_of_le (val_lt (magT l) (by have := h.1; unfold canonT canon at this; simp only [Bool.and_eq_true] at this; exact this.2.1)) (Nat.pow_le_pow_right (by omega) h.2)
    show -9000000000000000000 ≤ ivalT l ∧ ivalT l ≤ 9000000000000000000
    unfold ivalT
    split <;> omega
  · simp
/-- schismaref04.Parts of what is no right fraction. -/
theorem r4parts_no (s t : ByteArray) (w : World) (hs : s.size ≤ 17) (ht : t.size ≤ 17) (h : RB s t = false) :
    Calls Tryz.prog 11 #[.agg #[.string s, .string t]] w (SmallRes (.tuple #[.int .i64 0, .int .i64 0, .bool false]) w) := by
  have h1 := canonR_short (l := s.data.toList) (by rw [str_size]; exact hs)
  have h2 := canonR_short (l := t.data.toList) (by rw [str_size]; exact ht)
  have := r4parts_gen s t (iv4 s.data.toList).1 (iv4 t.data.toList).1 (iv4 s.data.toList).2 (iv4 t.data.toList).2 false w (by omega) (by omega) rfl rfl (iv4_I62 _) (iv4_I62 _)
    (by
      rw [← h]
      unfold RB rightB
      rw [h1, h2]
      have k1 : (magT s.data.toList).length ≤ 17 := Nat.le_trans (mag_size _) (by rw [str_size]; exact hs)
      have k2 : (magT t.data.toList).length ≤ 17 := Nat.le_trans (mag_size _) (by rw [str_size]; exact ht)
      unfold iv4
      cases e1 : canonT s.data.toList
      · simp
      · cases e2 : canonT t.data.toList
        · simp
        · simp [k1, k2])
  exact this
end Go.Proofs.YtpafocfpofnkpaaGreatDoor
