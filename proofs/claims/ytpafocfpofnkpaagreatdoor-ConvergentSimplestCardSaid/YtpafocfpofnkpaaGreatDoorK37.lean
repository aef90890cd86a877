/- Greater text, out of: K37. -/
import Derived.Test.YtpafocfpofnkpaaGreatDoorK36
import Derived.Test.YtpafocfpofnkpaaGreatDoorK21
import Derived.Test.YtpafocfpofnkpaaGreatDoorK9
import Derived.Test.YtpafocfpofnkpaaGreatDoorGk
import Derived.Test.YtpafocfpofnkpaaGreatDoorGl
namespace Go.Proofs.YtpafocfpofnkpaaGreatDoor
open Go.RowKit Go.PlainAid Go.Shelf
attribute [local go_sem] Oper.semAt_some field_rat0 field_rat1
set_option maxRecDepth 100000 in
set_option maxHeartbeats 2000000 in
/-- convergent.distance. -/
theorem distance_any (p q : Rat) (w : World) (hamb : Amb w) (hp : NQ p 9000) (hq : NQ q 9000) :
    Calls Tryz.prog 38 #[rv p, rv q] w (SmallRes (rv (p - q).abs) w) := by
  have HS := Lib.hid (fun w h => fsub_any p q w h (hp.mono (by omega)) (hq.mono (by omega)))
  have hN := hp.sub hq
  obtain ⟨D, hD⟩ : ∃ D, p - q = D := ⟨_, rfl⟩
  rw [hD] at HS hN ⊢
  have HAB := Lib.hid (fun w => fabs_any D w (hN.mono (by omega)))
  obtain ⟨E, hE⟩ : ∃ E, D.abs = E := ⟨_, rfl⟩
  rw [hE] at HAB ⊢
  have HAMB := Lib.hid hamb
  clear hamb hp hq hN hD hE
  go_enter Tryz.func38, Tryz.ntmps38
  go_wp2_with fail
  obtain ⟨W, hW⟩ : ∃ W, ((w.alloc (.cells #[.string (itx p.num), .string (itx (p.den : Int))] 24)).alloc (.cells #[.string (itx q.num), .string (itx (q.den : Int))] 24)).alloc (.cells #[.string ⟨#[]⟩, .string ⟨#[]⟩] 24) = W := ⟨_, rfl⟩
  rw [hW]
  obtain ⟨hX, hBW⟩ := B3.of hW
  clear hW
  have HX := Lib.hid (fun wz (hb : Below W.heap.size W wz) => hX.later hb)
  have HB := Lib.hid hBW
  clear hBW hX
  refine (HS.out W (HAMB.out.below HB.out)).mono ?_
  rintro e w1 ⟨rfl, hb1⟩
  obtain ⟨⟨_, c0, c1, f0, f1⟩, ⟨_, c2, c3, f2, f3⟩, ⟨_, c4, c5, f4, f5⟩⟩ := HX.out _ hb1
  go_wp2_with fail
  refine (HAB.out w1).mono ?_
  rintro e w2 ⟨rfl, hb2⟩
  have hb12 := bel_chain hb1 hb2
  obtain ⟨⟨_, c0, c1, f0, f1⟩, ⟨_, c2, c3, f2, f3⟩, ⟨_, c4, c5, f4, f5⟩⟩ := HX.out _ hb12
  clear hb1 hb2
  go_wp2_with fail
  refine ret_cell rfl rfl (load_rat (g := w.heap.size + 1 + 1) ((HX.out _ hb12).store2 _ _).2.2) rfl ?_
  exact ⟨rfl, ((bel_chain HB.out hb12).setCell (by simp <;> omega) _).setCell (by simp <;> omega) _⟩
set_option maxHeartbeats 1000000 in
theorem fromHalf_any (k : Int) (a l : Int) (w : World) (hamb : Amb w) (ha : nz a ≤ 100) : Calls Tryz.prog 33 #[.int .i64 k, .string (itx a), .string (itx l)] w (SmallRes (.string (itx (half a l))) w) := by
  have l2 : (⟨#[50]⟩ : ByteArray) = itx 2 := lit3_pos [50] 2 (by decide) (by decide)
  have HD := Lib.hid (show Calls Tryz.prog 34 #[.string (itx a), .string ⟨#[50]⟩] w (SmallRes (.tuple #[.string (itx (a / 2)), .string (itx (a % 2)), .int .i64 0]) w) from by
    rw [l2]; exact wdiv_pos a 2 w hamb (by omega) (by omega) (Nat.le_trans ((nz_le_iff 2 0).2 (by decide)) (by omega)))
  rw [show half a l = a / 2 from rfl]
  obtain ⟨x, hx⟩ : ∃ x, a / 2 = x := ⟨_, rfl⟩
  obtain ⟨y, hy⟩ : ∃ y, a % 2 = y := ⟨_, rfl⟩
  rw [hx, hy] at HD
  rw [hx]
  clear l2 hamb ha hx hy
  go_enter Tryz.func33, Tryz.ntmps33
  go_wp2_with fail
  refine HD.out.mono ?_
  rintro e w1 ⟨rfl, hb1⟩
  go_wp2_with fail
  go_ret
  exact ⟨rfl, hb1⟩
theorem noDefer_spec {ops : Array Oper} (h : (ops.all fun o => match o.op with | .defer _ => false | _ => true) = true) : ∀ o ∈ ops, ∀ c, o.op ≠ .defer c := by
  intro o ho c hc
  have := Array.all_eq_true'.1 h o ho
  rw [hc] at this
  cases this
/-- What lies in the boxes of Best when k have come; its row holds what pbStep has kept. -/
structure BI (w : World) (x0 x1 : Value) (n d : Int) (ob : Nat) (ys : List (Int × Int)) (k : Nat) (W : World) : Prop where
  sb : SB w x0 x1 W
  out : ∃ v, Boxed W ob 29 v ∧ W.ownsRow (w.heap.size + 1 + 1 + 1) 24 2 v (pb n d (ys.take k)).length (Rh ((pb n d (ys.take k)).map tr))
theorem BI.onlyN {w : World} {x0 x1 : Value} {n d : Int} {ob : Nat} {ys : List (Int × Int)} {k M : Nat} {T : TypeId → Bool} {X Y : World} (h : BI w x0 x1 n d ob ys k X) (hM : w.heap.size + 1 + 1 < M) (hob : ob < M) (o : OnlyN M T X Y) (hT : T 24 = false) : BI w x0 x1 n d ob ys k Y := by
  obtain ⟨h1, v, h2, h3⟩ := h
  exact ⟨h1.onlyN hM o, v, (o.same ob h2.lt (.inl hob)).trans h2, ownsRow_onlyN h3 o hT⟩
theorem BI.alloc {w : World} {x0 x1 : Value} {n d : Int} {ob : Nat} {ys : List (Int × Int)} {k : Nat} {X : World} (h : BI w x0 x1 n d ob ys k X) (o : Obj) : BI w x0 x1 n d ob ys k (X.alloc o) := by
  obtain ⟨h1, v, h2, h3⟩ := h
  exact ⟨h1.later ((Below.refl _ _).alloc (Nat.le_refl _) _), v, h2.alloc o, h3.alloc o⟩
theorem pb_snoc (n d : Int) (ys : List (Int × Int)) (k : Nat) (y : Int × Int) (h : ys[k]? = some y) : pb n d (ys.take (k + 1)) = pbStep n d (pb n d (ys.take k)) y := by
  rw [List.take_add_one, h]
  unfold pb
  rw [List.foldl_append]; rfl
theorem pbStep_len (n d : Int) (out : List (Int × Int)) (y : Int × Int) : (pbStep n d out y).length ≤ out.length + 1 := by
  unfold pbStep
  split
  · simp
  · split
    · split
      · simp only [List.length_append, List.length_dropLast, List.length_cons, List.length_nil]; omega
      · simp
    · omega
theorem pb_len (n d : Int) (ys : List (Int × Int)) : ∀ k, (pb n d (ys.take k)).length ≤ k := by
  intro k
  induction k with
  | zero => simp [pb]
  | succ k ih =>
    cases h : ys[k]? with
    | none =>
      rw [List.take_add_one, h]
      simp only [Option.toList, List.append_nil]
      omega
    | some y =>
      rw [pb_snoc n d ys k y h]
      have := pbStep_len n d (pb n d (ys.take k)) y
      omega
theorem pbStep_mem (n d : Int) (out : List (Int × Int)) (y z : Int × Int) (h : z ∈ pbStep n d out y) : z ∈ out ∨ z = y := by
  unfold pbStep at h
  split at h
  · right; simpa using h
  · split at h
    · split at h
      · rcases List.mem_append.1 h with h | h
        · exact .inl ((List.dropLast_sublist _).subset h)
        · right; simpa using h
      · rcases List.mem_append.1 h with h | h
        · exact .inl h
        · right; simpa using h
    · exact .inl h
theorem pb_mem (n d : Int) (ys : List (Int × Int)) : ∀ k, ∀ z ∈ pb n d (ys.take k), z ∈ ys := by
  intro k
  induction k with
  | zero => intro z hz; simp [pb] at hz
  | succ k ih =>
    intro z hz
    cases h : ys[k]? with
    | none =>
      rw [List.take_add_one, h] at hz
      simp only [Option.toList, List.append_nil] at hz
      exact ih z hz
    | some y =>
      rw [pb_snoc n d ys k y h] at hz
      rcases pbStep_mem n d _ y z hz with h2 | rfl
      · exact ih z h2
      · exact List.mem_of_getElem? h
theorem NQ.abs {q : Rat} {k : Nat} (h : NQ q k) : NQ q.abs k := by
  rcases Rat.le_total (a := 0) (b := q) with h0 | h0
  · rw [Rat.abs_of_nonneg h0]; exact h
  · rw [Rat.abs_of_nonpos h0]; exact h.neg
/-- What the walk of a round of Best asks of a fraction that comes. -/
theorem near_facts {n d b : Int} {y : Int × Int} (hd : 0 < d) (hnn : nz n ≤ 14) (hnd : nz d ≤ 14) (hb1 : b ≤ 900) (h : Good b y) (h2 : dl n d y.1 y.2 ≤ d) :
    (tr y).num = y.1 ∧ ((tr y).den : Int) = y.2 ∧ NQ (tr y) 18 ∧ NQ (Rat.divInt n d) 14 ∧ NQ (Rat.divInt n d - tr y).abs 33 := by
  obtain ⟨e1, e2⟩ := rat_of_right (show 0 < y.2 from h.1) h.gcd
  have h3 := num_le hd h2 (show 0 ≤ y.2 by have := h.1; omega) h.2.1
  have hn := (nz_le_iff n 13).1 hnn
  have hd' := (nz_le_iff d 13).1 hnd
  have hm : n.natAbs * b.natAbs ≤ 100000000000000 * 900 := Nat.mul_le_mul (by omega) (by have := h.1; have := h.2.1; omega)
  have hq : NQ (tr y) 18 := by
    refine NQ.of_divInt (by have := h.1; omega) ((nz_le_iff _ 17).2 (by omega)) ((nz_le_iff _ 17).2 (by have := h.1; have := h.2.1; omega))
  have hx : NQ (Rat.divInt n d) 14 := NQ.of_divInt (by omega) hnn hnd
  exact ⟨e1, e2, hq, hx, (hx.sub hq).abs⟩
theorem near_cmp {n d b : Int} {y z : Int × Int} (hd : 0 < d) (hy : Good b y) (hz : Good b z) : cmpQ (Rat.divInt n d - tr y).abs (Rat.divInt n d - tr z).abs < 0 ↔ nearer n d y.1 y.2 z.1 z.2 = true := by
  rw [cmpQ_neg_iff, nearer_rat hd (show 0 < y.2 from hy.1) (show 0 < z.2 from hz.1), decide_eq_true_eq]
  exact Iff.rfl
theorem row_app {w : World} {x0 x1 : Value} {ob : Nat} {qs : List Rat} {k : Nat} {W w1 : World} {v v' : Value} {x : Rat} (hs : SB w x0 x1 W) (hbo : Boxed W ob 29 v) (hrow : W.ownsRow (w.heap.size + 1 + 1 + 1) 24 2 v k (Rh qs))
    (hob : w.heap.size + 1 + 1 < ob) (hown' : w1.ownsRow (w.heap.size + 1 + 1 + 1) 24 2 v' (k + 1) (Rh qs ++ [.string (itx x.num), .string (itx (x.den : Int))]))
    (hg : (W.alloc (.cells #[.string (itx x.num), .string (itx (x.den : Int))] 24)).grownBy w1 v.ownBlock) :
    Boxed w1 ob 29 v ∧ OnlyT (w.heap.size + 1 + 1 + 1) isRat W (w1.setCell ⟨ob, 0, none⟩ v') ∧ SB w x0 x1 (w1.setCell ⟨ob, 0, none⟩ v') ∧ Boxed (w1.setCell ⟨ob, 0, none⟩ v') ob 29 v' ∧ (w1.setCell ⟨ob, 0, none⟩ v').ownsRow (w.heap.size + 1 + 1 + 1) 24 2 v' (k + 1) (Rh (qs ++ [x])) := by
  have hlt := hs.lt
  obtain ⟨b1, b2, b3, _, b5⟩ := hbo.appended (by decide) hrow (by omega) (by omega) hown' hg
  refine ⟨b1, ?_, ⟨(b5.block _ (by omega)).trans hs.x, (b5.block _ (by omega)).trans hs.r, (b5.block _ (by omega)).trans hs.e, hs.bl.trans (b5.mono (by omega))⟩, b2, ?_⟩
  · refine ((OnlyT.alloc W _).trans (OnlyT.grown hg fun r e => ?_)).trans (OnlyT.setCell b1 rfl (by omega) v')
    rcases (hrow.alloc (.cells #[.string (itx x.num), .string (itx (x.den : Int))] 24)).2 with ⟨rfl, _⟩ | ⟨g, cap, cur, rfl, hB, hh, _⟩
    · simp [Value.ownBlock] at e
    · obtain rfl : g = r := by simpa [Value.ownBlock] using e
      exact ⟨hB, _, _, _, hh, rfl⟩
  · rw [← Rh_append]; exact b3
/-- A round that appends. -/
theorem BI.app {w : World} {x0 x1 : Value} {n d : Int} {ob : Nat} {ys : List (Int × Int)} {k : Nat} {W w1 : World} {v v' : Value} {y : Int × Int} (hs : SB w x0 x1 W) (hbo : Boxed W ob 29 v) (hrow : W.ownsRow (w.heap.size + 1 + 1 + 1) 24 2 v (pb n d (ys.take k)).length (Rh ((pb n d (ys.take k)).map tr)))
    (hob : w.heap.size + 1 + 1 < ob) (hown' : w1.ownsRow (w.heap.size + 1 + 1 + 1) 24 2 v' ((pb n d (ys.take k)).length + 1) (Rh ((pb n d (ys.take k)).map tr) ++ [.string (itx (tr y).num), .string (itx ((tr y).den : Int))]))
    (hg : (W.alloc (.cells #[.string (itx (tr y).num), .string (itx ((tr y).den : Int))] 24)).grownBy w1 v.ownBlock) (hx : pb n d (ys.take (k + 1)) = pb n d (ys.take k) ++ [y]) :
    Boxed w1 ob 29 v ∧ OnlyT (w.heap.size + 1 + 1 + 1) isRat W (w1.setCell ⟨ob, 0, none⟩ v') ∧ BI w x0 x1 n d ob ys (k + 1) (w1.setCell ⟨ob, 0, none⟩ v') := by
  obtain ⟨h1, h2, h3, h4, h5⟩ := row_app hs hbo hrow hob hown' hg
  refine ⟨h1, h2, h3, v', h4, ?_⟩
  rw [hx, List.length_append, List.map_append]
  exact h5
/-- A round that keeps all. -/
theorem BI.keep {w : World} {x0 x1 : Value} {n d : Int} {ob : Nat} {ys : List (Int × Int)} {k k' : Nat} {X Y : World} (h : BI w x0 x1 n d ob ys k X) (hob : w.heap.size + 1 + 1 < ob) (hb : Below X.heap.size X Y) (hx : pb n d (ys.take k') = pb n d (ys.take k)) : BI w x0 x1 n d ob ys k' Y := by
  have h' := h.onlyN (M := ob + 1) (T := fun _ => false) (by omega) (by omega) (OnlyT.new hb).n rfl
  obtain ⟨h1, v, h2, h3⟩ := h'
  exact ⟨h1, v, h2, by rw [hx]; exact h3⟩
/-- A round that puts the new one in the last one's place. -/
theorem BI.put {w : World} {x0 x1 : Value} {n d : Int} {ob : Nat} {ys : List (Int × Int)} {k : Nat} {W : World} {g c : Nat} {y z : Int × Int} {zs : List (Int × Int)} (hs : SB w x0 x1 W) (hbo : Boxed W ob 29 (.slice (some ⟨g, 0, none⟩) (zs.length + 1) c)) (hrow : W.ownsRow (w.heap.size + 1 + 1 + 1) 24 2 (.slice (some ⟨g, 0, none⟩) (zs.length + 1) c) (zs.length + 1) (Rh ((zs ++ [z]).map tr)))
    (hx : pb n d (ys.take (k + 1)) = zs ++ [y]) :
    OnlyT (w.heap.size + 1 + 1 + 1) isRat W ((W.setCell ⟨g, zs.length * 2, none⟩ (.string (itx (tr y).num))).setCell ⟨g, zs.length * 2 + 1, none⟩ (.string (itx ((tr y).den : Int)))) ∧ BI w x0 x1 n d ob ys (k + 1) ((W.setCell ⟨g, zs.length * 2, none⟩ (.string (itx (tr y).num))).setCell ⟨g, zs.length * 2 + 1, none⟩ (.string (itx ((tr y).den : Int)))) := by
  have hlt := hs.lt
  obtain ⟨hg, cur, hh⟩ : w.heap.size + 1 + 1 + 1 ≤ g ∧ ∃ cur, W.heap[g]? = some (.cells cur 24 (0, 0)) := by
    rcases hrow.2 with ⟨e, _⟩ | ⟨g', cap', cur, e, hB, hh, _⟩
    · cases e
    · cases e; exact ⟨hB, cur, hh⟩
  have hgo : g ≠ ob := fun e => by rw [e, show W.heap[ob]? = _ from hbo] at hh; simp at hh
  have hc := (Rc.of_own hrow rfl).set zs.length (tr y)
  have hset : ((zs ++ [z]).map tr).set zs.length (tr y) = (zs ++ [y]).map tr := by
    simp
  rw [hset] at hc
  have o1 : OnlyT (w.heap.size + 1 + 1 + 1) isRat W (W.setCell ⟨g, zs.length * 2, none⟩ (.string (itx (tr y).num))) := OnlyT.setCell hh rfl hg _
  obtain ⟨cur2, hh2⟩ : ∃ cur, (W.setCell ⟨g, zs.length * 2, none⟩ (.string (itx (tr y).num))).heap[g]? = some (.cells cur 24 (0, 0)) := ⟨_, by simp [World.setCell, Array.getElem?_modify, hh]; rfl⟩
  have o2 := o1.trans (OnlyT.setCell (o := zs.length * 2 + 1) hh2 (show isRat _ = true from rfl) hg (.string (itx ((tr y).den : Int))))
  refine ⟨o2, ?_, _, ?_, by rw [hx, List.length_append]; exact hc.to_own hg⟩
  · have hb := o2.below (by omega)
    exact ⟨(hb.block _ (by omega)).trans hs.x, (hb.block _ (by omega)).trans hs.r, (hb.block _ (by omega)).trans hs.e, hs.bl.trans (hb.mono (by omega))⟩
  · exact (Below.heap_setCell _ _ _ ob (fun e => hgo e.symm)).trans ((Below.heap_setCell _ _ _ ob (fun e => hgo e.symm)).trans hbo)
theorem enters_half : ∀ args w, (callFunc 33 args).run Tryz.prog w = .ok (.enter 33 args) w := enters_of Tryz.func33 (by kernel_rfl) rfl
theorem half_ok (a l : Int) (h1 : 1 ≤ a) (h2 : nz a ≤ 100) (_ : 0 ≤ l) (_ : nz l ≤ 100) : 0 ≤ half a l ∧ nz (half a l) ≤ 100 := by
  unfold half
  exact ⟨by omega, Nat.le_trans (nz_mono (by omega)) h2⟩

set_option maxRecDepth 100000 in
set_option maxHeartbeats 8000000 in
/-- convergent.Best of a right fraction and a right bound. -/
theorem Best_any (n d : Int) (b : Int) (w : World) (hamb : Amb w) (hd : 0 < d) (hg : Int.gcd n d = 1) (hnn : nz n ≤ 14) (hnd : nz d ≤ 14) (hr : RB (itx n) (itx d) = true) (hb0 : 1 ≤ b) (hb1 : b ≤ 900) :
    Calls Tryz.prog 12 #[.agg #[.string (itx n), .string (itx d)], .int .i64 b] w (RRes ((pb n d (semiL half b (tms n d))).map tr) 0 w) := by
  have hlen := tms_short14 (n := n) hnd
  have hbe : bndE true b = 0 := by unfold bndE; rw [if_neg (by decide), if_neg (by omega)]
  have HW := Lib.hid (fun w h => show Calls Tryz.prog 32 #[.agg #[.string (itx n), .string (itx d)], .int .i64 b] w (SmallRes (.int .i64 0) w) from by
    rw [← hbe]; exact bounded_any (itx n) (itx d) b w h (by have := itx_size_le n; omega) (by have := itx_size_le d; omega) true hr (by omega) (by omega))
  have HT := Lib.hid (fun w h => terms_any n d w h hd (by omega) (by omega))
  have HTN := Lib.hid (tms_nz (k := 13) hnn hnd)
  have HTP := Lib.hid (tms_tail (n := n) hd)
  have HXQ := Lib.hid (rat_of_right hd hg)
  have HY := Lib.hid (show ((semiL half b (tms n d)).length : Int) ≤ b + 1 ∧ (∀ y ∈ semiL half b (tms n d), Good b y) ∧ (∀ y ∈ semiL half b (tms n d), dl n d y.1 y.2 ≤ d) from by
    have h2 := semiL_num (bound := b) hd half (n := n)
    have := tms_tail (n := n) hd
    rw [tms_step hd] at this h2 ⊢
    exact ⟨semiL_len hb0 half _ _ this, semiL_good hb0 half _ _ this, h2⟩)
  have HND := Lib.hid (And.intro hnn (And.intro hnd hd))
  obtain ⟨T, hT⟩ : ∃ T, tms n d = T := ⟨_, rfl⟩
  rw [hT] at hlen HT HTN HTP HY ⊢
  obtain ⟨ys, hys⟩ : ∃ ys, semiL half b T = ys := ⟨_, rfl⟩
  have HYS := Lib.hid hys
  rw [hys] at HY ⊢
  have HAMB := Lib.hid hamb
  clear hT hamb hr hd hnn hnd hbe hys hg
  refine (callsIn_wide (n := 0)).1 ?_
  refine callsIn_of_wp_marks Tryz.func12 rfl trivial ?_ rfl
  simp only [Tryz.ntmps12, List.size_toArray, List.length_cons, List.length_nil, Nat.reduceAdd, Nat.reduceSub, Array.replicate_succ, Array.replicate_zero, List.push_toArray, List.append_toArray, List.nil_append, List.cons_append]
  gi_wp2_with fail
  obtain ⟨W, hW⟩ : ∃ W, (((w.alloc (.cells #[.string (itx n), .string (itx d)] 24)).alloc (.cells #[.slice none 0 0] 29)).alloc (.cells #[.int .i64 0] 30)) = W := ⟨_, rfl⟩
  rw [hW]
  have HS0 := Lib.hid (show SB w (.string (itx n)) (.string (itx d)) W from hW ▸ SB.new w _ _)
  have HA := Lib.hid (fun wz (hb : Below w.heap.size w wz) => HAMB.out.below hb)
  clear hW
  refine ⟨trivial, rfl, (callsIn_wide.2 (HW.out W (HA.out _ HS0.out.bl))).mono ?_⟩
  rintro e w1 ⟨rfl, hb1'⟩
  have HS1 := Lib.hid (HS0.out.later hb1')
  clear HS0 hb1'
  obtain ⟨w2, hw2⟩ : ∃ W, w1.alloc (.cells #[.slice none 0 0] 29) = W := ⟨_, rfl⟩
  have hb2 : Below w1.heap.size w1 w2 := hw2 ▸ (Below.refl _ _).alloc (Nat.le_refl _) _
  have hbo2 : Boxed w2 w1.heap.size 29 (.slice none 0 0) := hw2 ▸ Boxed.new w1 _ _
  have HS2 := Lib.hid (HS1.out.later hb2)
  obtain ⟨c0, c1⟩ := HS2.out.cells
  rw [← hw2] at c0 c1
  have HW2 := Lib.hid hw2
  have HOB0 := Lib.hid (show w.heap.size + 1 + 1 < w1.heap.size from HS1.out.lt)
  clear hw2 hb2
  gi_wp2_with fail
  rw [HW2.out]
  clear c0 c1 HW2
  refine ⟨trivial, rfl, (callsIn_wide.2 (HT.out w2 (HA.out _ HS2.out.bl))).mono ?_⟩
  rintro e w3 ⟨vT, rfl, hown, hb3⟩
  have HS3 := Lib.hid (HS2.out.later hb3)
  have HBO3 := Lib.hid ((hb3.block _ hbo2.lt).trans hbo2)
  obtain ⟨A, cap, rfl, hjs⟩ := hown.ss
  have HJS := Lib.hid hjs
  have HOB := Lib.hid (show w1.heap.size < w3.heap.size from Nat.lt_of_lt_of_le hbo2.lt hb3.size)
  clear hb3 hown hjs HS1 HS2 hbo2
  gi_wp2_with fail
  refine ⟨trivial, rfl, (callsIn_wide.2 (semi_any A T.length cap b 33 w3)).mono ?_⟩
  rintro e w4 ⟨rfl, k0, k1, k2, hb4⟩
  have HS4 := Lib.hid (HS3.out.later hb4)
  have HJ4 := Lib.hid (HJS.out.below hb4 (Nat.le_refl _))
  have HBO := Lib.hid ((hb4.block _ HOB.out).trans HBO3.out)
  have HCAP := Lib.hid (show Cap w3.heap.size A T.length cap b 33 T w4 from ⟨k0, k1, k2, HJ4.out⟩)
  have HOB4 := Lib.hid (show w1.heap.size < w4.heap.size from Nat.lt_of_lt_of_le HOB.out hb4.size)
  clear hb4 k0 k1 k2 HS3 HJS HJ4 HBO3
  gi_wp2_with fail
  refine range_rat (y := 9) rfl enters_semi1 (semi1_seq w3.heap.size A T.length cap b 33 T half (w.heap.size + 1 + 1 + 1) w4 HS4.out.lt enters_half
    (fun k a l w ha _ h => fromHalf_any k a l w h ha) half_ok
    (fun W' hb => HA.out _ (HS4.out.bl.trans (hb.mono (by omega)))) HCAP.out hb0 (by omega) hlen (fun a ha => Nat.le_trans (HTN.out a ha) (by omega)) HTP.out)
    (BI w (.string (itx n)) (.string (itx d)) n d w1.heap.size ys) ?hI ?h0 (fun k W o h => h.alloc o) ?hassign ?hbody ?hdone
  case hI =>
    intro k X Y h ho
    exact h.onlyN (by have := HOB4.out; have := HOB0.out; omega) HOB4.out ho rfl
  case h0 => exact ⟨HS4.out, _, HBO.out, World.ownsRow_nil _ _ _ _⟩
  case hassign =>
    intro l x W K hK
    simp only [List.setIfInBounds_toArray, List.set_cons_succ, List.set_cons_zero] at hK ⊢
    gi_wp2_with fail
    exact hK
  case hbody =>
    intro l k x Bx W hx hi hBx hbx hsz
    simp only [List.setIfInBounds_toArray, List.set_cons_succ, List.set_cons_zero]
    rw [List.getElem?_map, Option.map_eq_some_iff] at hx
    obtain ⟨y, hy, hyx⟩ := hx
    rw [HYS.out] at hy
    have hyx' : tr y = x := hyx
    have hkl : k < ys.length := (List.getElem?_eq_some_iff.1 hy).1
    have hym : y ∈ ys := List.mem_of_getElem? hy
    have HSN := Lib.hid (pb_snoc n d ys k y hy)
    have HYF := Lib.hid (And.intro (HY.out.2.1 y hym) (HY.out.2.2 y hym))
    have HNF := Lib.hid (near_facts HND.out.2.2 HND.out.1 HND.out.2.1 hb1 HYF.out.1 HYF.out.2)
    have HPL := Lib.hid (pb_len n d ys k)
    have HPM := Lib.hid (pb_mem n d ys k)
    have HBI := Lib.hid hi
    obtain ⟨sb, v, hbo, hrow⟩ := hi
    have HKL := Lib.hid (show k ≤ 901 by have := HY.out.1; omega)
    clear hkl hy hyx hym
    have HHY := Lib.hid hyx'
    have HROW := Lib.hid hrow
    have HSB := Lib.hid sb
    have HBO2 := Lib.hid hbo
    have hc := hbo.cell
    have hf := hbo.frozen
    have hbl := hbo.lt
    obtain ⟨x0, x1⟩ := hbx.cells
    obtain ⟨i0, hi0, hz0, hz1, hz2⟩ := info_parts Tryz.infoRc
    have HI0 := Lib.hid (And.intro hi0 (And.intro hz0 (And.intro hz1 hz2)))
    have HKB := Lib.hid (show (pb n d (ys.take k)).length + 1 ≤ maxLen ∧ ((pb n d (ys.take k)).length + 1) * 32 ≤ 140737488355328 by have := HPL.out; have := HKL.out; unfold maxLen; omega)
    have HNB := Lib.hid (show w.heap.size + 1 + 1 + 1 ≤ (W.alloc (.cells #[.string (itx x.num), .string (itx (x.den : Int))] 24)).heap.size by have := sb.lt; simp; omega)
    have HAPPL := Lib.hid (fun (hpb : pb n d (ys.take (k + 1)) = pb n d (ys.take k) ++ [y]) v' w1 h1 h2 => BI.app (v' := v') (w1 := w1) (x0 := .string (itx n)) (x1 := .string (itx d)) HSB.out HBO2.out HROW.out HOB0.out (hyx' ▸ h1) (hyx' ▸ h2) hpb)
    clear hi0 hz0 hz1 hz2 sb hbo hyx'
    by_cases hne : pb n d (ys.take k) = []
    · have hk0 : (pb n d (ys.take k)).length = 0 := by rw [hne]; rfl
      have hpb : pb n d (ys.take (k + 1)) = pb n d (ys.take k) ++ [y] := by rw [HSN.out, hne]; rfl
      have HAPPL := Lib.hid (HAPPL.out hpb)
      rw [hk0] at hrow HROW HKB HAPPL
      clear hk0
      rcases hrow.2 with ⟨rfl, _⟩ | ⟨g, cap', cur, rfl, _⟩
      all_goals
        clear hrow hpb hne
        gi_wp2_with (gi_at_builtin; refine wpListIn_append_own _ rfl _ _ 29 rfl (w.heap.size + 1 + 1 + 1) 24 i0 (.agg #[.string ⟨#[]⟩, .string ⟨#[]⟩]) 2 32 Tryz.underlying29 HI0.out.1 HI0.out.2.1 HI0.out.2.2.1 HI0.out.2.2.2 rfl (by decide) _ _ _ rfl (HROW.out.alloc _) ⟨W.heap.size, 0, none⟩ 1 1 [.string (itx x.num), .string (itx (x.den : Int))] rfl rfl (two_cells W _ _ _) (by intro u hu; rcases List.mem_cons.1 hu with rfl | hu; rfl; rcases List.mem_cons.1 hu with rfl | hu; rfl; cases hu) HKB.out.1 HKB.out.2 HNB.out ?_; intro v' w1' hown' hgrow _; obtain ⟨g', cap'', rfl⟩ := ownsRow_succ hown'; have HA1 := Lib.hid (HAPPL.out _ _ hown' hgrow); have HAPP := Lib.hid HA1.out.2; have hc1 := HA1.out.1.cell; have hf1 := HA1.out.1.frozen; clear hown' hgrow HA1)
        exact HAPP.out
    · obtain ⟨zs, z, hz⟩ : ∃ zs z, pb n d (ys.take k) = zs ++ [z] := ⟨_, _, (List.dropLast_concat_getLast hne).symm⟩
      have HZY := Lib.hid (HPM.out z (by rw [hz]; simp))
      have HZF := Lib.hid (And.intro (HY.out.2.1 z HZY.out) (HY.out.2.2 z HZY.out))
      have HZN := Lib.hid (near_facts HND.out.2.2 HND.out.1 HND.out.2.1 hb1 HZF.out.1 HZF.out.2)
      have HCM := Lib.hid (near_cmp (n := n) HND.out.2.2 HYF.out.1 HZF.out.1)
      have HHZ := Lib.hid hz
      rw [hz] at hrow HPL HROW HKB HAPPL HSN
      rw [List.length_append, List.length_cons, List.length_nil, Nat.zero_add] at hrow HPL HROW HKB HAPPL
      have hrc : ∃ g cap', v = .slice (some ⟨g, 0, none⟩) (zs.length + 1) cap' := by
        rcases hrow.2 with ⟨_, h0⟩ | ⟨g, cap', cur, e, _⟩
        · omega
        · exact ⟨g, cap', e⟩
      obtain ⟨g, cap', rfl⟩ := hrc
      have HSTEP := Lib.hid (show pbStep n d (zs ++ [z]) y = if nearer n d y.1 y.2 z.1 z.2 = true then (if y.2 = z.2 then zs ++ [y] else zs ++ [z] ++ [y]) else zs ++ [z] from by
        unfold pbStep
        rw [List.getLast?_concat, List.dropLast_concat])
      have hRc := Rc.of_own hrow rfl
      have y0 := hRc.cell0 zs.length (by omega)
      have y1 := hRc.cell1 zs.length (by omega)
      have yf0 := hRc.free (zs.length * 2)
      have yf1 := hRc.free (zs.length * 2 + 1)
      have hget : ((zs ++ [z]).map tr).getD zs.length 0 = tr z := by simp [List.getD_eq_getElem?_getD]
      rw [hget] at y0 y1
      have HNQ := Lib.hid (show NQ x 18 ∧ NQ (Rat.divInt n d - x).abs 33 from HHY.out ▸ ⟨HNF.out.2.2.1, HNF.out.2.2.2.2⟩)
      have hxn : Rat.divInt n d = Rat.divInt n d := rfl
      obtain ⟨X, hX⟩ : ∃ X, Rat.divInt n d = X := ⟨_, rfl⟩
      obtain ⟨Z, hZ⟩ : ∃ Z, tr z = Z := ⟨_, rfl⟩
      rw [hZ] at y0 y1 HZN HCM
      rw [hX] at HXQ HZN HCM HNQ
      rw [HHY.out] at HCM
      have hXn : n = X.num := HXQ.out.1.symm
      have HD1 := Lib.hid (fun W' h => show Calls Tryz.prog 38 #[.agg #[.string (itx n), .string (itx d)], .agg #[.string (itx x.num), .string (itx (x.den : Int))]] W' (SmallRes (rv (X - x).abs) W') from by
        have := distance_any X x W' h (HZN.out.2.2.2.1.mono (by omega)) (HNQ.out.1.mono (by omega))
        unfold rv at this
        rw [HXQ.out.1, HXQ.out.2] at this
        exact this)
      have HD2 := Lib.hid (fun W' h => show Calls Tryz.prog 38 #[.agg #[.string (itx n), .string (itx d)], .agg #[.string (itx Z.num), .string (itx (Z.den : Int))]] W' (SmallRes (rv (X - Z).abs) W') from by
        have := distance_any X Z W' h (HZN.out.2.2.2.1.mono (by omega)) (HZN.out.2.2.1.mono (by omega))
        unfold rv at this
        rw [HXQ.out.1, HXQ.out.2] at this
        exact this)
      have HC := Lib.hid (fun W' h => fcompare_any (X - x).abs (X - Z).abs W' h (HNQ.out.2.mono (by omega)) (HZN.out.2.2.2.2.mono (by omega)))
      obtain ⟨C, hC⟩ : ∃ C, cmpQ (X - x).abs (X - Z).abs = C := ⟨_, rfl⟩
      rw [hC] at HC HCM
      obtain ⟨s0, s1⟩ := HSB.out.cells
      have HAW := Lib.hid (fun wz (hb : Below W.heap.size W wz) => HA.out wz (HSB.out.bl.trans (hb.mono (by have := HSB.out.lt; omega))))
      have HSS := Lib.hid (fun wz (hb : Below W.heap.size W wz) => show wz.cell? ⟨w.heap.size, 0, none⟩ = some (.string (itx n)) ∧ wz.cell? ⟨w.heap.size, 1, none⟩ = some (.string (itx d)) ∧ wz.cell? ⟨Bx, 0, none⟩ = some (.string (itx x.num)) ∧ wz.cell? ⟨Bx, 1, none⟩ = some (.string (itx (x.den : Int))) ∧ wz.cell? ⟨w1.heap.size, 0, none⟩ = some (.slice (some ⟨g, 0, none⟩) (zs.length + 1) cap') ∧ wz.cell? ⟨g, zs.length * 2, none⟩ = some (.string (itx Z.num)) ∧ wz.cell? ⟨g, zs.length * 2 + 1, none⟩ = some (.string (itx (Z.den : Int))) from by
        have b0 : w.heap.size < W.heap.size := by have := HSB.out.lt; omega
        have b1 : Bx < W.heap.size := (Array.getElem?_eq_some_iff.1 (show W.heap[Bx]? = _ from hbx)).1
        have b2 : g < W.heap.size := hRc.lt
        exact ⟨(hb.cell b0).trans s0, (hb.cell b0).trans s1, (hb.cell b1).trans x0, (hb.cell b1).trans x1, (hb.cell hbl).trans hc, (hb.cell b2).trans y0, (hb.cell b2).trans y1⟩)
      clear hX hZ hXn hxn hC hRc hget hz hne hrow
      have hzl : zs.length + 1 ≤ 901 := by have := HPL.out; have := HKL.out; omega

      gi_wp2_with fail
      refine region_held_in (S := fun w' => w'.cell? ⟨w.heap.size, 0, none⟩ = some (.string (itx n)) ∧ w'.cell? ⟨w.heap.size, 1, none⟩ = some (.string (itx d)) ∧ w'.cell? ⟨Bx, 0, none⟩ = some (.string (itx x.num)) ∧ w'.cell? ⟨Bx, 1, none⟩ = some (.string (itx (x.den : Int))) ∧ w'.cell? ⟨w1.heap.size, 0, none⟩ = some (.slice (some ⟨g, 0, none⟩) (zs.length + 1) cap') ∧ w'.cell? ⟨g, zs.length * 2, none⟩ = some (.string (itx Z.num)) ∧ w'.cell? ⟨g, zs.length * 2 + 1, none⟩ = some (.string (itx (Z.den : Int)))) l (by kernel_rfl) (noDefer_spec (by kernel_rfl)) (fun ⟨_, _, h⟩ => h) (HSS.out _ (Below.refl _ _).drew) (fun hS => ?_)
      refine wpAnyH_take (i := 0) (v := ?_) rfl (by kernel_rfl) (by kernel_rfl) (by kernel_rfl) (fun _ _ _ h => h) (Or.inl ⟨by kernel_rfl, ?_⟩) (by assumption) ?_
      rotate_left
      · intro w hSw
        try dsimp only at hSw
        go_simp
        try with_reducible rfl
      try simp only [Act.put, List.getElem_toArray, List.getElem_cons_zero, List.setIfInBounds_toArray, List.set_cons_zero, List.set_cons_succ]
      refine wpAnyH_take (i := 1) (v := ?_) rfl (by kernel_rfl) (by kernel_rfl) (by kernel_rfl) (fun _ _ _ h => h) (Or.inl ⟨by kernel_rfl, ?_⟩) (by assumption) ?_
      rotate_left
      · intro w hSw
        try dsimp only at hSw
        go_simp
        try with_reducible rfl
      try simp only [Act.put, List.getElem_toArray, List.getElem_cons_zero, List.getElem_cons_succ, List.setIfInBounds_toArray, List.set_cons_zero, List.set_cons_succ]
      refine wpAnyH_take (i := 3) (v := ?_) rfl (by kernel_rfl) (by kernel_rfl) (by kernel_rfl) (fun _ _ _ h => h) (Or.inl ⟨by kernel_rfl, ?_⟩) (by assumption) ?_
      rotate_left
      · intro w hSw
        try dsimp only at hSw
        go_simp
        try with_reducible rfl
      try simp only [Act.put, List.getElem_toArray, List.getElem_cons_zero, List.getElem_cons_succ, List.setIfInBounds_toArray, List.set_cons_zero, List.set_cons_succ]
      refine wpAnyH_take (i := 4) (v := ?_) rfl (by kernel_rfl) (by kernel_rfl) (by kernel_rfl) (fun _ _ _ h => h) (Or.inl ⟨by kernel_rfl, ?_⟩) (by assumption) ?_
      rotate_left
      · intro w hSw
        try dsimp only at hSw
        go_simp
        try with_reducible rfl
      try simp only [Act.put, List.getElem_toArray, List.getElem_cons_zero, List.getElem_cons_succ, List.setIfInBounds_toArray, List.set_cons_zero, List.set_cons_succ]
      refine wpAnyH_take (i := 5) (v := ?_) rfl (by kernel_rfl) (by kernel_rfl) (by kernel_rfl) (fun _ _ _ h => h) (Or.inl ⟨by kernel_rfl, ?_⟩) (by assumption) ?_
      rotate_left
      · intro w hSw
        try dsimp only at hSw
        go_simp
        try with_reducible rfl
      try simp only [Act.put, List.getElem_toArray, List.getElem_cons_zero, List.getElem_cons_succ, List.setIfInBounds_toArray, List.set_cons_zero, List.set_cons_succ]
      have hzd : Below W.heap.size W W.drew := (Below.refl _ _).drew
      refine wpAnyH_take (i := 6) (v := ?_) rfl (by kernel_rfl) (by kernel_rfl) (by kernel_rfl) (fun _ _ _ h => h) (Or.inl ⟨by kernel_rfl, ?_⟩) (by assumption) ?_
      rotate_left
      · intro w hSw
        try dsimp only at hSw
        go_simp
        try rw [if_pos (by omega)]
        try with_reducible rfl
      try simp only [Act.put, List.getElem_toArray, List.getElem_cons_zero, List.getElem_cons_succ, List.setIfInBounds_toArray, List.set_cons_zero, List.set_cons_succ]
      refine wpAnyH_take (i := 7) (v := ?_) rfl (by kernel_rfl) (by kernel_rfl) (by kernel_rfl) (fun _ _ _ h => h) (Or.inl ⟨by kernel_rfl, ?_⟩) (by assumption) ?_
      rotate_left
      · intro w hSw
        try dsimp only at hSw
        go_simp
        try with_reducible rfl
      try simp only [Act.put, List.getElem_toArray, List.getElem_cons_zero, List.getElem_cons_succ, List.setIfInBounds_toArray, List.set_cons_zero, List.set_cons_succ]
      refine wpAnyH_ready (rs := [2]) (by kernel_rfl) (by simp) ?_
      refine AllReadyH.cons rfl (fun K hK => ?_) AllReadyH.nil
      go_simp
      refine (HD1.out _ (HAW.out _ hzd)).mono ?_
      rintro e w5 ⟨rfl, hb5⟩
      have hz5 := bel_chain hzd hb5
      go_wp2_with fail
      refine hK.out _ _ (HSS.out _ hz5) (fun hHeld => ?_)
      clear hK K hS
      have hS := hHeld
      clear hHeld
      try simp only [Act.put, List.getElem_toArray, List.getElem_cons_zero, List.getElem_cons_succ, List.setIfInBounds_toArray, List.set_cons_zero, List.set_cons_succ]
      refine wpAnyH_ready (rs := [8]) (by kernel_rfl) (by simp) ?_
      refine AllReadyH.cons rfl (fun K hK => ?_) AllReadyH.nil
      go_simp
      refine (HD2.out _ (HAW.out _ hz5)).mono ?_
      rintro e w6 ⟨rfl, hb6⟩
      have hz6 := bel_chain hz5 hb6
      go_wp2_with fail
      refine hK.out _ _ (HSS.out _ hz6) (fun hHeld => ?_)
      clear hK K hS
      have hS := hHeld
      clear hHeld
      try simp only [Act.put, List.getElem_toArray, List.getElem_cons_zero, List.getElem_cons_succ, List.setIfInBounds_toArray, List.set_cons_zero, List.set_cons_succ]
      refine wpAnyH_ready (rs := [9]) (by kernel_rfl) (by simp) ?_
      refine AllReadyH.cons rfl (fun K hK => ?_) AllReadyH.nil
      go_simp
      refine (HC.out _ (HAW.out _ hz6)).mono ?_
      rintro e w7 ⟨rfl, hb7⟩
      have hz7 := bel_chain hz6 hb7
      go_wp2_with fail
      refine hK.out _ _ (HSS.out _ hz7) (fun hHeld => ?_)
      clear hK K hS
      have hS := hHeld
      clear hHeld
      try simp only [Act.put, List.getElem_toArray, List.getElem_cons_zero, List.getElem_cons_succ, List.setIfInBounds_toArray, List.set_cons_zero, List.set_cons_succ]
      refine wpAnyH_take (i := 10) (v := ?_) rfl (by kernel_rfl) (by kernel_rfl) (by kernel_rfl) (fun _ _ _ h => h) (Or.inl ⟨by kernel_rfl, ?_⟩) (by assumption) ?_
      rotate_left
      · intro w hSw
        try dsimp only at hSw
        go_simp
        try with_reducible rfl
      try simp only [Act.put, List.getElem_toArray, List.getElem_cons_zero, List.getElem_cons_succ, List.setIfInBounds_toArray, List.set_cons_zero, List.set_cons_succ]
      refine wpAnyH_take (i := 11) (v := ?_) rfl (by kernel_rfl) (by kernel_rfl) (by kernel_rfl) (fun _ _ _ h => h) (Or.inl ⟨by kernel_rfl, ?_⟩) (by assumption) ?_
      rotate_left
      · intro w hSw
        try dsimp only at hSw
        go_simp
        try with_reducible rfl
      try simp only [Act.put, List.getElem_toArray, List.getElem_cons_zero, List.getElem_cons_succ, List.setIfInBounds_toArray, List.set_cons_zero, List.set_cons_succ]
      refine wpAnyH_done (by kernel_rfl) ?_ _
      clear hS hb5 hb6 hb7 hz5 hz6 hzd s0 s1 x0 x1 y0 y1 yf0 yf1 hc hf HD1 HD2 HC
      have HZ7 := Lib.hid hz7
      clear hz7
      by_cases hC0 : 0 ≤ C
      · have HK := Lib.hid (BI.keep (k' := k + 1) HBI.out HOB0.out HZ7.out (by rw [HSN.out, HSTEP.out, HHZ.out, if_neg (fun h => by have := HCM.out.2 h; omega)]))
        gi_wp2_with fail
        exact ⟨OnlyT.new HZ7.out, HK.out⟩
      · have HNR := Lib.hid (HCM.out.1 (by omega))
        gi_wp2_with fail
        refine region_held_in (S := fun w' => w'.cell? ⟨w.heap.size, 0, none⟩ = some (.string (itx n)) ∧ w'.cell? ⟨w.heap.size, 1, none⟩ = some (.string (itx d)) ∧ w'.cell? ⟨Bx, 0, none⟩ = some (.string (itx x.num)) ∧ w'.cell? ⟨Bx, 1, none⟩ = some (.string (itx (x.den : Int))) ∧ w'.cell? ⟨w1.heap.size, 0, none⟩ = some (.slice (some ⟨g, 0, none⟩) (zs.length + 1) cap') ∧ w'.cell? ⟨g, zs.length * 2, none⟩ = some (.string (itx Z.num)) ∧ w'.cell? ⟨g, zs.length * 2 + 1, none⟩ = some (.string (itx (Z.den : Int)))) l (by kernel_rfl) (noDefer_spec (by kernel_rfl)) (fun ⟨_, _, h⟩ => h) (HSS.out _ HZ7.out.drew) (fun hS => ?_)
        refine wpAnyH_take (i := 0) (v := ?_) rfl (by kernel_rfl) (by kernel_rfl) (by kernel_rfl) (fun _ _ _ h => h) (Or.inl ⟨by kernel_rfl, ?_⟩) (by assumption) ?_
        rotate_left
        · intro w hSw
          try dsimp only at hSw
          go_simp
          try with_reducible rfl
        try simp only [Act.put, List.getElem_toArray, List.getElem_cons_zero, List.setIfInBounds_toArray, List.set_cons_zero, List.set_cons_succ]
        refine wpAnyH_take (i := 1) (v := ?_) rfl (by kernel_rfl) (by kernel_rfl) (by kernel_rfl) (fun _ _ _ h => h) (Or.inl ⟨by kernel_rfl, ?_⟩) (by assumption) ?_
        rotate_left
        · intro w hSw
          try dsimp only at hSw
          go_simp
          try with_reducible rfl
        try simp only [Act.put, List.getElem_toArray, List.getElem_cons_zero, List.getElem_cons_succ, List.setIfInBounds_toArray, List.set_cons_zero, List.set_cons_succ]
        refine wpAnyH_take (i := 2) (v := ?_) rfl (by kernel_rfl) (by kernel_rfl) (by kernel_rfl) (fun _ _ _ h => h) (Or.inl ⟨by kernel_rfl, ?_⟩) (by assumption) ?_
        rotate_left
        · intro w hSw
          try dsimp only at hSw
          go_simp
          try with_reducible rfl
        try simp only [Act.put, List.getElem_toArray, List.getElem_cons_zero, List.getElem_cons_succ, List.setIfInBounds_toArray, List.set_cons_zero, List.set_cons_succ]
        refine wpAnyH_take (i := 3) (v := ?_) rfl (by kernel_rfl) (by kernel_rfl) (by kernel_rfl) (fun _ _ _ h => h) (Or.inl ⟨by kernel_rfl, ?_⟩) (by assumption) ?_
        rotate_left
        · intro w hSw
          try dsimp only at hSw
          go_simp
          try with_reducible rfl
        try simp only [Act.put, List.getElem_toArray, List.getElem_cons_zero, List.getElem_cons_succ, List.setIfInBounds_toArray, List.set_cons_zero, List.set_cons_succ]
        refine wpAnyH_take (i := 4) (v := ?_) rfl (by kernel_rfl) (by kernel_rfl) (by kernel_rfl) (fun _ _ _ h => h) (Or.inl ⟨by kernel_rfl, ?_⟩) (by assumption) ?_
        rotate_left
        · intro w hSw
          try dsimp only at hSw
          go_simp
          try rw [if_pos (by omega)]
          try with_reducible rfl
        try simp only [Act.put, List.getElem_toArray, List.getElem_cons_zero, List.getElem_cons_succ, List.setIfInBounds_toArray, List.set_cons_zero, List.set_cons_succ]
        refine wpAnyH_take (i := 5) (v := ?_) rfl (by kernel_rfl) (by kernel_rfl) (by kernel_rfl) (fun _ _ _ h => h) (Or.inl ⟨by kernel_rfl, ?_⟩) (by assumption) ?_
        rotate_left
        · intro w hSw
          try dsimp only at hSw
          go_simp
          try with_reducible rfl
        try simp only [Act.put, List.getElem_toArray, List.getElem_cons_zero, List.getElem_cons_succ, List.setIfInBounds_toArray, List.set_cons_zero, List.set_cons_succ]
        refine wpAnyH_take (i := 6) (v := ?_) rfl (by kernel_rfl) (by kernel_rfl) (by kernel_rfl) (fun _ _ _ h => h) (Or.inl ⟨by kernel_rfl, ?_⟩) (by assumption) ?_
        rotate_left
        · intro w hSw
          try dsimp only at hSw
          go_simp
          try with_reducible rfl
        try simp only [Act.put, List.getElem_toArray, List.getElem_cons_zero, List.getElem_cons_succ, List.setIfInBounds_toArray, List.set_cons_zero, List.set_cons_succ]
        refine wpAnyH_take (i := 7) (v := ?_) rfl (by kernel_rfl) (by kernel_rfl) (by kernel_rfl) (fun _ _ _ h => h) (Or.inl ⟨by kernel_rfl, ?_⟩) (by assumption) ?_
        rotate_left
        · intro w hSw
          try dsimp only at hSw
          go_simp
          try with_reducible rfl
        try simp only [Act.put, List.getElem_toArray, List.getElem_cons_zero, List.getElem_cons_succ, List.setIfInBounds_toArray, List.set_cons_zero, List.set_cons_succ]
        refine wpAnyH_take (i := 8) (v := ?_) rfl (by kernel_rfl) (by kernel_rfl) (by kernel_rfl) (fun _ _ _ h => h) (Or.inl ⟨by kernel_rfl, ?_⟩) (by assumption) ?_
        rotate_left
        · intro w hSw
          try dsimp only at hSw
          go_simp
          try with_reducible rfl
        try simp only [Act.put, List.getElem_toArray, List.getElem_cons_zero, List.getElem_cons_succ, List.setIfInBounds_toArray, List.set_cons_zero, List.set_cons_succ]
        refine wpAnyH_done (by kernel_rfl) ?_ _
        obtain ⟨_, _, x0, x1, hc, y0, y1⟩ := HSS.out _ HZ7.out
        have HZ8 := Lib.hid (show Below W.heap.size W w7.drew from HZ7.out.drew)
        have HSB8 := Lib.hid (HSB.out.later HZ8.out)
        have HBO8 := Lib.hid ((HZ8.out.block _ hbl).trans HBO2.out)
        have HROW8 := Lib.hid (ownsRow_onlyN (M := 0) (T := fun _ => false) HROW.out (OnlyT.new HZ8.out).n rfl)
        rw [itx_beq]
        by_cases hde : y.2 = z.2
        · have hdec : decide ((x.den : Int) = (Z.den : Int)) = true := by rw [decide_eq_true_eq, ← HHY.out, HNF.out.2.1, HZN.out.2.1, hde]
          rw [hdec]
          have HPUT := Lib.hid (BI.put (y := y) (k := k) HSB8.out HBO8.out HROW8.out (by rw [HSN.out, HSTEP.out, if_pos HNR.out, if_pos hde]))
          rw [HHY.out] at HPUT
          have HOT := Lib.hid ((OnlyT.new HZ8.out).trans HPUT.out.1)
          have HBI8 := Lib.hid HPUT.out.2
          have hfb := (Rc.of_own HROW8.out rfl).free
          have hf0 : w7.frozen? ⟨g, zs.length * 2, none⟩ = false := hfb (zs.length * 2)
          have hf1 : w7.frozen? ⟨g, zs.length * 2 + 1, none⟩ = false := hfb (zs.length * 2 + 1)
          clear HPUT hfb hde
          gi_wp2_with fail
          exact ⟨HOT.out, HBI8.out⟩
        · have hdec : decide ((x.den : Int) = (Z.den : Int)) = false := by rw [decide_eq_false_iff_not, ← HHY.out, HNF.out.2.1, HZN.out.2.1]; exact hde
          rw [hdec]
          have HAPPL8 := Lib.hid (fun v' wa h1 h2 => BI.app (y := y) (n := n) (d := d) (k := k) (v' := v') (w1 := wa) HSB8.out HBO8.out (by rw [HHZ.out, List.length_append, List.length_cons, List.length_nil, Nat.zero_add]; exact HROW8.out) HOB0.out h1 h2 (by rw [HSN.out, HSTEP.out, HHZ.out, if_pos HNR.out, if_neg hde]))
          rw [HHZ.out, List.length_append, List.length_cons, List.length_nil, Nat.zero_add, HHY.out] at HAPPL8
          have HNB8 := Lib.hid (show w.heap.size + 1 + 1 + 1 ≤ (w7.drew.alloc (.cells #[.string (itx x.num), .string (itx (x.den : Int))] 24)).heap.size by have := HSB8.out.lt; rw [World.size_alloc]; omega)
          have hf8 : w7.frozen? ⟨w1.heap.size, 0, none⟩ = false := Boxed.frozen HBO8.out
          have hk10 : (((zs.length : Int) + 1) == 1000) = false := by rw [beq_eq_false_iff_ne]; omega
          have hk11 : ¬ ((zs.length : Int) + 1) = 1000 := by omega
          clear y0 y1 hde
          gi_wp2_with (gi_at_builtin; refine wpListIn_append_own _ rfl _ _ 29 rfl (w.heap.size + 1 + 1 + 1) 24 i0 (.agg #[.string ⟨#[]⟩, .string ⟨#[]⟩]) 2 32 Tryz.underlying29 HI0.out.1 HI0.out.2.1 HI0.out.2.2.1 HI0.out.2.2.2 rfl (by decide) _ _ _ rfl (HROW8.out.alloc _) ⟨w7.drew.heap.size, 0, none⟩ 1 1 [.string (itx x.num), .string (itx (x.den : Int))] rfl rfl (two_cells w7.drew _ _ _) (by intro u hu; rcases List.mem_cons.1 hu with rfl | hu; rfl; rcases List.mem_cons.1 hu with rfl | hu; rfl; cases hu) HKB.out.1 HKB.out.2 HNB8.out ?_; intro v' w1' hown' hgrow _; obtain ⟨g', cap'', rfl⟩ := ownsRow_succ hown'; have HA1 := Lib.hid (HAPPL8.out _ _ hown' hgrow); have HAPP := Lib.hid HA1.out.2; have hc1 := HA1.out.1.cell; have hf1 := HA1.out.1.frozen; clear hown' hgrow HA1)
          exact ⟨(OnlyT.new HZ8.out).trans HAPP.out.1, HAPP.out.2⟩
  case hdone =>
    intro D W hD hi hK
    rw [List.length_map, HYS.out] at hi
    obtain ⟨sb, v, hbo, hrow⟩ := hi
    rw [List.take_of_length_le (Nat.le_refl _)] at hrow
    have HROW := Lib.hid hrow
    have HSB := Lib.hid sb
    have HK := Lib.hid hK
    have HD := Lib.hid hD
    have hc := hbo.cell
    have r0 := sb.r.cell
    have r1 := sb.r.frozen
    have e0 := sb.e.cell
    have e1 := sb.e.frozen
    clear hbo hrow sb hK
    have HFIN := Lib.hid (HSB.out.finish HROW.out HK.out 0)
    have HDW := Lib.hid (show ¬ D < w.heap.size by have := HOB4.out; have := HOB0.out; omega)
    rcases HROW.out.2 with ⟨rfl, hk0⟩ | ⟨g, cap', cur, rfl, _⟩
    all_goals
      gi_wp2_with fail
      refine retM_cell2 rfl rfl HFIN.out.1 rfl rfl (load_boxR HFIN.out.2.1) (load_boxE HFIN.out.2.2.1) ?_
      exact HFIN.out.2.2.2.resolve_left HDW.out
end Go.Proofs.YtpafocfpofnkpaaGreatDoor
