/- Greater text, out of: K56. -/
import Derived.Test.YtpafocfpofnkpaaGreatDoorK37
import Derived.Test.YtpafocfpofnkpaaGreatDoorK38
import Derived.Test.YtpafocfpofnkpaaGreatDoorK62
namespace Go.Proofs.YtpafocfpofnkpaaGreatDoor
open Go.RowKit Go.PlainAid Go.Shelf
attribute [local go_sem] Oper.semAt_some field_rat0 field_rat1
/-- The cells of a neighbour, or of none. -/
def zc0 (y : Int × Int) : Value := if y.2 = 0 then .string ⟨#[]⟩ else .string (itx (tr y).num)
def zc1 (y : Int × Int) : Value := if y.2 = 0 then .string ⟨#[]⟩ else .string (itx ((tr y).den : Int))
theorem zc_yes {y : Int × Int} (h : y.2 ≠ 0) : zc0 y = .string (itx (tr y).num) ∧ zc1 y = .string (itx ((tr y).den : Int)) := ⟨if_neg h, if_neg h⟩
/-- The three boxes of around. -/
structure NB (w : World) (x0 x1 : Value) (A B : Int × Int) (W : World) : Prop where
  x : W.heap[w.heap.size]? = some (.cells #[x0, x1] 24 (0, 0))
  lo : W.heap[w.heap.size + 1]? = some (.cells #[zc0 A, zc1 A] 24 (0, 0))
  hi : W.heap[w.heap.size + 1 + 1]? = some (.cells #[zc0 B, zc1 B] 24 (0, 0))
  bl : Below w.heap.size w W
theorem b1_heap {w : World} {g : Nat} {x0 x1 : Value} (h : w.heap[g]? = some (.cells #[x0, x1] 24 (0, 0))) : B1 g x0 x1 w := by
  refine ⟨(Array.getElem?_eq_some_iff.1 h).1, ?_, ?_, ?_, ?_⟩ <;> simp [World.cell?, World.frozen?, h]
section
variable {w W W' : World} {x0 x1 : Value} {A B : Int × Int}
theorem NB.new (w : World) (x0 x1 : Value) : NB w x0 x1 (0, 0) (0, 0) (((w.alloc (.cells #[x0, x1] 24)).alloc (.cells #[.string ⟨#[]⟩, .string ⟨#[]⟩] 24)).alloc (.cells #[.string ⟨#[]⟩, .string ⟨#[]⟩] 24)) := by
  have h1 : Below w.heap.size w (w.alloc (.cells #[x0, x1] 24)) := (Below.refl _ _).alloc (Nat.le_refl _) _
  have s1 : (w.alloc (.cells #[x0, x1] 24)).heap.size = w.heap.size + 1 := World.size_alloc _ _
  have hx := heap_alloc_new w (.cells #[x0, x1] 24)
  generalize w.alloc (.cells #[x0, x1] 24) = P at *
  have h2 : Below P.heap.size P (P.alloc (.cells #[.string ⟨#[]⟩, .string ⟨#[]⟩] 24)) := (Below.refl _ _).alloc (Nat.le_refl _) _
  have s2 : (P.alloc (.cells #[.string ⟨#[]⟩, .string ⟨#[]⟩] 24)).heap.size = P.heap.size + 1 := World.size_alloc _ _
  have hr := heap_alloc_new P (.cells #[.string ⟨#[]⟩, .string ⟨#[]⟩] 24)
  generalize P.alloc (.cells #[.string ⟨#[]⟩, .string ⟨#[]⟩] 24) = Q at *
  have h3 : Below Q.heap.size Q (Q.alloc (.cells #[.string ⟨#[]⟩, .string ⟨#[]⟩] 24)) := (Below.refl _ _).alloc (Nat.le_refl _) _
  have he := heap_alloc_new Q (.cells #[.string ⟨#[]⟩, .string ⟨#[]⟩] 24)
  generalize Q.alloc (.cells #[.string ⟨#[]⟩, .string ⟨#[]⟩] 24) = R at *
  rw [s1] at hr s2
  rw [s2] at he
  exact ⟨(h3.block _ (by omega)).trans ((h2.block _ (by omega)).trans hx), (h3.block _ (by omega)).trans hr, he, bel_chain (bel_chain h1 h2) h3⟩
theorem NB.lt (h : NB w x0 x1 A B W) : w.heap.size + 1 + 1 < W.heap.size := (Array.getElem?_eq_some_iff.1 h.hi).1
theorem NB.later (h : NB w x0 x1 A B W) (hb : Below W.heap.size W W') : NB w x0 x1 A B W' := by
  have := h.lt
  exact ⟨(hb.block _ (by omega)).trans h.x, (hb.block _ (by omega)).trans h.lo, (hb.block _ (by omega)).trans h.hi, bel_chain h.bl hb⟩
theorem NB.onlyN {M : Nat} {T : TypeId → Bool} (h : NB w x0 x1 A B W) (hM : w.heap.size + 1 + 1 < M) (k : OnlyN M T W W') : NB w x0 x1 A B W' := by
  have := h.lt
  exact ⟨(k.same _ (by omega) (.inl (by omega))).trans h.x, (k.same _ (by omega) (.inl (by omega))).trans h.lo, (k.same _ (by omega) (.inl (by omega))).trans h.hi, h.bl.trans ⟨k.os, k.tape, k.output, k.size, fun b hb => k.same b (by omega) (.inl (by omega))⟩⟩
theorem heap_put2 {g : Nat} {v0 v1 u0 u1 : Value} {T : TypeId} (h : W.heap[g]? = some (.cells #[v0, v1] T (0, 0))) : ((W.setCell ⟨g, 0, none⟩ u0).setCell ⟨g, 1, none⟩ u1).heap[g]? = some (.cells #[u0, u1] T (0, 0)) := by
  simp [World.setCell, Array.getElem?_modify, h]
theorem heap_far2 {g b : Nat} {u0 u1 : Value} (hne : b ≠ g) : ((W.setCell ⟨g, 0, none⟩ u0).setCell ⟨g, 1, none⟩ u1).heap[b]? = W.heap[b]? :=
  (Below.heap_setCell _ ⟨g, 1, none⟩ u1 b hne).trans (Below.heap_setCell _ ⟨g, 0, none⟩ u0 b hne)
theorem onlyT_put2 {M g : Nat} {v0 v1 : Value} {u0 u1 : Value} (h : W.heap[g]? = some (.cells #[v0, v1] 24 (0, 0))) (hM : M ≤ g) : OnlyT M isRat W ((W.setCell ⟨g, 0, none⟩ u0).setCell ⟨g, 1, none⟩ u1) := by
  have o1 : OnlyT M isRat W (W.setCell ⟨g, 0, none⟩ u0) := OnlyT.setCell h rfl hM u0
  have h2 : (W.setCell ⟨g, 0, none⟩ u0).heap[g]? = some (.cells #[u0, v1] 24 (0, 0)) := by simp [World.setCell, Array.getElem?_modify, h]
  exact o1.trans (OnlyT.setCell (o := 1) h2 rfl hM u1)
theorem NB.put_lo (h : NB w x0 x1 A B W) (y : Int × Int) (hy : y.2 ≠ 0) :
    OnlyT (w.heap.size + 1) isRat W ((W.setCell ⟨w.heap.size + 1, 0, none⟩ (.string (itx (tr y).num))).setCell ⟨w.heap.size + 1, 1, none⟩ (.string (itx ((tr y).den : Int)))) ∧ NB w x0 x1 y B ((W.setCell ⟨w.heap.size + 1, 0, none⟩ (.string (itx (tr y).num))).setCell ⟨w.heap.size + 1, 1, none⟩ (.string (itx ((tr y).den : Int)))) := by
  have o := onlyT_put2 (u0 := .string (itx (tr y).num)) (u1 := .string (itx ((tr y).den : Int))) h.lo (Nat.le_refl (w.heap.size + 1))
  have hlt := h.lt
  refine ⟨o, (heap_far2 (by omega)).trans h.x, ?_, (heap_far2 (by omega)).trans h.hi, h.bl.trans ((o.below (by omega)).mono (by omega))⟩
  rw [(zc_yes hy).1, (zc_yes hy).2]
  exact heap_put2 h.lo
theorem NB.put_hi (h : NB w x0 x1 A B W) (y : Int × Int) (hy : y.2 ≠ 0) :
    OnlyT (w.heap.size + 1) isRat W ((W.setCell ⟨w.heap.size + 1 + 1, 0, none⟩ (.string (itx (tr y).num))).setCell ⟨w.heap.size + 1 + 1, 1, none⟩ (.string (itx ((tr y).den : Int)))) ∧ NB w x0 x1 A y ((W.setCell ⟨w.heap.size + 1 + 1, 0, none⟩ (.string (itx (tr y).num))).setCell ⟨w.heap.size + 1 + 1, 1, none⟩ (.string (itx ((tr y).den : Int)))) := by
  have o := onlyT_put2 (M := w.heap.size + 1) (u0 := .string (itx (tr y).num)) (u1 := .string (itx ((tr y).den : Int))) h.hi (by omega)
  have hlt := h.lt
  refine ⟨o, (heap_far2 (by omega)).trans h.x, (heap_far2 (by omega)).trans h.lo, ?_, h.bl.trans ((o.below (by omega)).mono (by omega))⟩
  rw [(zc_yes hy).1, (zc_yes hy).2]
  exact heap_put2 h.hi
end
/-- The end: both are stored once more, the block of deferred calls is shut. -/
theorem NB.finish {w W : World} {x0 x1 a0 a1 b0 b1 : Value} {A B : Int × Int} (h : NB w x0 x1 A B W) {D : Nat} (hD : w.heap.size + 1 + 1 < D) (hK : W.heap[D]? = some (.deferred (some []))) {V : World}
    (hV : ((((W.setCell ⟨w.heap.size + 1, 0, none⟩ a0).setCell ⟨w.heap.size + 1, 1, none⟩ a1).setCell ⟨w.heap.size + 1 + 1, 0, none⟩ b0).setCell ⟨w.heap.size + 1 + 1, 1, none⟩ b1).drew = V) :
    V.heap[D]? = some (.deferred (some [])) ∧ (V.putObj D (.deferred none)).heap[w.heap.size + 1]? = some (.cells #[a0, a1] 24 (0, 0)) ∧ (V.putObj D (.deferred none)).heap[w.heap.size + 1 + 1]? = some (.cells #[b0, b1] 24 (0, 0)) ∧ Below w.heap.size w (V.putObj D (.deferred none)) := by
  obtain ⟨U, hU⟩ : ∃ U, (W.setCell ⟨w.heap.size + 1, 0, none⟩ a0).setCell ⟨w.heap.size + 1, 1, none⟩ a1 = U := ⟨_, rfl⟩
  rw [hU] at hV
  obtain ⟨V0, hV0⟩ : ∃ V0, (U.setCell ⟨w.heap.size + 1 + 1, 0, none⟩ b0).setCell ⟨w.heap.size + 1 + 1, 1, none⟩ b1 = V0 := ⟨_, rfl⟩
  rw [hV0] at hV
  have hh : V.heap = V0.heap := by rw [← hV]; rfl
  have u1 : U.heap[w.heap.size + 1]? = some (.cells #[a0, a1] 24 (0, 0)) := hU ▸ heap_put2 h.lo
  have u2 : U.heap[w.heap.size + 1 + 1]? = some (.cells #[zc0 B, zc1 B] 24 (0, 0)) := hU ▸ (heap_far2 (by omega)).trans h.hi
  have u3 : U.heap[D]? = some (.deferred (some [])) := hU ▸ (heap_far2 (by omega)).trans hK
  have u4 : Below w.heap.size w U := hU ▸ (h.bl.setCell (by simp <;> omega) _).setCell (by simp <;> omega) _
  have v1 : V.heap[w.heap.size + 1]? = some (.cells #[a0, a1] 24 (0, 0)) := by rw [hh, ← hV0]; exact (heap_far2 (by omega)).trans u1
  have v2 : V.heap[w.heap.size + 1 + 1]? = some (.cells #[b0, b1] 24 (0, 0)) := by rw [hh, ← hV0]; exact heap_put2 u2
  have v3 : V.heap[D]? = some (.deferred (some [])) := by rw [hh, ← hV0]; exact (heap_far2 (by omega)).trans u3
  have v4 : Below w.heap.size w V := by rw [← hV, ← hV0]; exact ((u4.setCell (by simp <;> omega) _).setCell (by simp <;> omega) _).drew
  exact ⟨v3, (World.putObj_heap_other (by omega)).trans v1, (World.putObj_heap_other (by omega)).trans v2, v4.trans ⟨rfl, rfl, rfl, by simp, fun i hi => World.putObj_heap_other (by omega)⟩⟩
theorem ab_snoc (n d : Int) (ys : List (Int × Int)) (k : Nat) (y : Int × Int) (h : ys[k]? = some y) : ab n d (ys.take (k + 1)) = abStep n d (ab n d (ys.take k)) y := by
  rw [List.take_add_one, h]
  unfold ab
  rw [List.foldl_append]; rfl
theorem enters_last : ∀ args w, (callFunc 78 args).run Tryz.prog w = .ok (.enter 78 args) w := enters_of Tryz.func78 (by kernel_rfl) rfl
theorem last_ok (a l : Int) (_ : 1 ≤ a) (_ : nz a ≤ 100) (h1 : 0 ≤ l) (h2 : nz l ≤ 100) : 0 ≤ lastF a l ∧ nz (lastF a l) ≤ 100 := ⟨h1, h2⟩
theorem around_cmp {n d b : Int} {y : Int × Int} (hd : 0 < d) (hy : Good b y) : cmpQ (tr y) (Rat.divInt n d) < 0 ↔ y.1 * d < n * y.2 := by
  rw [cmpQ_neg_iff]
  exact divInt_lt y.1 y.2 n d (show 0 < y.2 from hy.1) hd

set_option maxRecDepth 100000 in
set_option maxHeartbeats 4000000 in
/-- convergent.around. -/
theorem around_any (n d : Int) (b : Int) (w : World) (hamb : Amb w) (hd : 0 < d) (hg : Int.gcd n d = 1) (hnn : nz n ≤ 14) (hnd : nz d ≤ 14) (hb0 : 1 ≤ b) (hb1 : b ≤ 900) (hbd : b < d) :
    Calls Tryz.prog 41 #[.agg #[.string (itx n), .string (itx d)], .int .i64 b] w (SmallRes (.tuple #[rv (tr (ab n d (semiL lastF b (tms n d))).1), rv (tr (ab n d (semiL lastF b (tms n d))).2)]) w) := by
  have hlen := tms_short14 (n := n) hnd
  have HT := Lib.hid (fun w h => terms_any n d w h hd (by omega) (by omega))
  have HTN := Lib.hid (tms_nz (k := 13) hnn hnd)
  have HTP := Lib.hid (tms_tail (n := n) hd)
  have HXQ := Lib.hid (rat_of_right hd hg)
  have HY := Lib.hid (show (∀ y ∈ semiL lastF b (tms n d), Good b y) ∧ (∀ y ∈ semiL lastF b (tms n d), dl n d y.1 y.2 ≤ d) from by
    have h2 := semiL_num (bound := b) hd lastF (n := n)
    have := tms_tail (n := n) hd
    rw [tms_step hd] at this h2 ⊢
    exact ⟨semiL_good hb0 lastF _ _ this, h2⟩)
  have HAR := Lib.hid (around_same hd hg hbd hb0)
  have HND := Lib.hid (And.intro hnn (And.intro hnd hd))
  obtain ⟨T, hT⟩ : ∃ T, tms n d = T := ⟨_, rfl⟩
  rw [hT] at hlen HT HTN HTP HY HAR ⊢
  obtain ⟨ys, hys⟩ : ∃ ys, semiL lastF b T = ys := ⟨_, rfl⟩
  have HYS := Lib.hid hys
  rw [hys] at HY HAR ⊢
  have HAMB := Lib.hid hamb
  clear hT hamb hd hnn hnd hys hg hbd
  refine (callsIn_wide (n := 0)).1 ?_
  refine callsIn_of_wp_marks Tryz.func41 rfl trivial ?_ rfl
  simp only [Tryz.ntmps41, List.size_toArray, List.length_cons, List.length_nil, Nat.reduceAdd, Nat.reduceSub, Array.replicate_succ, Array.replicate_zero, List.push_toArray, List.append_toArray, List.nil_append, List.cons_append]
  gi_wp2_with fail
  obtain ⟨W, hW⟩ : ∃ W, (((w.alloc (.cells #[.string (itx n), .string (itx d)] 24)).alloc (.cells #[.string ⟨#[]⟩, .string ⟨#[]⟩] 24)).alloc (.cells #[.string ⟨#[]⟩, .string ⟨#[]⟩] 24)) = W := ⟨_, rfl⟩
  rw [hW]
  have HS0 := Lib.hid (show NB w (.string (itx n)) (.string (itx d)) (0, 0) (0, 0) W from hW ▸ NB.new w _ _)
  have HA := Lib.hid (fun wz (hb : Below w.heap.size w wz) => HAMB.out.below hb)
  clear hW
  refine ⟨trivial, rfl, (callsIn_wide.2 (HT.out W (HA.out _ HS0.out.bl))).mono ?_⟩
  rintro e w3 ⟨vT, rfl, hown, hb3⟩
  have HS3 := Lib.hid (HS0.out.later hb3)
  obtain ⟨A, cap, rfl, hjs⟩ := hown.ss
  have HJS := Lib.hid hjs
  clear hb3 hown hjs HS0
  gi_wp2_with fail
  refine ⟨trivial, rfl, (callsIn_wide.2 (semi_any A T.length cap b 78 w3)).mono ?_⟩
  rintro e w4 ⟨rfl, k0, k1, k2, hb4⟩
  have HS4 := Lib.hid (HS3.out.later hb4)
  have HJ4 := Lib.hid (HJS.out.below hb4 (Nat.le_refl _))
  have HCAP := Lib.hid (show Cap w3.heap.size A T.length cap b 78 T w4 from ⟨k0, k1, k2, HJ4.out⟩)
  clear hb4 k0 k1 k2 HS3 HJS HJ4
  gi_wp2_with fail
  refine range_rat (y := 7) rfl enters_semi1 (semi1_seq w3.heap.size A T.length cap b 78 T lastF (w.heap.size + 1) w4 (by have := HS4.out.lt; omega) enters_last
    (fun k a l w _ _ _ => fromLast_any k a l w) last_ok
    (fun W' hb => HA.out _ (HS4.out.bl.trans (hb.mono (by omega)))) HCAP.out hb0 (by omega) hlen (fun a ha => Nat.le_trans (HTN.out a ha) (by omega)) HTP.out)
    (fun k W => NB w (.string (itx n)) (.string (itx d)) (ab n d (ys.take k)).1 (ab n d (ys.take k)).2 W) ?hI ?h0 (fun k W o h => h.later ((Below.refl _ _).alloc (Nat.le_refl _) _)) ?hassign ?hbody ?hdone
  case hI =>
    intro k X Y h ho
    exact h.onlyN HS4.out.lt ho
  case h0 => exact HS4.out
  case hassign =>
    intro l x W K hK
    simp only [List.setIfInBounds_toArray, List.set_cons_succ, List.set_cons_zero] at hK ⊢
    gi_wp2_with fail
    exact hK
  case hbody =>
    intro l k x Bx W hx hi hBx hbx hsz
    simp only [List.setIfInBounds_toArray, List.set_cons_succ, List.set_cons_zero]
    rw [List.getElem?_map, Option.map_eq_some_iff] at hx
    obtain ⟨y, hy, hyx⟩ := hx
    rw [HYS.out] at hy
    have hyx' : tr y = x := hyx
    have hym : y ∈ ys := List.mem_of_getElem? hy
    have HSN := Lib.hid (ab_snoc n d ys k y hy)
    have HYF := Lib.hid (And.intro (HY.out.1 y hym) (HY.out.2 y hym))
    have HNF := Lib.hid (near_facts HND.out.2.2 HND.out.1 HND.out.2.1 hb1 HYF.out.1 HYF.out.2)
    have HCM := Lib.hid (around_cmp (n := n) HND.out.2.2 HYF.out.1)
    have HY2 := Lib.hid (show y.2 ≠ 0 by have := HYF.out.1.1; omega)
    obtain ⟨st, hst⟩ : ∃ st, ab n d (ys.take k) = st := ⟨_, rfl⟩
    rw [hst] at hi HSN
    have HSB := Lib.hid hi
    obtain ⟨x0, x1⟩ := hbx.cells
    obtain ⟨_, s0, s1, _, _⟩ := b1_heap hi.x
    have HXB := Lib.hid hbx
    have HC := Lib.hid (fun W' h => show Calls Tryz.prog 37 #[.agg #[.string (itx x.num), .string (itx (x.den : Int))], .agg #[.string (itx n), .string (itx d)]] W' (SmallRes (.int .i64 (cmpQ x (Rat.divInt n d))) W') from by
      have h3 := HNF.out.2.2.1
      rw [hyx'] at h3
      have := fcompare_any x (Rat.divInt n d) W' h (h3.mono (by omega)) (HNF.out.2.2.2.1.mono (by omega))
      unfold rv at this
      rw [HXQ.out.1, HXQ.out.2] at this
      exact this)
    have HHY := Lib.hid hyx'
    rw [hyx'] at HCM
    obtain ⟨C, hC⟩ : ∃ C, cmpQ x (Rat.divInt n d) = C := ⟨_, rfl⟩
    rw [hC] at HC HCM
    clear hy hyx hyx' hym hi hbx hst hC
    gi_wp2_with fail
    refine ⟨trivial, rfl, (CallsIn.inRound l (callsIn_wide.2 (HC.out W (HA.out _ HSB.out.bl)))).mono ?_⟩
    rintro e w7 ⟨rfl, hb7⟩
    have HS7 := Lib.hid (HSB.out.later hb7)
    have hbx7 : BxR w7 Bx x := (hb7.block _ (Array.getElem?_eq_some_iff.1 (show W.heap[Bx]? = _ from HXB.out)).1).trans HXB.out
    obtain ⟨y0, y1⟩ := hbx7.cells
    obtain ⟨_, l0, l1, lf0, lf1⟩ := b1_heap HS7.out.lo
    obtain ⟨_, h0, h1, hf0, hf1⟩ := b1_heap HS7.out.hi
    have HON := Lib.hid (show OnlyT (w.heap.size + 1) isRat W w7 from OnlyT.new hb7)
    clear x0 x1 s0 s1 hb7 hbx7 HC
    by_cases hC0 : C < 0
    · have HP := Lib.hid (HS7.out.put_lo y HY2.out)
      rw [HHY.out] at HP
      have HE := Lib.hid (show ab n d (ys.take (k + 1)) = (y, st.2) by rw [HSN.out]; unfold abStep; rw [if_pos (HCM.out.1 hC0)])
      clear h0 h1 hf0 hf1
      gi_wp2_with fail
      rw [HE.out]
      exact ⟨HON.out.trans HP.out.1, HP.out.2⟩
    · have HP := Lib.hid (HS7.out.put_hi y HY2.out)
      rw [HHY.out] at HP
      have HE := Lib.hid (show ab n d (ys.take (k + 1)) = (st.1, y) by rw [HSN.out]; unfold abStep; rw [if_neg (fun h => hC0 (HCM.out.2 h))])
      clear l0 l1 lf0 lf1
      gi_wp2_with fail
      rw [HE.out]
      exact ⟨HON.out.trans HP.out.1, HP.out.2⟩
  case hdone =>
    intro D W hD hi hK
    rw [List.length_map, HYS.out, List.take_of_length_le (Nat.le_refl _)] at hi
    have HAD := HAR.out
    obtain ⟨⟨A1, B1'⟩, hst⟩ : ∃ st, ab n d ys = st := ⟨_, rfl⟩
    have HST := Lib.hid hst
    rw [hst] at hi HAD
    dsimp only at hi HAD
    have HSB := Lib.hid hi
    have HAQ := Lib.hid (zc_yes (y := A1) (by have := HAD.a1; omega))
    have HBQ := Lib.hid (zc_yes (y := B1') (by have := HAD.b1; omega))
    clear hst HAD
    have hlo := hi.lo
    have hhi := hi.hi
    rw [HAQ.out.1, HAQ.out.2] at hlo
    rw [HBQ.out.1, HBQ.out.2] at hhi
    obtain ⟨q1, hq1⟩ : ∃ q, tr A1 = q := ⟨_, rfl⟩
    obtain ⟨q2, hq2⟩ : ∃ q, tr B1' = q := ⟨_, rfl⟩
    rw [hq1] at hlo
    rw [hq2] at hhi
    have HQ := Lib.hid (And.intro hq1 hq2)
    have hne : ((itx q2.num).toList == []) = false := by
      rw [beq_eq_false_iff_ne, Lib.toList_data]
      intro e
      have := itx_size_pos q2.num
      rw [← str_size, e] at this
      exact absurd this (by decide)
    obtain ⟨_, l0, l1, lf0, lf1⟩ := b1_heap hlo
    obtain ⟨_, h0, h1, hf0, hf1⟩ := b1_heap hhi
    have HL := Lib.hid hlo
    have HH := Lib.hid hhi
    clear hi hq1 hq2 hlo hhi
    gi_wp2_with fail
    refine wpIn_wide.2 ?_
    go_region_with fail
    all_goals
      obtain ⟨V, hV⟩ : ∃ V, ((((W.setCell ⟨w.heap.size + 1, 0, none⟩ (.string (itx q1.num))).setCell ⟨w.heap.size + 1, 1, none⟩ (.string (itx (q1.den : Int)))).setCell ⟨w.heap.size + 1 + 1, 0, none⟩ (.string (itx q2.num))).setCell ⟨w.heap.size + 1 + 1, 1, none⟩ (.string (itx (q2.den : Int)))).drew = V := ⟨_, rfl⟩
      try rw [hV]
      obtain ⟨v1, v2, v3, v4⟩ := HSB.out.finish (by have := HS4.out.lt; omega) hK hV
      gi_wp2_with fail
      try rw [hV]
      refine retM_cell2 rfl rfl v1 rfl rfl (load_rat (b1_heap v2)) (load_rat (b1_heap v3)) ?_
      rw [HST.out]
      dsimp only
      rw [HQ.out.1, HQ.out.2]
      exact ⟨rfl, v4⟩
end Go.Proofs.YtpafocfpofnkpaaGreatDoor
