/- Greater text, out of: K46. -/
import Derived.Test.YtfokdhpccajmbaaGreatDoorK45
import Derived.Test.YtfokdhpccajmbaaGreatDoorK44
namespace Go.Proofs.YtfokdhpccajmbaaGreatDoor
open Go.RowKit Go.PlainAid
attribute [local go_sem] field_rat0 field_rat1
set_option maxHeartbeats 1000000 in
/-- Convergents, of what is not right. -/
theorem Convergents_no (n d : ByteArray) (w : World) (hamb : Amb w) (hn : n.size ≤ 1000000000) (hd : d.size ≤ 1000000000) (hr : RB n d = false) :
    Calls Tryz.prog 20 #[.agg #[.string n, .string d]] w (SmallRes (.tuple #[.slice none 0 0, .int .i64 2]) w) := by
  have HT := Lib.hid (fun w h => Terms_no n d w h hn hd hr)
  have HAMB := Lib.hid hamb
  clear hamb hr hn hd
  go_enter Tryz.func20, Tryz.ntmps20
  go_wp2_with fail
  obtain ⟨W, hW⟩ : ∃ W, (w.alloc (.cells #[.string n, .string d] 24)) = W := ⟨_, rfl⟩
  rw [hW]
  obtain ⟨_, hBW⟩ := B1.of hW
  clear hW
  refine (HT.out W (HAMB.out.below hBW)).mono ?_
  rintro e w1 ⟨rfl, hb1⟩
  have hB1 := bel_chain hBW hb1
  clear hBW hb1
  go_wp2_with fail
  go_ret2
  exact ⟨rfl, hB1⟩
theorem OwnR.far {B : Nat} {w : World} {v : Value} {xs : List Rat} (h : OwnR B w v xs) {p : Addr} (hp : p.block < B) (u : Value) : OwnR B (w.setCell p u) v xs := by
  rcases h with h | ⟨g, cap, e, hg, hc⟩
  · exact .inl h
  · exact .inr ⟨g, cap, e, hg, hc.far (by omega) u⟩
theorem OwnI.at_ {B : Nat} {w : World} {v : Value} {xs : List Int} (h : OwnI B w v xs) (hne : xs ≠ []) : ∃ g cap, v = .slice (some ⟨g, 0, none⟩) xs.length cap ∧ B ≤ g ∧ Jc w g xs.length cap xs := by
  rcases h with ⟨_, h⟩ | h
  · exact absurd h hne
  · exact h
theorem bd4_sz {c : P4} (h : Bd4 c) : c.Sz 20 := by
  obtain ⟨h1, h2, h3, h4, h5, h6⟩ := h
  exact ⟨Nat.le_trans ((nz_le_iff _ 15).2 (by omega)) (by omega), Nat.le_trans ((nz_le_iff _ 15).2 (by omega)) (by omega), Nat.le_trans ((nz_le_iff _ 15).2 (by omega)) (by omega), Nat.le_trans ((nz_le_iff _ 15).2 (by omega)) (by omega)⟩
set_option maxRecDepth 100000 in
set_option maxHeartbeats 4000000 in
/-- Convergents, of a right fraction. -/
theorem Convergents_any (n d : Int) (w : World) (hamb : Amb w) (hd : 0 < d) (hg : Int.gcd n d = 1) (hnn : nz n ≤ 14) (hnd : nz d ≤ 14) (hr : RB (itx n) (itx d) = true) :
    Calls Tryz.prog 20 #[.agg #[.string (itx n), .string (itx d)]] w (RRes ((cvs beg (tms n d)).map tr) 0 w) := by
  have HT := Lib.hid (fun w h => Terms_any n d w h hd (by omega) (by omega) hr)
  have hlen := tms_short14 (n := n) hnd
  have HNZ := Lib.hid (tms_nz (k := 13) hnn hnd)
  have HBD := Lib.hid (bd4_tms (n := n) (d := d) hd hg (by have := (nz_le_iff n 13).1 hnn; omega) (by have := (nz_le_iff d 13).1 hnd; omega))
  have hne : tms n d ≠ [] := by rw [tms_step hd]; exact List.cons_ne_nil _ _
  obtain ⟨T, hT⟩ : ∃ T, tms n d = T := ⟨_, rfl⟩
  rw [hT] at HT hlen HNZ HBD hne ⊢
  obtain ⟨m, hm⟩ : ∃ m, T.length = m := ⟨_, rfl⟩
  have HNE := Lib.hid hne
  have HML := Lib.hid hm
  obtain ⟨CS, hCS⟩ : ∃ CS, cvs beg T = CS := ⟨_, rfl⟩
  have HCG := Lib.hid (show ∀ i, i < T.length → CS[i]? = some ((runC beg (T.take (i + 1))).p, (runC beg (T.take (i + 1))).q) from fun i hi => hCS ▸ cvs_get T beg i hi)
  have HCL := Lib.hid (show CS.length = m from by rw [← hCS, cvs_len, hm])
  rw [hCS]
  rw [hm] at hlen
  have HAMB := Lib.hid hamb
  clear hamb hr hd hnn hnd hT hne hm hCS hg
  go_enter Tryz.func20, Tryz.ntmps20
  go_wp2_with fail
  obtain ⟨W, hW⟩ : ∃ W, (w.alloc (.cells #[.string (itx n), .string (itx d)] 24)) = W := ⟨_, rfl⟩
  rw [hW]
  obtain ⟨_, hBW⟩ := B1.of hW
  clear hW
  refine (HT.out W (HAMB.out.below hBW)).mono ?_
  rintro e w1 ⟨vT, rfl, hown, hb1⟩
  have HB1 := Lib.hid (bel_chain hBW hb1)
  obtain ⟨g, cap, rfl, _, hj⟩ := hown.at_ HNE.out
  rw [HML.out] at hj
  have HJ1 := Lib.hid hj
  have hml := HML.out
  clear hown hBW hb1 hj
  rw [hml]
  clear hml
  go_wp2_with fail
  refine (begin_any w1).mono ?_
  rintro e w2 ⟨rfl, hb2⟩
  go_wp2_with fail
  obtain ⟨w3, hw3⟩ : ∃ W, w2.alloc (.cells #[.string (itx beg.p), .string (itx beg.q), .string (itx beg.b), .string (itx beg.u)] 71) = W := ⟨_, rfl⟩
  rw [hw3]
  have hx3 : Box4 w3 w2.heap.size (.string (itx beg.p)) (.string (itx beg.q)) (.string (itx beg.b)) (.string (itx beg.u)) := hw3 ▸ Box4.new w2 _ _ _ _
  have hb3 : Below w2.heap.size w2 w3 := hw3 ▸ (Below.refl _ _).alloc (Nat.le_refl _) _
  have hs3 : w3.heap.size = w2.heap.size + 1 := hw3 ▸ World.size_alloc _ _
  have HX3 := Lib.hid hx3
  have HB2 := Lib.hid (bel_chain HB1.out hb2)
  have HJ2 := Lib.hid (HJ1.out.below hb2 HJ1.out.lt)
  have HB3 := Lib.hid hb3
  have HS3 := Lib.hid hs3
  clear hw3 hx3 hb3 hb2 hs3
  go_loopw [6, 21] (fun vo vi wr => ∃ i : Nat, i ≤ m ∧ vi = .int .i64 (i : Int) ∧ OwnR (w2.heap.size + 1) wr vo ((CS.take i).map tr) ∧ Box4 wr w2.heap.size (.string (itx (runC beg (T.take i)).p)) (.string (itx (runC beg (T.take i)).q)) (.string (itx (runC beg (T.take i)).b)) (.string (itx (runC beg (T.take i)).u)) ∧ Below w2.heap.size w2 wr ∧ w2.heap.size + 1 ≤ wr.heap.size) (fun _ vi _ => m - (intOf vi).toNat)
  case atStart => exact ⟨0, Nat.zero_le _, by first | rfl | (simp; done), OwnR.nil _ _, HX3.out, HB3.out, by rw [HS3.out]; exact Nat.le_refl _⟩
  case round =>
    obtain ⟨i, hi, rfl, hown, hx, hB, hs⟩ := hrel
    obtain ⟨xs, hxs⟩ : ∃ xs, (CS.take i).map tr = xs := ⟨_, rfl⟩
    rw [hxs] at hown
    have HXS := Lib.hid hxs
    have hxl : xs.length ≤ 1000000000 := by rw [← hxs, List.length_map, List.length_take]; omega
    clear hxs
    have HO := Lib.hid hown
    have HXR := Lib.hid hx
    have HBR := Lib.hid hB
    have HSR := Lib.hid hs
    have HAR := Lib.hid (HAMB.out.below (HB2.out.trans (hB.mono HB2.out.size)))
    obtain ⟨A1, c1, rfl, _⟩ := hown.ss
    clear hown hB hs
    by_cases hie : i = m
    · subst hie
      have hlt : ¬ (i : Int) < (i : Int) := by omega
      have HTK := Lib.hid (show CS.take i = CS from List.take_of_length_le (by rw [HCL.out]; exact Nat.le_refl _))
      clear hx
      go_wp2_with fail
      go_ret2
      obtain ⟨A2, c2, e2, h2⟩ := HO.out.ins
      cases e2
      have hxe : xs = CS.map tr := by rw [← HXS.out, HTK.out]
      exact ⟨_, _, _, rfl, hxe ▸ h2, HB2.out.trans (HBR.out.mono HB2.out.size)⟩
    · have hlt : (i : Int) < (m : Int) := by omega
      have hcell := (HJ2.out.below HBR.out (by have := HJ2.out.lt; omega)).cell i (by omega)
      have HBI := Lib.hid (HBD.out (i + 1) (by omega) (by rw [HML.out]; omega))
      have hsz : (runC beg (T.take i)).Sz 20 := by
        by_cases h0 : i = 0
        · subst h0; exact beg_sz.mono (by omega)
        · exact bd4_sz (HBD.out i (by omega) (by rw [HML.out]; omega))
      have HIA := Lib.hid (show T[i]? = some (T.getD i 0) by rw [List.getD_eq_getElem?_getD, List.getElem?_eq_getElem (by rw [HML.out]; omega)]; rfl)
      have HNA := Lib.hid (HNZ.out _ (List.mem_of_getElem? HIA.out))
      obtain ⟨a, ha⟩ : ∃ a, T.getD i 0 = a := ⟨_, rfl⟩
      rw [ha] at hcell HIA HNA
      have hnx : runC beg (T.take (i + 1)) = (runC beg (T.take i)).nx a := by
        rw [List.take_add_one, HIA.out, runC_append]; rfl
      have HCI := Lib.hid (HCG.out i (by rw [HML.out]; omega))
      obtain ⟨c, hc⟩ : ∃ c, runC beg (T.take i) = c := ⟨_, rfl⟩
      obtain ⟨c', hc'⟩ : ∃ c, runC beg (T.take (i + 1)) = c := ⟨_, rfl⟩
      rw [hc] at hx HXR hsz hnx
      rw [hc'] at HBI hnx HCI
      have HC' := Lib.hid hc'
      have HNX := Lib.hid (fun w h => show Calls Tryz.prog 48 #[.agg #[.string (itx c.p), .string (itx c.q), .string (itx c.b), .string (itx c.u)], .string (itx a)] w (SmallRes (.agg #[.string (itx c'.p), .string (itx c'.q), .string (itx c'.b), .string (itx c'.u)]) w) from by
        have := next_any c a w h (hsz.mono (by omega)) (by have := HNA.out; omega)
        rw [← hnx] at this
        exact this)
      have hsz' := bd4_sz HBI.out
      have HOV := Lib.hid (fun w h => over_any c'.p c'.q w h (by have := HBI.out.2.1; omega) (by have := hsz'.p; omega) (by have := hsz'.q; omega))
      obtain ⟨y, hy⟩ : ∃ y, Rat.divInt c'.p c'.q = y := ⟨_, rfl⟩
      rw [hy] at HOV
      have HTK := Lib.hid (show (CS.take (i + 1)).map tr = xs ++ [y] by
        rw [List.take_add_one, HCI.out, List.map_append, HXS.out, ← hy]; rfl)
      obtain ⟨x0, x1, x2, x3⟩ := hx.cells
      clear ha hnx hc hc' hsz hsz' hy hx
      go_wp2_with fail
      refine (HNX.out wr HAR.out).mono ?_
      rintro e w4 ⟨rfl, hb4⟩
      have hx4 := HXR.out.later hb4
      have HX4 := Lib.hid hx4
      obtain ⟨f0, f1, f2, f3⟩ := hx4.free
      obtain ⟨z0, z1, z2, z3⟩ := hx4.cells
      clear x0 x1 x2 x3 hx4
      go_wp2_with fail
      obtain ⟨w5, hw5⟩ : ∃ W, (((w4.setCell ⟨w2.heap.size, 0, none⟩ (.string (itx c'.p))).setCell ⟨w2.heap.size, 1, none⟩ (.string (itx c'.q))).setCell ⟨w2.heap.size, 2, none⟩ (.string (itx c'.b))).setCell ⟨w2.heap.size, 3, none⟩ (.string (itx c'.u)) = W := ⟨_, rfl⟩
      rw [hw5]
      have HX5 := Lib.hid (show Box4 w5 w2.heap.size (.string (itx c'.p)) (.string (itx c'.q)) (.string (itx c'.b)) (.string (itx c'.u)) from hw5 ▸ HX4.out.store _ _ _ _)
      have HO5 := Lib.hid (show OwnR (w2.heap.size + 1) w5 (.slice A1 xs.length c1) xs from hw5 ▸ ((((HO.out.below hb4).far (p := ⟨w2.heap.size, 0, none⟩) (Nat.lt_succ_self _) _).far (p := ⟨w2.heap.size, 1, none⟩) (Nat.lt_succ_self _) _).far (p := ⟨w2.heap.size, 2, none⟩) (Nat.lt_succ_self _) _).far (p := ⟨w2.heap.size, 3, none⟩) (Nat.lt_succ_self _) _)
      have HB5 := Lib.hid (show Below w2.heap.size w2 w5 from hw5 ▸ ((((bel_chain HBR.out hb4).setCell (p := ⟨w2.heap.size, 0, none⟩) (Nat.le_refl _) _).setCell (p := ⟨w2.heap.size, 1, none⟩) (Nat.le_refl _) _).setCell (p := ⟨w2.heap.size, 2, none⟩) (Nat.le_refl _) _).setCell (p := ⟨w2.heap.size, 3, none⟩) (Nat.le_refl _) _)
      have HS5 := Lib.hid (show w2.heap.size + 1 ≤ w5.heap.size from HX5.out.lt)
      have HA5 := Lib.hid (HAMB.out.below (HB2.out.trans (HB5.out.mono HB2.out.size)))
      clear hw5 hb4 f0 f1 f2 f3 z0 z1 z2 z3
      refine (HOV.out w5 HA5.out).mono ?_
      rintro e w6 ⟨rfl, hb6⟩
      have hown6 := HO5.out.below hb6
      have HX6 := Lib.hid (HX5.out.later hb6)
      have HB6 := Lib.hid (bel_chain HB5.out hb6)
      have hs6 : w2.heap.size + 1 ≤ w6.heap.size := Nat.le_trans HS5.out hb6.size
      have HS6 := Lib.hid hs6
      clear hb6 hcell
      go_wp2_with (at_builtin; refine append_OwnR rfl _ _ 37 rfl Tryz.underlying37 (w2.heap.size + 1) _ _ w6 rfl hown6 hs6 hxl y rfl rfl ?_; intro v4 w7 hown4 hb4; have HO7 := Lib.hid hown4; have HB7 := Lib.hid hb4; clear hown4 hb4)
      go_roundw
      case rel =>
        refine ⟨i + 1, by omega, by go_num, by rw [HTK.out]; exact HO7.out, ?_, HB6.out.trans (HB7.out.mono (Nat.le_succ _)), Nat.le_trans HS6.out HB7.out.size⟩
        rw [HC'.out]
        exact HX6.out.below HB7.out (Nat.lt_succ_self _)
      case measure => simp [intOf]; omega
end Go.Proofs.YtfokdhpccajmbaaGreatDoor
