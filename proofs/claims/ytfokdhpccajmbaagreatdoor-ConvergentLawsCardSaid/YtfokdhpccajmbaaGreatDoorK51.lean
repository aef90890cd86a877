/- Greater text, out of: K51. -/
import Derived.Test.YtfokdhpccajmbaaGreatDoorK46
import Derived.Test.YtfokdhpccajmbaaGreatDoorK41
namespace Go.Proofs.YtfokdhpccajmbaaGreatDoor
open Go.RowKit Go.PlainAid
attribute [local go_sem] field_rat0 field_rat1
set_option maxRecDepth 100000 in
set_option maxHeartbeats 4000000 in
/-- convergent.Value. -/
theorem Value_any (n d : Int) (A : Option Addr) (m cap : Nat) (w : World) (hamb : Amb w) (hin : InJ w A (m + 1) cap (tms n d)) (hd : 0 < d) (hg : Int.gcd n d = 1) (hnn : nz n ≤ 14) (hnd : nz d ≤ 14) :
    Calls Tryz.prog 31 #[.slice A (m + 1 : Nat) cap] w (SmallRes (.tuple #[.agg #[.string (itx n), .string (itx d)], .int .i64 0]) w) := by
  have hlen := tms_short14 (n := n) hnd
  have HNZ := Lib.hid (tms_nz (k := 13) hnn hnd)
  have HTP := Lib.hid (tms_tail (n := n) hd)
  have HBD := Lib.hid (bd4_tms (n := n) (d := d) hd hg (by have := (nz_le_iff n 13).1 hnn; omega) (by have := (nz_le_iff d 13).1 hnd; omega))
  have hml : (tms n d).length = m + 1 := hin.1
  have HEND := Lib.hid (show (runC beg (tms n d)).p = n ∧ (runC beg (tms n d)).q = d from by
    obtain ⟨e1, e2⟩ := cv_right hd hg
    obtain ⟨k1, k2⟩ := runC_beg (tms n d)
    rw [k1, k2]; exact ⟨e1, e2⟩)
  have hxq := rat_of_right hd hg
  have HOV := Lib.hid (fun w h => show Calls Tryz.prog 41 #[.string (itx n), .string (itx d)] w (SmallRes (.agg #[.string (itx n), .string (itx d)]) w) from by
    have := over_any n d w h (by omega) (by omega) (by omega)
    unfold rv at this
    rw [hxq.1, hxq.2] at this
    exact this)
  have HWR := Lib.hid (fun w h => wrong_any (itx n) (itx d) w h (by have := itx_size_le n; omega) (by have := itx_size_le d; omega) true (RB_right hd hg (by omega) (by omega)))
  obtain ⟨T, hT⟩ : ∃ T, tms n d = T := ⟨_, rfl⟩
  rw [hT] at hlen HNZ HTP HBD hml HEND hin
  have HML := Lib.hid hml
  have hcap := hin.2.2.1
  have hle := hin.2.1
  obtain ⟨b, off, rfl, hbl, hc⟩ := hin.2.2.2 (by omega)
  have HC := Lib.hid hc
  have HBL := Lib.hid hbl
  have hm1 : ((m + 1 : Nat) : Int) ≤ 100 := by omega
  have hm2 : (m : Int) + 1 ≤ 100 := by omega
  have HAMB := Lib.hid hamb
  have HTI := Lib.hid (fun i (hi : i < m + 1) => show T[i]? = some (T.getD i 0) by rw [List.getD_eq_getElem?_getD, List.getElem?_eq_getElem (by omega)]; rfl)
  have HPOS := Lib.hid (fun i (hi : i < m + 1) (h0 : 0 < i) => show 1 ≤ T.getD i 0 by
    obtain ⟨k, rfl⟩ : ∃ k, i = k + 1 := ⟨i - 1, by omega⟩
    have := HTI.out _ hi
    refine HTP.out _ ?_
    cases hTT : T with
    | nil => rw [hTT] at hml; cases hml
    | cons a l =>
      rw [hTT] at this
      rw [List.getElem?_cons_succ] at this
      exact List.mem_of_getElem? (i := k) this)
  have hne : ¬ (m : Int) + 1 = 0 := by omega
  have hnb : (((m : Int) + 1) == 0) = false := by rw [beq_eq_false_iff_ne]; omega
  have hng : ¬ (1000 : Int) < (m : Int) + 1 := by omega
  have hcan : ∀ a : Int, nz a ≤ 14 → ∀ w, Calls Tryz.prog 62 #[.string (itx a)] w (SmallRes (.int .i64 0) w) := fun a ha w => by
    have := wcheck_canon (itx a) w (by have := itx_size_le a; omega)
    rw [if_pos (canonR_itoa a (by omega))] at this
    exact this
  have HCAN := Lib.hid hcan
  clear hamb hd hg hnn hnd hT hxq hml hlen hin hc hbl hcan hm1 hm2
  go_enter Tryz.func31, Tryz.ntmps31
  go_wp2_with fail
  obtain ⟨W, hW⟩ : ∃ W, (w.alloc (.cells #[.string ⟨#[]⟩, .string ⟨#[]⟩] 24)) = W := ⟨_, rfl⟩
  try rw [hW]
  obtain ⟨hX, hBW⟩ := B1.of hW
  have HB := Lib.hid hBW
  have HXB := Lib.hid (fun wz (hb : Below W.heap.size W wz) => hX.later hb)
  have HWS := Lib.hid hX.1
  have HA := Lib.hid (fun wz (hb : Below W.heap.size W wz) => HAMB.out.below (bel_chain HB.out hb))
  clear hW hX hBW
  go_loopw [22] (fun vi wr => ∃ i : Nat, i ≤ m + 1 ∧ vi = .int .i64 (i : Int) ∧ Below W.heap.size W wr) (fun vi _ => m + 1 - (intOf vi).toNat)
  case atStart => exact ⟨0, Nat.zero_le _, by first | rfl | (simp; done), Below.refl _ _⟩
  case round =>
    obtain ⟨i, hi, rfl, hB⟩ := hrel
    have HBR := Lib.hid hB
    clear hB
    by_cases hie : i = m + 1
    · subst hie
      have hlt : ¬ ((m + 1 : Nat) : Int) < (m : Int) + 1 := by omega
      go_wp2_with fail
      refine (begin_any wr).mono ?_
      rintro e w2 ⟨rfl, hb2⟩
      go_wp2_with fail
      obtain ⟨w3, hw3⟩ : ∃ W, w2.alloc (.cells #[.string (itx beg.p), .string (itx beg.q), .string (itx beg.b), .string (itx beg.u)] 71) = W := ⟨_, rfl⟩
      rw [hw3]
      have hx3 : Box4 w3 w2.heap.size (.string (itx beg.p)) (.string (itx beg.q)) (.string (itx beg.b)) (.string (itx beg.u)) := hw3 ▸ Box4.new w2 _ _ _ _
      have hb3 : Below w2.heap.size w2 w3 := hw3 ▸ (Below.refl _ _).alloc (Nat.le_refl _) _
      have HX3 := Lib.hid hx3
      have HB2 := Lib.hid (bel_chain HBR.out hb2)
      have HB3 := Lib.hid hb3
      have HW2 := Lib.hid (show W.heap.size ≤ w2.heap.size from HB2.out.size)
      clear hw3 hx3 hb3 hb2 hlt hi
      go_loopw [43] (fun vi wr => ∃ i : Nat, i ≤ m + 1 ∧ vi = .int .i64 (i : Int) ∧ Box4 wr w2.heap.size (.string (itx (runC beg (T.take i)).p)) (.string (itx (runC beg (T.take i)).q)) (.string (itx (runC beg (T.take i)).b)) (.string (itx (runC beg (T.take i)).u)) ∧ Below w2.heap.size w2 wr) (fun vi _ => m + 1 - (intOf vi).toNat)
      case atStart => exact ⟨0, Nat.zero_le _, by first | rfl | (simp; done), HX3.out, HB3.out⟩
      case round =>
        obtain ⟨i, hi, rfl, hx, hB⟩ := hrel
        have HXR := Lib.hid hx
        have HBR2 := Lib.hid hB
        have HZR := Lib.hid (HB2.out.trans (hB.mono HB2.out.size))
        clear hB
        by_cases hie : i = m + 1
        · subst hie
          have hlt : ¬ ((m + 1 : Nat) : Int) < (m : Int) + 1 := by omega
          have htk : T.take (m + 1) = T := List.take_of_length_le (by rw [HML.out]; exact Nat.le_refl _)
          rw [htk, HEND.out.1, HEND.out.2] at hx
          obtain ⟨x0, x1, _, _⟩ := hx.cells
          clear hx htk
          go_wp2_with fail
          refine (HOV.out wr (HA.out _ HZR.out)).mono ?_
          rintro e w4 ⟨rfl, hb4⟩
          have hz4 := bel_chain HZR.out hb4
          clear x0 x1
          go_wp2_with fail
          obtain ⟨w5, hw5⟩ : ∃ W, w4.alloc (.cells #[.string (itx n), .string (itx d)] 24) = W := ⟨_, rfl⟩
          rw [hw5]
          obtain ⟨hY, hBY⟩ := B1.of hw5
          have hz5 := bel_chain hz4 hBY
          have HY := Lib.hid (fun wz (hb : Below w5.heap.size w5 wz) => hY.later hb)
          obtain ⟨_, y0, y1, _, _⟩ := hY
          clear hw5 hBY hz4 hb4
          try go_wp2_with fail
          refine (HWR.out w5 (HA.out _ hz5)).mono ?_
          rintro e w6 ⟨rfl, hb6⟩
          have hz6 := bel_chain hz5 hb6
          clear y0 y1
          obtain ⟨_, y0, y1, _, _⟩ := HY.out _ hb6
          obtain ⟨_, x0, x1, f0, f1⟩ := HXB.out _ hz6
          have HL6 := Lib.hid (HXB.out _ hz6)
          clear hz5 hb6
          go_wp2_with fail
          refine ret_cell_tmp rfl rfl (load_rat (g := w.heap.size) (HL6.out.store0 _ _)) rfl ?_
          exact ⟨rfl, ((bel_chain HB.out hz6).setCell (Nat.le_refl _) _).setCell (Nat.le_refl _) _⟩
        · have hlt : (i : Int) < (m : Int) + 1 := by omega
          have hcell := (HZR.out.cell (p := ⟨b, off + i, none⟩) (by have := HBL.out; have := HWS.out; have := HB.out.size; show b < _; omega)).trans ((HB.out.cell (p := ⟨b, off + i, none⟩) HBL.out).trans (HC.out i (by omega)))
          have HBI := Lib.hid (HBD.out (i + 1) (by omega) (by rw [HML.out]; omega))
          have hsz : (runC beg (T.take i)).Sz 20 := by
            by_cases h0 : i = 0
            · subst h0; exact beg_sz.mono (by omega)
            · exact bd4_sz (HBD.out i (by omega) (by rw [HML.out]; omega))
          have HIA := Lib.hid (HTI.out i (by omega))
          have HNA := Lib.hid (HNZ.out _ (List.mem_of_getElem? HIA.out))
          obtain ⟨a, ha⟩ : ∃ a, T.getD i 0 = a := ⟨_, rfl⟩
          rw [ha] at hcell HIA HNA
          have hnx : runC beg (T.take (i + 1)) = (runC beg (T.take i)).nx a := by
            rw [List.take_add_one, HIA.out, runC_append]; rfl
          obtain ⟨c, hc⟩ : ∃ c, runC beg (T.take i) = c := ⟨_, rfl⟩
          obtain ⟨c', hc'⟩ : ∃ c, runC beg (T.take (i + 1)) = c := ⟨_, rfl⟩
          rw [hc] at hx HXR hsz hnx
          rw [hc'] at HBI hnx
          have HC' := Lib.hid hc'
          have HNX := Lib.hid (fun w h => show Calls Tryz.prog 48 #[.agg #[.string (itx c.p), .string (itx c.q), .string (itx c.b), .string (itx c.u)], .string (itx a)] w (SmallRes (.agg #[.string (itx c'.p), .string (itx c'.q), .string (itx c'.b), .string (itx c'.u)]) w) from by
            have := next_any c a w h (hsz.mono (by omega)) (by have := HNA.out; omega)
            rw [← hnx] at this
            exact this)
          obtain ⟨x0, x1, x2, x3⟩ := hx.cells
          clear ha hnx hc hc' hsz hx
          go_wp2_with fail
          refine (HNX.out wr (HA.out _ HZR.out)).mono ?_
          rintro e w4 ⟨rfl, hb4⟩
          have hx4 := HXR.out.later hb4
          have HX4 := Lib.hid hx4
          obtain ⟨f0, f1, f2, f3⟩ := hx4.free
          obtain ⟨z0, z1, z2, z3⟩ := hx4.cells
          clear x0 x1 x2 x3 hx4
          go_wp2_with fail
          obtain ⟨w5, hw5⟩ : ∃ W, (((w4.setCell ⟨w2.heap.size, 0, none⟩ (.string (itx c'.p))).setCell ⟨w2.heap.size, 1, none⟩ (.string (itx c'.q))).setCell ⟨w2.heap.size, 2, none⟩ (.string (itx c'.b))).setCell ⟨w2.heap.size, 3, none⟩ (.string (itx c'.u)) = W := ⟨_, rfl⟩
          try rw [hw5]
          have HX5 := Lib.hid (show Box4 w5 w2.heap.size (.string (itx c'.p)) (.string (itx c'.q)) (.string (itx c'.b)) (.string (itx c'.u)) from hw5 ▸ HX4.out.store _ _ _ _)
          have HB5 := Lib.hid (show Below w2.heap.size w2 w5 from hw5 ▸ ((((bel_chain HBR2.out hb4).setCell (p := ⟨w2.heap.size, 0, none⟩) (Nat.le_refl _) _).setCell (p := ⟨w2.heap.size, 1, none⟩) (Nat.le_refl _) _).setCell (p := ⟨w2.heap.size, 2, none⟩) (Nat.le_refl _) _).setCell (p := ⟨w2.heap.size, 3, none⟩) (Nat.le_refl _) _)
          clear hw5 hb4 f0 f1 f2 f3 z0 z1 z2 z3
          go_roundw
          case rel => exact ⟨i + 1, by omega, by go_num, by rw [HC'.out]; exact HX5.out, HB5.out⟩
          case measure => simp [intOf]; omega
    · have hlt : (i : Int) < (m : Int) + 1 := by omega
      have hcell := (HBR.out.cell (p := ⟨b, off + i, none⟩) (by have := HBL.out; have := HWS.out; have := HB.out.size; show b < _; omega)).trans ((HB.out.cell (p := ⟨b, off + i, none⟩) HBL.out).trans (HC.out i (by omega)))
      have HNA := Lib.hid (HNZ.out _ (List.mem_of_getElem? (HTI.out i (by omega))))
      have HPI := Lib.hid (HPOS.out i (by omega))
      obtain ⟨a, ha⟩ : ∃ a, T.getD i 0 = a := ⟨_, rfl⟩
      rw [ha] at hcell HNA HPI
      clear ha
      by_cases hi0 : i = 0
      · subst hi0
        rw [Nat.add_zero] at hcell
        go_wp2_with fail
        refine (HCAN.out a HNA.out wr).mono ?_
        rintro e w2 ⟨rfl, hb2⟩
        have hz2 := bel_chain HBR.out hb2
        clear hcell hb2
        go_wp2_with fail
        go_roundw
        case rel => exact ⟨1, by omega, by first | rfl | go_num, hz2⟩
        case measure => simp [intOf]
      · have hgt : (0 : Int) < (i : Int) := by omega
        have HSG := Lib.hid (fun w => show Calls Tryz.prog 63 #[.string (itx a)] w (SmallRes (.int .i64 1) w) from by
          have := sign_any a w (by have := HNA.out; omega)
          rw [Int.sign_eq_one_of_pos (by have := HPI.out (by omega); omega)] at this
          exact this)
        go_wp2_with fail
        refine (HCAN.out a HNA.out wr).mono ?_
        rintro e w2 ⟨rfl, hb2⟩
        have hz2 := bel_chain HBR.out hb2
        clear hcell hb2
        go_wp2_with fail
        refine (HSG.out w2).mono ?_
        rintro e w3 ⟨rfl, hb3⟩
        have hz3 := bel_chain hz2 hb3
        clear hz2 hb3
        go_wp2_with fail
        go_roundw
        case rel => exact ⟨i + 1, by omega, by go_num, hz3⟩
        case measure => simp [intOf]; omega
end Go.Proofs.YtfokdhpccajmbaaGreatDoor
