/- Greater text, out of: Q24. -/
import Derived.Test.YtdpcmhdmdompnaaGreatDoorQ6
import Derived.Test.YtdpcmhdmdompnaaGreatDoorT22
import Derived.Test.YtdpcmhdmdompnaaGreatDoorGg
import Derived.Test.YtdpcmhdmdompnaaGreatDoorGv
import Derived.Deep.DeepCutAuto
import Derived.Deep.DrawnRows
namespace Go.Proofs.YtdpcmhdmdompnaaGreatDoor
open Go.RowKit Go.PlainAid
attribute [local go_sem] field_whole0 field_whole1 field_rat0 field_rat1
/-- A store of an integer into its box. -/
theorem run_store_whole {w : World} {g : Nat} {x0 x1 : Value} {s : Bool} {A : Option Addr} {n c : Nat} (h : Box2 w g x0 x1) :
    (Instr.storeAt 43 (.pointer (some ⟨g, 0, none⟩)) (.agg #[.bool s, .slice A n c])).run Tryz.prog w = .ok () ((w.setCell ⟨g, 0, none⟩ (.bool s)).setCell ⟨g, 1, none⟩ (.slice A n c)) := by
  have h1 := (h.set0 (.bool s)).2.2.1
  have h2 := (h.set0 (.bool s)).2.2.2.2
  obtain ⟨_, n0, _, nf0, _⟩ := h
  simp [Instr.storeAt, Instr.sureAddr, storeVar, storeCells, go_sem, n0, nf0, h1, h2]
theorem exec_store_whole {w : World} {g : Nat} {x0 x1 : Value} {s : Bool} {A : Option Addr} {n c : Nat} {i j : Tmp} {a : Act} {o : Oper} (ho : o.op = .store 43 (.tmp i) (.tmp j)) (hi : a.eval (.tmp i) = .pointer (some ⟨g, 0, none⟩)) (hj : a.eval (.tmp j) = .agg #[.bool s, .slice A n c]) (h : Box2 w g x0 x1) :
    (execOp a.eval o).run Tryz.prog w = .ok .skip ((w.setCell ⟨g, 0, none⟩ (.bool s)).setCell ⟨g, 1, none⟩ (.slice A n c)) := by
  have hr := run_store_whole (s := s) (A := A) (n := n) (c := c) h
  unfold execOp
  rw [ho]
  dsimp only
  rw [hi, hj]
  obtain ⟨S, hS⟩ : ∃ S, Instr.storeAt 43 (.pointer (some ⟨g, 0, none⟩)) (.agg #[.bool s, .slice A n c]) = S := ⟨_, rfl⟩
  rw [hS] at hr ⊢
  simp [go_sem, hr]
theorem wp_store_whole {w : World} {g : Nat} {x0 x1 : Value} {s : Bool} {A : Option Addr} {n c : Nat} {i j : Tmp} {a : Act} {o : Oper} {next : Act → World → Prop} {Q : Exit → Act → World → Prop} (ho : o.op = .store 43 (.tmp i) (.tmp j)) (hd : o.dst = none) (hi : a.eval (.tmp i) = .pointer (some ⟨g, 0, none⟩)) (hj : a.eval (.tmp j) = .agg #[.bool s, .slice A n c]) (h : Box2 w g x0 x1)
    (hn : next (a.put none undef) ((w.setCell ⟨g, 0, none⟩ (.bool s)).setCell ⟨g, 1, none⟩ (.slice A n c))) : o.wp Tryz.prog a w next Q := by
  unfold Oper.wp
  rw [exec_store_whole ho hi hj h, Oper.upon_skip, hd]
  exact hn
/-- A slice lies not in this block. -/
def Apart (g : Nat) (A : Option Addr) : Prop := ∀ p, A = some p → p.block ≠ g
theorem W3.apart {w : World} {s : Bool} {A : Option Addr} {n c : Nat} {z : Int} (h : W3 w (.agg #[.bool s, .slice A n c]) z) {g : Nat} (hg : w.heap.size ≤ g) : Apart g A := by
  obtain ⟨A', n', c', e, hns⟩ := h
  cases e
  intro p hp hb
  rcases hns with ⟨rfl, _⟩ | ⟨g', rfl, h⟩
  · cases hp
  · injection hp with hp
    subst hp
    have := h.lt
    have hb' : g' = g := hb
    omega
theorem W3.farA {w : World} {s : Bool} {A : Option Addr} {n c : Nat} {z : Int} (h : W3 w (.agg #[.bool s, .slice A n c]) z) {p : Addr} (ha : Apart p.block A) (u : Value) : W3 (w.setCell p u) (.agg #[.bool s, .slice A n c]) z := by
  obtain ⟨A', n', c', e, hns⟩ := h
  cases e
  refine ⟨A, n, c, rfl, ?_⟩
  rcases hns with h | ⟨g', rfl, h⟩
  · exact .inl h
  · exact .inr ⟨g', rfl, h.far (ha _ rfl) u⟩
theorem part_zat {xs : List Int} {i : Nat} (h : i < xs.length) : (part xs i).set i 0 = part xs i := by
  unfold part
  rw [List.set_append, if_neg (by rw [List.length_take]; omega), List.length_take, Nat.min_eq_left (by omega), Nat.sub_self]
  cases hk : xs.length - i with
  | zero => omega
  | succ k => rfl
theorem part_row {xs : List Int} {i : Nat} {e : Int} (h : i < xs.length) : ((part xs i).set i e).getD i 0 = e := by
  have hl : i < (part xs i).length := by simp [part]; omega
  rw [List.getD_eq_getElem?_getD, List.getElem?_set_self hl]
  rfl
/-- An integer's block, apart from the row's. -/
def HWA (gx : Nat) (g : Nat) (x : Int) (w : World) : Prop := NoInt w g ∧ ∃ s A n c, Box2 w g (.bool s) (.slice A n c) ∧ W3 w (.agg #[.bool s, .slice A n c]) x ∧ Apart gx A
set_option maxRecDepth 100000 in
set_option maxHeartbeats 16000000 in
/-- schismalaw11.factor. -/
theorem lfactor_any (A : Option Addr) (n cap : Nat) (ps : List Int) (v : Value) (N : Nat) (w : World) (hamb : Amb w) (h : InZ w A n cap ps) (hn6 : n ≤ 6) (hps : ∀ i, i < ps.length → 2 ≤ ps.getD i 0 ∧ ps.getD i 0 ≤ 97) (hv : W3 w v (N : Int)) (h0 : 0 < N) (hN : nz (N : Int) ≤ 400) :
    Calls Tryz.prog 10 #[.slice A n cap, v] w (fun e w' => ∃ g c, e = .returned (.tuple #[.slice (some ⟨g, 0, none⟩) n c, .bool (decide ((stp ps N).2 = 1))]) ∧ Zc w' g n c ((stp ps N).1.map fun (k : Nat) => (k : Int)) ∧ w.heap.size ≤ g ∧ Below w.heap.size w w') := by
  obtain ⟨s0, A0, n0, c0, rfl, hq1, hq2, hq3, hq4⟩ := hv.parts
  clear hq1 hq2 hq3 hq4
  have HV := Lib.hid hv
  have HL := Lib.hid h.1
  have hle := h.2.1
  have hcap := h.2.2.1
  have HIN := Lib.hid (fun wz (hb : Below w.heap.size w wz) => h.below hb)
  have HAMB := Lib.hid hamb
  have HPS := Lib.hid hps
  have HN4 := Lib.hid hN
  have hmk := make_Zc 32 Tryz.underlying32 n n (Nat.le_refl _) (by omega)
  have HM := Lib.hid (fun wz => Zc.made wz n n (Nat.le_refl _) (by omega))
  obtain ⟨L, hL⟩ : ∃ L, (stp ps N).1.map (fun (k : Nat) => (k : Int)) = L := ⟨_, rfl⟩
  have HDL := Lib.hid (show L.length = n by rw [← hL, List.length_map, stp_len]; exact h.1)
  have HDG := Lib.hid (fun i (hi : i < n) => show L.getD i 0 = ((tk (ps.getD i 0).toNat (lft ps N i)).2 : Int) by
    rw [← hL, ← stp_get ps N i (by rw [h.1]; exact hi), List.getD_eq_getElem?_getD, List.getElem?_map, List.getD_eq_getElem?_getD]
    rw [List.getElem?_eq_getElem (by rw [stp_len, h.1]; exact hi)]
    rfl)
  have HPZ := Lib.hid (fun xs => part_zero xs)
  rw [hL]
  clear h hamb hps hN hL hv
  go_enter Tryz.func10, Tryz.ntmps10
  go_wp2_with fail
  obtain ⟨W, hW⟩ : ∃ W, (w.alloc (.cells #[.bool s0, .slice A0 n0 c0] 43)).alloc (.cells (ZZ n) 3) = W := ⟨_, rfl⟩
  have hb1 : Below w.heap.size w (w.alloc (.cells #[.bool s0, .slice A0 n0 c0] 43)) := (Below.refl _ _).alloc (Nat.le_refl _) _
  have hx1 : HW (w.alloc (.cells #[.bool s0, .slice A0 n0 c0] 43)) w.heap.size (N : Int) := HW.new HV.out rfl rfl
  have hs1 : (w.alloc (.cells #[.bool s0, .slice A0 n0 c0] 43)).heap.size = w.heap.size + 1 := World.size_alloc _ _
  have hz1 := HM.out (w.alloc (.cells #[.bool s0, .slice A0 n0 c0] 43))
  have hb2 : Below (w.alloc (.cells #[.bool s0, .slice A0 n0 c0] 43)).heap.size (w.alloc (.cells #[.bool s0, .slice A0 n0 c0] 43)) W := hW ▸ (Below.refl _ _).alloc (Nat.le_refl _) _
  rw [hW, hs1] at hz1
  try rw [hW]
  have HST := Lib.hid (show HWA (w.heap.size + 1) w.heap.size (N : Int) W from by
    obtain ⟨hn, _⟩ := hx1
    have hbx := HW.later (HW.new HV.out rfl rfl) hb2
    refine ⟨hn.later hb2, s0, A0, n0, c0, ?_, (HV.out.below hb1).below hb2, HV.out.apart (by omega)⟩
    exact (Box2.new w _ _ _).later hb2)
  have HSZ := Lib.hid hz1
  have HSB := Lib.hid (bel_chain hb1 hb2)
  clear hW hb1 hx1 hz1 hb2 hmk hs1
  obtain ⟨gn, hgn⟩ : ∃ g, w.heap.size = g := ⟨_, rfl⟩
  obtain ⟨gx, hgx⟩ : ∃ g, gn + 1 = g := ⟨_, rfl⟩
  have HGNX := Lib.hid (And.intro hgn hgx)
  rw [hgn] at HST HSZ ⊢
  rw [hgx] at HST HSZ ⊢
  clear hgn hgx
  go_loopg [16] n (fun gk vi wr => ∃ i : Nat, i ≤ n ∧ gk = n - i ∧ vi = .int .i64 (i : Int) ∧ Hid (HWA gx gn ((lft ps N i : Nat) : Int) wr) ∧ Hid (Zc wr gx n n (part L i)) ∧ Below w.heap.size w wr)
  case atStart => exact ⟨0, Nat.zero_le _, rfl, rfl, Lib.hid (by rw [lft_zero]; exact HST.out), Lib.hid (by rw [HPZ.out, HDL.out]; exact HSZ.out), HSB.out⟩
  case round =>
    obtain ⟨i, hi, hgk, rfl, HWR, HZ, hB⟩ := hrel
    by_cases hin : i = n
    · have HPA := Lib.hid (show part L i = L by rw [hin, part_all HDL.out])
      have HL1 := Lib.hid (lft_all ps N i (by rw [HL.out]; omega))
      have hlt : ¬ (i : Int) < (n : Int) := by omega
      have HBB := Lib.hid hB
      rw [HL1.out] at HWR
      have HRN := Lib.hid (show nz (((stp ps N).2 : Nat) : Int) ≤ 400 from by
        have := (lft_pos (ps := ps) (N := N) (fun j hj => (HPS.out j hj).1) h0 i (by rw [HL.out]; omega)).2
        rw [HL1.out] at this
        exact nz_le_nat this HN4.out)
      obtain ⟨r, hr⟩ : ∃ r, (stp ps N).2 = r := ⟨_, rfl⟩
      rw [hr] at HWR HRN
      have HRR := Lib.hid hr
      have o1 := one_eq r
      obtain ⟨_, s, An, nn, cn, ⟨_, c1, c2, _, _⟩, hw3, _⟩ := HWR.out
      have HF := Lib.hid (t3from_any _ _ wr (HAMB.out.below hB) hw3 (by have := HRN.out; omega))
      clear hB hr hin hw3 hgk
      go_wp2_with fail
      refine HF.out.mono ?_
      rintro e w5 ⟨rfl, hb5⟩
      go_wp2_with fail
      go_ret2
      exact ⟨gx, _, by rw [HRR.out]; rfl, HPA.out ▸ HZ.out.below hb5 HZ.out.lt, by have := HGNX.out; omega, bel_chain HBB.out hb5⟩
    · have hlt : (i : Int) < (n : Int) := by omega
      obtain ⟨b, off, rfl, hbl, hc⟩ := (HIN.out _ hB).2.2.2 (by omega)
      have hcell := hc i (by omega)
      have hpb := HPS.out i (by rw [HL.out]; omega)
      have HF1 := Lib.hid (lft_pos (ps := ps) (N := N) (fun j hj => (HPS.out j hj).1) h0 i (by rw [HL.out]; omega))
      have HS1 := Lib.hid (lft_succ ps N i (by rw [HL.out]; omega))
      have HG := Lib.hid (HDG.out i (by omega))
      have HSET := Lib.hid (part_set (xs := L) (i := i) (by rw [HDL.out]; omega))
      have HZI := Lib.hid (part_zat (xs := L) (i := i) (by rw [HDL.out]; omega))
      obtain ⟨p0, hp0⟩ : ∃ p0 : Nat, ps.getD i 0 = (p0 : Int) := ⟨(ps.getD i 0).toNat, by omega⟩
      rw [hp0] at hcell HS1 HG hpb
      rw [Int.toNat_natCast] at HS1 HG
      obtain ⟨r, hr⟩ : ∃ r, lft ps N i = r := ⟨_, rfl⟩
      rw [hr] at HF1 HS1 HG HWR
      have HN1 := Lib.hid (nz_le_nat HF1.out.2 HN4.out)
      have HT1 := Lib.hid (tk_bound (p := p0) (by omega) HF1.out.1 HN1.out)
      have HPP := Lib.hid (show (0 : Int) < (p0 : Int) by omega)
      have HNP := Lib.hid (show nz (p0 : Int) ≤ 2 from (nz_le_iff _ 1).2 (by omega))
      have HP2 := Lib.hid (show 2 ≤ p0 by omega)
      have HOF := Lib.hid (fun wz (hz : Amb wz) => t3of_any (p0 : Int) wz hz (by omega) (by omega))
      have HB0 := Lib.hid hB
      have HGK := Lib.hid hgk
      clear hc hp0 hr hB hbl hpb hgk
      go_wp2_with fail
      go_loopg [9] r (fun gk2 v9 wr => v9 = v9 ∧ ∃ m e : Nat, gk2 = m ∧ 0 < m ∧ nz (m : Int) ≤ 400 ∧ tk p0 r = ((tk p0 m).1, (tk p0 m).2 + e) ∧ Hid (HWA gx gn (m : Int) wr) ∧ Hid (Zc wr gx n n ((part L i).set i (e : Int))) ∧ Below w.heap.size w wr)
      case atStart => exact ⟨rfl, r, 0, rfl, HF1.out.1, HN1.out, rfl, HWR, Lib.hid (by rw [show ((0 : Nat) : Int) = 0 from rfl, HZI.out]; exact HZ.out), HB0.out⟩
      case round =>
        obtain ⟨_, m, e, hgk2, hm0, hm4, htk, HWM, HZM, hB2⟩ := hrel
        have HNM := Lib.hid hm4
        have HTK := Lib.hid htk
        have HM0 := Lib.hid hm0
        have HGK2 := Lib.hid hgk2
        have HBM := Lib.hid hB2
        have HAR := Lib.hid (fun wz (hb : Below wr.heap.size wr wz) => HAMB.out.below (bel_chain HBM.out hb))
        have HGX := Lib.hid HZM.out.lt
        obtain ⟨hnm, s, An, nn, cn, hbm, hwm, hapm⟩ := HWM.out
        have HXN := Lib.hid hbm
        have HNI := Lib.hid hnm
        have HWN := Lib.hid (fun wz (hb : Below wr.heap.size wr wz) => hwm.below hb)
        have HSS := Lib.hid (fun wz (hb : Below wr.heap.size wr wz) => show wz.cell? ⟨gn, 0, none⟩ = some (.bool s) ∧ wz.cell? ⟨gn, 1, none⟩ = some (.slice An nn cn) from ⟨(hbm.later hb).2.1, (hbm.later hb).2.2.1⟩)
        clear hgk2 hm0 hm4 htk hB2 hnm hbm hwm hapm hcell HWR HZ
        go_upto_region 5 with fail
        go_cut [9, 10] (fun s9 s10 wx => ∃ g9 g10 sq Aq nq cq sr Ar nr cr, s9 = .pointer (some ⟨g9, 0, none⟩) ∧ s10 = .pointer (some ⟨g10, 0, none⟩) ∧ wr.heap.size ≤ g9 ∧ wr.heap.size ≤ g10 ∧ Box2 wx g9 (.bool sq) (.slice Aq nq cq) ∧ Box2 wx g10 (.bool sr) (.slice Ar nr cr) ∧ W3 wx (.agg #[.bool sq, .slice Aq nq cq]) ((m : Int) / (p0 : Int)) ∧ W3 wx (.agg #[.bool sr, .slice Ar nr cr]) ((m : Int) % (p0 : Int)) ∧ Apart gx Aq ∧ Below wr.heap.size wr wx)
        case first =>
          as_aux_lemma =>
            refine wp_region_held_drew (S := fun w' => w'.cell? ⟨gn, 0, none⟩ = some (.bool s) ∧ w'.cell? ⟨gn, 1, none⟩ = some (.slice An nn cn)) (by kernel_rfl) (HSS.out _ (Below.refl _ _).drew) (fun hS => ?_)
            obtain ⟨v0, hv0⟩ : ∃ x, wr.drew = x := ⟨_, rfl⟩
            have hz0 : Below wr.heap.size wr v0 := hv0 ▸ (Below.refl _ _).drew
            rw [hv0] at hS ⊢
            clear hv0
            refine wpAnyH_take (i := 0) (v := ?_) rfl (by kernel_rfl) (by kernel_rfl) (by kernel_rfl) (fun _ _ _ h => h) (Or.inl ⟨by kernel_rfl, ?_⟩) (by assumption) ?_
            rotate_left
            · intro w hSw
              try dsimp only at hSw
              go_simp
              try with_reducible rfl
            try simp only [Act.put, List.getElem_toArray, List.getElem_cons_zero, List.setIfInBounds_toArray, List.set_cons_zero, List.set_cons_succ]
            refine wpAnyH_take (i := 1) (v := ?_) rfl (by kernel_rfl) (by kernel_rfl) (by kernel_rfl) (fun _ _ _ h => h) (Or.inl ⟨by kernel_rfl, ?_⟩) (by assumption) ?_
            rotate_left
            · intro w hSw
              try dsimp only at hSw
              go_simp
              try with_reducible rfl
            try simp only [Act.put, List.getElem_toArray, List.getElem_cons_zero, List.getElem_cons_succ, List.setIfInBounds_toArray, List.set_cons_zero, List.set_cons_succ]
            refine wpAnyH_ready (rs := [2, 7, 8]) (by kernel_rfl) (by simp) ?_
            refine AllReadyH.cons rfl (fun K hK => ?_) (AllReadyH.cons rfl (fun K hK => ?_) (AllReadyH.cons rfl (fun K hK => ?_) AllReadyH.nil))
            · go_simp
              refine (HOF.out _ (HAR.out _ hz0)).mono ?_
              rintro e v1 ⟨vo, rfl, hvo, hb1⟩
              have hz1 := bel_chain hz0 hb1
              obtain ⟨so, Ao, no, co, hveo, hvlo, _, _, _⟩ := hvo.parts
              subst hveo
              clear hvlo
              have HVO1 := Lib.hid hvo
              go_wp2_with fail
              refine hK.out _ _ (HSS.out _ hz1) (fun hHeld => ?_)
              clear hK K hS hvo
              have hS := hHeld
              clear hHeld
              try simp only [Act.put, List.getElem_toArray, List.getElem_cons_zero, List.getElem_cons_succ, List.setIfInBounds_toArray, List.set_cons_zero, List.set_cons_succ]
              refine wpAnyH_ready (rs := [3, 7, 8]) (by kernel_rfl) (by simp) ?_
              refine AllReadyH.cons rfl (fun K hK => ?_) (AllReadyH.cons rfl (fun K hK => ?_) (AllReadyH.cons rfl (fun K hK => ?_) AllReadyH.nil))
              · as_aux_lemma =>
                  go_simp
                  refine (t3floor_fresh _ _ _ _ v1 (HAR.out _ hz1) (HWN.out _ hz1) HVO1.out HPP.out (by have := HNM.out; omega) (by have := HNP.out; omega)).mono ?_
                  rintro e v2 ⟨sq, Aq, nq, cq, sr, Ar, nr, cr, rfl, hvq, hvr, hb2, hfr⟩
                  have hz2 := bel_chain hz1 hb2
                  have HVQ2 := Lib.hid hvq
                  have HVR2 := Lib.hid hvr
                  have HAP := Lib.hid (show Apart gx Aq from fun p hp => by have h1 := (hfr (by omega)).1 p hp; have h2 := hz1.size; have h3 := HGX.out; omega)
                  go_wp2_with fail
                  refine hK.out _ _ (HSS.out _ hz2) (fun hHeld => ?_)
                  clear hK K hS hvq hvr hfr
                  have hS := hHeld
                  clear hHeld
                  try simp only [Act.put, List.getElem_toArray, List.getElem_cons_zero, List.getElem_cons_succ, List.setIfInBounds_toArray, List.set_cons_zero, List.set_cons_succ]
                  refine wpAnyH_take (i := 4) (v := ?_) rfl (by kernel_rfl) (by kernel_rfl) (by kernel_rfl) (fun _ _ _ h => h) (Or.inl ⟨by kernel_rfl, ?_⟩) (by assumption) ?_
                  rotate_left
                  · intro w hSw
                    try dsimp only at hSw
                    go_simp
                    try with_reducible rfl
                  try simp only [Act.put, List.getElem_toArray, List.getElem_cons_zero, List.getElem_cons_succ, List.setIfInBounds_toArray, List.set_cons_zero, List.set_cons_succ]
                  refine wpAnyH_take (i := 5) (v := ?_) rfl (by kernel_rfl) (by kernel_rfl) (by kernel_rfl) (fun _ _ _ h => h) (Or.inl ⟨by kernel_rfl, ?_⟩) (by assumption) ?_
                  rotate_left
                  · intro w hSw
                    try dsimp only at hSw
                    go_simp
                    try with_reducible rfl
                  try simp only [Act.put, List.getElem_toArray, List.getElem_cons_zero, List.getElem_cons_succ, List.setIfInBounds_toArray, List.set_cons_zero, List.set_cons_succ]
                  refine wpAnyH_take (i := 6) (v := ?_) rfl (by kernel_rfl) (by kernel_rfl) (by kernel_rfl) (fun _ _ _ h => h) (Or.inl ⟨by kernel_rfl, ?_⟩) (by assumption) ?_
                  rotate_left
                  · intro w hSw
                    try dsimp only at hSw
                    go_simp
                    try with_reducible rfl
                  try simp only [Act.put, List.getElem_toArray, List.getElem_cons_zero, List.getElem_cons_succ, List.setIfInBounds_toArray, List.set_cons_zero, List.set_cons_succ]
                  refine wpAnyH_ready (rs := [7, 8]) (by kernel_rfl) (by simp) ?_
                  refine AllReadyH.cons rfl (fun K hK => ?_) (AllReadyH.cons rfl (fun K hK => ?_) AllReadyH.nil)
                  · obtain ⟨v3, hv3⟩ : ∃ X, v2.alloc (.cells #[.bool false, .slice none 0 0] 43) = X := ⟨_, rfl⟩
                    obtain ⟨hn3, hb3⟩ := B1.of hv3
                    have HB73 := Lib.hid hn3
                    have HI73 := Lib.hid (show NoInt v3 v2.heap.size from hv3 ▸ NoInt.new _ _ _ whole_ne_int)
                    have hz3 := bel_chain hz2 hb3
                    have HG7 := Lib.hid (show wr.heap.size ≤ v2.heap.size from hz2.size)
                    have HVQ3 := Lib.hid (HVQ2.out.below hb3)
                    have HVR3 := Lib.hid (HVR2.out.below hb3)
                    go_wp2_with fail
                    try rw [hv3]
                    refine hK.out _ _ (HSS.out _ hz3) (fun hHeld => ?_)
                    clear hK K hS hn3 hv3
                    have hS := hHeld
                    clear hHeld
                    try simp only [Act.put, List.getElem_toArray, List.getElem_cons_zero, List.getElem_cons_succ, List.setIfInBounds_toArray, List.set_cons_zero, List.set_cons_succ]
                    refine wpAnyH_ready (rs := [8]) (by kernel_rfl) (by simp) ?_
                    refine AllReadyH.cons rfl (fun K hK => ?_) AllReadyH.nil
                    obtain ⟨v4, hv4⟩ : ∃ X, v3.alloc (.cells #[.bool false, .slice none 0 0] 43) = X := ⟨_, rfl⟩
                    obtain ⟨hn4, hb4⟩ := B1.of hv4
                    have HB84 := Lib.hid hn4
                    have HI84 := Lib.hid (show NoInt v4 v3.heap.size from hv4 ▸ NoInt.new _ _ _ whole_ne_int)
                    have hz4 := bel_chain hz3 hb4
                    have HG8 := Lib.hid (show wr.heap.size ≤ v3.heap.size from hz3.size)
                    have HNE := Lib.hid (show v2.heap.size ≠ v3.heap.size from fun h => by have := HB73.out.1; omega)
                    have HVQ4 := Lib.hid (HVQ3.out.below hb4)
                    have HVR4 := Lib.hid (HVR3.out.below hb4)
                    have HB74 := Lib.hid (HB73.out.later hb4)
                    have HI74 := Lib.hid (HI73.out.later hb4)
                    go_wp2_with fail
                    try rw [hv4]
                    refine hK.out _ _ (HSS.out _ hz4) (fun hHeld => ?_)
                    clear hK K hS hn4 hv4
                    have hS := hHeld
                    clear hHeld
                    try simp only [Act.put, List.getElem_toArray, List.getElem_cons_zero, List.getElem_cons_succ, List.setIfInBounds_toArray, List.set_cons_zero, List.set_cons_succ]
                    as_aux_lemma =>
                      refine wpAnyH_ready (rs := [9]) (by kernel_rfl) (by simp) ?_
                      refine AllReadyH.cons rfl (fun K hK => ?_) AllReadyH.nil
                      rw [if_pos (by kernel_rfl)]
                      refine wp_store_whole (i := 9) (j := 26) rfl rfl rfl rfl HB74.out ?_
                      obtain ⟨x1, hx1⟩ : ∃ x, (v4.setCell ⟨v2.heap.size, 0, none⟩ (.bool sq)).setCell ⟨v2.heap.size, 1, none⟩ (.slice Aq nq cq) = x := ⟨_, rfl⟩
                      try rw [hx1]
                      have hy1 : Below wr.heap.size wr x1 := hx1 ▸ (hz4.setCell (p := ⟨v2.heap.size, 0, none⟩) HG7.out _).setCell (p := ⟨v2.heap.size, 1, none⟩) HG7.out _
                      have HF9 := Lib.hid (show Box2 x1 (v2.heap.size) (.bool sq) (.slice Aq nq cq) from hx1 ▸ (Box2.set0 HB74.out _).set1 _)
                      have HF10 := Lib.hid (show Box2 x1 (v3.heap.size) (.bool false) (.slice none 0 0) from hx1 ▸ (Box2.far HB84.out (fun h => HNE.out (h.symm)) _).far (fun h => HNE.out (h.symm)) _)
                      have HX10 := Lib.hid (show NoInt x1 (v3.heap.size) from hx1 ▸ (HI84.out.setCell _ _).setCell _ _)
                      have HQ1 := Lib.hid (show W3 x1 (.agg #[.bool sq, .slice Aq nq cq]) _ from hx1 ▸ HVQ4.out.store2 HI74.out _ _)
                      have HR1 := Lib.hid (show W3 x1 (.agg #[.bool sr, .slice Ar nr cr]) _ from hx1 ▸ HVR4.out.store2 HI74.out _ _)
                      refine hK.out _ _ (HSS.out _ hy1) (fun hHeld => ?_)
                      clear hK K hS hx1
                      have hS := hHeld
                      clear hHeld
                      try simp only [Act.put]
                      refine wpAnyH_ready (rs := [10]) (by kernel_rfl) (by simp) ?_
                      refine AllReadyH.cons rfl (fun K hK => ?_) AllReadyH.nil
                      rw [if_pos (by kernel_rfl)]
                      refine wp_store_whole (i := 10) (j := 27) rfl rfl rfl rfl HF10.out ?_
                      obtain ⟨x2, hx2⟩ : ∃ x, (x1.setCell ⟨v3.heap.size, 0, none⟩ (.bool sr)).setCell ⟨v3.heap.size, 1, none⟩ (.slice Ar nr cr) = x := ⟨_, rfl⟩
                      try rw [hx2]
                      have hy2 : Below wr.heap.size wr x2 := hx2 ▸ (hy1.setCell (p := ⟨v3.heap.size, 0, none⟩) HG8.out _).setCell (p := ⟨v3.heap.size, 1, none⟩) HG8.out _
                      have HE9 := Lib.hid (show Box2 x2 (v2.heap.size) (.bool sq) (.slice Aq nq cq) from hx2 ▸ (Box2.far HF9.out (fun h => HNE.out (h)) _).far (fun h => HNE.out (h)) _)
                      have HE10 := Lib.hid (show Box2 x2 (v3.heap.size) (.bool sr) (.slice Ar nr cr) from hx2 ▸ (Box2.set0 HF10.out _).set1 _)
                      have HQ2 := Lib.hid (show W3 x2 (.agg #[.bool sq, .slice Aq nq cq]) _ from hx2 ▸ HQ1.out.store2 HX10.out _ _)
                      have HR2 := Lib.hid (show W3 x2 (.agg #[.bool sr, .slice Ar nr cr]) _ from hx2 ▸ HR1.out.store2 HX10.out _ _)
                      refine hK.out _ _ (HSS.out _ hy2) (fun _ => ?_)
                      clear hK K hS hx2
                      try simp only [Act.put]
                      refine wpAnyH_done (by kernel_rfl) ?_ _
                      go_wp2_with fail
                      go_meet
                      case rel => exact ⟨_, _, sq, Aq, nq, cq, sr, Ar, nr, cr, rfl, rfl, HG7.out, HG8.out, HE9.out, HE10.out, HQ2.out, HR2.out, HAP.out, hy2⟩
                  · obtain ⟨v3, hv3⟩ : ∃ X, v2.alloc (.cells #[.bool false, .slice none 0 0] 43) = X := ⟨_, rfl⟩
                    obtain ⟨hn3, hb3⟩ := B1.of hv3
                    have HB83 := Lib.hid hn3
                    have HI83 := Lib.hid (show NoInt v3 v2.heap.size from hv3 ▸ NoInt.new _ _ _ whole_ne_int)
                    have hz3 := bel_chain hz2 hb3
                    have HG8 := Lib.hid (show wr.heap.size ≤ v2.heap.size from hz2.size)
                    have HVQ3 := Lib.hid (HVQ2.out.below hb3)
                    have HVR3 := Lib.hid (HVR2.out.below hb3)
                    go_wp2_with fail
                    try rw [hv3]
                    refine hK.out _ _ (HSS.out _ hz3) (fun hHeld => ?_)
                    clear hK K hS hn3 hv3
                    have hS := hHeld
                    clear hHeld
                    try simp only [Act.put, List.getElem_toArray, List.getElem_cons_zero, List.getElem_cons_succ, List.setIfInBounds_toArray, List.set_cons_zero, List.set_cons_succ]
                    refine wpAnyH_ready (rs := [7]) (by kernel_rfl) (by simp) ?_
                    refine AllReadyH.cons rfl (fun K hK => ?_) AllReadyH.nil
                    obtain ⟨v4, hv4⟩ : ∃ X, v3.alloc (.cells #[.bool false, .slice none 0 0] 43) = X := ⟨_, rfl⟩
                    obtain ⟨hn4, hb4⟩ := B1.of hv4
                    have HB74 := Lib.hid hn4
                    have HI74 := Lib.hid (show NoInt v4 v3.heap.size from hv4 ▸ NoInt.new _ _ _ whole_ne_int)
                    have hz4 := bel_chain hz3 hb4
                    have HG7 := Lib.hid (show wr.heap.size ≤ v3.heap.size from hz3.size)
                    have HNE := Lib.hid (show v2.heap.size ≠ v3.heap.size from fun h => by have := HB83.out.1; omega)
                    have HVQ4 := Lib.hid (HVQ3.out.below hb4)
                    have HVR4 := Lib.hid (HVR3.out.below hb4)
                    have HB84 := Lib.hid (HB83.out.later hb4)
                    have HI84 := Lib.hid (HI83.out.later hb4)
                    go_wp2_with fail
                    try rw [hv4]
                    refine hK.out _ _ (HSS.out _ hz4) (fun hHeld => ?_)
                    clear hK K hS hn4 hv4
                    have hS := hHeld
                    clear hHeld
                    try simp only [Act.put, List.getElem_toArray, List.getElem_cons_zero, List.getElem_cons_succ, List.setIfInBounds_toArray, List.set_cons_zero, List.set_cons_succ]
                    as_aux_lemma =>
                      refine wpAnyH_ready (rs := [9]) (by kernel_rfl) (by simp) ?_
                      refine AllReadyH.cons rfl (fun K hK => ?_) AllReadyH.nil
                      rw [if_pos (by kernel_rfl)]
                      refine wp_store_whole (i := 9) (j := 26) rfl rfl rfl rfl HB74.out ?_
                      obtain ⟨x1, hx1⟩ : ∃ x, (v4.setCell ⟨v3.heap.size, 0, none⟩ (.bool sq)).setCell ⟨v3.heap.size, 1, none⟩ (.slice Aq nq cq) = x := ⟨_, rfl⟩
                      try rw [hx1]
                      have hy1 : Below wr.heap.size wr x1 := hx1 ▸ (hz4.setCell (p := ⟨v3.heap.size, 0, none⟩) HG7.out _).setCell (p := ⟨v3.heap.size, 1, none⟩) HG7.out _
                      have HF9 := Lib.hid (show Box2 x1 (v3.heap.size) (.bool sq) (.slice Aq nq cq) from hx1 ▸ (Box2.set0 HB74.out _).set1 _)
                      have HF10 := Lib.hid (show Box2 x1 (v2.heap.size) (.bool false) (.slice none 0 0) from hx1 ▸ (Box2.far HB84.out (fun h => HNE.out (h)) _).far (fun h => HNE.out (h)) _)
                      have HX10 := Lib.hid (show NoInt x1 (v2.heap.size) from hx1 ▸ (HI84.out.setCell _ _).setCell _ _)
                      have HQ1 := Lib.hid (show W3 x1 (.agg #[.bool sq, .slice Aq nq cq]) _ from hx1 ▸ HVQ4.out.store2 HI74.out _ _)
                      have HR1 := Lib.hid (show W3 x1 (.agg #[.bool sr, .slice Ar nr cr]) _ from hx1 ▸ HVR4.out.store2 HI74.out _ _)
                      refine hK.out _ _ (HSS.out _ hy1) (fun hHeld => ?_)
                      clear hK K hS hx1
                      have hS := hHeld
                      clear hHeld
                      try simp only [Act.put]
                      refine wpAnyH_ready (rs := [10]) (by kernel_rfl) (by simp) ?_
                      refine AllReadyH.cons rfl (fun K hK => ?_) AllReadyH.nil
                      rw [if_pos (by kernel_rfl)]
                      refine wp_store_whole (i := 10) (j := 27) rfl rfl rfl rfl HF10.out ?_
                      obtain ⟨x2, hx2⟩ : ∃ x, (x1.setCell ⟨v2.heap.size, 0, none⟩ (.bool sr)).setCell ⟨v2.heap.size, 1, none⟩ (.slice Ar nr cr) = x := ⟨_, rfl⟩
                      try rw [hx2]
                      have hy2 : Below wr.heap.size wr x2 := hx2 ▸ (hy1.setCell (p := ⟨v2.heap.size, 0, none⟩) HG8.out _).setCell (p := ⟨v2.heap.size, 1, none⟩) HG8.out _
                      have HE9 := Lib.hid (show Box2 x2 (v3.heap.size) (.bool sq) (.slice Aq nq cq) from hx2 ▸ (Box2.far HF9.out (fun h => HNE.out (h.symm)) _).far (fun h => HNE.out (h.symm)) _)
                      have HE10 := Lib.hid (show Box2 x2 (v2.heap.size) (.bool sr) (.slice Ar nr cr) from hx2 ▸ (Box2.set0 HF10.out _).set1 _)
                      have HQ2 := Lib.hid (show W3 x2 (.agg #[.bool sq, .slice Aq nq cq]) _ from hx2 ▸ HQ1.out.store2 HX10.out _ _)
                      have HR2 := Lib.hid (show W3 x2 (.agg #[.bool sr, .slice Ar nr cr]) _ from hx2 ▸ HR1.out.store2 HX10.out _ _)
                      refine hK.out _ _ (HSS.out _ hy2) (fun _ => ?_)
                      clear hK K hS hx2
                      try simp only [Act.put]
                      refine wpAnyH_done (by kernel_rfl) ?_ _
                      go_wp2_with fail
                      go_meet
                      case rel => exact ⟨_, _, sq, Aq, nq, cq, sr, Ar, nr, cr, rfl, rfl, HG7.out, HG8.out, HE9.out, HE10.out, HQ2.out, HR2.out, HAP.out, hy2⟩
              · as_aux_lemma =>
                  obtain ⟨v2, hv2⟩ : ∃ X, v1.alloc (.cells #[.bool false, .slice none 0 0] 43) = X := ⟨_, rfl⟩
                  obtain ⟨hn2, hb2⟩ := B1.of hv2
                  have HB72 := Lib.hid hn2
                  have HI72 := Lib.hid (show NoInt v2 v1.heap.size from hv2 ▸ NoInt.new _ _ _ whole_ne_int)
                  have hz2 := bel_chain hz1 hb2
                  have HG7 := Lib.hid (show wr.heap.size ≤ v1.heap.size from hz1.size)
                  have HVO2 := Lib.hid (HVO1.out.below hb2)
                  go_wp2_with fail
                  try rw [hv2]
                  refine hK.out _ _ (HSS.out _ hz2) (fun hHeld => ?_)
                  clear hK K hS hn2 hv2
                  have hS := hHeld
                  clear hHeld
                  try simp only [Act.put, List.getElem_toArray, List.getElem_cons_zero, List.getElem_cons_succ, List.setIfInBounds_toArray, List.set_cons_zero, List.set_cons_succ]
                  refine wpAnyH_ready (rs := [3, 8]) (by kernel_rfl) (by simp) ?_
                  refine AllReadyH.cons rfl (fun K hK => ?_) (AllReadyH.cons rfl (fun K hK => ?_) AllReadyH.nil)
                  · go_simp
                    refine (t3floor_fresh _ _ _ _ v2 (HAR.out _ hz2) (HWN.out _ hz2) HVO2.out HPP.out (by have := HNM.out; omega) (by have := HNP.out; omega)).mono ?_
                    rintro e v3 ⟨sq, Aq, nq, cq, sr, Ar, nr, cr, rfl, hvq, hvr, hb3, hfr⟩
                    have hz3 := bel_chain hz2 hb3
                    have HVQ3 := Lib.hid hvq
                    have HVR3 := Lib.hid hvr
                    have HAP := Lib.hid (show Apart gx Aq from fun p hp => by have h1 := (hfr (by omega)).1 p hp; have h2 := hz2.size; have h3 := HGX.out; omega)
                    have HB73 := Lib.hid (HB72.out.later hb3)
                    have HI73 := Lib.hid (HI72.out.later hb3)
                    go_wp2_with fail
                    refine hK.out _ _ (HSS.out _ hz3) (fun hHeld => ?_)
                    clear hK K hS hvq hvr hfr
                    have hS := hHeld
                    clear hHeld
                    try simp only [Act.put, List.getElem_toArray, List.getElem_cons_zero, List.getElem_cons_succ, List.setIfInBounds_toArray, List.set_cons_zero, List.set_cons_succ]
                    refine wpAnyH_take (i := 4) (v := ?_) rfl (by kernel_rfl) (by kernel_rfl) (by kernel_rfl) (fun _ _ _ h => h) (Or.inl ⟨by kernel_rfl, ?_⟩) (by assumption) ?_
                    rotate_left
                    · intro w hSw
                      try dsimp only at hSw
                      go_simp
                      try with_reducible rfl
                    try simp only [Act.put, List.getElem_toArray, List.getElem_cons_zero, List.getElem_cons_succ, List.setIfInBounds_toArray, List.set_cons_zero, List.set_cons_succ]
                    refine wpAnyH_take (i := 5) (v := ?_) rfl (by kernel_rfl) (by kernel_rfl) (by kernel_rfl) (fun _ _ _ h => h) (Or.inl ⟨by kernel_rfl, ?_⟩) (by assumption) ?_
                    rotate_left
                    · intro w hSw
                      try dsimp only at hSw
                      go_simp
                      try with_reducible rfl
                    try simp only [Act.put, List.getElem_toArray, List.getElem_cons_zero, List.getElem_cons_succ, List.setIfInBounds_toArray, List.set_cons_zero, List.set_cons_succ]
                    refine wpAnyH_take (i := 6) (v := ?_) rfl (by kernel_rfl) (by kernel_rfl) (by kernel_rfl) (fun _ _ _ h => h) (Or.inl ⟨by kernel_rfl, ?_⟩) (by assumption) ?_
                    rotate_left
                    · intro w hSw
                      try dsimp only at hSw
                      go_simp
                      try with_reducible rfl
                    try simp only [Act.put, List.getElem_toArray, List.getElem_cons_zero, List.getElem_cons_succ, List.setIfInBounds_toArray, List.set_cons_zero, List.set_cons_succ]
                    refine wpAnyH_ready (rs := [8]) (by kernel_rfl) (by simp) ?_
                    refine AllReadyH.cons rfl (fun K hK => ?_) AllReadyH.nil
                    obtain ⟨v4, hv4⟩ : ∃ X, v3.alloc (.cells #[.bool false, .slice none 0 0] 43) = X := ⟨_, rfl⟩
                    obtain ⟨hn4, hb4⟩ := B1.of hv4
                    have HB84 := Lib.hid hn4
                    have HI84 := Lib.hid (show NoInt v4 v3.heap.size from hv4 ▸ NoInt.new _ _ _ whole_ne_int)
                    have hz4 := bel_chain hz3 hb4
                    have HG8 := Lib.hid (show wr.heap.size ≤ v3.heap.size from hz3.size)
                    have HNE := Lib.hid (show v1.heap.size ≠ v3.heap.size from fun h => by have := HB73.out.1; omega)
                    have HB74 := Lib.hid (HB73.out.later hb4)
                    have HI74 := Lib.hid (HI73.out.later hb4)
                    have HVQ4 := Lib.hid (HVQ3.out.below hb4)
                    have HVR4 := Lib.hid (HVR3.out.below hb4)
                    go_wp2_with fail
                    try rw [hv4]
                    refine hK.out _ _ (HSS.out _ hz4) (fun hHeld => ?_)
                    clear hK K hS hn4 hv4
                    have hS := hHeld
                    clear hHeld
                    try simp only [Act.put, List.getElem_toArray, List.getElem_cons_zero, List.getElem_cons_succ, List.setIfInBounds_toArray, List.set_cons_zero, List.set_cons_succ]
                    as_aux_lemma =>
                      refine wpAnyH_ready (rs := [9]) (by kernel_rfl) (by simp) ?_
                      refine AllReadyH.cons rfl (fun K hK => ?_) AllReadyH.nil
                      rw [if_pos (by kernel_rfl)]
                      refine wp_store_whole (i := 9) (j := 26) rfl rfl rfl rfl HB74.out ?_
                      obtain ⟨x1, hx1⟩ : ∃ x, (v4.setCell ⟨v1.heap.size, 0, none⟩ (.bool sq)).setCell ⟨v1.heap.size, 1, none⟩ (.slice Aq nq cq) = x := ⟨_, rfl⟩
                      try rw [hx1]
                      have hy1 : Below wr.heap.size wr x1 := hx1 ▸ (hz4.setCell (p := ⟨v1.heap.size, 0, none⟩) HG7.out _).setCell (p := ⟨v1.heap.size, 1, none⟩) HG7.out _
                      have HF9 := Lib.hid (show Box2 x1 (v1.heap.size) (.bool sq) (.slice Aq nq cq) from hx1 ▸ (Box2.set0 HB74.out _).set1 _)
                      have HF10 := Lib.hid (show Box2 x1 (v3.heap.size) (.bool false) (.slice none 0 0) from hx1 ▸ (Box2.far HB84.out (fun h => HNE.out (h.symm)) _).far (fun h => HNE.out (h.symm)) _)
                      have HX10 := Lib.hid (show NoInt x1 (v3.heap.size) from hx1 ▸ (HI84.out.setCell _ _).setCell _ _)
                      have HQ1 := Lib.hid (show W3 x1 (.agg #[.bool sq, .slice Aq nq cq]) _ from hx1 ▸ HVQ4.out.store2 HI74.out _ _)
                      have HR1 := Lib.hid (show W3 x1 (.agg #[.bool sr, .slice Ar nr cr]) _ from hx1 ▸ HVR4.out.store2 HI74.out _ _)
                      refine hK.out _ _ (HSS.out _ hy1) (fun hHeld => ?_)
                      clear hK K hS hx1
                      have hS := hHeld
                      clear hHeld
                      try simp only [Act.put]
                      refine wpAnyH_ready (rs := [10]) (by kernel_rfl) (by simp) ?_
                      refine AllReadyH.cons rfl (fun K hK => ?_) AllReadyH.nil
                      rw [if_pos (by kernel_rfl)]
                      refine wp_store_whole (i := 10) (j := 27) rfl rfl rfl rfl HF10.out ?_
                      obtain ⟨x2, hx2⟩ : ∃ x, (x1.setCell ⟨v3.heap.size, 0, none⟩ (.bool sr)).setCell ⟨v3.heap.size, 1, none⟩ (.slice Ar nr cr) = x := ⟨_, rfl⟩
                      try rw [hx2]
                      have hy2 : Below wr.heap.size wr x2 := hx2 ▸ (hy1.setCell (p := ⟨v3.heap.size, 0, none⟩) HG8.out _).setCell (p := ⟨v3.heap.size, 1, none⟩) HG8.out _
                      have HE9 := Lib.hid (show Box2 x2 (v1.heap.size) (.bool sq) (.slice Aq nq cq) from hx2 ▸ (Box2.far HF9.out (fun h => HNE.out (h)) _).far (fun h => HNE.out (h)) _)
                      have HE10 := Lib.hid (show Box2 x2 (v3.heap.size) (.bool sr) (.slice Ar nr cr) from hx2 ▸ (Box2.set0 HF10.out _).set1 _)
                      have HQ2 := Lib.hid (show W3 x2 (.agg #[.bool sq, .slice Aq nq cq]) _ from hx2 ▸ HQ1.out.store2 HX10.out _ _)
                      have HR2 := Lib.hid (show W3 x2 (.agg #[.bool sr, .slice Ar nr cr]) _ from hx2 ▸ HR1.out.store2 HX10.out _ _)
                      refine hK.out _ _ (HSS.out _ hy2) (fun _ => ?_)
                      clear hK K hS hx2
                      try simp only [Act.put]
                      refine wpAnyH_done (by kernel_rfl) ?_ _
                      go_wp2_with fail
                      go_meet
                      case rel => exact ⟨_, _, sq, Aq, nq, cq, sr, Ar, nr, cr, rfl, rfl, HG7.out, HG8.out, HE9.out, HE10.out, HQ2.out, HR2.out, HAP.out, hy2⟩
                  · obtain ⟨v3, hv3⟩ : ∃ X, v2.alloc (.cells #[.bool false, .slice none 0 0] 43) = X := ⟨_, rfl⟩
                    obtain ⟨hn3, hb3⟩ := B1.of hv3
                    have HB83 := Lib.hid hn3
                    have HI83 := Lib.hid (show NoInt v3 v2.heap.size from hv3 ▸ NoInt.new _ _ _ whole_ne_int)
                    have hz3 := bel_chain hz2 hb3
                    have HG8 := Lib.hid (show wr.heap.size ≤ v2.heap.size from hz2.size)
                    have HNE := Lib.hid (show v1.heap.size ≠ v2.heap.size from fun h => by have := HB72.out.1; omega)
                    have HVO3 := Lib.hid (HVO2.out.below hb3)
                    have HB73 := Lib.hid (HB72.out.later hb3)
                    have HI73 := Lib.hid (HI72.out.later hb3)
                    go_wp2_with fail
                    try rw [hv3]
                    refine hK.out _ _ (HSS.out _ hz3) (fun hHeld => ?_)
                    clear hK K hS hn3 hv3
                    have hS := hHeld
                    clear hHeld
                    try simp only [Act.put, List.getElem_toArray, List.getElem_cons_zero, List.getElem_cons_succ, List.setIfInBounds_toArray, List.set_cons_zero, List.set_cons_succ]
                    refine wpAnyH_ready (rs := [3]) (by kernel_rfl) (by simp) ?_
                    refine AllReadyH.cons rfl (fun K hK => ?_) AllReadyH.nil
                    go_simp
                    refine (t3floor_fresh _ _ _ _ v3 (HAR.out _ hz3) (HWN.out _ hz3) HVO3.out HPP.out (by have := HNM.out; omega) (by have := HNP.out; omega)).mono ?_
                    rintro e v4 ⟨sq, Aq, nq, cq, sr, Ar, nr, cr, rfl, hvq, hvr, hb4, hfr⟩
                    have hz4 := bel_chain hz3 hb4
                    have HVQ4 := Lib.hid hvq
                    have HVR4 := Lib.hid hvr
                    have HAP := Lib.hid (show Apart gx Aq from fun p hp => by have h1 := (hfr (by omega)).1 p hp; have h2 := hz3.size; have h3 := HGX.out; omega)
                    have HB74 := Lib.hid (HB73.out.later hb4)
                    have HI74 := Lib.hid (HI73.out.later hb4)
                    have HB84 := Lib.hid (HB83.out.later hb4)
                    have HI84 := Lib.hid (HI83.out.later hb4)
                    go_wp2_with fail
                    refine hK.out _ _ (HSS.out _ hz4) (fun hHeld => ?_)
                    clear hK K hS hvq hvr hfr
                    have hS := hHeld
                    clear hHeld
                    try simp only [Act.put, List.getElem_toArray, List.getElem_cons_zero, List.getElem_cons_succ, List.setIfInBounds_toArray, List.set_cons_zero, List.set_cons_succ]
                    refine wpAnyH_take (i := 4) (v := ?_) rfl (by kernel_rfl) (by kernel_rfl) (by kernel_rfl) (fun _ _ _ h => h) (Or.inl ⟨by kernel_rfl, ?_⟩) (by assumption) ?_
                    rotate_left
                    · intro w hSw
                      try dsimp only at hSw
                      go_simp
                      try with_reducible rfl
                    try simp only [Act.put, List.getElem_toArray, List.getElem_cons_zero, List.getElem_cons_succ, List.setIfInBounds_toArray, List.set_cons_zero, List.set_cons_succ]
                    refine wpAnyH_take (i := 5) (v := ?_) rfl (by kernel_rfl) (by kernel_rfl) (by kernel_rfl) (fun _ _ _ h => h) (Or.inl ⟨by kernel_rfl, ?_⟩) (by assumption) ?_
                    rotate_left
                    · intro w hSw
                      try dsimp only at hSw
                      go_simp
                      try with_reducible rfl
                    try simp only [Act.put, List.getElem_toArray, List.getElem_cons_zero, List.getElem_cons_succ, List.setIfInBounds_toArray, List.set_cons_zero, List.set_cons_succ]
                    refine wpAnyH_take (i := 6) (v := ?_) rfl (by kernel_rfl) (by kernel_rfl) (by kernel_rfl) (fun _ _ _ h => h) (Or.inl ⟨by kernel_rfl, ?_⟩) (by assumption) ?_
                    rotate_left
                    · intro w hSw
                      try dsimp only at hSw
                      go_simp
                      try with_reducible rfl
                    try simp only [Act.put, List.getElem_toArray, List.getElem_cons_zero, List.getElem_cons_succ, List.setIfInBounds_toArray, List.set_cons_zero, List.set_cons_succ]
                    as_aux_lemma =>
                      refine wpAnyH_ready (rs := [9]) (by kernel_rfl) (by simp) ?_
                      refine AllReadyH.cons rfl (fun K hK => ?_) AllReadyH.nil
                      rw [if_pos (by kernel_rfl)]
                      refine wp_store_whole (i := 9) (j := 26) rfl rfl rfl rfl HB74.out ?_
                      obtain ⟨x1, hx1⟩ : ∃ x, (v4.setCell ⟨v1.heap.size, 0, none⟩ (.bool sq)).setCell ⟨v1.heap.size, 1, none⟩ (.slice Aq nq cq) = x := ⟨_, rfl⟩
                      try rw [hx1]
                      have hy1 : Below wr.heap.size wr x1 := hx1 ▸ (hz4.setCell (p := ⟨v1.heap.size, 0, none⟩) HG7.out _).setCell (p := ⟨v1.heap.size, 1, none⟩) HG7.out _
                      have HF9 := Lib.hid (show Box2 x1 (v1.heap.size) (.bool sq) (.slice Aq nq cq) from hx1 ▸ (Box2.set0 HB74.out _).set1 _)
                      have HF10 := Lib.hid (show Box2 x1 (v2.heap.size) (.bool false) (.slice none 0 0) from hx1 ▸ (Box2.far HB84.out (fun h => HNE.out (h.symm)) _).far (fun h => HNE.out (h.symm)) _)
                      have HX10 := Lib.hid (show NoInt x1 (v2.heap.size) from hx1 ▸ (HI84.out.setCell _ _).setCell _ _)
                      have HQ1 := Lib.hid (show W3 x1 (.agg #[.bool sq, .slice Aq nq cq]) _ from hx1 ▸ HVQ4.out.store2 HI74.out _ _)
                      have HR1 := Lib.hid (show W3 x1 (.agg #[.bool sr, .slice Ar nr cr]) _ from hx1 ▸ HVR4.out.store2 HI74.out _ _)
                      refine hK.out _ _ (HSS.out _ hy1) (fun hHeld => ?_)
                      clear hK K hS hx1
                      have hS := hHeld
                      clear hHeld
                      try simp only [Act.put]
                      refine wpAnyH_ready (rs := [10]) (by kernel_rfl) (by simp) ?_
                      refine AllReadyH.cons rfl (fun K hK => ?_) AllReadyH.nil
                      rw [if_pos (by kernel_rfl)]
                      refine wp_store_whole (i := 10) (j := 27) rfl rfl rfl rfl HF10.out ?_
                      obtain ⟨x2, hx2⟩ : ∃ x, (x1.setCell ⟨v2.heap.size, 0, none⟩ (.bool sr)).setCell ⟨v2.heap.size, 1, none⟩ (.slice Ar nr cr) = x := ⟨_, rfl⟩
                      try rw [hx2]
                      have hy2 : Below wr.heap.size wr x2 := hx2 ▸ (hy1.setCell (p := ⟨v2.heap.size, 0, none⟩) HG8.out _).setCell (p := ⟨v2.heap.size, 1, none⟩) HG8.out _
                      have HE9 := Lib.hid (show Box2 x2 (v1.heap.size) (.bool sq) (.slice Aq nq cq) from hx2 ▸ (Box2.far HF9.out (fun h => HNE.out (h)) _).far (fun h => HNE.out (h)) _)
                      have HE10 := Lib.hid (show Box2 x2 (v2.heap.size) (.bool sr) (.slice Ar nr cr) from hx2 ▸ (Box2.set0 HF10.out _).set1 _)
                      have HQ2 := Lib.hid (show W3 x2 (.agg #[.bool sq, .slice Aq nq cq]) _ from hx2 ▸ HQ1.out.store2 HX10.out _ _)
                      have HR2 := Lib.hid (show W3 x2 (.agg #[.bool sr, .slice Ar nr cr]) _ from hx2 ▸ HR1.out.store2 HX10.out _ _)
                      refine hK.out _ _ (HSS.out _ hy2) (fun _ => ?_)
                      clear hK K hS hx2
                      try simp only [Act.put]
                      refine wpAnyH_done (by kernel_rfl) ?_ _
                      go_wp2_with fail
                      go_meet
                      case rel => exact ⟨_, _, sq, Aq, nq, cq, sr, Ar, nr, cr, rfl, rfl, HG7.out, HG8.out, HE9.out, HE10.out, HQ2.out, HR2.out, HAP.out, hy2⟩
              · as_aux_lemma =>
                  obtain ⟨v2, hv2⟩ : ∃ X, v1.alloc (.cells #[.bool false, .slice none 0 0] 43) = X := ⟨_, rfl⟩
                  obtain ⟨hn2, hb2⟩ := B1.of hv2
                  have HB82 := Lib.hid hn2
                  have HI82 := Lib.hid (show NoInt v2 v1.heap.size from hv2 ▸ NoInt.new _ _ _ whole_ne_int)
                  have hz2 := bel_chain hz1 hb2
                  have HG8 := Lib.hid (show wr.heap.size ≤ v1.heap.size from hz1.size)
                  have HVO2 := Lib.hid (HVO1.out.below hb2)
                  go_wp2_with fail
                  try rw [hv2]
                  refine hK.out _ _ (HSS.out _ hz2) (fun hHeld => ?_)
                  clear hK K hS hn2 hv2
                  have hS := hHeld
                  clear hHeld
                  try simp only [Act.put, List.getElem_toArray, List.getElem_cons_zero, List.getElem_cons_succ, List.setIfInBounds_toArray, List.set_cons_zero, List.set_cons_succ]
                  refine wpAnyH_ready (rs := [3, 7]) (by kernel_rfl) (by simp) ?_
                  refine AllReadyH.cons rfl (fun K hK => ?_) (AllReadyH.cons rfl (fun K hK => ?_) AllReadyH.nil)
                  · go_simp
                    refine (t3floor_fresh _ _ _ _ v2 (HAR.out _ hz2) (HWN.out _ hz2) HVO2.out HPP.out (by have := HNM.out; omega) (by have := HNP.out; omega)).mono ?_
                    rintro e v3 ⟨sq, Aq, nq, cq, sr, Ar, nr, cr, rfl, hvq, hvr, hb3, hfr⟩
                    have hz3 := bel_chain hz2 hb3
                    have HVQ3 := Lib.hid hvq
                    have HVR3 := Lib.hid hvr
                    have HAP := Lib.hid (show Apart gx Aq from fun p hp => by have h1 := (hfr (by omega)).1 p hp; have h2 := hz2.size; have h3 := HGX.out; omega)
                    have HB83 := Lib.hid (HB82.out.later hb3)
                    have HI83 := Lib.hid (HI82.out.later hb3)
                    go_wp2_with fail
                    refine hK.out _ _ (HSS.out _ hz3) (fun hHeld => ?_)
                    clear hK K hS hvq hvr hfr
                    have hS := hHeld
                    clear hHeld
                    try simp only [Act.put, List.getElem_toArray, List.getElem_cons_zero, List.getElem_cons_succ, List.setIfInBounds_toArray, List.set_cons_zero, List.set_cons_succ]
                    refine wpAnyH_take (i := 4) (v := ?_) rfl (by kernel_rfl) (by kernel_rfl) (by kernel_rfl) (fun _ _ _ h => h) (Or.inl ⟨by kernel_rfl, ?_⟩) (by assumption) ?_
                    rotate_left
                    · intro w hSw
                      try dsimp only at hSw
                      go_simp
                      try with_reducible rfl
                    try simp only [Act.put, List.getElem_toArray, List.getElem_cons_zero, List.getElem_cons_succ, List.setIfInBounds_toArray, List.set_cons_zero, List.set_cons_succ]
                    refine wpAnyH_take (i := 5) (v := ?_) rfl (by kernel_rfl) (by kernel_rfl) (by kernel_rfl) (fun _ _ _ h => h) (Or.inl ⟨by kernel_rfl, ?_⟩) (by assumption) ?_
                    rotate_left
                    · intro w hSw
                      try dsimp only at hSw
                      go_simp
                      try with_reducible rfl
                    try simp only [Act.put, List.getElem_toArray, List.getElem_cons_zero, List.getElem_cons_succ, List.setIfInBounds_toArray, List.set_cons_zero, List.set_cons_succ]
                    refine wpAnyH_take (i := 6) (v := ?_) rfl (by kernel_rfl) (by kernel_rfl) (by kernel_rfl) (fun _ _ _ h => h) (Or.inl ⟨by kernel_rfl, ?_⟩) (by assumption) ?_
                    rotate_left
                    · intro w hSw
                      try dsimp only at hSw
                      go_simp
                      try with_reducible rfl
                    try simp only [Act.put, List.getElem_toArray, List.getElem_cons_zero, List.getElem_cons_succ, List.setIfInBounds_toArray, List.set_cons_zero, List.set_cons_succ]
                    refine wpAnyH_ready (rs := [7]) (by kernel_rfl) (by simp) ?_
                    refine AllReadyH.cons rfl (fun K hK => ?_) AllReadyH.nil
                    obtain ⟨v4, hv4⟩ : ∃ X, v3.alloc (.cells #[.bool false, .slice none 0 0] 43) = X := ⟨_, rfl⟩
                    obtain ⟨hn4, hb4⟩ := B1.of hv4
                    have HB74 := Lib.hid hn4
                    have HI74 := Lib.hid (show NoInt v4 v3.heap.size from hv4 ▸ NoInt.new _ _ _ whole_ne_int)
                    have hz4 := bel_chain hz3 hb4
                    have HG7 := Lib.hid (show wr.heap.size ≤ v3.heap.size from hz3.size)
                    have HNE := Lib.hid (show v1.heap.size ≠ v3.heap.size from fun h => by have := HB83.out.1; omega)
                    have HB84 := Lib.hid (HB83.out.later hb4)
                    have HI84 := Lib.hid (HI83.out.later hb4)
                    have HVQ4 := Lib.hid (HVQ3.out.below hb4)
                    have HVR4 := Lib.hid (HVR3.out.below hb4)
                    go_wp2_with fail
                    try rw [hv4]
                    refine hK.out _ _ (HSS.out _ hz4) (fun hHeld => ?_)
                    clear hK K hS hn4 hv4
                    have hS := hHeld
                    clear hHeld
                    try simp only [Act.put, List.getElem_toArray, List.getElem_cons_zero, List.getElem_cons_succ, List.setIfInBounds_toArray, List.set_cons_zero, List.set_cons_succ]
                    as_aux_lemma =>
                      refine wpAnyH_ready (rs := [9]) (by kernel_rfl) (by simp) ?_
                      refine AllReadyH.cons rfl (fun K hK => ?_) AllReadyH.nil
                      rw [if_pos (by kernel_rfl)]
                      refine wp_store_whole (i := 9) (j := 26) rfl rfl rfl rfl HB74.out ?_
                      obtain ⟨x1, hx1⟩ : ∃ x, (v4.setCell ⟨v3.heap.size, 0, none⟩ (.bool sq)).setCell ⟨v3.heap.size, 1, none⟩ (.slice Aq nq cq) = x := ⟨_, rfl⟩
                      try rw [hx1]
                      have hy1 : Below wr.heap.size wr x1 := hx1 ▸ (hz4.setCell (p := ⟨v3.heap.size, 0, none⟩) HG7.out _).setCell (p := ⟨v3.heap.size, 1, none⟩) HG7.out _
                      have HF9 := Lib.hid (show Box2 x1 (v3.heap.size) (.bool sq) (.slice Aq nq cq) from hx1 ▸ (Box2.set0 HB74.out _).set1 _)
                      have HF10 := Lib.hid (show Box2 x1 (v1.heap.size) (.bool false) (.slice none 0 0) from hx1 ▸ (Box2.far HB84.out (fun h => HNE.out (h)) _).far (fun h => HNE.out (h)) _)
                      have HX10 := Lib.hid (show NoInt x1 (v1.heap.size) from hx1 ▸ (HI84.out.setCell _ _).setCell _ _)
                      have HQ1 := Lib.hid (show W3 x1 (.agg #[.bool sq, .slice Aq nq cq]) _ from hx1 ▸ HVQ4.out.store2 HI74.out _ _)
                      have HR1 := Lib.hid (show W3 x1 (.agg #[.bool sr, .slice Ar nr cr]) _ from hx1 ▸ HVR4.out.store2 HI74.out _ _)
                      refine hK.out _ _ (HSS.out _ hy1) (fun hHeld => ?_)
                      clear hK K hS hx1
                      have hS := hHeld
                      clear hHeld
                      try simp only [Act.put]
                      refine wpAnyH_ready (rs := [10]) (by kernel_rfl) (by simp) ?_
                      refine AllReadyH.cons rfl (fun K hK => ?_) AllReadyH.nil
                      rw [if_pos (by kernel_rfl)]
                      refine wp_store_whole (i := 10) (j := 27) rfl rfl rfl rfl HF10.out ?_
                      obtain ⟨x2, hx2⟩ : ∃ x, (x1.setCell ⟨v1.heap.size, 0, none⟩ (.bool sr)).setCell ⟨v1.heap.size, 1, none⟩ (.slice Ar nr cr) = x := ⟨_, rfl⟩
                      try rw [hx2]
                      have hy2 : Below wr.heap.size wr x2 := hx2 ▸ (hy1.setCell (p := ⟨v1.heap.size, 0, none⟩) HG8.out _).setCell (p := ⟨v1.heap.size, 1, none⟩) HG8.out _
                      have HE9 := Lib.hid (show Box2 x2 (v3.heap.size) (.bool sq) (.slice Aq nq cq) from hx2 ▸ (Box2.far HF9.out (fun h => HNE.out (h.symm)) _).far (fun h => HNE.out (h.symm)) _)
                      have HE10 := Lib.hid (show Box2 x2 (v1.heap.size) (.bool sr) (.slice Ar nr cr) from hx2 ▸ (Box2.set0 HF10.out _).set1 _)
                      have HQ2 := Lib.hid (show W3 x2 (.agg #[.bool sq, .slice Aq nq cq]) _ from hx2 ▸ HQ1.out.store2 HX10.out _ _)
                      have HR2 := Lib.hid (show W3 x2 (.agg #[.bool sr, .slice Ar nr cr]) _ from hx2 ▸ HR1.out.store2 HX10.out _ _)
                      refine hK.out _ _ (HSS.out _ hy2) (fun _ => ?_)
                      clear hK K hS hx2
                      try simp only [Act.put]
                      refine wpAnyH_done (by kernel_rfl) ?_ _
                      go_wp2_with fail
                      go_meet
                      case rel => exact ⟨_, _, sq, Aq, nq, cq, sr, Ar, nr, cr, rfl, rfl, HG7.out, HG8.out, HE9.out, HE10.out, HQ2.out, HR2.out, HAP.out, hy2⟩
                  · obtain ⟨v3, hv3⟩ : ∃ X, v2.alloc (.cells #[.bool false, .slice none 0 0] 43) = X := ⟨_, rfl⟩
                    obtain ⟨hn3, hb3⟩ := B1.of hv3
                    have HB73 := Lib.hid hn3
                    have HI73 := Lib.hid (show NoInt v3 v2.heap.size from hv3 ▸ NoInt.new _ _ _ whole_ne_int)
                    have hz3 := bel_chain hz2 hb3
                    have HG7 := Lib.hid (show wr.heap.size ≤ v2.heap.size from hz2.size)
                    have HNE := Lib.hid (show v1.heap.size ≠ v2.heap.size from fun h => by have := HB82.out.1; omega)
                    have HVO3 := Lib.hid (HVO2.out.below hb3)
                    have HB83 := Lib.hid (HB82.out.later hb3)
                    have HI83 := Lib.hid (HI82.out.later hb3)
                    go_wp2_with fail
                    try rw [hv3]
                    refine hK.out _ _ (HSS.out _ hz3) (fun hHeld => ?_)
                    clear hK K hS hn3 hv3
                    have hS := hHeld
                    clear hHeld
                    try simp only [Act.put, List.getElem_toArray, List.getElem_cons_zero, List.getElem_cons_succ, List.setIfInBounds_toArray, List.set_cons_zero, List.set_cons_succ]
                    refine wpAnyH_ready (rs := [3]) (by kernel_rfl) (by simp) ?_
                    refine AllReadyH.cons rfl (fun K hK => ?_) AllReadyH.nil
                    go_simp
                    refine (t3floor_fresh _ _ _ _ v3 (HAR.out _ hz3) (HWN.out _ hz3) HVO3.out HPP.out (by have := HNM.out; omega) (by have := HNP.out; omega)).mono ?_
                    rintro e v4 ⟨sq, Aq, nq, cq, sr, Ar, nr, cr, rfl, hvq, hvr, hb4, hfr⟩
                    have hz4 := bel_chain hz3 hb4
                    have HVQ4 := Lib.hid hvq
                    have HVR4 := Lib.hid hvr
                    have HAP := Lib.hid (show Apart gx Aq from fun p hp => by have h1 := (hfr (by omega)).1 p hp; have h2 := hz3.size; have h3 := HGX.out; omega)
                    have HB84 := Lib.hid (HB83.out.later hb4)
                    have HI84 := Lib.hid (HI83.out.later hb4)
                    have HB74 := Lib.hid (HB73.out.later hb4)
                    have HI74 := Lib.hid (HI73.out.later hb4)
                    go_wp2_with fail
                    refine hK.out _ _ (HSS.out _ hz4) (fun hHeld => ?_)
                    clear hK K hS hvq hvr hfr
                    have hS := hHeld
                    clear hHeld
                    try simp only [Act.put, List.getElem_toArray, List.getElem_cons_zero, List.getElem_cons_succ, List.setIfInBounds_toArray, List.set_cons_zero, List.set_cons_succ]
                    refine wpAnyH_take (i := 4) (v := ?_) rfl (by kernel_rfl) (by kernel_rfl) (by kernel_rfl) (fun _ _ _ h => h) (Or.inl ⟨by kernel_rfl, ?_⟩) (by assumption) ?_
                    rotate_left
                    · intro w hSw
                      try dsimp only at hSw
                      go_simp
                      try with_reducible rfl
                    try simp only [Act.put, List.getElem_toArray, List.getElem_cons_zero, List.getElem_cons_succ, List.setIfInBounds_toArray, List.set_cons_zero, List.set_cons_succ]
                    refine wpAnyH_take (i := 5) (v := ?_) rfl (by kernel_rfl) (by kernel_rfl) (by kernel_rfl) (fun _ _ _ h => h) (Or.inl ⟨by kernel_rfl, ?_⟩) (by assumption) ?_
                    rotate_left
                    · intro w hSw
                      try dsimp only at hSw
                      go_simp
                      try with_reducible rfl
                    try simp only [Act.put, List.getElem_toArray, List.getElem_cons_zero, List.getElem_cons_succ, List.setIfInBounds_toArray, List.set_cons_zero, List.set_cons_succ]
                    refine wpAnyH_take (i := 6) (v := ?_) rfl (by kernel_rfl) (by kernel_rfl) (by kernel_rfl) (fun _ _ _ h => h) (Or.inl ⟨by kernel_rfl, ?_⟩) (by assumption) ?_
                    rotate_left
                    · intro w hSw
                      try dsimp only at hSw
                      go_simp
                      try with_reducible rfl
                    try simp only [Act.put, List.getElem_toArray, List.getElem_cons_zero, List.getElem_cons_succ, List.setIfInBounds_toArray, List.set_cons_zero, List.set_cons_succ]
                    as_aux_lemma =>
                      refine wpAnyH_ready (rs := [9]) (by kernel_rfl) (by simp) ?_
                      refine AllReadyH.cons rfl (fun K hK => ?_) AllReadyH.nil
                      rw [if_pos (by kernel_rfl)]
                      refine wp_store_whole (i := 9) (j := 26) rfl rfl rfl rfl HB74.out ?_
                      obtain ⟨x1, hx1⟩ : ∃ x, (v4.setCell ⟨v2.heap.size, 0, none⟩ (.bool sq)).setCell ⟨v2.heap.size, 1, none⟩ (.slice Aq nq cq) = x := ⟨_, rfl⟩
                      try rw [hx1]
                      have hy1 : Below wr.heap.size wr x1 := hx1 ▸ (hz4.setCell (p := ⟨v2.heap.size, 0, none⟩) HG7.out _).setCell (p := ⟨v2.heap.size, 1, none⟩) HG7.out _
                      have HF9 := Lib.hid (show Box2 x1 (v2.heap.size) (.bool sq) (.slice Aq nq cq) from hx1 ▸ (Box2.set0 HB74.out _).set1 _)
                      have HF10 := Lib.hid (show Box2 x1 (v1.heap.size) (.bool false) (.slice none 0 0) from hx1 ▸ (Box2.far HB84.out (fun h => HNE.out (h)) _).far (fun h => HNE.out (h)) _)
                      have HX10 := Lib.hid (show NoInt x1 (v1.heap.size) from hx1 ▸ (HI84.out.setCell _ _).setCell _ _)
                      have HQ1 := Lib.hid (show W3 x1 (.agg #[.bool sq, .slice Aq nq cq]) _ from hx1 ▸ HVQ4.out.store2 HI74.out _ _)
                      have HR1 := Lib.hid (show W3 x1 (.agg #[.bool sr, .slice Ar nr cr]) _ from hx1 ▸ HVR4.out.store2 HI74.out _ _)
                      refine hK.out _ _ (HSS.out _ hy1) (fun hHeld => ?_)
                      clear hK K hS hx1
                      have hS := hHeld
                      clear hHeld
                      try simp only [Act.put]
                      refine wpAnyH_ready (rs := [10]) (by kernel_rfl) (by simp) ?_
                      refine AllReadyH.cons rfl (fun K hK => ?_) AllReadyH.nil
                      rw [if_pos (by kernel_rfl)]
                      refine wp_store_whole (i := 10) (j := 27) rfl rfl rfl rfl HF10.out ?_
                      obtain ⟨x2, hx2⟩ : ∃ x, (x1.setCell ⟨v1.heap.size, 0, none⟩ (.bool sr)).setCell ⟨v1.heap.size, 1, none⟩ (.slice Ar nr cr) = x := ⟨_, rfl⟩
                      try rw [hx2]
                      have hy2 : Below wr.heap.size wr x2 := hx2 ▸ (hy1.setCell (p := ⟨v1.heap.size, 0, none⟩) HG8.out _).setCell (p := ⟨v1.heap.size, 1, none⟩) HG8.out _
                      have HE9 := Lib.hid (show Box2 x2 (v2.heap.size) (.bool sq) (.slice Aq nq cq) from hx2 ▸ (Box2.far HF9.out (fun h => HNE.out (h.symm)) _).far (fun h => HNE.out (h.symm)) _)
                      have HE10 := Lib.hid (show Box2 x2 (v1.heap.size) (.bool sr) (.slice Ar nr cr) from hx2 ▸ (Box2.set0 HF10.out _).set1 _)
                      have HQ2 := Lib.hid (show W3 x2 (.agg #[.bool sq, .slice Aq nq cq]) _ from hx2 ▸ HQ1.out.store2 HX10.out _ _)
                      have HR2 := Lib.hid (show W3 x2 (.agg #[.bool sr, .slice Ar nr cr]) _ from hx2 ▸ HR1.out.store2 HX10.out _ _)
                      refine hK.out _ _ (HSS.out _ hy2) (fun _ => ?_)
                      clear hK K hS hx2
                      try simp only [Act.put]
                      refine wpAnyH_done (by kernel_rfl) ?_ _
                      go_wp2_with fail
                      go_meet
                      case rel => exact ⟨_, _, sq, Aq, nq, cq, sr, Ar, nr, cr, rfl, rfl, HG7.out, HG8.out, HE9.out, HE10.out, HQ2.out, HR2.out, HAP.out, hy2⟩
            · obtain ⟨v1, hv1⟩ : ∃ X, v0.alloc (.cells #[.bool false, .slice none 0 0] 43) = X := ⟨_, rfl⟩
              obtain ⟨hn1, hb1⟩ := B1.of hv1
              have HB71 := Lib.hid hn1
              have HI71 := Lib.hid (show NoInt v1 v0.heap.size from hv1 ▸ NoInt.new _ _ _ whole_ne_int)
              have hz1 := bel_chain hz0 hb1
              have HG7 := Lib.hid (show wr.heap.size ≤ v0.heap.size from hz0.size)
              go_wp2_with fail
              try rw [hv1]
              refine hK.out _ _ (HSS.out _ hz1) (fun hHeld => ?_)
              clear hK K hS hn1 hv1
              have hS := hHeld
              clear hHeld
              try simp only [Act.put, List.getElem_toArray, List.getElem_cons_zero, List.getElem_cons_succ, List.setIfInBounds_toArray, List.set_cons_zero, List.set_cons_succ]
              refine wpAnyH_ready (rs := [2, 8]) (by kernel_rfl) (by simp) ?_
              refine AllReadyH.cons rfl (fun K hK => ?_) (AllReadyH.cons rfl (fun K hK => ?_) AllReadyH.nil)
              · as_aux_lemma =>
                  go_simp
                  refine (HOF.out _ (HAR.out _ hz1)).mono ?_
                  rintro e v2 ⟨vo, rfl, hvo, hb2⟩
                  have hz2 := bel_chain hz1 hb2
                  obtain ⟨so, Ao, no, co, hveo, hvlo, _, _, _⟩ := hvo.parts
                  subst hveo
                  clear hvlo
                  have HVO2 := Lib.hid hvo
                  have HB72 := Lib.hid (HB71.out.later hb2)
                  have HI72 := Lib.hid (HI71.out.later hb2)
                  go_wp2_with fail
                  refine hK.out _ _ (HSS.out _ hz2) (fun hHeld => ?_)
                  clear hK K hS hvo
                  have hS := hHeld
                  clear hHeld
                  try simp only [Act.put, List.getElem_toArray, List.getElem_cons_zero, List.getElem_cons_succ, List.setIfInBounds_toArray, List.set_cons_zero, List.set_cons_succ]
                  refine wpAnyH_ready (rs := [3, 8]) (by kernel_rfl) (by simp) ?_
                  refine AllReadyH.cons rfl (fun K hK => ?_) (AllReadyH.cons rfl (fun K hK => ?_) AllReadyH.nil)
                  · go_simp
                    refine (t3floor_fresh _ _ _ _ v2 (HAR.out _ hz2) (HWN.out _ hz2) HVO2.out HPP.out (by have := HNM.out; omega) (by have := HNP.out; omega)).mono ?_
                    rintro e v3 ⟨sq, Aq, nq, cq, sr, Ar, nr, cr, rfl, hvq, hvr, hb3, hfr⟩
                    have hz3 := bel_chain hz2 hb3
                    have HVQ3 := Lib.hid hvq
                    have HVR3 := Lib.hid hvr
                    have HAP := Lib.hid (show Apart gx Aq from fun p hp => by have h1 := (hfr (by omega)).1 p hp; have h2 := hz2.size; have h3 := HGX.out; omega)
                    have HB73 := Lib.hid (HB72.out.later hb3)
                    have HI73 := Lib.hid (HI72.out.later hb3)
                    go_wp2_with fail
                    refine hK.out _ _ (HSS.out _ hz3) (fun hHeld => ?_)
                    clear hK K hS hvq hvr hfr
                    have hS := hHeld
                    clear hHeld
                    try simp only [Act.put, List.getElem_toArray, List.getElem_cons_zero, List.getElem_cons_succ, List.setIfInBounds_toArray, List.set_cons_zero, List.set_cons_succ]
                    refine wpAnyH_take (i := 4) (v := ?_) rfl (by kernel_rfl) (by kernel_rfl) (by kernel_rfl) (fun _ _ _ h => h) (Or.inl ⟨by kernel_rfl, ?_⟩) (by assumption) ?_
                    rotate_left
                    · intro w hSw
                      try dsimp only at hSw
                      go_simp
                      try with_reducible rfl
                    try simp only [Act.put, List.getElem_toArray, List.getElem_cons_zero, List.getElem_cons_succ, List.setIfInBounds_toArray, List.set_cons_zero, List.set_cons_succ]
                    refine wpAnyH_take (i := 5) (v := ?_) rfl (by kernel_rfl) (by kernel_rfl) (by kernel_rfl) (fun _ _ _ h => h) (Or.inl ⟨by kernel_rfl, ?_⟩) (by assumption) ?_
                    rotate_left
                    · intro w hSw
                      try dsimp only at hSw
                      go_simp
                      try with_reducible rfl
                    try simp only [Act.put, List.getElem_toArray, List.getElem_cons_zero, List.getElem_cons_succ, List.setIfInBounds_toArray, List.set_cons_zero, List.set_cons_succ]
                    refine wpAnyH_take (i := 6) (v := ?_) rfl (by kernel_rfl) (by kernel_rfl) (by kernel_rfl) (fun _ _ _ h => h) (Or.inl ⟨by kernel_rfl, ?_⟩) (by assumption) ?_
                    rotate_left
                    · intro w hSw
                      try dsimp only at hSw
                      go_simp
                      try with_reducible rfl
                    try simp only [Act.put, List.getElem_toArray, List.getElem_cons_zero, List.getElem_cons_succ, List.setIfInBounds_toArray, List.set_cons_zero, List.set_cons_succ]
                    refine wpAnyH_ready (rs := [8]) (by kernel_rfl) (by simp) ?_
                    refine AllReadyH.cons rfl (fun K hK => ?_) AllReadyH.nil
                    obtain ⟨v4, hv4⟩ : ∃ X, v3.alloc (.cells #[.bool false, .slice none 0 0] 43) = X := ⟨_, rfl⟩
                    obtain ⟨hn4, hb4⟩ := B1.of hv4
                    have HB84 := Lib.hid hn4
                    have HI84 := Lib.hid (show NoInt v4 v3.heap.size from hv4 ▸ NoInt.new _ _ _ whole_ne_int)
                    have hz4 := bel_chain hz3 hb4
                    have HG8 := Lib.hid (show wr.heap.size ≤ v3.heap.size from hz3.size)
                    have HNE := Lib.hid (show v0.heap.size ≠ v3.heap.size from fun h => by have := HB73.out.1; omega)
                    have HB74 := Lib.hid (HB73.out.later hb4)
                    have HI74 := Lib.hid (HI73.out.later hb4)
                    have HVQ4 := Lib.hid (HVQ3.out.below hb4)
                    have HVR4 := Lib.hid (HVR3.out.below hb4)
                    go_wp2_with fail
                    try rw [hv4]
                    refine hK.out _ _ (HSS.out _ hz4) (fun hHeld => ?_)
                    clear hK K hS hn4 hv4
                    have hS := hHeld
                    clear hHeld
                    try simp only [Act.put, List.getElem_toArray, List.getElem_cons_zero, List.getElem_cons_succ, List.setIfInBounds_toArray, List.set_cons_zero, List.set_cons_succ]
                    as_aux_lemma =>
                      refine wpAnyH_ready (rs := [9]) (by kernel_rfl) (by simp) ?_
                      refine AllReadyH.cons rfl (fun K hK => ?_) AllReadyH.nil
                      rw [if_pos (by kernel_rfl)]
                      refine wp_store_whole (i := 9) (j := 26) rfl rfl rfl rfl HB74.out ?_
                      obtain ⟨x1, hx1⟩ : ∃ x, (v4.setCell ⟨v0.heap.size, 0, none⟩ (.bool sq)).setCell ⟨v0.heap.size, 1, none⟩ (.slice Aq nq cq) = x := ⟨_, rfl⟩
                      try rw [hx1]
                      have hy1 : Below wr.heap.size wr x1 := hx1 ▸ (hz4.setCell (p := ⟨v0.heap.size, 0, none⟩) HG7.out _).setCell (p := ⟨v0.heap.size, 1, none⟩) HG7.out _
                      have HF9 := Lib.hid (show Box2 x1 (v0.heap.size) (.bool sq) (.slice Aq nq cq) from hx1 ▸ (Box2.set0 HB74.out _).set1 _)
                      have HF10 := Lib.hid (show Box2 x1 (v3.heap.size) (.bool false) (.slice none 0 0) from hx1 ▸ (Box2.far HB84.out (fun h => HNE.out (h.symm)) _).far (fun h => HNE.out (h.symm)) _)
                      have HX10 := Lib.hid (show NoInt x1 (v3.heap.size) from hx1 ▸ (HI84.out.setCell _ _).setCell _ _)
                      have HQ1 := Lib.hid (show W3 x1 (.agg #[.bool sq, .slice Aq nq cq]) _ from hx1 ▸ HVQ4.out.store2 HI74.out _ _)
                      have HR1 := Lib.hid (show W3 x1 (.agg #[.bool sr, .slice Ar nr cr]) _ from hx1 ▸ HVR4.out.store2 HI74.out _ _)
                      refine hK.out _ _ (HSS.out _ hy1) (fun hHeld => ?_)
                      clear hK K hS hx1
                      have hS := hHeld
                      clear hHeld
                      try simp only [Act.put]
                      refine wpAnyH_ready (rs := [10]) (by kernel_rfl) (by simp) ?_
                      refine AllReadyH.cons rfl (fun K hK => ?_) AllReadyH.nil
                      rw [if_pos (by kernel_rfl)]
                      refine wp_store_whole (i := 10) (j := 27) rfl rfl rfl rfl HF10.out ?_
                      obtain ⟨x2, hx2⟩ : ∃ x, (x1.setCell ⟨v3.heap.size, 0, none⟩ (.bool sr)).setCell ⟨v3.heap.size, 1, none⟩ (.slice Ar nr cr) = x := ⟨_, rfl⟩
                      try rw [hx2]
                      have hy2 : Below wr.heap.size wr x2 := hx2 ▸ (hy1.setCell (p := ⟨v3.heap.size, 0, none⟩) HG8.out _).setCell (p := ⟨v3.heap.size, 1, none⟩) HG8.out _
                      have HE9 := Lib.hid (show Box2 x2 (v0.heap.size) (.bool sq) (.slice Aq nq cq) from hx2 ▸ (Box2.far HF9.out (fun h => HNE.out (h)) _).far (fun h => HNE.out (h)) _)
                      have HE10 := Lib.hid (show Box2 x2 (v3.heap.size) (.bool sr) (.slice Ar nr cr) from hx2 ▸ (Box2.set0 HF10.out _).set1 _)
                      have HQ2 := Lib.hid (show W3 x2 (.agg #[.bool sq, .slice Aq nq cq]) _ from hx2 ▸ HQ1.out.store2 HX10.out _ _)
                      have HR2 := Lib.hid (show W3 x2 (.agg #[.bool sr, .slice Ar nr cr]) _ from hx2 ▸ HR1.out.store2 HX10.out _ _)
                      refine hK.out _ _ (HSS.out _ hy2) (fun _ => ?_)
                      clear hK K hS hx2
                      try simp only [Act.put]
                      refine wpAnyH_done (by kernel_rfl) ?_ _
                      go_wp2_with fail
                      go_meet
                      case rel => exact ⟨_, _, sq, Aq, nq, cq, sr, Ar, nr, cr, rfl, rfl, HG7.out, HG8.out, HE9.out, HE10.out, HQ2.out, HR2.out, HAP.out, hy2⟩
                  · obtain ⟨v3, hv3⟩ : ∃ X, v2.alloc (.cells #[.bool false, .slice none 0 0] 43) = X := ⟨_, rfl⟩
                    obtain ⟨hn3, hb3⟩ := B1.of hv3
                    have HB83 := Lib.hid hn3
                    have HI83 := Lib.hid (show NoInt v3 v2.heap.size from hv3 ▸ NoInt.new _ _ _ whole_ne_int)
                    have hz3 := bel_chain hz2 hb3
                    have HG8 := Lib.hid (show wr.heap.size ≤ v2.heap.size from hz2.size)
                    have HNE := Lib.hid (show v0.heap.size ≠ v2.heap.size from fun h => by have := HB72.out.1; omega)
                    have HB73 := Lib.hid (HB72.out.later hb3)
                    have HI73 := Lib.hid (HI72.out.later hb3)
                    have HVO3 := Lib.hid (HVO2.out.below hb3)
                    go_wp2_with fail
                    try rw [hv3]
                    refine hK.out _ _ (HSS.out _ hz3) (fun hHeld => ?_)
                    clear hK K hS hn3 hv3
                    have hS := hHeld
                    clear hHeld
                    try simp only [Act.put, List.getElem_toArray, List.getElem_cons_zero, List.getElem_cons_succ, List.setIfInBounds_toArray, List.set_cons_zero, List.set_cons_succ]
                    refine wpAnyH_ready (rs := [3]) (by kernel_rfl) (by simp) ?_
                    refine AllReadyH.cons rfl (fun K hK => ?_) AllReadyH.nil
                    go_simp
                    refine (t3floor_fresh _ _ _ _ v3 (HAR.out _ hz3) (HWN.out _ hz3) HVO3.out HPP.out (by have := HNM.out; omega) (by have := HNP.out; omega)).mono ?_
                    rintro e v4 ⟨sq, Aq, nq, cq, sr, Ar, nr, cr, rfl, hvq, hvr, hb4, hfr⟩
                    have hz4 := bel_chain hz3 hb4
                    have HVQ4 := Lib.hid hvq
                    have HVR4 := Lib.hid hvr
                    have HAP := Lib.hid (show Apart gx Aq from fun p hp => by have h1 := (hfr (by omega)).1 p hp; have h2 := hz3.size; have h3 := HGX.out; omega)
                    have HB74 := Lib.hid (HB73.out.later hb4)
                    have HI74 := Lib.hid (HI73.out.later hb4)
                    have HB84 := Lib.hid (HB83.out.later hb4)
                    have HI84 := Lib.hid (HI83.out.later hb4)
                    go_wp2_with fail
                    refine hK.out _ _ (HSS.out _ hz4) (fun hHeld => ?_)
                    clear hK K hS hvq hvr hfr
                    have hS := hHeld
                    clear hHeld
                    try simp only [Act.put, List.getElem_toArray, List.getElem_cons_zero, List.getElem_cons_succ, List.setIfInBounds_toArray, List.set_cons_zero, List.set_cons_succ]
                    refine wpAnyH_take (i := 4) (v := ?_) rfl (by kernel_rfl) (by kernel_rfl) (by kernel_rfl) (fun _ _ _ h => h) (Or.inl ⟨by kernel_rfl, ?_⟩) (by assumption) ?_
                    rotate_left
                    · intro w hSw
                      try dsimp only at hSw
                      go_simp
                      try with_reducible rfl
                    try simp only [Act.put, List.getElem_toArray, List.getElem_cons_zero, List.getElem_cons_succ, List.setIfInBounds_toArray, List.set_cons_zero, List.set_cons_succ]
                    refine wpAnyH_take (i := 5) (v := ?_) rfl (by kernel_rfl) (by kernel_rfl) (by kernel_rfl) (fun _ _ _ h => h) (Or.inl ⟨by kernel_rfl, ?_⟩) (by assumption) ?_
                    rotate_left
                    · intro w hSw
                      try dsimp only at hSw
                      go_simp
                      try with_reducible rfl
                    try simp only [Act.put, List.getElem_toArray, List.getElem_cons_zero, List.getElem_cons_succ, List.setIfInBounds_toArray, List.set_cons_zero, List.set_cons_succ]
                    refine wpAnyH_take (i := 6) (v := ?_) rfl (by kernel_rfl) (by kernel_rfl) (by kernel_rfl) (fun _ _ _ h => h) (Or.inl ⟨by kernel_rfl, ?_⟩) (by assumption) ?_
                    rotate_left
                    · intro w hSw
                      try dsimp only at hSw
                      go_simp
                      try with_reducible rfl
                    try simp only [Act.put, List.getElem_toArray, List.getElem_cons_zero, List.getElem_cons_succ, List.setIfInBounds_toArray, List.set_cons_zero, List.set_cons_succ]
                    as_aux_lemma =>
                      refine wpAnyH_ready (rs := [9]) (by kernel_rfl) (by simp) ?_
                      refine AllReadyH.cons rfl (fun K hK => ?_) AllReadyH.nil
                      rw [if_pos (by kernel_rfl)]
                      refine wp_store_whole (i := 9) (j := 26) rfl rfl rfl rfl HB74.out ?_
                      obtain ⟨x1, hx1⟩ : ∃ x, (v4.setCell ⟨v0.heap.size, 0, none⟩ (.bool sq)).setCell ⟨v0.heap.size, 1, none⟩ (.slice Aq nq cq) = x := ⟨_, rfl⟩
                      try rw [hx1]
                      have hy1 : Below wr.heap.size wr x1 := hx1 ▸ (hz4.setCell (p := ⟨v0.heap.size, 0, none⟩) HG7.out _).setCell (p := ⟨v0.heap.size, 1, none⟩) HG7.out _
                      have HF9 := Lib.hid (show Box2 x1 (v0.heap.size) (.bool sq) (.slice Aq nq cq) from hx1 ▸ (Box2.set0 HB74.out _).set1 _)
                      have HF10 := Lib.hid (show Box2 x1 (v2.heap.size) (.bool false) (.slice none 0 0) from hx1 ▸ (Box2.far HB84.out (fun h => HNE.out (h.symm)) _).far (fun h => HNE.out (h.symm)) _)
                      have HX10 := Lib.hid (show NoInt x1 (v2.heap.size) from hx1 ▸ (HI84.out.setCell _ _).setCell _ _)
                      have HQ1 := Lib.hid (show W3 x1 (.agg #[.bool sq, .slice Aq nq cq]) _ from hx1 ▸ HVQ4.out.store2 HI74.out _ _)
                      have HR1 := Lib.hid (show W3 x1 (.agg #[.bool sr, .slice Ar nr cr]) _ from hx1 ▸ HVR4.out.store2 HI74.out _ _)
                      refine hK.out _ _ (HSS.out _ hy1) (fun hHeld => ?_)
                      clear hK K hS hx1
                      have hS := hHeld
                      clear hHeld
                      try simp only [Act.put]
                      refine wpAnyH_ready (rs := [10]) (by kernel_rfl) (by simp) ?_
                      refine AllReadyH.cons rfl (fun K hK => ?_) AllReadyH.nil
                      rw [if_pos (by kernel_rfl)]
                      refine wp_store_whole (i := 10) (j := 27) rfl rfl rfl rfl HF10.out ?_
                      obtain ⟨x2, hx2⟩ : ∃ x, (x1.setCell ⟨v2.heap.size, 0, none⟩ (.bool sr)).setCell ⟨v2.heap.size, 1, none⟩ (.slice Ar nr cr) = x := ⟨_, rfl⟩
                      try rw [hx2]
                      have hy2 : Below wr.heap.size wr x2 := hx2 ▸ (hy1.setCell (p := ⟨v2.heap.size, 0, none⟩) HG8.out _).setCell (p := ⟨v2.heap.size, 1, none⟩) HG8.out _
                      have HE9 := Lib.hid (show Box2 x2 (v0.heap.size) (.bool sq) (.slice Aq nq cq) from hx2 ▸ (Box2.far HF9.out (fun h => HNE.out (h)) _).far (fun h => HNE.out (h)) _)
                      have HE10 := Lib.hid (show Box2 x2 (v2.heap.size) (.bool sr) (.slice Ar nr cr) from hx2 ▸ (Box2.set0 HF10.out _).set1 _)
                      have HQ2 := Lib.hid (show W3 x2 (.agg #[.bool sq, .slice Aq nq cq]) _ from hx2 ▸ HQ1.out.store2 HX10.out _ _)
                      have HR2 := Lib.hid (show W3 x2 (.agg #[.bool sr, .slice Ar nr cr]) _ from hx2 ▸ HR1.out.store2 HX10.out _ _)
                      refine hK.out _ _ (HSS.out _ hy2) (fun _ => ?_)
                      clear hK K hS hx2
                      try simp only [Act.put]
                      refine wpAnyH_done (by kernel_rfl) ?_ _
                      go_wp2_with fail
                      go_meet
                      case rel => exact ⟨_, _, sq, Aq, nq, cq, sr, Ar, nr, cr, rfl, rfl, HG7.out, HG8.out, HE9.out, HE10.out, HQ2.out, HR2.out, HAP.out, hy2⟩
              · as_aux_lemma =>
                  obtain ⟨v2, hv2⟩ : ∃ X, v1.alloc (.cells #[.bool false, .slice none 0 0] 43) = X := ⟨_, rfl⟩
                  obtain ⟨hn2, hb2⟩ := B1.of hv2
                  have HB82 := Lib.hid hn2
                  have HI82 := Lib.hid (show NoInt v2 v1.heap.size from hv2 ▸ NoInt.new _ _ _ whole_ne_int)
                  have hz2 := bel_chain hz1 hb2
                  have HG8 := Lib.hid (show wr.heap.size ≤ v1.heap.size from hz1.size)
                  have HNE := Lib.hid (show v0.heap.size ≠ v1.heap.size from fun h => by have := HB71.out.1; omega)
                  have HB72 := Lib.hid (HB71.out.later hb2)
                  have HI72 := Lib.hid (HI71.out.later hb2)
                  go_wp2_with fail
                  try rw [hv2]
                  refine hK.out _ _ (HSS.out _ hz2) (fun hHeld => ?_)
                  clear hK K hS hn2 hv2
                  have hS := hHeld
                  clear hHeld
                  try simp only [Act.put, List.getElem_toArray, List.getElem_cons_zero, List.getElem_cons_succ, List.setIfInBounds_toArray, List.set_cons_zero, List.set_cons_succ]
                  refine wpAnyH_ready (rs := [2]) (by kernel_rfl) (by simp) ?_
                  refine AllReadyH.cons rfl (fun K hK => ?_) AllReadyH.nil
                  go_simp
                  refine (HOF.out _ (HAR.out _ hz2)).mono ?_
                  rintro e v3 ⟨vo, rfl, hvo, hb3⟩
                  have hz3 := bel_chain hz2 hb3
                  obtain ⟨so, Ao, no, co, hveo, hvlo, _, _, _⟩ := hvo.parts
                  subst hveo
                  clear hvlo
                  have HVO3 := Lib.hid hvo
                  have HB73 := Lib.hid (HB72.out.later hb3)
                  have HI73 := Lib.hid (HI72.out.later hb3)
                  have HB83 := Lib.hid (HB82.out.later hb3)
                  have HI83 := Lib.hid (HI82.out.later hb3)
                  go_wp2_with fail
                  refine hK.out _ _ (HSS.out _ hz3) (fun hHeld => ?_)
                  clear hK K hS hvo
                  have hS := hHeld
                  clear hHeld
                  try simp only [Act.put, List.getElem_toArray, List.getElem_cons_zero, List.getElem_cons_succ, List.setIfInBounds_toArray, List.set_cons_zero, List.set_cons_succ]
                  refine wpAnyH_ready (rs := [3]) (by kernel_rfl) (by simp) ?_
                  refine AllReadyH.cons rfl (fun K hK => ?_) AllReadyH.nil
                  go_simp
                  refine (t3floor_fresh _ _ _ _ v3 (HAR.out _ hz3) (HWN.out _ hz3) HVO3.out HPP.out (by have := HNM.out; omega) (by have := HNP.out; omega)).mono ?_
                  rintro e v4 ⟨sq, Aq, nq, cq, sr, Ar, nr, cr, rfl, hvq, hvr, hb4, hfr⟩
                  have hz4 := bel_chain hz3 hb4
                  have HVQ4 := Lib.hid hvq
                  have HVR4 := Lib.hid hvr
                  have HAP := Lib.hid (show Apart gx Aq from fun p hp => by have h1 := (hfr (by omega)).1 p hp; have h2 := hz3.size; have h3 := HGX.out; omega)
                  have HB74 := Lib.hid (HB73.out.later hb4)
                  have HI74 := Lib.hid (HI73.out.later hb4)
                  have HB84 := Lib.hid (HB83.out.later hb4)
                  have HI84 := Lib.hid (HI83.out.later hb4)
                  go_wp2_with fail
                  refine hK.out _ _ (HSS.out _ hz4) (fun hHeld => ?_)
                  clear hK K hS hvq hvr hfr
                  have hS := hHeld
                  clear hHeld
                  try simp only [Act.put, List.getElem_toArray, List.getElem_cons_zero, List.getElem_cons_succ, List.setIfInBounds_toArray, List.set_cons_zero, List.set_cons_succ]
                  refine wpAnyH_take (i := 4) (v := ?_) rfl (by kernel_rfl) (by kernel_rfl) (by kernel_rfl) (fun _ _ _ h => h) (Or.inl ⟨by kernel_rfl, ?_⟩) (by assumption) ?_
                  rotate_left
                  · intro w hSw
                    try dsimp only at hSw
                    go_simp
                    try with_reducible rfl
                  try simp only [Act.put, List.getElem_toArray, List.getElem_cons_zero, List.getElem_cons_succ, List.setIfInBounds_toArray, List.set_cons_zero, List.set_cons_succ]
                  refine wpAnyH_take (i := 5) (v := ?_) rfl (by kernel_rfl) (by kernel_rfl) (by kernel_rfl) (fun _ _ _ h => h) (Or.inl ⟨by kernel_rfl, ?_⟩) (by assumption) ?_
                  rotate_left
                  · intro w hSw
                    try dsimp only at hSw
                    go_simp
                    try with_reducible rfl
                  try simp only [Act.put, List.getElem_toArray, List.getElem_cons_zero, List.getElem_cons_succ, List.setIfInBounds_toArray, List.set_cons_zero, List.set_cons_succ]
                  refine wpAnyH_take (i := 6) (v := ?_) rfl (by kernel_rfl) (by kernel_rfl) (by kernel_rfl) (fun _ _ _ h => h) (Or.inl ⟨by kernel_rfl, ?_⟩) (by assumption) ?_
                  rotate_left
                  · intro w hSw
                    try dsimp only at hSw
                    go_simp
                    try with_reducible rfl
                  try simp only [Act.put, List.getElem_toArray, List.getElem_cons_zero, List.getElem_cons_succ, List.setIfInBounds_toArray, List.set_cons_zero, List.set_cons_succ]
                  as_aux_lemma =>
                    refine wpAnyH_ready (rs := [9]) (by kernel_rfl) (by simp) ?_
                    refine AllReadyH.cons rfl (fun K hK => ?_) AllReadyH.nil
                    rw [if_pos (by kernel_rfl)]
                    refine wp_store_whole (i := 9) (j := 26) rfl rfl rfl rfl HB74.out ?_
                    obtain ⟨x1, hx1⟩ : ∃ x, (v4.setCell ⟨v0.heap.size, 0, none⟩ (.bool sq)).setCell ⟨v0.heap.size, 1, none⟩ (.slice Aq nq cq) = x := ⟨_, rfl⟩
                    try rw [hx1]
                    have hy1 : Below wr.heap.size wr x1 := hx1 ▸ (hz4.setCell (p := ⟨v0.heap.size, 0, none⟩) HG7.out _).setCell (p := ⟨v0.heap.size, 1, none⟩) HG7.out _
                    have HF9 := Lib.hid (show Box2 x1 (v0.heap.size) (.bool sq) (.slice Aq nq cq) from hx1 ▸ (Box2.set0 HB74.out _).set1 _)
                    have HF10 := Lib.hid (show Box2 x1 (v1.heap.size) (.bool false) (.slice none 0 0) from hx1 ▸ (Box2.far HB84.out (fun h => HNE.out (h.symm)) _).far (fun h => HNE.out (h.symm)) _)
                    have HX10 := Lib.hid (show NoInt x1 (v1.heap.size) from hx1 ▸ (HI84.out.setCell _ _).setCell _ _)
                    have HQ1 := Lib.hid (show W3 x1 (.agg #[.bool sq, .slice Aq nq cq]) _ from hx1 ▸ HVQ4.out.store2 HI74.out _ _)
                    have HR1 := Lib.hid (show W3 x1 (.agg #[.bool sr, .slice Ar nr cr]) _ from hx1 ▸ HVR4.out.store2 HI74.out _ _)
                    refine hK.out _ _ (HSS.out _ hy1) (fun hHeld => ?_)
                    clear hK K hS hx1
                    have hS := hHeld
                    clear hHeld
                    try simp only [Act.put]
                    refine wpAnyH_ready (rs := [10]) (by kernel_rfl) (by simp) ?_
                    refine AllReadyH.cons rfl (fun K hK => ?_) AllReadyH.nil
                    rw [if_pos (by kernel_rfl)]
                    refine wp_store_whole (i := 10) (j := 27) rfl rfl rfl rfl HF10.out ?_
                    obtain ⟨x2, hx2⟩ : ∃ x, (x1.setCell ⟨v1.heap.size, 0, none⟩ (.bool sr)).setCell ⟨v1.heap.size, 1, none⟩ (.slice Ar nr cr) = x := ⟨_, rfl⟩
                    try rw [hx2]
                    have hy2 : Below wr.heap.size wr x2 := hx2 ▸ (hy1.setCell (p := ⟨v1.heap.size, 0, none⟩) HG8.out _).setCell (p := ⟨v1.heap.size, 1, none⟩) HG8.out _
                    have HE9 := Lib.hid (show Box2 x2 (v0.heap.size) (.bool sq) (.slice Aq nq cq) from hx2 ▸ (Box2.far HF9.out (fun h => HNE.out (h)) _).far (fun h => HNE.out (h)) _)
                    have HE10 := Lib.hid (show Box2 x2 (v1.heap.size) (.bool sr) (.slice Ar nr cr) from hx2 ▸ (Box2.set0 HF10.out _).set1 _)
                    have HQ2 := Lib.hid (show W3 x2 (.agg #[.bool sq, .slice Aq nq cq]) _ from hx2 ▸ HQ1.out.store2 HX10.out _ _)
                    have HR2 := Lib.hid (show W3 x2 (.agg #[.bool sr, .slice Ar nr cr]) _ from hx2 ▸ HR1.out.store2 HX10.out _ _)
                    refine hK.out _ _ (HSS.out _ hy2) (fun _ => ?_)
                    clear hK K hS hx2
                    try simp only [Act.put]
                    refine wpAnyH_done (by kernel_rfl) ?_ _
                    go_wp2_with fail
                    go_meet
                    case rel => exact ⟨_, _, sq, Aq, nq, cq, sr, Ar, nr, cr, rfl, rfl, HG7.out, HG8.out, HE9.out, HE10.out, HQ2.out, HR2.out, HAP.out, hy2⟩
            · obtain ⟨v1, hv1⟩ : ∃ X, v0.alloc (.cells #[.bool false, .slice none 0 0] 43) = X := ⟨_, rfl⟩
              obtain ⟨hn1, hb1⟩ := B1.of hv1
              have HB81 := Lib.hid hn1
              have HI81 := Lib.hid (show NoInt v1 v0.heap.size from hv1 ▸ NoInt.new _ _ _ whole_ne_int)
              have hz1 := bel_chain hz0 hb1
              have HG8 := Lib.hid (show wr.heap.size ≤ v0.heap.size from hz0.size)
              go_wp2_with fail
              try rw [hv1]
              refine hK.out _ _ (HSS.out _ hz1) (fun hHeld => ?_)
              clear hK K hS hn1 hv1
              have hS := hHeld
              clear hHeld
              try simp only [Act.put, List.getElem_toArray, List.getElem_cons_zero, List.getElem_cons_succ, List.setIfInBounds_toArray, List.set_cons_zero, List.set_cons_succ]
              refine wpAnyH_ready (rs := [2, 7]) (by kernel_rfl) (by simp) ?_
              refine AllReadyH.cons rfl (fun K hK => ?_) (AllReadyH.cons rfl (fun K hK => ?_) AllReadyH.nil)
              · as_aux_lemma =>
                  go_simp
                  refine (HOF.out _ (HAR.out _ hz1)).mono ?_
                  rintro e v2 ⟨vo, rfl, hvo, hb2⟩
                  have hz2 := bel_chain hz1 hb2
                  obtain ⟨so, Ao, no, co, hveo, hvlo, _, _, _⟩ := hvo.parts
                  subst hveo
                  clear hvlo
                  have HVO2 := Lib.hid hvo
                  have HB82 := Lib.hid (HB81.out.later hb2)
                  have HI82 := Lib.hid (HI81.out.later hb2)
                  go_wp2_with fail
                  refine hK.out _ _ (HSS.out _ hz2) (fun hHeld => ?_)
                  clear hK K hS hvo
                  have hS := hHeld
                  clear hHeld
                  try simp only [Act.put, List.getElem_toArray, List.getElem_cons_zero, List.getElem_cons_succ, List.setIfInBounds_toArray, List.set_cons_zero, List.set_cons_succ]
                  refine wpAnyH_ready (rs := [3, 7]) (by kernel_rfl) (by simp) ?_
                  refine AllReadyH.cons rfl (fun K hK => ?_) (AllReadyH.cons rfl (fun K hK => ?_) AllReadyH.nil)
                  · go_simp
                    refine (t3floor_fresh _ _ _ _ v2 (HAR.out _ hz2) (HWN.out _ hz2) HVO2.out HPP.out (by have := HNM.out; omega) (by have := HNP.out; omega)).mono ?_
                    rintro e v3 ⟨sq, Aq, nq, cq, sr, Ar, nr, cr, rfl, hvq, hvr, hb3, hfr⟩
                    have hz3 := bel_chain hz2 hb3
                    have HVQ3 := Lib.hid hvq
                    have HVR3 := Lib.hid hvr
                    have HAP := Lib.hid (show Apart gx Aq from fun p hp => by have h1 := (hfr (by omega)).1 p hp; have h2 := hz2.size; have h3 := HGX.out; omega)
                    have HB83 := Lib.hid (HB82.out.later hb3)
                    have HI83 := Lib.hid (HI82.out.later hb3)
                    go_wp2_with fail
                    refine hK.out _ _ (HSS.out _ hz3) (fun hHeld => ?_)
                    clear hK K hS hvq hvr hfr
                    have hS := hHeld
                    clear hHeld
                    try simp only [Act.put, List.getElem_toArray, List.getElem_cons_zero, List.getElem_cons_succ, List.setIfInBounds_toArray, List.set_cons_zero, List.set_cons_succ]
                    refine wpAnyH_take (i := 4) (v := ?_) rfl (by kernel_rfl) (by kernel_rfl) (by kernel_rfl) (fun _ _ _ h => h) (Or.inl ⟨by kernel_rfl, ?_⟩) (by assumption) ?_
                    rotate_left
                    · intro w hSw
                      try dsimp only at hSw
                      go_simp
                      try with_reducible rfl
                    try simp only [Act.put, List.getElem_toArray, List.getElem_cons_zero, List.getElem_cons_succ, List.setIfInBounds_toArray, List.set_cons_zero, List.set_cons_succ]
                    refine wpAnyH_take (i := 5) (v := ?_) rfl (by kernel_rfl) (by kernel_rfl) (by kernel_rfl) (fun _ _ _ h => h) (Or.inl ⟨by kernel_rfl, ?_⟩) (by assumption) ?_
                    rotate_left
                    · intro w hSw
                      try dsimp only at hSw
                      go_simp
                      try with_reducible rfl
                    try simp only [Act.put, List.getElem_toArray, List.getElem_cons_zero, List.getElem_cons_succ, List.setIfInBounds_toArray, List.set_cons_zero, List.set_cons_succ]
                    refine wpAnyH_take (i := 6) (v := ?_) rfl (by kernel_rfl) (by kernel_rfl) (by kernel_rfl) (fun _ _ _ h => h) (Or.inl ⟨by kernel_rfl, ?_⟩) (by assumption) ?_
                    rotate_left
                    · intro w hSw
                      try dsimp only at hSw
                      go_simp
                      try with_reducible rfl
                    try simp only [Act.put, List.getElem_toArray, List.getElem_cons_zero, List.getElem_cons_succ, List.setIfInBounds_toArray, List.set_cons_zero, List.set_cons_succ]
                    refine wpAnyH_ready (rs := [7]) (by kernel_rfl) (by simp) ?_
                    refine AllReadyH.cons rfl (fun K hK => ?_) AllReadyH.nil
                    obtain ⟨v4, hv4⟩ : ∃ X, v3.alloc (.cells #[.bool false, .slice none 0 0] 43) = X := ⟨_, rfl⟩
                    obtain ⟨hn4, hb4⟩ := B1.of hv4
                    have HB74 := Lib.hid hn4
                    have HI74 := Lib.hid (show NoInt v4 v3.heap.size from hv4 ▸ NoInt.new _ _ _ whole_ne_int)
                    have hz4 := bel_chain hz3 hb4
                    have HG7 := Lib.hid (show wr.heap.size ≤ v3.heap.size from hz3.size)
                    have HNE := Lib.hid (show v0.heap.size ≠ v3.heap.size from fun h => by have := HB83.out.1; omega)
                    have HB84 := Lib.hid (HB83.out.later hb4)
                    have HI84 := Lib.hid (HI83.out.later hb4)
                    have HVQ4 := Lib.hid (HVQ3.out.below hb4)
                    have HVR4 := Lib.hid (HVR3.out.below hb4)
                    go_wp2_with fail
                    try rw [hv4]
                    refine hK.out _ _ (HSS.out _ hz4) (fun hHeld => ?_)
                    clear hK K hS hn4 hv4
                    have hS := hHeld
                    clear hHeld
                    try simp only [Act.put, List.getElem_toArray, List.getElem_cons_zero, List.getElem_cons_succ, List.setIfInBounds_toArray, List.set_cons_zero, List.set_cons_succ]
                    as_aux_lemma =>
                      refine wpAnyH_ready (rs := [9]) (by kernel_rfl) (by simp) ?_
                      refine AllReadyH.cons rfl (fun K hK => ?_) AllReadyH.nil
                      rw [if_pos (by kernel_rfl)]
                      refine wp_store_whole (i := 9) (j := 26) rfl rfl rfl rfl HB74.out ?_
                      obtain ⟨x1, hx1⟩ : ∃ x, (v4.setCell ⟨v3.heap.size, 0, none⟩ (.bool sq)).setCell ⟨v3.heap.size, 1, none⟩ (.slice Aq nq cq) = x := ⟨_, rfl⟩
                      try rw [hx1]
                      have hy1 : Below wr.heap.size wr x1 := hx1 ▸ (hz4.setCell (p := ⟨v3.heap.size, 0, none⟩) HG7.out _).setCell (p := ⟨v3.heap.size, 1, none⟩) HG7.out _
                      have HF9 := Lib.hid (show Box2 x1 (v3.heap.size) (.bool sq) (.slice Aq nq cq) from hx1 ▸ (Box2.set0 HB74.out _).set1 _)
                      have HF10 := Lib.hid (show Box2 x1 (v0.heap.size) (.bool false) (.slice none 0 0) from hx1 ▸ (Box2.far HB84.out (fun h => HNE.out (h)) _).far (fun h => HNE.out (h)) _)
                      have HX10 := Lib.hid (show NoInt x1 (v0.heap.size) from hx1 ▸ (HI84.out.setCell _ _).setCell _ _)
                      have HQ1 := Lib.hid (show W3 x1 (.agg #[.bool sq, .slice Aq nq cq]) _ from hx1 ▸ HVQ4.out.store2 HI74.out _ _)
                      have HR1 := Lib.hid (show W3 x1 (.agg #[.bool sr, .slice Ar nr cr]) _ from hx1 ▸ HVR4.out.store2 HI74.out _ _)
                      refine hK.out _ _ (HSS.out _ hy1) (fun hHeld => ?_)
                      clear hK K hS hx1
                      have hS := hHeld
                      clear hHeld
                      try simp only [Act.put]
                      refine wpAnyH_ready (rs := [10]) (by kernel_rfl) (by simp) ?_
                      refine AllReadyH.cons rfl (fun K hK => ?_) AllReadyH.nil
                      rw [if_pos (by kernel_rfl)]
                      refine wp_store_whole (i := 10) (j := 27) rfl rfl rfl rfl HF10.out ?_
                      obtain ⟨x2, hx2⟩ : ∃ x, (x1.setCell ⟨v0.heap.size, 0, none⟩ (.bool sr)).setCell ⟨v0.heap.size, 1, none⟩ (.slice Ar nr cr) = x := ⟨_, rfl⟩
                      try rw [hx2]
                      have hy2 : Below wr.heap.size wr x2 := hx2 ▸ (hy1.setCell (p := ⟨v0.heap.size, 0, none⟩) HG8.out _).setCell (p := ⟨v0.heap.size, 1, none⟩) HG8.out _
                      have HE9 := Lib.hid (show Box2 x2 (v3.heap.size) (.bool sq) (.slice Aq nq cq) from hx2 ▸ (Box2.far HF9.out (fun h => HNE.out (h.symm)) _).far (fun h => HNE.out (h.symm)) _)
                      have HE10 := Lib.hid (show Box2 x2 (v0.heap.size) (.bool sr) (.slice Ar nr cr) from hx2 ▸ (Box2.set0 HF10.out _).set1 _)
                      have HQ2 := Lib.hid (show W3 x2 (.agg #[.bool sq, .slice Aq nq cq]) _ from hx2 ▸ HQ1.out.store2 HX10.out _ _)
                      have HR2 := Lib.hid (show W3 x2 (.agg #[.bool sr, .slice Ar nr cr]) _ from hx2 ▸ HR1.out.store2 HX10.out _ _)
                      refine hK.out _ _ (HSS.out _ hy2) (fun _ => ?_)
                      clear hK K hS hx2
                      try simp only [Act.put]
                      refine wpAnyH_done (by kernel_rfl) ?_ _
                      go_wp2_with fail
                      go_meet
                      case rel => exact ⟨_, _, sq, Aq, nq, cq, sr, Ar, nr, cr, rfl, rfl, HG7.out, HG8.out, HE9.out, HE10.out, HQ2.out, HR2.out, HAP.out, hy2⟩
                  · obtain ⟨v3, hv3⟩ : ∃ X, v2.alloc (.cells #[.bool false, .slice none 0 0] 43) = X := ⟨_, rfl⟩
                    obtain ⟨hn3, hb3⟩ := B1.of hv3
                    have HB73 := Lib.hid hn3
                    have HI73 := Lib.hid (show NoInt v3 v2.heap.size from hv3 ▸ NoInt.new _ _ _ whole_ne_int)
                    have hz3 := bel_chain hz2 hb3
                    have HG7 := Lib.hid (show wr.heap.size ≤ v2.heap.size from hz2.size)
                    have HNE := Lib.hid (show v0.heap.size ≠ v2.heap.size from fun h => by have := HB82.out.1; omega)
                    have HB83 := Lib.hid (HB82.out.later hb3)
                    have HI83 := Lib.hid (HI82.out.later hb3)
                    have HVO3 := Lib.hid (HVO2.out.below hb3)
                    go_wp2_with fail
                    try rw [hv3]
                    refine hK.out _ _ (HSS.out _ hz3) (fun hHeld => ?_)
                    clear hK K hS hn3 hv3
                    have hS := hHeld
                    clear hHeld
                    try simp only [Act.put, List.getElem_toArray, List.getElem_cons_zero, List.getElem_cons_succ, List.setIfInBounds_toArray, List.set_cons_zero, List.set_cons_succ]
                    refine wpAnyH_ready (rs := [3]) (by kernel_rfl) (by simp) ?_
                    refine AllReadyH.cons rfl (fun K hK => ?_) AllReadyH.nil
                    go_simp
                    refine (t3floor_fresh _ _ _ _ v3 (HAR.out _ hz3) (HWN.out _ hz3) HVO3.out HPP.out (by have := HNM.out; omega) (by have := HNP.out; omega)).mono ?_
                    rintro e v4 ⟨sq, Aq, nq, cq, sr, Ar, nr, cr, rfl, hvq, hvr, hb4, hfr⟩
                    have hz4 := bel_chain hz3 hb4
                    have HVQ4 := Lib.hid hvq
                    have HVR4 := Lib.hid hvr
                    have HAP := Lib.hid (show Apart gx Aq from fun p hp => by have h1 := (hfr (by omega)).1 p hp; have h2 := hz3.size; have h3 := HGX.out; omega)
                    have HB84 := Lib.hid (HB83.out.later hb4)
                    have HI84 := Lib.hid (HI83.out.later hb4)
                    have HB74 := Lib.hid (HB73.out.later hb4)
                    have HI74 := Lib.hid (HI73.out.later hb4)
                    go_wp2_with fail
                    refine hK.out _ _ (HSS.out _ hz4) (fun hHeld => ?_)
                    clear hK K hS hvq hvr hfr
                    have hS := hHeld
                    clear hHeld
                    try simp only [Act.put, List.getElem_toArray, List.getElem_cons_zero, List.getElem_cons_succ, List.setIfInBounds_toArray, List.set_cons_zero, List.set_cons_succ]
                    refine wpAnyH_take (i := 4) (v := ?_) rfl (by kernel_rfl) (by kernel_rfl) (by kernel_rfl) (fun _ _ _ h => h) (Or.inl ⟨by kernel_rfl, ?_⟩) (by assumption) ?_
                    rotate_left
                    · intro w hSw
                      try dsimp only at hSw
                      go_simp
                      try with_reducible rfl
                    try simp only [Act.put, List.getElem_toArray, List.getElem_cons_zero, List.getElem_cons_succ, List.setIfInBounds_toArray, List.set_cons_zero, List.set_cons_succ]
                    refine wpAnyH_take (i := 5) (v := ?_) rfl (by kernel_rfl) (by kernel_rfl) (by kernel_rfl) (fun _ _ _ h => h) (Or.inl ⟨by kernel_rfl, ?_⟩) (by assumption) ?_
                    rotate_left
                    · intro w hSw
                      try dsimp only at hSw
                      go_simp
                      try with_reducible rfl
                    try simp only [Act.put, List.getElem_toArray, List.getElem_cons_zero, List.getElem_cons_succ, List.setIfInBounds_toArray, List.set_cons_zero, List.set_cons_succ]
                    refine wpAnyH_take (i := 6) (v := ?_) rfl (by kernel_rfl) (by kernel_rfl) (by kernel_rfl) (fun _ _ _ h => h) (Or.inl ⟨by kernel_rfl, ?_⟩) (by assumption) ?_
                    rotate_left
                    · intro w hSw
                      try dsimp only at hSw
                      go_simp
                      try with_reducible rfl
                    try simp only [Act.put, List.getElem_toArray, List.getElem_cons_zero, List.getElem_cons_succ, List.setIfInBounds_toArray, List.set_cons_zero, List.set_cons_succ]
                    as_aux_lemma =>
                      refine wpAnyH_ready (rs := [9]) (by kernel_rfl) (by simp) ?_
                      refine AllReadyH.cons rfl (fun K hK => ?_) AllReadyH.nil
                      rw [if_pos (by kernel_rfl)]
                      refine wp_store_whole (i := 9) (j := 26) rfl rfl rfl rfl HB74.out ?_
                      obtain ⟨x1, hx1⟩ : ∃ x, (v4.setCell ⟨v2.heap.size, 0, none⟩ (.bool sq)).setCell ⟨v2.heap.size, 1, none⟩ (.slice Aq nq cq) = x := ⟨_, rfl⟩
                      try rw [hx1]
                      have hy1 : Below wr.heap.size wr x1 := hx1 ▸ (hz4.setCell (p := ⟨v2.heap.size, 0, none⟩) HG7.out _).setCell (p := ⟨v2.heap.size, 1, none⟩) HG7.out _
                      have HF9 := Lib.hid (show Box2 x1 (v2.heap.size) (.bool sq) (.slice Aq nq cq) from hx1 ▸ (Box2.set0 HB74.out _).set1 _)
                      have HF10 := Lib.hid (show Box2 x1 (v0.heap.size) (.bool false) (.slice none 0 0) from hx1 ▸ (Box2.far HB84.out (fun h => HNE.out (h)) _).far (fun h => HNE.out (h)) _)
                      have HX10 := Lib.hid (show NoInt x1 (v0.heap.size) from hx1 ▸ (HI84.out.setCell _ _).setCell _ _)
                      have HQ1 := Lib.hid (show W3 x1 (.agg #[.bool sq, .slice Aq nq cq]) _ from hx1 ▸ HVQ4.out.store2 HI74.out _ _)
                      have HR1 := Lib.hid (show W3 x1 (.agg #[.bool sr, .slice Ar nr cr]) _ from hx1 ▸ HVR4.out.store2 HI74.out _ _)
                      refine hK.out _ _ (HSS.out _ hy1) (fun hHeld => ?_)
                      clear hK K hS hx1
                      have hS := hHeld
                      clear hHeld
                      try simp only [Act.put]
                      refine wpAnyH_ready (rs := [10]) (by kernel_rfl) (by simp) ?_
                      refine AllReadyH.cons rfl (fun K hK => ?_) AllReadyH.nil
                      rw [if_pos (by kernel_rfl)]
                      refine wp_store_whole (i := 10) (j := 27) rfl rfl rfl rfl HF10.out ?_
                      obtain ⟨x2, hx2⟩ : ∃ x, (x1.setCell ⟨v0.heap.size, 0, none⟩ (.bool sr)).setCell ⟨v0.heap.size, 1, none⟩ (.slice Ar nr cr) = x := ⟨_, rfl⟩
                      try rw [hx2]
                      have hy2 : Below wr.heap.size wr x2 := hx2 ▸ (hy1.setCell (p := ⟨v0.heap.size, 0, none⟩) HG8.out _).setCell (p := ⟨v0.heap.size, 1, none⟩) HG8.out _
                      have HE9 := Lib.hid (show Box2 x2 (v2.heap.size) (.bool sq) (.slice Aq nq cq) from hx2 ▸ (Box2.far HF9.out (fun h => HNE.out (h.symm)) _).far (fun h => HNE.out (h.symm)) _)
                      have HE10 := Lib.hid (show Box2 x2 (v0.heap.size) (.bool sr) (.slice Ar nr cr) from hx2 ▸ (Box2.set0 HF10.out _).set1 _)
                      have HQ2 := Lib.hid (show W3 x2 (.agg #[.bool sq, .slice Aq nq cq]) _ from hx2 ▸ HQ1.out.store2 HX10.out _ _)
                      have HR2 := Lib.hid (show W3 x2 (.agg #[.bool sr, .slice Ar nr cr]) _ from hx2 ▸ HR1.out.store2 HX10.out _ _)
                      refine hK.out _ _ (HSS.out _ hy2) (fun _ => ?_)
                      clear hK K hS hx2
                      try simp only [Act.put]
                      refine wpAnyH_done (by kernel_rfl) ?_ _
                      go_wp2_with fail
                      go_meet
                      case rel => exact ⟨_, _, sq, Aq, nq, cq, sr, Ar, nr, cr, rfl, rfl, HG7.out, HG8.out, HE9.out, HE10.out, HQ2.out, HR2.out, HAP.out, hy2⟩
              · as_aux_lemma =>
                  obtain ⟨v2, hv2⟩ : ∃ X, v1.alloc (.cells #[.bool false, .slice none 0 0] 43) = X := ⟨_, rfl⟩
                  obtain ⟨hn2, hb2⟩ := B1.of hv2
                  have HB72 := Lib.hid hn2
                  have HI72 := Lib.hid (show NoInt v2 v1.heap.size from hv2 ▸ NoInt.new _ _ _ whole_ne_int)
                  have hz2 := bel_chain hz1 hb2
                  have HG7 := Lib.hid (show wr.heap.size ≤ v1.heap.size from hz1.size)
                  have HNE := Lib.hid (show v0.heap.size ≠ v1.heap.size from fun h => by have := HB81.out.1; omega)
                  have HB82 := Lib.hid (HB81.out.later hb2)
                  have HI82 := Lib.hid (HI81.out.later hb2)
                  go_wp2_with fail
                  try rw [hv2]
                  refine hK.out _ _ (HSS.out _ hz2) (fun hHeld => ?_)
                  clear hK K hS hn2 hv2
                  have hS := hHeld
                  clear hHeld
                  try simp only [Act.put, List.getElem_toArray, List.getElem_cons_zero, List.getElem_cons_succ, List.setIfInBounds_toArray, List.set_cons_zero, List.set_cons_succ]
                  refine wpAnyH_ready (rs := [2]) (by kernel_rfl) (by simp) ?_
                  refine AllReadyH.cons rfl (fun K hK => ?_) AllReadyH.nil
                  go_simp
                  refine (HOF.out _ (HAR.out _ hz2)).mono ?_
                  rintro e v3 ⟨vo, rfl, hvo, hb3⟩
                  have hz3 := bel_chain hz2 hb3
                  obtain ⟨so, Ao, no, co, hveo, hvlo, _, _, _⟩ := hvo.parts
                  subst hveo
                  clear hvlo
                  have HVO3 := Lib.hid hvo
                  have HB83 := Lib.hid (HB82.out.later hb3)
                  have HI83 := Lib.hid (HI82.out.later hb3)
                  have HB73 := Lib.hid (HB72.out.later hb3)
                  have HI73 := Lib.hid (HI72.out.later hb3)
                  go_wp2_with fail
                  refine hK.out _ _ (HSS.out _ hz3) (fun hHeld => ?_)
                  clear hK K hS hvo
                  have hS := hHeld
                  clear hHeld
                  try simp only [Act.put, List.getElem_toArray, List.getElem_cons_zero, List.getElem_cons_succ, List.setIfInBounds_toArray, List.set_cons_zero, List.set_cons_succ]
                  refine wpAnyH_ready (rs := [3]) (by kernel_rfl) (by simp) ?_
                  refine AllReadyH.cons rfl (fun K hK => ?_) AllReadyH.nil
                  go_simp
                  refine (t3floor_fresh _ _ _ _ v3 (HAR.out _ hz3) (HWN.out _ hz3) HVO3.out HPP.out (by have := HNM.out; omega) (by have := HNP.out; omega)).mono ?_
                  rintro e v4 ⟨sq, Aq, nq, cq, sr, Ar, nr, cr, rfl, hvq, hvr, hb4, hfr⟩
                  have hz4 := bel_chain hz3 hb4
                  have HVQ4 := Lib.hid hvq
                  have HVR4 := Lib.hid hvr
                  have HAP := Lib.hid (show Apart gx Aq from fun p hp => by have h1 := (hfr (by omega)).1 p hp; have h2 := hz3.size; have h3 := HGX.out; omega)
                  have HB84 := Lib.hid (HB83.out.later hb4)
                  have HI84 := Lib.hid (HI83.out.later hb4)
                  have HB74 := Lib.hid (HB73.out.later hb4)
                  have HI74 := Lib.hid (HI73.out.later hb4)
                  go_wp2_with fail
                  refine hK.out _ _ (HSS.out _ hz4) (fun hHeld => ?_)
                  clear hK K hS hvq hvr hfr
                  have hS := hHeld
                  clear hHeld
                  try simp only [Act.put, List.getElem_toArray, List.getElem_cons_zero, List.getElem_cons_succ, List.setIfInBounds_toArray, List.set_cons_zero, List.set_cons_succ]
                  refine wpAnyH_take (i := 4) (v := ?_) rfl (by kernel_rfl) (by kernel_rfl) (by kernel_rfl) (fun _ _ _ h => h) (Or.inl ⟨by kernel_rfl, ?_⟩) (by assumption) ?_
                  rotate_left
                  · intro w hSw
                    try dsimp only at hSw
                    go_simp
                    try with_reducible rfl
                  try simp only [Act.put, List.getElem_toArray, List.getElem_cons_zero, List.getElem_cons_succ, List.setIfInBounds_toArray, List.set_cons_zero, List.set_cons_succ]
                  refine wpAnyH_take (i := 5) (v := ?_) rfl (by kernel_rfl) (by kernel_rfl) (by kernel_rfl) (fun _ _ _ h => h) (Or.inl ⟨by kernel_rfl, ?_⟩) (by assumption) ?_
                  rotate_left
                  · intro w hSw
                    try dsimp only at hSw
                    go_simp
                    try with_reducible rfl
                  try simp only [Act.put, List.getElem_toArray, List.getElem_cons_zero, List.getElem_cons_succ, List.setIfInBounds_toArray, List.set_cons_zero, List.set_cons_succ]
                  refine wpAnyH_take (i := 6) (v := ?_) rfl (by kernel_rfl) (by kernel_rfl) (by kernel_rfl) (fun _ _ _ h => h) (Or.inl ⟨by kernel_rfl, ?_⟩) (by assumption) ?_
                  rotate_left
                  · intro w hSw
                    try dsimp only at hSw
                    go_simp
                    try with_reducible rfl
                  try simp only [Act.put, List.getElem_toArray, List.getElem_cons_zero, List.getElem_cons_succ, List.setIfInBounds_toArray, List.set_cons_zero, List.set_cons_succ]
                  as_aux_lemma =>
                    refine wpAnyH_ready (rs := [9]) (by kernel_rfl) (by simp) ?_
                    refine AllReadyH.cons rfl (fun K hK => ?_) AllReadyH.nil
                    rw [if_pos (by kernel_rfl)]
                    refine wp_store_whole (i := 9) (j := 26) rfl rfl rfl rfl HB74.out ?_
                    obtain ⟨x1, hx1⟩ : ∃ x, (v4.setCell ⟨v1.heap.size, 0, none⟩ (.bool sq)).setCell ⟨v1.heap.size, 1, none⟩ (.slice Aq nq cq) = x := ⟨_, rfl⟩
                    try rw [hx1]
                    have hy1 : Below wr.heap.size wr x1 := hx1 ▸ (hz4.setCell (p := ⟨v1.heap.size, 0, none⟩) HG7.out _).setCell (p := ⟨v1.heap.size, 1, none⟩) HG7.out _
                    have HF9 := Lib.hid (show Box2 x1 (v1.heap.size) (.bool sq) (.slice Aq nq cq) from hx1 ▸ (Box2.set0 HB74.out _).set1 _)
                    have HF10 := Lib.hid (show Box2 x1 (v0.heap.size) (.bool false) (.slice none 0 0) from hx1 ▸ (Box2.far HB84.out (fun h => HNE.out (h)) _).far (fun h => HNE.out (h)) _)
                    have HX10 := Lib.hid (show NoInt x1 (v0.heap.size) from hx1 ▸ (HI84.out.setCell _ _).setCell _ _)
                    have HQ1 := Lib.hid (show W3 x1 (.agg #[.bool sq, .slice Aq nq cq]) _ from hx1 ▸ HVQ4.out.store2 HI74.out _ _)
                    have HR1 := Lib.hid (show W3 x1 (.agg #[.bool sr, .slice Ar nr cr]) _ from hx1 ▸ HVR4.out.store2 HI74.out _ _)
                    refine hK.out _ _ (HSS.out _ hy1) (fun hHeld => ?_)
                    clear hK K hS hx1
                    have hS := hHeld
                    clear hHeld
                    try simp only [Act.put]
                    refine wpAnyH_ready (rs := [10]) (by kernel_rfl) (by simp) ?_
                    refine AllReadyH.cons rfl (fun K hK => ?_) AllReadyH.nil
                    rw [if_pos (by kernel_rfl)]
                    refine wp_store_whole (i := 10) (j := 27) rfl rfl rfl rfl HF10.out ?_
                    obtain ⟨x2, hx2⟩ : ∃ x, (x1.setCell ⟨v0.heap.size, 0, none⟩ (.bool sr)).setCell ⟨v0.heap.size, 1, none⟩ (.slice Ar nr cr) = x := ⟨_, rfl⟩
                    try rw [hx2]
                    have hy2 : Below wr.heap.size wr x2 := hx2 ▸ (hy1.setCell (p := ⟨v0.heap.size, 0, none⟩) HG8.out _).setCell (p := ⟨v0.heap.size, 1, none⟩) HG8.out _
                    have HE9 := Lib.hid (show Box2 x2 (v1.heap.size) (.bool sq) (.slice Aq nq cq) from hx2 ▸ (Box2.far HF9.out (fun h => HNE.out (h.symm)) _).far (fun h => HNE.out (h.symm)) _)
                    have HE10 := Lib.hid (show Box2 x2 (v0.heap.size) (.bool sr) (.slice Ar nr cr) from hx2 ▸ (Box2.set0 HF10.out _).set1 _)
                    have HQ2 := Lib.hid (show W3 x2 (.agg #[.bool sq, .slice Aq nq cq]) _ from hx2 ▸ HQ1.out.store2 HX10.out _ _)
                    have HR2 := Lib.hid (show W3 x2 (.agg #[.bool sr, .slice Ar nr cr]) _ from hx2 ▸ HR1.out.store2 HX10.out _ _)
                    refine hK.out _ _ (HSS.out _ hy2) (fun _ => ?_)
                    clear hK K hS hx2
                    try simp only [Act.put]
                    refine wpAnyH_done (by kernel_rfl) ?_ _
                    go_wp2_with fail
                    go_meet
                    case rel => exact ⟨_, _, sq, Aq, nq, cq, sr, Ar, nr, cr, rfl, rfl, HG7.out, HG8.out, HE9.out, HE10.out, HQ2.out, HR2.out, HAP.out, hy2⟩
        case rest =>
          obtain ⟨g9, g10, sq, Aq, nq, cq, sr, Ar, nr, cr, rfl, rfl, hg9, hg10, hq9, hq10, hwq, hwr, hap, hzc⟩ := hcut
          have HQ9 := Lib.hid (fun wz (hb : Below wc.heap.size wc wz) => hq9.later hb)
          have HWQ := Lib.hid (fun wz (hb : Below wc.heap.size wc wz) => hwq.below hb)
          have HSG := Lib.hid (t3sign_any _ _ wc hwr)
          have HZC := Lib.hid hzc
          have HAP := Lib.hid hap
          obtain ⟨_, k0, k1, _, _⟩ := hq10
          have hsg : ((m : Int) % (p0 : Int)).sign = if m % p0 = 0 then 0 else 1 := by
            rw [← Int.natCast_emod]
            by_cases h : m % p0 = 0
            · rw [if_pos h, h]; rfl
            · rw [if_neg h]; exact Int.sign_eq_one_of_pos (by omega)
          obtain ⟨sg, hsge⟩ : ∃ x, ((m : Int) % (p0 : Int)).sign = x := ⟨_, rfl⟩
          rw [hsge] at HSG hsg
          clear hg9 hg10 hq9 hwq hwr hzc hap hsge
          go_wp2_with fail
          refine HSG.out.mono ?_
          rintro e6 w6 ⟨rfl, hb6⟩
          have HZ6 := Lib.hid (bel_chain HZC.out hb6)
          have HZ := Lib.hid (HZM.out.below HZ6.out HZM.out.lt)
          have hq6 := HQ9.out _ hb6
          have HW6 := Lib.hid (HWQ.out _ hb6)
          have HN6 := Lib.hid (HNI.out.later HZ6.out)
          have HX6 := Lib.hid (HXN.out.later HZ6.out)
          clear k0 k1 hb6
          by_cases hmod : m % p0 = 0
          · rw [if_pos hmod] at hsg
            subst hsg
            have HTS := Lib.hid (tk_step HP2.out HM0.out hmod)
            have HDV := Lib.hid (show (m : Int) / (p0 : Int) = ((m / p0 : Nat) : Int) from (Int.natCast_ediv m p0).symm)
            rw [HDV.out] at HW6
            have HMD := Lib.hid (show 0 < m / p0 ∧ m / p0 < m from ⟨Nat.div_pos (Nat.le_of_dvd HM0.out (Nat.dvd_of_mod_eq_zero hmod)) (by have := HP2.out; omega), Nat.div_lt_self HM0.out HP2.out⟩)
            have heb : e ≤ 100000 := by
              have h1 := HT1.out
              rw [HTK.out] at h1
              have h2 : (tk p0 m).2 + e ≤ 100000 := by omega
              omega
            have hcr := HZ.out.cell i (by omega)
            have hfr := HZ.out.free i
            rw [part_row (by rw [HDL.out]; omega)] at hcr
            have hne : ¬ gx = gn := by have := HGNX.out.2; omega
            have hne2 : ¬ gn = gx := by have := HGNX.out.2; omega
            have hw1 : IntKind.i64.wrap ((e : Int) + 1) = (e : Int) + 1 := IntWalk.i64_in _ (by omega)
            obtain ⟨_, k0, k1, _, _⟩ := hq6
            obtain ⟨_, l0, l1, lf0, lf1⟩ := HX6.out
            clear hmod
            go_wp2_with fail
            go_roundg (m / p0)
            case measure => have := HGK2.out; have := HMD.out; omega
            case rel =>
              refine ⟨trivial, m / p0, e + 1, rfl, HMD.out.1, nz_le_nat (Nat.le_of_lt HMD.out.2) HNM.out, ?_, Lib.hid ⟨((HN6.out.setCell _ _).setCell _ _).setCell _ _, sq, Aq, nq, cq, ?_, ?_, HAP.out⟩, Lib.hid ?_, ?_⟩
              · rw [HTK.out, HTS.out]
                show ((tk p0 (m / p0)).1, (tk p0 (m / p0)).2 + 1 + e) = _
                rw [Nat.add_assoc, Nat.add_comm 1 e]
              · exact ((HX6.out.set0 _).set1 _).far (p := ⟨gx, i, none⟩) hne2 _
              · exact (HW6.out.store2 HN6.out _ _).farA (p := ⟨gx, i, none⟩) HAP.out _
              · have h1 := (((HZ.out.far (p := ⟨gn, 0, none⟩) hne (.bool sq)).far (p := ⟨gn, 1, none⟩) hne (.slice Aq nq cq)).set i ((e : Int) + 1))
                rw [List.set_set] at h1
                exact h1
              · have h1 := bel_chain HBM.out HZ6.out
                have h2 := HGNX.out
                exact ((h1.setCell (p := ⟨gn, 0, none⟩) (by show w.heap.size ≤ gn; omega) _).setCell (p := ⟨gn, 1, none⟩) (by show w.heap.size ≤ gn; omega) _).setCell (p := ⟨gx, i, none⟩) (by show w.heap.size ≤ gx; omega) _
          · rw [if_neg hmod] at hsg
            subst hsg
            have HTK2 := Lib.hid (show tk p0 r = (m, e) by rw [HTK.out, tk_stop hmod, Nat.zero_add])
            have HWF := Lib.hid (show HWA gx gn (m : Int) w6 from by
              obtain ⟨a1, s', A', n', c', a2, a3, a4⟩ := HWM.out
              exact ⟨a1.later HZ6.out, s', A', n', c', a2.later HZ6.out, a3.below HZ6.out, a4⟩)
            clear hmod hq6
            go_wp2_with fail
            go_roundg (n - (i + 1))
            case measure => have := HGK.out; omega
            case rel =>
              refine ⟨i + 1, by omega, rfl, by go_num, Lib.hid ?_, Lib.hid ?_, bel_chain HBM.out HZ6.out⟩
              · rw [HS1.out, HTK2.out]; exact HWF.out
              · have h1 := HZ.out
                have h2 := HG.out
                rw [HTK2.out] at h2
                rw [← HSET.out, h2]
                exact h1
end Go.Proofs.YtdpcmhdmdompnaaGreatDoor
