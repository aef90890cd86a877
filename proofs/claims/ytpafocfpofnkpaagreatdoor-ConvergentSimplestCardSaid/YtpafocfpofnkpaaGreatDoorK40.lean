/- Greater text, out of: K40. -/
import Derived.Test.YtpafocfpofnkpaaGreatDoorK36
import Derived.Test.YtpafocfpofnkpaaGreatDoorK38
import Derived.Shelf.Strings.BuilderK
namespace Go.Proofs.YtpafocfpofnkpaaGreatDoor
open Go.RowKit Go.PlainAid Go.Shelf
attribute [local go_sem] field_rat0 field_rat1
/-- A way, as bytes. -/
def wayL (l : List Bool) : List UInt8 := l.map fun b => if b = true then 82 else 76
def way (l : List Bool) : ByteArray := ⟨(wayL l).toArray⟩
/-- What Path answers, of the terms, the last one less by one. -/
def PathV (L : List Int) : Value := if L.sum ≤ 1000 then .tuple #[.string (way (rp true L)), .int .i64 0] else .tuple #[.string ⟨#[]⟩, .int .i64 16]
theorem wayL_len (l : List Bool) : (wayL l).length = l.length := by simp [wayL]
theorem bwrite_any (B b : Nat) (bs : List Value) (s : ByteArray) (w : World) (h : Lib.IsBuilderF 82 5 B b bs w) (hlen : bs.length + s.size ≤ 140737488355328) (hBw : B ≤ w.heap.size) :
    Calls Tryz.prog 54 #[.pointer (some ⟨b, 0, none⟩), .string s] w fun e w' => e = .returned (.tuple #[.int .i64 s.size, .nilIface]) ∧ (Lib.BuilderAtF 82 5 B b (.pointer (some ⟨b, 0, none⟩)) (bs ++ Lib.strCells s) w' ∧ Below B w w' ∧ Lib.OthersKept 5 (some b) w w') :=
  Any.Builder_WriteString_k (ρ := Tryz.lays105_ren) { Tryz.lays105 with } Tryz.Builder_Extra_105 B b bs s w h hlen hBw
/-- A row of integers lies where it lay, behind a write into a builder. -/
theorem Jc.others {w w' : World} {b g n cap : Nat} {xs : List Int} (h : Jc w g n cap xs) (ho : Lib.OthersKept 5 (some b) w w') (hne : g ≠ b) : Jc w' g n cap xs := by
  obtain ⟨cur, hh, h1, h2, h3, h4⟩ := h.form
  exact Jc.mk' (ho g _ hh (fun e => hne (Option.some.inj e)) (fun c fz e => by cases e)) h1 h2 h3 h4
/-- A builder stays while new blocks come. -/
theorem bld_below {w w' : World} {B b : Nat} {bs : List Value} (h : Lib.IsBuilderF 82 5 B b bs w) (hb : Below w.heap.size w w') : Lib.IsBuilderF 82 5 B b bs w' := by
  have key : ∀ p, Lib.BuilderAtF 82 5 B b p bs w → Lib.BuilderAtF 82 5 B b p bs w' := by
    rintro p ⟨h1, v, h2, h3, h4⟩
    refine ⟨h1, v, (hb.block _ (Array.getElem?_eq_some_iff.1 h2).1).trans h2, ⟨h3.1, ?_⟩, h4⟩
    rcases h3.2 with hn | ⟨g, cap, cur, fz, hv, hbg, hg, rest⟩
    · exact .inl hn
    · exact .inr ⟨g, cap, cur, fz, hv, hbg, (hb.block _ (Array.getElem?_eq_some_iff.1 hg).1).trans hg, rest⟩
  exact h.imp (key _) (key _)
theorem bld_set {w : World} {B b : Nat} {bs : List Value} (h : Lib.IsBuilderF 82 5 B b bs w) {g : Nat} {cs : Array Value} {T : TypeId} {f : Nat × Nat} (hg : w.heap[g]? = some (.cells cs T f)) (h1 : T ≠ 82) (h2 : T ≠ 5) (o : Nat) (v : Value) : Lib.IsBuilderF 82 5 B b bs (w.setCell ⟨g, o, none⟩ v) := by
  have key : ∀ p, Lib.BuilderAtF 82 5 B b p bs w → Lib.BuilderAtF 82 5 B b p bs (w.setCell ⟨g, o, none⟩ v) := by
    rintro p ⟨k1, u, k2, k3, k4⟩
    refine ⟨k1, u, (Below.heap_setCell _ _ _ _ (fun e => by have e' : b = g := e; rw [e', hg] at k2; cases k2; exact h1 rfl)).trans k2, ⟨k3.1, ?_⟩, k4⟩
    rcases k3.2 with hn | ⟨g', cap, cur, fz, hv, hbg, hg', rest⟩
    · exact .inl hn
    · exact .inr ⟨g', cap, cur, fz, hv, hbg, (Below.heap_setCell _ _ _ _ (fun e => by have e' : g' = g := e; rw [e', hg] at hg'; cases hg'; exact h2 rfl)).trans hg', rest⟩
  exact h.imp (key _) (key _)
theorem less_set (l : List Int) (h : l ≠ []) : less l = l.set (l.length - 1) (l.getD (l.length - 1) 0 - 1) := by
  unfold less
  obtain ⟨zs, z, rfl⟩ : ∃ zs z, l = zs ++ [z] := ⟨_, _, (List.dropLast_concat_getLast h).symm⟩
  simp [List.getD_eq_getElem?_getD]
theorem tms_ge0 : ∀ n d : Int, 0 < d → 0 < n → ∀ a ∈ less (tms n d), 0 ≤ a := by
  refine tms_ind ?_ ?_
  · intro n d h h1; omega
  · intro n d h ih _ hn a ha
    have hb := emod_bd (n := n) h
    have he := ediv_eq n d
    have h0 : 0 ≤ n / d := Int.ediv_nonneg (by omega) (by omega)
    rw [tms_step h] at ha
    by_cases hr : n % d = 0
    · rw [hr, tms_stop (by omega)] at ha
      have h1 : n / d ≠ 0 := fun e => by rw [e, hr] at he; omega
      simp [less] at ha
      omega
    · have hr : 0 < n % d := by omega
      rw [tms_step hr, less_cons] at ha
      rcases List.mem_cons.1 ha with rfl | ha
      · exact h0
      · exact ih hr h a (by rw [tms_step hr]; exact ha)
theorem sum_take_le (L : List Int) (h : ∀ a ∈ L, 0 ≤ a) (i : Nat) : (L.take i).sum ≤ L.sum := by
  have e : (L.take i).sum + (L.drop i).sum = L.sum := by rw [← List.sum_append, List.take_append_drop]
  have h2 : 0 ≤ (L.drop i).sum := by
    have := rp_length (L.drop i) (fun a ha => h a (List.mem_of_mem_drop ha)) true
    omega
  omega
theorem wayL_snoc (L : List Int) (i : Nat) (a : Int) (h : L[i]? = some a) : wayL (rp true (L.take (i + 1))) = wayL (rp true (L.take i)) ++ List.replicate a.toNat (if i % 2 = 0 then 82 else 76) := by
  have hi := (List.getElem?_eq_some_iff.1 h).1
  rw [List.take_add_one, h]
  show wayL (rp true (L.take i ++ [a])) = _
  rw [rp_snoc, List.length_take, Nat.min_eq_left (by omega)]
  unfold wayL
  rw [List.map_append, List.map_replicate]
  by_cases h2 : i % 2 = 0
  · rw [if_pos h2, if_pos h2, if_pos rfl]
  · rw [if_neg h2, if_neg h2]; rfl

set_option maxRecDepth 100000 in
set_option maxHeartbeats 4000000 in
/-- Path of a right fraction above nought. -/
theorem Path_any (q : Rat) (w : World) (hamb : Amb w) (hq : NQ q 14) (hr : RB (itx q.num) (itx (q.den : Int)) = true) (hpos : 0 < q.num) :
    Calls Tryz.prog 22 #[.agg #[.string (itx q.num), .string (itx (q.den : Int))]] w (SmallRes (PathV (less (tms q.num q.den))) w) := by
  have hd := rden_pos q
  have HW := Lib.hid (fun w h => wrong_any (itx q.num) (itx (q.den : Int)) w h (by have := itx_size_le q.num; have := hq.1; omega) (by have := itx_size_le (q.den : Int); have := hq.2; omega) true hr)
  have HSG := Lib.hid (fun w => show Calls Tryz.prog 46 #[.agg #[.string (itx q.num), .string (itx (q.den : Int))]] w (SmallRes (.int .i64 1) w) from by
    have := fsign_any q w (hq.mono (by omega))
    rw [Int.sign_eq_one_of_pos hpos] at this
    exact this)
  have HT := Lib.hid (fun w h => terms_any q.num (q.den : Int) w h hd (by have := hq.1; omega) (by have := hq.2; omega))
  have hlen := tms_short14 (n := q.num) hq.2
  have HNZ := Lib.hid (tms_nz (k := 13) hq.1 hq.2)
  have HGE := Lib.hid (tms_ge0 q.num (q.den : Int) hd hpos)
  have hne : tms q.num (q.den : Int) ≠ [] := by rw [tms_step hd]; exact List.cons_ne_nil _ _
  obtain ⟨T, hT⟩ : ∃ T, tms q.num (q.den : Int) = T := ⟨_, rfl⟩
  rw [hT] at HT hlen HNZ HGE hne ⊢
  obtain ⟨L, hL⟩ : ∃ L, less T = L := ⟨_, rfl⟩
  have hLl : L.length = T.length := by rw [← hL]; exact less_len T hne
  have HLS := Lib.hid (show L = T.set (T.length - 1) (T.getD (T.length - 1) 0 - 1) by rw [← hL]; exact less_set T hne)
  rw [hL] at HGE ⊢
  obtain ⟨V, hV⟩ : ∃ V, PathV L = V := ⟨_, rfl⟩
  have HV := Lib.hid hV
  rw [hV]
  obtain ⟨m, hm⟩ : ∃ m, T.length = m + 1 := ⟨T.length - 1, by have := List.length_pos_iff.2 hne; omega⟩
  obtain ⟨z, hz⟩ : ∃ z, T.getD m 0 = z := ⟨_, rfl⟩
  have HZ := Lib.hid hz
  have hzm : z ∈ T := by rw [← hz, List.getD_eq_getElem?_getD, List.getElem?_eq_getElem (by omega)]; exact List.getElem_mem _
  have HSUB := Lib.hid (fun w h => show Calls Tryz.prog 51 #[.string (itx z), .string ⟨#[49]⟩] w (SmallRes (.string (itx (z - 1))) w) from by
    have l1 : (⟨#[49]⟩ : ByteArray) = itx 1 := lit3_pos [49] 1 (by decide) (by decide)
    rw [l1]; exact wsub_any z 1 w h (by have := HNZ.out z hzm; omega) (Nat.le_trans ((nz_le_iff 1 0).2 (by decide)) (by omega)))
  have HAMB := Lib.hid hamb
  rw [hm, Nat.add_sub_cancel, hz] at HLS
  have HLN := Lib.hid (show ∀ a ∈ L, nz a ≤ 14 from by
    intro a ha
    have h0 := HGE.out a ha
    rw [HLS.out] at ha
    rcases List.mem_or_eq_of_mem_set ha with h | rfl
    · exact HNZ.out a h
    · exact Nat.le_trans (nz_mono (by omega)) (HNZ.out z hzm))
  rw [hm] at hLl hlen
  have HTL := Lib.hid hm
  have HLL := Lib.hid hLl
  clear hamb hq hr hpos hd hT hL hne hz hV hzm hm hLl
  go_enter Tryz.func22, Tryz.ntmps22
  go_wp2_with fail
  obtain ⟨W, hW⟩ : ∃ W, (w.alloc (.cells #[.string (itx q.num), .string (itx (q.den : Int))] 24)) = W := ⟨_, rfl⟩
  rw [hW]
  obtain ⟨hX, hBW⟩ := B1.of hW
  clear hW
  have HX := Lib.hid (fun wz (hb : Below W.heap.size W wz) => hX.later hb)
  have HB := Lib.hid hBW
  have HA := Lib.hid (fun wz (hb : Below W.heap.size W wz) => HAMB.out.below (bel_chain HB.out hb))
  clear hX hBW
  refine (HW.out W (HA.out _ (Below.refl _ _))).mono ?_
  rintro e w1 ⟨rfl, hb1⟩
  obtain ⟨_, c0, c1, _, _⟩ := HX.out _ hb1
  go_wp2_with fail
  refine (HSG.out w1).mono ?_
  rintro e w2 ⟨rfl, hb2⟩
  have hz2 := bel_chain hb1 hb2
  clear hb1 hb2 c0 c1
  obtain ⟨_, c0, c1, _, _⟩ := HX.out _ hz2
  go_wp2_with fail
  obtain ⟨w3, hw3⟩ : ∃ W, w2.alloc (.cells #[.pointer none, .slice none 0 0] 82) = W := ⟨_, rfl⟩
  rw [hw3]
  have hb3 : Below w2.heap.size w2 w3 := hw3 ▸ (Below.refl _ _).alloc (Nat.le_refl _) _
  have hbld3 : Lib.IsBuilderF 82 5 w2.heap.size w2.heap.size [] w3 := hw3 ▸ Lib.IsBuilderF.of (Lib.fresh_isBuilder _ _ w2)
  have hs3 : w3.heap.size = w2.heap.size + 1 := hw3 ▸ World.size_alloc _ _
  have hz3 := bel_chain hz2 hb3
  clear hw3 c0 c1
  refine (HT.out w3 (HA.out _ hz3)).mono ?_
  rintro e w4 ⟨vT, rfl, hown, hb4⟩
  have hz4 := bel_chain hz3 hb4
  have hbld4 := bld_below hbld3 hb4
  have hg : ∃ g cap, vT = .slice (some ⟨g, 0, none⟩) (m + 1) cap ∧ w3.heap.size ≤ g ∧ Jc w4 g (m + 1) cap T := by
    rcases hown with ⟨_, h⟩ | ⟨g, cap, e, h1, h2⟩
    · have := HTL.out; rw [h] at this; cases this
    · rw [HTL.out] at e h2; exact ⟨g, cap, e, h1, h2⟩
  obtain ⟨g, cap, rfl, hg3, hjc⟩ := hg
  have HG3 := Lib.hid hg3
  have HJ4 := Lib.hid hjc
  have HBL4 := Lib.hid hbld4
  have HZ4 := Lib.hid hz4
  have HS3 := Lib.hid hs3
  have hcm := hjc.cell m (by omega)
  rw [HZ.out] at hcm
  have hle := hjc.le
  have hcap := hjc.cap_le
  have HLT := Lib.hid hjc.lt
  have HZ2 := Lib.hid hz2
  have HB34 := Lib.hid (bel_chain hb3 hb4)
  clear hown hb3 hb4 hz2 hz3 hbld3 hbld4 hjc hg3 hs3
  have hmi : ((m : Int) + 1 - 1) = (m : Int) := by omega
  go_wp2_with fail
  refine (HSUB.out w4 (HA.out _ HZ4.out)).mono ?_
  rintro e w5 ⟨rfl, hb5⟩
  have HJ5 := Lib.hid (HJ4.out.below hb5 HLT.out)
  have hc5 := HJ5.out.cell m (by omega)
  have hf5 := HJ5.out.free m
  rw [HZ.out] at hc5
  have HBL5 := Lib.hid (bld_below HBL4.out hb5)
  have HB5 := Lib.hid (bel_chain HB34.out hb5)
  have HGL := Lib.hid (show w2.heap.size < g by have := HG3.out; have := HS3.out; omega)
  clear hcm hb5 HZ4 HBL4 HJ4 HB34
  go_wp2_with fail
  obtain ⟨w6, hw6⟩ : ∃ W, w5.setCell ⟨g, m, none⟩ (.string (itx (z - 1))) = W := ⟨_, rfl⟩
  try rw [hw6]
  have HJ6 := Lib.hid (show Jc w6 g (m + 1) cap L by have := HJ5.out.set m (z - 1); rw [← HLS.out, hw6] at this; exact this)
  have HB6 := Lib.hid (show Below w2.heap.size w2 w6 from hw6 ▸ HB5.out.setCell (by have := HGL.out; show w2.heap.size ≤ g; omega) _)
  have HBL6 := Lib.hid (show Lib.IsBuilderF 82 5 w2.heap.size w2.heap.size [] w6 from by
    obtain ⟨cur, hh, _⟩ := HJ5.out.form
    exact hw6 ▸ bld_set HBL5.out hh (by decide) (by decide) m _)
  clear hw6 hc5 hf5 HJ5 HBL5 HB5 HZ HLS HSUB HT HTL hmi
  go_loopw [33] (fun vi wr => ∃ i : Nat, i ≤ m + 1 ∧ vi = .int .i64 (i : Int) ∧ Lib.IsBuilderF 82 5 w2.heap.size w2.heap.size (Lib.byteCells (wayL (rp true (L.take i)))) wr ∧ Jc wr g (m + 1) cap L ∧ Hid ((L.take i).sum ≤ 1000) ∧ Below w2.heap.size w2 wr) (fun vi _ => m + 1 - (intOf vi).toNat)
  case atStart => exact ⟨0, by omega, by first | rfl | (simp; done), HBL6.out, HJ6.out, Lib.hid (by simp), HB6.out⟩
  case round =>
    obtain ⟨i, hi, rfl, hbl, hj, HSUM, hB⟩ := hrel
    have HBL := Lib.hid hbl
    have HJ := Lib.hid hj
    have HBB := Lib.hid hB
    have HZR := Lib.hid (bel_chain HZ2.out hB)
    clear hbl hB
    by_cases hin : i = m + 1
    · subst hin
      have hlt : ¬ ((m + 1 : Nat) : Int) < (m : Int) + 1 := by omega
      have HTK := Lib.hid (show L.take (m + 1) = L from List.take_of_length_le (by rw [HLL.out]; exact Nat.le_refl _))
      have HVV := Lib.hid (show V = .tuple #[.string (way (rp true L)), .int .i64 0] by rw [← HV.out]; unfold PathV; rw [if_pos (by have := HSUM.out; rw [HTK.out] at this; exact this)])
      have HSTR := Lib.hid (Tryz.Builder_String_any_f w2.heap.size w2.heap.size (wayL (rp true L)) wr (by have := HBL.out; rw [HTK.out] at this; exact this) HBB.out.size)
      clear hj
      go_wp2_with fail
      refine HSTR.out.mono ?_
      rintro e w7 ⟨rfl, _, hb7⟩
      have HB7 := Lib.hid (bel_chain HZ2.out (HBB.out.trans hb7))
      clear hb7
      go_wp2_with fail
      go_ret2
      rw [HVV.out]
      exact ⟨rfl, bel_chain HB.out HB7.out⟩
    · have hlt : (i : Int) < (m : Int) + 1 := by omega
      have hlt2 : i < m + 1 := by omega
      have hc := hj.cell i hlt2
      have HAI := Lib.hid (show L[i]? = some (L.getD i 0) by rw [List.getD_eq_getElem?_getD, List.getElem?_eq_getElem (by rw [HLL.out]; omega)]; rfl)
      have HAG := Lib.hid (HGE.out (L.getD i 0) (List.mem_of_getElem? HAI.out))
      have HANZ := Lib.hid (show nz (L.getD i 0) ≤ 14 from HLN.out _ (List.mem_of_getElem? HAI.out))
      obtain ⟨a, ha⟩ : ∃ a, L.getD i 0 = a := ⟨_, rfl⟩
      rw [ha] at hc HAI HAG HANZ
      clear hj ha
      obtain ⟨k, rfl⟩ : ∃ k : Nat, a = (k : Int) := ⟨a.toNat, by have := HAG.out; omega⟩
      have hkb : (k : Int) ≤ 100000000000000 := by have := (nz_le_iff (k : Int) 13).1 HANZ.out; omega
      have HSM := Lib.hid (fun w h => show Calls Tryz.prog 52 #[.string (itx (k : Int))] w (SmallRes (.tuple #[.int .i64 (k : Int), .bool true]) w) from by
        have := wsmall_any (k : Int) w h (by have := HANZ.out; omega)
        unfold SmallV at this
        rw [if_pos (by omega)] at this
        exact this)
      have HNX := Lib.hid (wayL_snoc L i (k : Int) HAI.out)
      have HSX := Lib.hid (show (L.take (i + 1)).sum = (L.take i).sum + (k : Int) by rw [List.take_add_one, HAI.out]; show (L.take i ++ [(k : Int)]).sum = _; rw [List.sum_append]; simp)
      have HLW := Lib.hid (show ((wayL (rp true (L.take i))).length : Int) = (L.take i).sum by rw [wayL_len]; exact rp_length _ (fun x hx => HGE.out x (List.mem_of_mem_take hx)) true)
      obtain ⟨l, hl⟩ : ∃ l, wayL (rp true (L.take i)) = l := ⟨_, rfl⟩
      rw [hl] at HBL HNX HLW
      obtain ⟨t, ht⟩ : ∃ t, l.length = t := ⟨_, rfl⟩
      have HLT2 := Lib.hid ht
      rw [ht] at HLW
      have hwl : ((Lib.byteCells l).length) = t := by rw [Lib.byteCells_length]; exact ht
      have htb : (t : Int) ≤ 1000 := by rw [HLW.out]; exact HSUM.out
      clear hl ht
      go_wp2_with fail
      refine (HSM.out wr (HA.out _ HZR.out)).mono ?_
      rintro e w7 ⟨rfl, hb7⟩
      have HBL7 := Lib.hid (bld_below HBL.out hb7)
      have HJ7 := Lib.hid (HJ.out.below hb7 HJ.out.lt)
      have HB7 := Lib.hid (bel_chain HBB.out hb7)
      have HLEN := Lib.hid (Tryz.Builder_Len_f w2.heap.size w2.heap.size _ w7 HBL7.out)
      rw [hwl] at HLEN
      clear hb7 hc HBL HJ HBB HZR
      go_wp2_with fail
      refine HLEN.out.mono ?_
      rintro e w8 ⟨rfl, rfl⟩
      by_cases hbig : 1000 - (t : Int) < (k : Int)
      · have HVV := Lib.hid (show V = .tuple #[.string ⟨#[]⟩, .int .i64 16] by
          rw [← HV.out]; unfold PathV
          rw [if_neg]
          have h1 := sum_take_le L HGE.out (i + 1)
          rw [HSX.out, ← HLW.out] at h1
          omega)
        go_wp2_with fail
        go_ret2
        rw [HVV.out]
        exact ⟨rfl, bel_chain HB.out (bel_chain HZ2.out HB7.out)⟩
      · have hex : (⟨#[82, 76]⟩ : ByteArray).extract (i % 2) (i % 2 + 1) = ⟨#[if i % 2 = 0 then 82 else 76]⟩ := by
          rcases Nat.mod_two_eq_zero_or_one i with h | h <;> rw [h] <;> rfl
        have HEX := Lib.hid hex
        obtain ⟨c, hc⟩ : ∃ c : UInt8, (if i % 2 = 0 then 82 else 76) = c := ⟨_, rfl⟩
        rw [hc] at HEX HNX
        clear hex hc
        go_wp2_with fail
        rw [HEX.out]
        refine (Tryz.strings_Repeat ⟨#[c]⟩ k w8 (by omega) (by show 1 * k ≤ _; omega)).mono ?_
        rintro e w9 ⟨rfl, hb9⟩
        have hrep : (⟨(Lib.repeatL (⟨#[c]⟩ : ByteArray).data.toList k).toArray⟩ : ByteArray) = ⟨(List.replicate k c).toArray⟩ := by
          have := Lib.repeatL_replicate c 1 k
          rw [Nat.mul_one] at this
          rw [← this]; rfl
        rw [hrep]
        have HBL9 := Lib.hid (bld_below HBL7.out hb9)
        have HJ9 := Lib.hid (HJ7.out.below hb9 HJ7.out.lt)
        have HB9 := Lib.hid (bel_chain HB7.out hb9)
        have HWR := Lib.hid (bwrite_any w2.heap.size w2.heap.size _ ⟨(List.replicate k c).toArray⟩ w9 HBL9.out (by rw [hwl, show (⟨(List.replicate k c).toArray⟩ : ByteArray).size = k from by show (List.replicate k c).toArray.size = k; simp]; omega) HB9.out.size)
        clear hb9 hrep HBL9
        go_wp2_with fail
        refine HWR.out.mono ?_
        rintro e w10 ⟨rfl, hbl10, hb10, ho10⟩
        have HBL10 := Lib.hid (show Lib.IsBuilderF 82 5 w2.heap.size w2.heap.size (Lib.byteCells (wayL (rp true (L.take (i + 1))))) w10 from by
          rw [HNX.out, Lib.byteCells_append, Int.toNat_natCast]
          exact .inr hbl10)
        have HJ10 := Lib.hid (HJ9.out.others ho10 (by have := HGL.out; omega))
        have HB10 := Lib.hid (HB9.out.trans hb10)
        have HSUM2 : Hid ((L.take (i + 1)).sum ≤ 1000) := Lib.hid (by rw [HSX.out, ← HLW.out]; omega)
        clear hbl10 hb10 ho10
        go_wp2_with fail
        go_roundw
        case rel => exact ⟨i + 1, by omega, by go_num, HBL10.out, HJ10.out, HSUM2, HB10.out⟩
        case measure => simp [intOf]; omega

set_option maxHeartbeats 2000000 in
/-- .. of one that is not above nought. -/
theorem Path_low (q : Rat) (w : World) (hamb : Amb w) (hq : NQ q 14) (hr : RB (itx q.num) (itx (q.den : Int)) = true) (hpos : q.num ≤ 0) :
    Calls Tryz.prog 22 #[.agg #[.string (itx q.num), .string (itx (q.den : Int))]] w (SmallRes (.tuple #[.string ⟨#[]⟩, .int .i64 3]) w) := by
  have HW := Lib.hid (fun w h => wrong_any (itx q.num) (itx (q.den : Int)) w h (by have := itx_size_le q.num; have := hq.1; omega) (by have := itx_size_le (q.den : Int); have := hq.2; omega) true hr)
  obtain ⟨s, hs⟩ : ∃ s, q.num.sign = s := ⟨_, rfl⟩
  have hs0 : s ≤ 0 := by
    rw [← hs]
    rcases Int.lt_or_le q.num 0 with h | h
    · rw [Int.sign_eq_neg_one_of_neg h]; omega
    · rw [show q.num = 0 by omega]; decide
  have HSG := Lib.hid (fun w => show Calls Tryz.prog 46 #[.agg #[.string (itx q.num), .string (itx (q.den : Int))]] w (SmallRes (.int .i64 s) w) from by
    have := fsign_any q w (hq.mono (by omega))
    rw [hs] at this
    exact this)
  have HAMB := Lib.hid hamb
  clear hamb hq hr hpos hs
  go_enter Tryz.func22, Tryz.ntmps22
  go_wp2_with fail
  obtain ⟨W, hW⟩ : ∃ W, (w.alloc (.cells #[.string (itx q.num), .string (itx (q.den : Int))] 24)) = W := ⟨_, rfl⟩
  rw [hW]
  obtain ⟨hX, hBW⟩ := B1.of hW
  clear hW
  have HX := Lib.hid (fun wz (hb : Below W.heap.size W wz) => hX.later hb)
  have HB := Lib.hid hBW
  clear hX hBW
  refine (HW.out W (HAMB.out.below HB.out)).mono ?_
  rintro e w1 ⟨rfl, hb1⟩
  obtain ⟨_, c0, c1, _, _⟩ := HX.out _ hb1
  go_wp2_with fail
  refine (HSG.out w1).mono ?_
  rintro e w2 ⟨rfl, hb2⟩
  have hz2 := bel_chain hb1 hb2
  clear hb1 hb2 c0 c1
  go_wp2_with fail
  go_ret2
  exact ⟨rfl, bel_chain HB.out hz2⟩
set_option maxHeartbeats 1000000 in
/-- .. of two texts that are no fraction. -/
theorem Path_no (n d : ByteArray) (w : World) (hamb : Amb w) (hn : n.size ≤ 1000000000) (hd : d.size ≤ 1000000000) (hr : RB n d = false) :
    Calls Tryz.prog 22 #[.agg #[.string n, .string d]] w (SmallRes (.tuple #[.string ⟨#[]⟩, .int .i64 2]) w) := by
  have HW := Lib.hid (fun w h => wrong_any n d w h hn hd false hr)
  have HAMB := Lib.hid hamb
  clear hamb hr hn hd
  go_enter Tryz.func22, Tryz.ntmps22
  go_wp2_with fail
  obtain ⟨W, hW⟩ : ∃ W, (w.alloc (.cells #[.string n, .string d] 24)) = W := ⟨_, rfl⟩
  rw [hW]
  obtain ⟨_, hBW⟩ := B1.of hW
  clear hW
  refine (HW.out W (HAMB.out.below hBW)).mono ?_
  rintro e w1 ⟨rfl, hb1⟩
  have hB1 := bel_chain hBW hb1
  clear hBW hb1
  go_wp2_with fail
  go_ret2
  exact ⟨rfl, hB1⟩
end Go.Proofs.YtpafocfpofnkpaaGreatDoor
