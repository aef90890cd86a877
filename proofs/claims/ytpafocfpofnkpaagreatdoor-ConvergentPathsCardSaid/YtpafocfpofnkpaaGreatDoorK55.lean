/- Greater text, out of: K55. -/
import Derived.Test.YtpafocfpofnkpaaGreatDoorK61
import Derived.Shelf.Strings.SlTrimAscii
import Derived.Laws.RangeAny
namespace Go.Proofs.YtpafocfpofnkpaaGreatDoor
open Go.RowKit Go.PlainAid Go.Shelf
attribute [local go_sem] field_rat0 field_rat1
theorem dropWhile_nil_iff {p : UInt8 → Bool} : ∀ {l : List UInt8}, l.dropWhile p = [] ↔ ∀ x ∈ l, p x = true
  | [] => ⟨fun _ x hx => (by cases hx), fun _ => rfl⟩
  | a :: l => by
    rw [List.dropWhile_cons]
    by_cases h : p a = true
    · rw [if_pos h, dropWhile_nil_iff]
      exact ⟨fun k x hx => (by rcases List.mem_cons.1 hx with rfl | hx; exact h; exact k x hx), fun k x hx => k x (List.mem_cons_of_mem _ hx)⟩
    · rw [if_neg h]
      exact ⟨fun k => (by cases k), fun k => absurd (k a List.mem_cons_self) h⟩
theorem takeWhile_mem {p : UInt8 → Bool} : ∀ {l : List UInt8} {x : UInt8}, x ∈ l.takeWhile p → p x = true
  | [], x, h => by cases h
  | a :: l, x, h => by
    rw [List.takeWhile_cons] at h
    by_cases ha : p a = true
    · rw [if_pos ha] at h
      rcases List.mem_cons.1 h with rfl | h
      · exact ha
      · exact takeWhile_mem h
    · rw [if_neg ha] at h; cases h
/-- What Trim leaves. -/
theorem trimS_nil (l cs : List UInt8) (h : ∀ b ∈ l, cs.contains b = true) : Lib.trimS l cs = [] := by
  have h1 : Lib.trimRightS l cs = [] := by
    unfold Lib.trimRightS
    rw [List.reverse_eq_nil_iff, dropWhile_nil_iff]
    intro x hx
    exact h x (List.mem_reverse.1 hx)
  unfold Lib.trimS
  rw [h1]; rfl
theorem trimS_all (l cs : List UInt8) (h : Lib.trimS l cs = []) : ∀ b ∈ l, cs.contains b = true := by
  intro b hb
  unfold Lib.trimS Lib.trimLeftS at h
  rw [dropWhile_nil_iff] at h
  have hb' : b ∈ l.reverse := List.mem_reverse.2 hb
  rw [← List.takeWhile_append_dropWhile (p := fun x => cs.contains x) (l := l.reverse)] at hb'
  rcases List.mem_append.1 hb' with h1 | h1
  · exact takeWhile_mem (p := fun x => cs.contains x) h1
  · exact h b (by unfold Lib.trimRightS; exact List.mem_reverse.2 h1)
theorem info_set256 : (Tryz.prog.info? (Tryz.lays160_ren.t 116)).map (fun i => (i.zero, i.size)) = some (some (.agg (Array.replicate 256 (.bool false))), 256) := by kernel_rfl
theorem trim_LR (s : ByteArray) (w : World) (hs : s.size ≤ 100000) :
    Calls Tryz.prog 57 #[.string s, .string ⟨#[76, 82]⟩] w fun e w' => e = .returned (.string ⟨(Lib.trimS s.data.toList [76, 82]).toArray⟩) ∧ Below w.heap.size w w' :=
  Any.strings_Trim_laid (ρ := Tryz.lays160_ren) { Tryz.lays160 with } info_set256 s ⟨#[76, 82]⟩ w (by omega) (by decide) (ascii_of_all (by decide))

/-- How many digits the numbers on a way have. -/
structure Q4.Nz (z : Q4) (k : Nat) : Prop where
  a : nz z.a ≤ k
  b : nz z.b ≤ k
  c : nz z.c ≤ k
  d : nz z.d ≤ k
theorem Q4.Nz.go {z : Q4} {k : Nat} (h : z.Nz k) (r : Bool) : (z.go r).Nz (k + 1) := by
  obtain ⟨h1, h2, h3, h4⟩ := h
  unfold Q4.go
  cases r
  · exact ⟨Nat.le_succ_of_le h1, Nat.le_succ_of_le h2, nz_add_le h1 h3, nz_add_le h2 h4⟩
  · exact ⟨nz_add_le h1 h3, nz_add_le h2 h4, Nat.le_succ_of_le h3, Nat.le_succ_of_le h4⟩
theorem q0_nz : q0.Nz 1 := by
  have h1 : nz 1 ≤ 1 := (nz_le_iff 1 0).2 (by decide)
  have h0 : nz 0 ≤ 1 := (nz_le_iff 0 0).2 (by decide)
  exact ⟨h0, h1, h1, h0⟩
theorem at_nz (l : List Bool) : ∀ i, i ≤ l.length → (q0.at (l.take i)).Nz (i + 1) := by
  intro i
  induction i with
  | zero => intro _; exact q0_nz
  | succ i ih =>
    intro hi
    rw [at_take l i (by omega)]
    exact (ih (by omega)).go _
theorem way_all (l : List Bool) : ∀ b ∈ (way l).data.toList, ([76, 82] : List UInt8).contains b = true := by
  intro b hb
  have hb' : b ∈ wayL l := hb
  unfold wayL at hb'
  rw [List.mem_map] at hb'
  obtain ⟨r, _, e⟩ := hb'
  rw [← e]
  cases r <;> decide
theorem way_decode (l : List Bool) (i : Nat) (h : i < l.length) : Utf8.decode (way l) i = ((if l.getD i false = true then 82 else 76), 1) := by
  have hs : i < (way l).size := by rw [way_size]; exact h
  have hb : ((way l)[i]'hs).toNat = (if l.getD i false = true then 82 else 76) := by
    have h1 := way_bt l i h
    unfold bt at h1
    rw [dif_pos hs] at h1
    have h2 : (((way l)[i]'hs).toNat : Int) = ((if l.getD i false = true then 82 else 76 : Nat) : Int) := by
      refine Eq.trans (Eq.trans rfl h1) ?_
      split <;> rfl
    exact Int.ofNat.inj h2
  rw [decode_ascii (way l) i hs (by rw [hb]; split <;> decide), hb]

set_option maxHeartbeats 1000000 in
/-- convergent.At, of too long a text. -/
theorem At_long (s : ByteArray) (w : World) (hs : 1000 < s.size) :
    Calls Tryz.prog 24 #[.string s] w (SmallRes (.tuple #[.agg #[.string ⟨#[]⟩, .string ⟨#[]⟩], .int .i64 16]) w) := by
  have h1 : (1000 : Int) < (s.size : Int) := by omega
  clear hs
  go_enter Tryz.func24, Tryz.ntmps24
  go_wp2_with fail
  refine ret_cell_tmp rfl rfl (load_rat (g := w.heap.size) (B1.of rfl).1) rfl ?_
  exact ⟨rfl, (B1.of rfl).2⟩
set_option maxHeartbeats 1000000 in
/-- .. of a text that is no way. -/
theorem At_bad (s : ByteArray) (w : World) (hs : s.size ≤ 1000) (hb : ∃ b ∈ s.data.toList, ([76, 82] : List UInt8).contains b = false) :
    Calls Tryz.prog 24 #[.string s] w (SmallRes (.tuple #[.agg #[.string ⟨#[]⟩, .string ⟨#[]⟩], .int .i64 15]) w) := by
  have h1 : ¬ (1000 : Int) < (s.size : Int) := by omega
  have HT := Lib.hid (fun w => trim_LR s w (by omega))
  obtain ⟨t, ht⟩ : ∃ t : ByteArray, (⟨(Lib.trimS s.data.toList [76, 82]).toArray⟩ : ByteArray) = t := ⟨_, rfl⟩
  have hne : (t.toList == []) = false := by
    rw [beq_eq_false_iff_ne, Lib.toList_data, ← ht]
    intro e
    obtain ⟨b, h1, h2⟩ := hb
    have := trimS_all _ _ (show Lib.trimS s.data.toList [76, 82] = [] from by simpa using e) b h1
    rw [this] at h2; cases h2
  rw [ht] at HT
  clear ht hb hs
  go_enter Tryz.func24, Tryz.ntmps24
  go_wp2_with fail
  obtain ⟨W, hW⟩ : ∃ W, (w.alloc (.cells #[.string ⟨#[]⟩, .string ⟨#[]⟩] 24)) = W := ⟨_, rfl⟩
  try rw [hW]
  obtain ⟨hX, hBW⟩ := B1.of hW
  clear hW
  refine (HT.out W).mono ?_
  rintro e w2 ⟨rfl, hb2⟩
  have HL2 := Lib.hid (hX.later hb2)
  obtain ⟨_, c0, c1, f0, f1⟩ := hX.later hb2
  have hz2 := bel_chain hBW hb2
  clear hX hBW hb2
  go_wp2_with fail
  refine ret_cell_tmp rfl rfl (load_rat (g := w.heap.size) (HL2.out.store0 _ _)) rfl ?_
  exact ⟨rfl, (hz2.setCell (Nat.le_refl _) _).setCell (Nat.le_refl _) _⟩
set_option maxRecDepth 100000 in
set_option maxHeartbeats 4000000 in
/-- .. of a way. -/
theorem At_any (l : List Bool) (w : World) (hamb : Amb w) (hl : l.length ≤ 1000) :
    Calls Tryz.prog 24 #[.string (way l)] w (SmallRes (.tuple #[rv (Rat.divInt ((q0.at l).a + (q0.at l).c) ((q0.at l).b + (q0.at l).d)), .int .i64 0]) w) := by
  have HT := Lib.hid (fun w => show Calls Tryz.prog 57 #[.string (way l), .string ⟨#[76, 82]⟩] w (SmallRes (.string ⟨#[]⟩) w) from by
    have := trim_LR (way l) w (by rw [way_size]; omega)
    rw [trimS_nil _ _ (way_all l)] at this
    exact this)
  have HNZ := Lib.hid (fun i h => at_nz l i h)
  have HAT := Lib.hid (fun i h => at_take l i h)
  have HDC := Lib.hid (fun i h => way_decode l i h)
  have HPOS := Lib.hid (at_le l q0 1 Q4.Le.zero).bd
  have hsz := way_size l
  have HEND := Lib.hid (show q0.at (l.take l.length) = q0.at l by rw [List.take_of_length_le (Nat.le_refl _)])
  obtain ⟨m, hm⟩ : ∃ m, l.length = m := ⟨_, rfl⟩
  rw [hm] at hl HAT HNZ HDC HEND hsz
  obtain ⟨s, hs⟩ : ∃ s, way l = s := ⟨_, rfl⟩
  rw [hs] at HDC HT hsz ⊢
  have HSZ := Lib.hid hsz
  have hsl : ¬ (1000 : Int) < (s.size : Int) := by omega
  have HAMB := Lib.hid hamb
  clear hm hs hamb hsz
  go_enter Tryz.func24, Tryz.ntmps24
  go_wp2_with fail
  obtain ⟨W, hW⟩ : ∃ W, (w.alloc (.cells #[.string ⟨#[]⟩, .string ⟨#[]⟩] 24)) = W := ⟨_, rfl⟩
  try rw [hW]
  obtain ⟨hX, hBW⟩ := B1.of hW
  have HB := Lib.hid hBW
  have HXB := Lib.hid (fun wz (hb : Below W.heap.size W wz) => hX.later hb)
  have HA := Lib.hid (fun wz (hb : Below W.heap.size W wz) => HAMB.out.below (bel_chain HB.out hb))
  clear hW hX hBW
  refine (HT.out W).mono ?_
  rintro e w2 ⟨rfl, hb2⟩
  have HB2 := Lib.hid hb2
  clear hb2
  go_wp2_with fail
  go_loopg [4, 5, 6, 7] m (fun gk va vb vc vd wr => ∃ i : Nat, i + gk = m ∧ wr.heap[w2.heap.size]? = some (.stringIter s i) ∧ va = .string (itx (q0.at (l.take i)).a) ∧ vb = .string (itx (q0.at (l.take i)).b) ∧ vc = .string (itx (q0.at (l.take i)).c) ∧ vd = .string (itx (q0.at (l.take i)).d) ∧ Below w2.heap.size w2 wr)
  case atStart => exact ⟨0, by omega, World.iter_heap w2 s 0, by rw [show (q0.at (l.take 0)).a = 0 from rfl, itx_lit_zero], by rw [show (q0.at (l.take 0)).b = 1 from rfl, itx_lit_one], by rw [show (q0.at (l.take 0)).c = 1 from rfl, itx_lit_one], by rw [show (q0.at (l.take 0)).d = 0 from rfl, itx_lit_zero], (Below.refl _ w2).alloc (Nat.le_refl _) _⟩
  case round =>
    obtain ⟨i, hi, hit, rfl, rfl, rfl, rfl, hB⟩ := hrel
    have hnz := HNZ.out i (by omega)
    have HA1 := Lib.hid (fun w h => wadd_any (q0.at (l.take i)).a (q0.at (l.take i)).c w h (by have := hnz.a; omega) (by have := hnz.c; omega))
    have HA2 := Lib.hid (fun w h => wadd_any (q0.at (l.take i)).b (q0.at (l.take i)).d w h (by have := hnz.b; omega) (by have := hnz.d; omega))
    by_cases hps : i < s.size
    · obtain ⟨g', rfl⟩ : ∃ g', gk = g' + 1 := ⟨gk - 1, by have := HSZ.out; omega⟩
      have him : i < m := by omega
      have hnx : ∀ ty, (Instr.next (.pointer (some ⟨w2.heap.size, 0, none⟩)) true ty).run Tryz.prog wr = _ := fun ty => Lib.run_next_any_at wr w2.heap.size s i ty hit hps
      rw [HDC.out i him] at hnx
      have hit2 := Lib.iterAt_heap wr w2.heap.size s i (i + 1) hit
      have hbw2 := Lib.below_iterAt hB (k := w2.heap.size) (Nat.le_refl _) s (i + 1)
      obtain ⟨V, hV⟩ : ∃ V, wr.iterAt w2.heap.size s (i + 1) = V := ⟨_, rfl⟩
      rw [hV] at hnx hit2 hbw2
      have HIT := Lib.hid hit2
      have HBV := Lib.hid hbw2
      have HVL := Lib.hid (show w2.heap.size < V.heap.size from (Array.getElem?_eq_some_iff.1 hit2).1)
      have HZV := Lib.hid (HB2.out.trans (hbw2.mono HB2.out.size))
      have HNX := Lib.hid (HAT.out i him)
      obtain ⟨z, hz⟩ : ∃ z, q0.at (l.take i) = z := ⟨_, rfl⟩
      rw [hz] at HA1 HA2 HNX ⊢
      obtain ⟨r, hr⟩ : ∃ r, l.getD i false = r := ⟨_, rfl⟩
      rw [hr] at hnx HNX
      obtain ⟨za, zb, zc, zd⟩ := z
      dsimp only at *
      clear hz hr hV hit hit2 hbw2 hB hnz
      cases r
      · rw [if_neg (by decide)] at hnx
        have HN := Lib.hid (show q0.at (l.take (i + 1)) = ⟨za, zb, za + zc, zb + zd⟩ from HNX.out)
        go_wp2_with fail
        refine (HA1.out V (HA.out _ HZV.out)).mono ?_
        rintro e w5 ⟨rfl, hb5⟩
        have hz5 := bel_chain HZV.out hb5
        go_wp2_with fail
        refine (HA2.out w5 (HA.out _ hz5)).mono ?_
        rintro e w6 ⟨rfl, hb6⟩
        have HB56 := Lib.hid (bel_chain hb5 hb6)
        clear hb5 hb6 hz5 hnx
        go_wp2_with fail
        go_roundg g'
        case measure => omega
        case rel => exact ⟨i + 1, by omega, (HB56.out.block _ HVL.out).trans HIT.out, by rw [HN.out], by rw [HN.out], by rw [HN.out], by rw [HN.out], bel_chain HBV.out HB56.out⟩
      · rw [if_pos rfl] at hnx
        have HN := Lib.hid (show q0.at (l.take (i + 1)) = ⟨za + zc, zb + zd, zc, zd⟩ from HNX.out)
        go_wp2_with fail
        refine (HA1.out V (HA.out _ HZV.out)).mono ?_
        rintro e w5 ⟨rfl, hb5⟩
        have hz5 := bel_chain HZV.out hb5
        go_wp2_with fail
        refine (HA2.out w5 (HA.out _ hz5)).mono ?_
        rintro e w6 ⟨rfl, hb6⟩
        have HB56 := Lib.hid (bel_chain hb5 hb6)
        clear hb5 hb6 hz5 hnx
        go_wp2_with fail
        go_roundg g'
        case measure => omega
        case rel => exact ⟨i + 1, by omega, (HB56.out.block _ HVL.out).trans HIT.out, by rw [HN.out], by rw [HN.out], by rw [HN.out], by rw [HN.out], bel_chain HBV.out HB56.out⟩
    · have hnx : ∀ ty, (Instr.next (.pointer (some ⟨w2.heap.size, 0, none⟩)) true ty).run Tryz.prog wr = _ := fun ty => Lib.run_next_end_at wr w2.heap.size s i ty hit hps
      obtain rfl : i = m := by have := HSZ.out; omega
      rw [HEND.out] at HA1 HA2 hnz ⊢
      have HZR := Lib.hid (HB2.out.trans (hB.mono HB2.out.size))
      have HOV := Lib.hid (fun w h => over_any ((q0.at l).a + (q0.at l).c) ((q0.at l).b + (q0.at l).d) w h (by have := HPOS.out; omega) (Nat.le_trans (nz_add_le hnz.a hnz.c) (by omega)) (Nat.le_trans (nz_add_le hnz.b hnz.d) (by omega)))
      obtain ⟨Y, hY⟩ : ∃ Y, Rat.divInt ((q0.at l).a + (q0.at l).c) ((q0.at l).b + (q0.at l).d) = Y := ⟨_, rfl⟩
      rw [hY] at HOV
      have HYY := Lib.hid hY
      obtain ⟨z, hz⟩ : ∃ z, q0.at l = z := ⟨_, rfl⟩
      have HZZ := Lib.hid hz
      rw [hz] at HA1 HA2 HOV HYY ⊢
      obtain ⟨za, zb, zc, zd⟩ := z
      dsimp only at *
      clear hz hY hit hB hnz
      go_wp2_with fail
      refine (HA1.out wr (HA.out _ HZR.out)).mono ?_
      rintro e w5 ⟨rfl, hb5⟩
      have hz5 := bel_chain HZR.out hb5
      clear hb5
      go_wp2_with fail
      refine (HA2.out w5 (HA.out _ hz5)).mono ?_
      rintro e w6 ⟨rfl, hb6⟩
      have hz6 := bel_chain hz5 hb6
      clear hb6 hz5
      go_wp2_with fail
      refine (HOV.out w6 (HA.out _ hz6)).mono ?_
      rintro e w7 ⟨rfl, hb7⟩
      have hz7 := bel_chain hz6 hb7
      have HL7 := Lib.hid (HXB.out _ hz7)
      obtain ⟨_, c0, c1, f0, f1⟩ := HXB.out _ hz7
      clear hb7 hz6
      go_wp2_with fail
      refine ret_cell_tmp rfl rfl (load_rat (g := w.heap.size) (HL7.out.store0 _ _)) rfl ?_
      rw [HZZ.out]
      dsimp only
      rw [HYY.out]
      exact ⟨rfl, ((bel_chain HB.out hz7).setCell (by simp <;> omega) _).setCell (by simp <;> omega) _⟩
end Go.Proofs.YtpafocfpofnkpaaGreatDoor
