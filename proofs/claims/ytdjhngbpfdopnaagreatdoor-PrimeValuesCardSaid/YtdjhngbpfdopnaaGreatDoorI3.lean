/- Greater text, out of: I3. -/
import Derived.Test.YtdjhngbpfdopnaaGreatDoorGx
import Derived.Deep.LoopGhost
namespace Go.Proofs.YtdjhngbpfdopnaaGreatDoor
open Go.RowKit Go.PlainAid

theorem iter_le (w wx : World) (s : ByteArray) (hb : Below w.heap.size w wx) (q : Nat) : Below w.heap.size w (wx.iterAt w.heap.size s q) := Lib.below_iterAt hb (Nat.le_refl _) s q
theorem iter_keep {w wx w2 : World} {s : ByteArray} {p : Nat} (hs : w.heap.size < wx.heap.size) (hb : Below wx.heap.size wx w2) (hk : wx.heap[w.heap.size]? = some (.stringIter s p)) : w2.heap[w.heap.size]? = some (.stringIter s p) := by
  rw [hb.block _ hs]; exact hk
theorem lt_of_iter {wx : World} {k : Nat} {o : Obj} (h : wx.heap[k]? = some o) : k < wx.heap.size := by
  rcases Nat.lt_or_ge k wx.heap.size with h' | h'
  · exact h'
  · rw [Array.getElem?_eq_none h'] at h; simp at h
theorem isTwo (x : UInt8) : ([47, 46] : List UInt8).contains x = decide (0 ≤ Lib.indexByte [47, 46] x) := Lib.contains_iff_indexByte _ _
set_option maxRecDepth 100000 in
set_option maxHeartbeats 4000000 in
/-- strings.IndexAny(s, "/."), s of at most 8 bytes, whatever they are. -/
theorem indexAny_short (s : ByteArray) (w : World) (h8 : s.size ≤ 8) : Calls Tryz.prog 62 #[.string s, .string ⟨#[47, 46]⟩] w (SmallRes (.int .i64 (Lib.indexAny s.data.toList [47, 46])) w) := by
  have h8i : ¬ (8 : Int) < (s.size : Int) := by omega
  have H8 := Lib.hid h8
  have HIR := Lib.hid (fun (r : Int) w (h1 : 128 ≤ r) (h2 : r ≤ 1114111) => idxrune_high r w h1 h2)
  have HIA := Lib.hid (fun (x : UInt8) w (h : x.toNat < 128) => Tryz.strings_IndexRune_ascii ⟨#[47, 46]⟩ (x.toNat : Int) w (by omega) (by omega))
  have HAS := Lib.hid (fun w => Tryz.strings_shouldUseASCIISet (s.size : Int) w)
  have hbt := get_bt s
  clear h8
  go_enter Tryz.func62, Tryz.ntmps62
  go_wp2_with fail
  refine (HAS.out _).mono ?_
  rintro e w1 ⟨rfl, rfl⟩
  go_wp2_with fail
  go_loopg [9, 10] s.size (fun g _ _ wx => ∃ i : Nat, i + g = s.size ∧ wx.heap[w1.heap.size]? = some (.stringIter s i) ∧ Below w1.heap.size w1 wx ∧ Lib.NoAny s.data.toList [47, 46] i)
  case atStart => exact ⟨0, by omega, World.iter_heap _ _ _, iter_below _ _ _, Lib.NoAny.zero _ _⟩
  case round =>
    obtain ⟨i, hig, hk, hbw, hno⟩ := hrel
    have HN := Lib.hid hno
    have HB := Lib.hid hbw
    have HK := Lib.hid hk
    clear hno hbw
    cases gk with
    | zero =>
      obtain rfl : i = s.size := by omega
      have hnx := fun ty => Lib.run_next_end_at (P := Tryz.prog) wr w1.heap.size s s.size ty hk (Nat.lt_irrefl _)
      clear hk
      go_wp2_with fail
      go_ret
      exact ⟨by rw [Lib.indexAny_none (by rw [← Lib.size_eq]; exact HN.out)]; rfl, HB.out⟩
    | succ g =>
      have hi : i < s.size := by omega
      obtain ⟨x, hx⟩ : ∃ x : UInt8, s[i]'hi = x := ⟨_, rfl⟩
      have hxl : s.data.toList[i]? = some x := by rw [← hx]; exact Lib.data_getElem? s i hi
      have Hx := Lib.hid hxl
      by_cases hx128 : x.toNat < 128
      · have hnx := fun ty => Lib.run_next_ascii_at (P := Tryz.prog) wr w1.heap.size s i ty hk hi (by rw [hx]; exact hx128)
        rw [hx] at hnx
        have HC := Lib.hid (HIA.out x (wr.iterAt w1.heap.size s (i + 1)) hx128)
        have HL := Lib.hid (iter_le w1 wr s HB.out (i + 1))
        have HH := Lib.hid (Lib.iterAt_heap wr w1.heap.size s i (i + 1) hk)
        have hback : ((x.toNat : Int)).toNat.toUInt8 = x := by simp
        rw [hback] at HC
        have hcon := isTwo x
        clear hxl hx hk
        cases hin : ([47, 46] : List UInt8).contains x
        · rw [hin] at hcon
          have HIN := Lib.hid hin
          have hlt : ¬ ((0 : Int) ≤ Lib.indexByte [47, 46] x) := of_decide_eq_false hcon.symm
          generalize Lib.indexByte [47, 46] x = ib at *
          clear hcon hin
          go_wp2_with fail
          refine HC.out.mono ?_
          rintro e w2 ⟨rfl, rfl⟩
          go_wp2_with fail
          go_roundg g
          case measure => omega
          case rel => exact ⟨i + 1, by omega, HH.out, HL.out, HN.out.succ Hx.out HIN.out⟩
        · rw [hin] at hcon
          have HIN := Lib.hid hin
          have hge : (0 : Int) ≤ Lib.indexByte [47, 46] x := of_decide_eq_true hcon.symm
          generalize Lib.indexByte [47, 46] x = ib at *
          clear hcon hin
          go_wp2_with fail
          refine HC.out.mono ?_
          rintro e w2 ⟨rfl, rfl⟩
          go_wp2_with fail
          go_ret
          exact ⟨by rw [Lib.indexAny_hit HN.out Hx.out HIN.out]; rfl, HL.out⟩
      · have hd := decode_high s i hi (by rw [hx]; omega)
        have hm := decode_max s i
        have hw := noAny_rune s i hi (by rw [hx]; omega) HN.out
        have hnx := fun ty => Lib.run_next_any_at (P := Tryz.prog) wr w1.heap.size s i ty hk hi
        obtain ⟨c, hc⟩ : ∃ c, (Utf8.decode s i).1 = c := ⟨_, rfl⟩
        obtain ⟨k, hkk⟩ : ∃ k, (Utf8.decode s i).2 = k := ⟨_, rfl⟩
        have hle : i + k ≤ s.size := by
          by_cases h1 : k = 1
          · omega
          · have := (decode_cont s i hi (k - 1) (by omega) (by omega)).1
            omega
        rw [hc, hkk] at hnx hd
        rw [hc] at hm
        rw [hkk] at hw
        have HW := Lib.hid hw
        have HC := Lib.hid (HIR.out (c : Int) (wr.iterAt w1.heap.size s (i + k)) (by omega) (by omega))
        have HL := Lib.hid (iter_le w1 wr s HB.out (i + k))
        have HH := Lib.hid (Lib.iterAt_heap wr w1.heap.size s i (i + k) hk)
        have HD := Lib.hid (And.intro hd hle)
        clear hc hkk hd hm hw hx hxl hk hle
        go_wp2_with fail
        refine HC.out.mono ?_
        rintro e w2 ⟨rfl, hb2⟩
        go_wp2_with fail
        go_roundg (s.size - (i + k))
        case measure => have := HD.out; omega
        case rel => exact ⟨i + k, by have := HD.out; omega, iter_keep (lt_of_iter HH.out) hb2 HH.out, HL.out.trans (hb2.mono (HL.out.size)), HW.out⟩
/-- strings.IndexAny(s, "/."), whatever s. -/
theorem indexAny_any (s : ByteArray) (w : World) (hs : s.size ≤ 1000000) : Calls Tryz.prog 62 #[.string s, .string ⟨#[47, 46]⟩] w (SmallRes (.int .i64 (Lib.indexAny s.data.toList [47, 46])) w) := by
  by_cases h8 : s.size ≤ 8
  · exact indexAny_short s w h8
  · exact (Tryz.strings_IndexAny_long (zero_of_info (show (Tryz.prog.info? 153).map (fun i => (i.zero, i.size)) = some (some (.agg (Array.replicate 256 (.bool false))), 256) by kernel_rfl)).1 s ⟨#[47, 46]⟩ w (by decide) (by omega) (by omega) (by decide) (fun j b hb => by
      rcases j with _ | _ | j
      · have h : some (47 : UInt8) = some b := hb
        injection h with h; subst h; decide
      · have h : some (46 : UInt8) = some b := hb
        injection h with h; subst h; decide
      · simp at hb)).mono fun e w' h => ⟨h.1, by rw [h.2]; exact ((Below.refl _ _).alloc (Nat.le_refl _) _).alloc (by rw [World.size_alloc]; omega) _⟩
end Go.Proofs.YtdjhngbpfdopnaaGreatDoor
