/- Greater text, out of: Q10. -/
import Derived.Test.YtdjhngbpfdopnaaGreatDoorQ3
import Derived.Test.YtdjhngbpfdopnaaGreatDoorQ5
namespace Go.Proofs.YtdjhngbpfdopnaaGreatDoor
open Go.RowKit Go.PlainAid Go.Shelf Go.Lib Go.Sort

theorem upto_gives (lim x : Int) (B : Nat) (W : World) (hc : W.cell? ⟨B, 0, none⟩ = some (.int .i64 lim)) :
    FnGives Tryz.prog 91 #[.pointer (some ⟨B, 0, none⟩)] #[.int .i64 x] (.bool (decide (lim < x))) W := by
  show Calls Tryz.prog 91 #[.int .i64 x, .pointer (some ⟨B, 0, none⟩)] W _
  go_enter Tryz.func91, Tryz.ntmps91
  go_wp2
  all_goals (go_ret; exact ⟨by simp_all, 0, rfl⟩)
theorem below_putRow (enc : Int → Value) (w : World) (q blk off : Nat) (d : Array Int) {B : Nat} (hB : B ≤ blk) : Below B w (putRow enc (Sort.ahead w q) blk off d) :=
  ⟨rfl, rfl, rfl, by rw [size_putRow]; exact Nat.le_refl _, fun k hk => by simp [putRow, mapBlock, Sort.ahead, Array.getElem?_modify, show blk ≠ k by omega]⟩
theorem P25_bang {j : Nat} (h : j < 25) : P25.toArray[j]! = P25.getD j 0 := by
  rw [getElem!_pos P25.toArray j (by rw [List.size_toArray]; exact h), getD_of h]; rfl
/-- slices.DeleteFunc, as UpTo calls it. -/
theorem del_any (lim : Int) (b g cap : Nat) (w : World) (hz : Zc w g 25 cap P25) (hb : w.cell? ⟨b, 0, none⟩ = some (.int .i64 lim)) (hne : b ≠ g) :
    Calls Tryz.prog 90 #[.slice (some ⟨g, 0, none⟩) 25 cap, .func (.func 91) #[] #[.pointer (some ⟨b, 0, none⟩)]] w fun e w' =>
      e = .returned (.slice (some ⟨g, 0, none⟩) (pall lim).length cap) ∧ InZ w' (some ⟨g, 0, none⟩) (pall lim).length cap (pall lim) ∧ ∀ B, B ≤ g → Below B w w' := by
  have eg : ∀ args w, (callFunc 91 args).run Tryz.prog w = .ok (.enter 91 args) w := enters_of Tryz.func91 (by kernel_rfl) rfl
  have hbl := World.block_lt_of_cell? w _ hb
  have hH : Holds (Value.int .i64) w g 0 P25.toArray := fun j hj => by
    have hj' : j < 25 := hj
    rw [P25_bang hj', Nat.zero_add]
    exact ⟨hz.cell j hj', hz.free j⟩
  have hcon := Tryz.slices_DeleteFunc (Value.int .i64) (fun _ => rfl) (fun x => decide (lim < x)) 91 #[.pointer (some ⟨b, 0, none⟩)] eg 0 Tryz.zeroValue3 g 0 cap P25.toArray w
    (fun W x hW => upto_gives lim x b W ((hW.cell (p := ⟨b, 0, none⟩) hbl).trans hb))
    (fun n os dk x _ => upto_gives lim x b _ (by
      unfold sortWorld
      rw [cell?_grow _ _ _ (by show b < (putRow _ _ _ _ _).heap.size; rw [size_putRow]; exact hbl), cell?_putRow_other _ _ g 0 _ _ (Or.inl hne)]
      exact hb))
    hH (by decide) hz.le
  have hl : (pall lim).length ≤ 25 := plow_len _
  refine hcon.mono ?_
  rintro e w' ⟨he, q, hw⟩
  rw [pall_filter] at he hw
  refine ⟨he, ?_, fun B hB => by rw [hw]; exact below_putRow _ _ _ _ _ _ hB⟩
  have hH2 : Holds (Value.int .i64) (Sort.ahead w q) g 0 P25.toArray := hH
  have hs : (pall lim ++ List.replicate (P25.toArray.size - (pall lim).length) 0).toArray.size = P25.toArray.size := by
    have e : P25.toArray.size = 25 := rfl
    simp only [List.size_toArray, List.length_append, List.length_replicate, e]
    omega
  have hH3 := holds_putRow (Value.int .i64) (Sort.ahead w q) g 0 P25.toArray _ hH2 hs
  rw [← hw] at hH3
  refine ⟨rfl, Nat.le_trans hl hz.le, hz.cap_le, fun _ => ⟨g, 0, rfl, ?_, fun j hj => ?_⟩⟩
  · rw [hw, size_putRow]; exact hz.lt
  · have hj2 : j < (pall lim ++ List.replicate (P25.toArray.size - (pall lim).length) 0).toArray.size := by simp; omega
    have h3 := (hH3 j hj2).1
    rw [h3, getElem!_pos _ j hj2]
    simp only [List.getElem_toArray]
    rw [List.getElem_append_left hj, getD_of hj]
/-- UpTo below 2. -/
theorem upto_low (n : Int) (w : World) (h : n < 2) :
    Calls Tryz.prog 38 #[.int .i64 n] w (SmallRes (.tuple #[.slice none 0 0, .int .i64 3]) w) := by
  go_enter Tryz.func38, Tryz.ntmps38
  go_wp2_with fail
  go_ret2
  exact ⟨rfl, (Below.refl _ _).alloc (Nat.le_refl _) _⟩
set_option maxHeartbeats 800000 in
/-- UpTo. -/
theorem upto_many (n : Int) (w : World) (hm : AmbM w) (h17 : 17 ≤ n) :
    Calls Tryz.prog 38 #[.int .i64 n] w (ZRes [] 4 w) := by
  have h2 : ¬ n < 2 := by omega
  have hal : Below w.heap.size w (w.alloc (.cells #[.int .i64 n] 3)) := (Below.refl _ _).alloc (Nat.le_refl _) _
  have HE := Lib.hid (every_any (w.alloc (.cells #[.int .i64 n] 3)) (hm.below hal))
  have hcell : (w.alloc (.cells #[.int .i64 n] 3)).cell? ⟨w.heap.size, 0, none⟩ = some (.int .i64 n) := by simp [World.cell?_alloc_new]
  clear hm
  go_enter Tryz.func38, Tryz.ntmps38
  go_wp2_with fail
  refine HE.out.mono ?_
  rintro e w1 ⟨v, rfl, hown, hb1⟩
  rw [World.size_alloc] at hown
  have hc1 := (hb1.cell (p := ⟨w.heap.size, 0, none⟩) (by rw [World.size_alloc]; exact Nat.lt_succ_self _)).trans hcell
  have hz1 := hal.trans (hb1.mono (by rw [World.size_alloc]; omega))
  rcases hown with ⟨_, e⟩ | ⟨g, cap, rfl, hg, hz⟩
  · cases e
  have hl : P25.length = 25 := rfl
  rw [hl] at hz ⊢
  have HD := Lib.hid (del_any n w.heap.size g cap w1 hz hc1 (by omega))
  clear hz hc1 hb1 hcell hal HE hl
  obtain ⟨xs, hxs⟩ : ∃ xs, pall n = xs := ⟨_, rfl⟩
  have HXS := Lib.hid hxs
  rw [hxs] at HD
  have HL := Lib.hid (show 6 < xs.length by rw [← hxs]; exact pall_many h17)
  have h6 : 6 < (xs.length : Int) := by have := HL.out; omega
  clear hxs h17
  go_wp2_with fail
  refine HD.out.mono ?_
  rintro e w2 ⟨rfl, hin, hb2⟩
  have hz2 := hz1.trans (hb2 _ (by omega))
  clear hin hb2
  go_wp2_with fail
  go_ret2
  exact ⟨_, _, _, rfl, InZ.nil _, hz2⟩
set_option maxHeartbeats 800000 in
/-- UpTo. -/
theorem upto_few (n : Int) (w : World) (hm : AmbM w) (h : 2 ≤ n) (h17 : n < 17) :
    Calls Tryz.prog 38 #[.int .i64 n] w (ZRes (pall n) 0 w) := by
  have h2 : ¬ n < 2 := by omega
  have hal : Below w.heap.size w (w.alloc (.cells #[.int .i64 n] 3)) := (Below.refl _ _).alloc (Nat.le_refl _) _
  have HE := Lib.hid (every_any (w.alloc (.cells #[.int .i64 n] 3)) (hm.below hal))
  have hcell : (w.alloc (.cells #[.int .i64 n] 3)).cell? ⟨w.heap.size, 0, none⟩ = some (.int .i64 n) := by simp [World.cell?_alloc_new]
  clear hm h
  go_enter Tryz.func38, Tryz.ntmps38
  go_wp2_with fail
  refine HE.out.mono ?_
  rintro e w1 ⟨v, rfl, hown, hb1⟩
  rw [World.size_alloc] at hown
  have hc1 := (hb1.cell (p := ⟨w.heap.size, 0, none⟩) (by rw [World.size_alloc]; exact Nat.lt_succ_self _)).trans hcell
  have hz1 := hal.trans (hb1.mono (by rw [World.size_alloc]; omega))
  rcases hown with ⟨_, e⟩ | ⟨g, cap, rfl, hg, hz⟩
  · cases e
  have hl : P25.length = 25 := rfl
  rw [hl] at hz ⊢
  have HD := Lib.hid (del_any n w.heap.size g cap w1 hz hc1 (by omega))
  clear hz hc1 hb1 hcell hal HE hl
  obtain ⟨xs, hxs⟩ : ∃ xs, pall n = xs := ⟨_, rfl⟩
  have HXS := Lib.hid hxs
  rw [hxs] at HD
  have HL := Lib.hid (show xs.length ≤ 6 by rw [← hxs]; exact pall_few (by omega))
  have h6 : ¬ 6 < (xs.length : Int) := by have := HL.out; omega
  clear hxs h17
  go_wp2_with fail
  refine HD.out.mono ?_
  rintro e w2 ⟨rfl, hin, hb2⟩
  have hz2 := hz1.trans (hb2 _ (by omega))
  have HIN := Lib.hid hin
  clear hin hb2
  go_wp2_with fail
  go_ret2
  exact ⟨_, _, _, rfl, by rw [HXS.out]; exact HIN.out, hz2⟩
end Go.Proofs.YtdjhngbpfdopnaaGreatDoor
