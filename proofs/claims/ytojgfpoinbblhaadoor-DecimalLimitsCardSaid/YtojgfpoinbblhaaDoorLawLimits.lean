/- The walk of DecimalLimits: it returns true, for any number of a byte. -/
import Derived.Test.YtojgfpoinbblhaaDoorLawBase1
namespace Go.Proofs.YtojgfpoinbblhaaDoor
open Go.RowKit
/-- A row of nines being written. -/
def nin (n i : Nat) : List UInt8 := List.replicate i 57 ++ List.replicate (n - i) 0
theorem nin_set (n i : Nat) (h : i < n) : (nin n i).set i 57 = nin n (i + 1) := by
  unfold nin
  rw [List.set_append_right _ _ (by simp), List.length_replicate, Nat.sub_self, show n - i = (n - (i + 1)) + 1 by omega, List.replicate_succ, List.set_cons_zero, List.replicate_succ']
  simp
theorem nin_end (n : Nat) : nin n n = List.replicate n 57 := by simp [nin]
theorem canon_nines (n : Nat) (h : 2 ≤ n) : canon (List.replicate n 57) = true := by
  unfold canon
  have h1 : (List.replicate n (57 : UInt8)).all isDig = true := by
    rw [List.all_eq_true]
    intro x hx
    rw [List.eq_of_mem_replicate hx]; decide
  rw [h1, List.length_replicate, decide_eq_true (by omega : 1 < n), List.getD_eq_getElem?_getD, List.getElem?_replicate, if_pos (by omega)]
  simp
theorem canon_zero_nines (n : Nat) (h : 2 ≤ n) : canon (48 :: List.replicate n 57) = false := by
  unfold canon
  rw [List.length_cons, List.length_replicate, show (n + 1 == 1) = false by simp; omega]
  simp
def NinAt (n i : Nat) (w wr : World) : Prop := Below w.heap.size w wr ∧ Bc wr w.heap.size n n (nin n i)
set_option maxRecDepth 100000 in
set_option maxHeartbeats 4000000 in
theorem lawLimits_walk (m : Int) (w : World) (hamb : Amb w) (hm0 : 0 ≤ m) (hm1 : m ≤ 255) :
    Calls Tryd.prog 7 #[.int .u8 m] w (SmallRes (.bool true) w) := by
  obtain ⟨r, hr⟩ : ∃ r : Nat, m % 11 = (r : Int) := ⟨(m % 11).toNat, by omega⟩
  have hr10 : r ≤ 10 := by omega
  obtain ⟨n, hn⟩ : ∃ n : Nat, (395 : Int) + (r : Int) = (n : Int) := ⟨395 + r, by omega⟩
  have hn1 : 395 ≤ n ∧ n ≤ 405 := by omega
  have HR := Lib.hid hr
  have HN := Lib.hid hn
  clear hr hn hr10
  obtain ⟨s, hs⟩ : ∃ s : ByteArray, s = ⟨(List.replicate n 57).toArray⟩ := ⟨_, rfl⟩
  have hsz : s.size = n := by rw [hs]; simp [ByteArray.size]
  have hsd : s.data.toList = List.replicate n 57 := by rw [hs]
  have hz : (⟨#[48]⟩ ++ s : ByteArray).data.toList = 48 :: List.replicate n 57 := by rw [hs]; simp
  have hzs : (⟨#[48]⟩ ++ s : ByteArray).size = n + 1 := by rw [← hsz, ByteArray.size_append]; show 1 + s.size = s.size + 1; omega
  have hcan := fun w1 => canonical_any s w1 (by omega)
  have hck := fun w1 => check_any s w1 (by omega)
  have hcz := fun w1 => check_any (⟨#[48]⟩ ++ s) w1 (by omega)
  rw [hsd, canon_nines n (by omega)] at hcan hck
  rw [hz, canon_zero_nines n (by omega)] at hcz
  rw [hsz] at hck
  simp only [true_and, Bool.false_eq_true, false_and, if_false] at hck hcz
  have hdg := fun w1 => digits_any s w1
  rw [hsz] at hdg
  have HCAN := Lib.hid hcan
  have HCK := Lib.hid hck
  have HCZ := Lib.hid hcz
  have HDG := Lib.hid hdg
  have HS := Lib.hid hs
  have hs405 : s.size ≤ 405 := by omega
  clear hcan hck hcz hdg hsd hz hzs hsz hs
  go_enter Tryd.func7, Tryd.ntmps7
  have hB0 : Below w.heap.size w w := Below.refl _ _
  have hA0 := hamb
  go_wp2_with fail
  refine (known1_any _ hA0).mono ?_
  rintro e w1 ⟨rfl, hb1⟩
  have hB1 := bel_chain hB0 hb1
  have hA1 := hA0.below hb1
  clear hB0 hA0 hb1
  have hmk := make_Bc 23 Tryd.underlying23 n n (Nat.le_refl _) (by omega) w1
  have hr := HR.out
  have hn := HN.out
  go_wp2_with fail
  clear hr hn hmk
  go_loopw [5] (fun vi wr => ∃ i : Nat, i ≤ n ∧ vi = .int .i64 (i : Int) ∧ NinAt n i w1 wr) (fun vi _ => n - (intOf vi).toNat)
  case atStart => exact ⟨0, by omega, rfl, (Below.refl _ _).alloc (Nat.le_refl _) _, by have := Bc.made w1 n n (Nat.le_refl _) (by omega); simpa [nin] using this⟩
  case round =>
    obtain ⟨i, hi, rfl, hb, hp⟩ := hrel
    by_cases hin : i = n
    · subst hin
      rw [nin_end] at hp
      have hcv := str_of_Bc 23 26 Tryd.underlying23 Tryd.underlying26 hp
      rw [← HS.out] at hcv
      have hB2 := bel_chain hB1 hb
      have hA2 := hA1.below hb
      clear hp hb hB1 hA1
      by_cases h4 : i ≤ 400
      all_goals
        have hck := HCK.out
        first
          | simp only [if_pos h4] at hck
          | simp only [if_neg h4] at hck
        have HCK2 := Lib.hid hck
        clear hck
        go_wp2_with fail
        refine (HDG.out _).mono ?_
        rintro e w2' ⟨rfl, rfl⟩
        go_wp2_with fail
        refine (HCAN.out _).mono ?_
        rintro e w3 ⟨rfl, hb3⟩
        have hB3 := bel_chain hB2 hb3
        have hA3 := hA2.below hb3
        clear hB2 hA2 hb3 hcv
        go_wp2_with fail
        refine (HCZ.out _).mono ?_
        rintro e w4 ⟨rfl, hb4⟩
        have hB4 := bel_chain hB3 hb4
        have hA4 := hA3.below hb4
        clear hB3 hA3 hb4
        go_wp2_with fail
        refine (HCK2.out _).mono ?_
        rintro e w5 ⟨rfl, hb5⟩
        have hB5 := bel_chain hB4 hb5
        clear hB4 hA4 hb5
        go_wp2_with fail
        go_ret
        exact ⟨rfl, hB5⟩
    · have hin' : i < n := by omega
      have hc := hp.cell i hin'
      have hf := hp.free i
      have hset := hp.set i 57
      rw [nin_set n i hin'] at hset
      have HSET := Lib.hid hset
      clear hset hp hin
      generalize ((nin n i).getD i 0).toNat = q at *
      go_wp2
      go_roundw
      case rel => exact ⟨i + 1, by omega, by go_num, hb.setCell (Nat.le_refl _) _, HSET.out⟩
      case measure => simp [intOf]; omega
end Go.Proofs.YtojgfpoinbblhaaDoor
