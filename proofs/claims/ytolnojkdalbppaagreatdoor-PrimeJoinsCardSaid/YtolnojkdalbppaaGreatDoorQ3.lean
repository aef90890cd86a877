/- Greater text, out of: Q3. -/
import Derived.Test.YtolnojkdalbppaaGreatDoorQ2b
import Derived.Test.YtolnojkdalbppaaGreatDoorShelf
namespace Go.Proofs.YtolnojkdalbppaaGreatDoor
open Go.RowKit Go.PlainAid

/-- The library's greatest length is some int. -/
def AmbM (w : World) : Prop := ∃ m : Int, w.cell? ⟨2, 0, none⟩ = some (.int .i64 m)
theorem AmbM.below {w w' : World} (h : AmbM w) (hb : Below w.heap.size w w') : AmbM w' := by
  obtain ⟨m, h⟩ := h
  exact ⟨m, (hb.cell (p := ⟨2, 0, none⟩) (World.block_lt_of_cell? w _ h)).trans h⟩
/-- What the walks of this chapter ask of the world. -/
structure Amb11 (w : World) : Prop where
  a : Amb w
  m : AmbM w
theorem Amb11.below {w w' : World} (h : Amb11 w) (hb : Below w.heap.size w w') : Amb11 w' := ⟨h.a.below hb, h.m.below hb⟩

/-- A new slice of ints is returned: all that lay there is as it was. -/
def OZPost (xs : List Int) (w : World) (e : Ending) (w' : World) : Prop := ∃ v, e = .returned v ∧ OwnZ w.heap.size w' v xs ∧ Below w.heap.size w w'

set_option maxHeartbeats 800000 in
/-- schismalaw11.all. -/
theorem lall_any (n : Int) (w : World) :
    Calls Tryz.prog 19 #[.int .i64 n] w (OZPost (pall n) w) := by
  go_enter Tryz.func19, Tryz.ntmps19
  go_wp2_with fail
  go_loopw [3, 4] (fun vo vk wr => ∃ k : Int, 2 ≤ k ∧ k ≤ max 2 (min n 97 + 1) ∧ vk = .int .i64 k ∧ OwnZ w.heap.size wr vo (plow k) ∧ Below w.heap.size w wr) (fun _ vk _ => (100 - intOf vk).toNat)
  case atStart => exact ⟨2, by omega, by omega, rfl, by rw [plow_two]; exact OwnZ.nil _ _, Below.refl _ _⟩
  case round =>
    obtain ⟨k, h2, hk, rfl, hown, hB⟩ := hrel
    by_cases hlt : k ≤ min n 97
    · have HL := Lib.hid (plow_len k)
      have HIP := Lib.hid (lisprime_any k)
      have hk97 : k ≤ 97 := by omega
      cases hp : pr k with
      | false =>
        have HE := Lib.hid (plow_no h2 hk97 hp)
        rw [hp] at HIP
        clear hp
        have HO := Lib.hid hown
        have HB := Lib.hid hB
        clear hown hB
        go_wp2_with fail
        refine (HIP.out _).mono ?_
        rintro e w1 ⟨rfl, hb1⟩
        have HB1 := Lib.hid hb1
        clear hb1
        go_wp2_with fail
        go_roundw
        case rel => exact ⟨k + 1, by omega, by omega, by go_num, by rw [HE.out]; exact HO.out.below HB1.out, bel_chain HB.out HB1.out⟩
        case measure => simp [intOf]; omega
      | true =>
        have HE := Lib.hid (plow_yes h2 hk97 hp)
        rw [hp] at HIP
        clear hp
        have HO := Lib.hid hown
        have HB := Lib.hid hB
        clear hown hB
        go_wp2_with fail
        refine (HIP.out _).mono ?_
        rintro e w1 ⟨rfl, hb1⟩
        have hown1 := HO.out.below hb1
        have hB1 := bel_chain HB.out hb1
        have HB1 := Lib.hid hB1
        have hlen : (plow k).length ≤ 1000000000 := by have := HL.out; omega
        obtain ⟨xs, hxs⟩ : ∃ xs, plow k = xs := ⟨_, rfl⟩
        rw [hxs] at hown1 hlen HE
        clear hb1 hxs HO
        go_wp2_with (at_builtin; refine append_OwnZ rfl _ _ 27 rfl Tryz.underlying27 w.heap.size _ xs w1 rfl hown1 hB1.size hlen k rfl rfl ?_; intro v4 w4 hown4 hb4; have HO4 := Lib.hid hown4; have HB4 := Lib.hid hb4; clear hown4 hb4)
        go_roundw
        case rel => exact ⟨k + 1, by omega, by omega, by go_num, by rw [HE.out]; exact HO4.out, HB1.out.trans HB4.out⟩
        case measure => simp [intOf]; omega
    · have HE := Lib.hid (show plow k = pall n by
        by_cases hn : n < 2
        · rw [pall_low hn, show k = 2 by omega, plow_two]
        · unfold pall; rw [show k = min n 97 + 1 by omega])
      have HO := Lib.hid hown
      have HB := Lib.hid hB
      clear hown hB
      go_wp2_with fail
      go_ret
      exact ⟨_, rfl, by rw [← HE.out]; exact HO.out, HB.out⟩

/-- The texts of all primes. -/
def E25 : List ByteArray := [⟨#[50]⟩, ⟨#[51]⟩, ⟨#[53]⟩, ⟨#[55]⟩, ⟨#[49, 49]⟩, ⟨#[49, 51]⟩, ⟨#[49, 55]⟩, ⟨#[49, 57]⟩, ⟨#[50, 51]⟩, ⟨#[50, 57]⟩, ⟨#[51, 49]⟩, ⟨#[51, 55]⟩, ⟨#[52, 49]⟩, ⟨#[52, 51]⟩, ⟨#[52, 55]⟩, ⟨#[53, 51]⟩, ⟨#[53, 57]⟩, ⟨#[54, 49]⟩, ⟨#[54, 55]⟩, ⟨#[55, 49]⟩, ⟨#[55, 51]⟩, ⟨#[55, 57]⟩, ⟨#[56, 51]⟩, ⟨#[56, 57]⟩, ⟨#[57, 55]⟩]
set_option maxRecDepth 100000 in
theorem every_split : Lib.splitB ⟨#[46]⟩ 0 (Lib.countB (⟨#[50, 46, 51, 46, 53, 46, 55, 46, 49, 49, 46, 49, 51, 46, 49, 55, 46, 49, 57, 46, 50, 51, 46, 50, 57, 46, 51, 49, 46, 51, 55, 46, 52, 49, 46, 52, 51, 46, 52, 55, 46, 53, 51, 46, 53, 57, 46, 54, 49, 46, 54, 55, 46, 55, 49, 46, 55, 51, 46, 55, 57, 46, 56, 51, 46, 56, 57, 46, 57, 55]⟩ : ByteArray) ⟨#[46]⟩) (⟨#[50, 46, 51, 46, 53, 46, 55, 46, 49, 49, 46, 49, 51, 46, 49, 55, 46, 49, 57, 46, 50, 51, 46, 50, 57, 46, 51, 49, 46, 51, 55, 46, 52, 49, 46, 52, 51, 46, 52, 55, 46, 53, 51, 46, 53, 57, 46, 54, 49, 46, 54, 55, 46, 55, 49, 46, 55, 51, 46, 55, 57, 46, 56, 51, 46, 56, 57, 46, 57, 55]⟩ : ByteArray) = E25 := by decide +kernel
theorem every_count : Lib.countB (⟨#[50, 46, 51, 46, 53, 46, 55, 46, 49, 49, 46, 49, 51, 46, 49, 55, 46, 49, 57, 46, 50, 51, 46, 50, 57, 46, 51, 49, 46, 51, 55, 46, 52, 49, 46, 52, 51, 46, 52, 55, 46, 53, 51, 46, 53, 57, 46, 54, 49, 46, 54, 55, 46, 55, 49, 46, 55, 51, 46, 55, 57, 46, 56, 51, 46, 56, 57, 46, 57, 55]⟩ : ByteArray) ⟨#[46]⟩ + 1 = 25 := by decide +kernel
theorem E25_atoi_all : ∀ i : Fin 25, Lib.atoi (E25.getD i.1 ⟨#[]⟩).data.toList = some (P25.getD i.1 0) ∧ (E25.getD i.1 ⟨#[]⟩).size ≤ 18 := by decide +kernel
theorem E25_atoi {i : Nat} (h : i < 25) : Lib.atoi (E25.getD i ⟨#[]⟩).data.toList = some (P25.getD i 0) ∧ (E25.getD i ⟨#[]⟩).size ≤ 18 := E25_atoi_all ⟨i, h⟩
theorem P25_take {i : Nat} (h : i < 25) : P25.take (i + 1) = P25.take i ++ [P25.getD i 0] := by
  rw [List.take_succ_eq_append_getElem (by exact h), getD_of h]
set_option maxRecDepth 100000 in
set_option maxHeartbeats 800000 in
/-- prime.every. -/
theorem every_any (w : World) (hm : AmbM w) :
    Calls Tryz.prog 27 #[] w (OZPost P25 w) := by
  obtain ⟨m, hm⟩ := hm
  have HSP := Lib.hid (Tryz.strings_Split (⟨#[50, 46, 51, 46, 53, 46, 55, 46, 49, 49, 46, 49, 51, 46, 49, 55, 46, 49, 57, 46, 50, 51, 46, 50, 57, 46, 51, 49, 46, 51, 55, 46, 52, 49, 46, 52, 51, 46, 52, 55, 46, 53, 51, 46, 53, 57, 46, 54, 49, 46, 54, 55, 46, 55, 49, 46, 55, 51, 46, 55, 57, 46, 56, 51, 46, 56, 57, 46, 57, 55]⟩ : ByteArray) ⟨#[46]⟩ m w (by decide) hm (by decide))
  rw [every_split, every_count] at HSP
  clear hm
  go_enter Tryz.func27, Tryz.ntmps27
  go_wp2_with fail
  refine HSP.out.mono ?_
  rintro e w1 ⟨rfl, hw1⟩
  have hT : Tc w1 w.heap.size 25 25 E25 := by
    rw [hw1]
    exact Tc.mk' (heap_alloc_new w _) (Nat.le_refl _) (by unfold maxLen; omega) rfl rfl
  have hB1 : Below w.heap.size w w1 := by rw [hw1]; exact (Below.refl _ _).alloc (Nat.le_refl _) _
  have hsz : w1.heap.size = w.heap.size + 1 := by rw [hw1]; exact World.size_alloc _ _
  clear hw1 HSP
  have HT := Lib.hid hT
  clear hT
  go_wp2_with fail
  go_loopw [1, 8] (fun vo vi wr => ∃ i : Nat, i ≤ 25 ∧ vi = .int .i64 (i : Int) ∧ OwnZ (w.heap.size + 1) wr vo (P25.take i) ∧ Below (w.heap.size + 1) w1 wr) (fun _ vi _ => 25 - (intOf vi).toNat)
  case atStart => exact ⟨0, by omega, rfl, OwnZ.nil _ _, Below.refl _ _⟩
  case round =>
    obtain ⟨i, hi, rfl, hown, hB⟩ := hrel
    have HO := Lib.hid hown
    have HB := Lib.hid hB
    clear hown hB
    by_cases hin : i = 25
    · subst hin
      go_wp2_with fail
      go_ret
      exact ⟨_, rfl, HO.out.mono (by omega), hB1.trans (HB.out.mono (by omega))⟩
    · have hlt : (i : Int) < 25 := by omega
      have hcell := (HT.out.below HB.out (by omega)).cell i (by omega)
      have HA := Lib.hid (E25_atoi (i := i) (by omega))
      have HTK := Lib.hid (P25_take (i := i) (by omega))
      have hlen : (P25.take i).length ≤ 1000000000 := by rw [List.length_take]; omega
      obtain ⟨s, hs⟩ : ∃ s, E25.getD i ⟨#[]⟩ = s := ⟨_, rfl⟩
      obtain ⟨z, hz⟩ : ∃ z, P25.getD i 0 = z := ⟨_, rfl⟩
      obtain ⟨xs, hxs⟩ : ∃ xs, P25.take i = xs := ⟨_, rfl⟩
      rw [hs] at hcell
      rw [hs, hz] at HA
      rw [hz, hxs] at HTK
      rw [hxs] at HO hlen
      clear hs hz hxs
      go_wp2_with fail
      refine (Tryz.strconv_Atoi s z HA.out.2 HA.out.1 _).mono ?_
      rintro e w2 ⟨rfl, tb, hw2⟩
      have hb2 : Below wr.heap.size wr w2 := by rw [hw2]; exact bytes_below _ _ _
      have hown2 := HO.out.below hb2
      have HB2 := Lib.hid (HB.out.trans (hb2.mono (by have := HB.out.size; omega)))
      have hsz2 : w.heap.size + 1 ≤ w2.heap.size := by have := HB2.out.size; omega
      clear hw2 hb2
      go_wp2_with (at_builtin; refine append_OwnZ rfl _ _ 27 rfl Tryz.underlying27 (w.heap.size + 1) _ xs w2 rfl hown2 hsz2 hlen z rfl rfl ?_; intro v4 w4 hown4 hb4; have HO4 := Lib.hid hown4; have HB4 := Lib.hid hb4; clear hown4 hb4)
      go_roundw
      case rel => exact ⟨i + 1, by omega, by go_num, by rw [HTK.out]; exact HO4.out, HB2.out.trans HB4.out⟩
      case measure => simp [intOf]; omega

/-- prime.First out of range. -/
theorem first_no (c : Int) (w : World) (h : c < 1 ∨ 6 < c) :
    Calls Tryz.prog 14 #[.int .i64 c] w (ZRes [] 3 w) := by
  rcases h with h | h
  · go_enter Tryz.func14, Tryz.ntmps14
    go_wp2_with fail
    go_ret2
    exact ⟨_, _, _, rfl, InZ.nil _, Below.refl _ _⟩
  · have h1 : ¬ c < 1 := by omega
    go_enter Tryz.func14, Tryz.ntmps14
    go_wp2_with fail
    go_ret2
    exact ⟨_, _, _, rfl, InZ.nil _, Below.refl _ _⟩
/-- prime.First. -/
theorem first_yes (c : Nat) (w : World) (hm : AmbM w) (h1 : 1 ≤ c) (h6 : c ≤ 6) :
    Calls Tryz.prog 14 #[.int .i64 (c : Int)] w (ZRes (P25.take c) 0 w) := by
  have HE := Lib.hid (every_any w hm)
  have h1' : ¬ (c : Int) < 1 := by omega
  have h6' : ¬ 6 < (c : Int) := by omega
  clear hm
  go_enter Tryz.func14, Tryz.ntmps14
  go_wp2_with fail
  refine HE.out.mono ?_
  rintro e w1 ⟨v, rfl, hown, hb1⟩
  rcases hown with ⟨_, e⟩ | ⟨g, cap, rfl, hg, hz⟩
  · cases e
  have hl : P25.length = 25 := rfl
  rw [hl] at hz ⊢
  have hcap := hz.le
  have hcm := hz.cap_le
  have hc25 : (c : Int) ≤ (cap : Int) := by omega
  have HZ := Lib.hid hz.ins
  clear hz hl
  go_wp2_with fail
  go_ret2
  exact ⟨_, _, _, rfl, HZ.out.take c _ (by omega) (by omega) (by omega), hb1⟩
end Go.Proofs.YtolnojkdalbppaaGreatDoor
