/- Greater text, out of: I1, I2. -/
import Derived.Test.YtdpcmhdmdompnaaGreatDoorGb
import Derived.Test.YtdpcmhdmdompnaaGreatDoorGd
import Derived.PlainAid
import Derived.Lib.OthersKept
import Derived.Lib.IndexAny
import Derived.Lib.DecodeN
import Derived.Laws.RangeAny
import Derived.Deep.LoopGhost
import Derived.Deep.DrawnRows
import Derived.Laws.Runes
import Derived.WalkMore
import Derived.Deep.RegionHeld3
namespace Go.Proofs.YtdpcmhdmdompnaaGreatDoor
section
open Go.RowKit Go.PlainAid

theorem decode_cont (s : ByteArray) (i : Nat) (hi : i < s.size) : ∀ j, 1 ≤ j → j < (Utf8.decode s i).2 → i + j < s.size ∧ 128 ≤ (s.get! (i + j)).toNat := by
  rw [Lib.decode_at]
  intro j h1 h2
  unfold Lib.decodeN at h2
  split at h2
  · simp at h2; omega
  · split at h2
    · next h =>
      split at h2
      · simp only at h2
        obtain rfl : j = 1 := by omega
        omega
      · simp at h2; omega
    · split at h2
      · next h =>
        split at h2
        · simp only at h2
          rcases (show j = 1 ∨ j = 2 by omega) with rfl | rfl
          · omega
          · omega
        · simp at h2; omega
      · split at h2
        · next h =>
          split at h2
          · simp only at h2
            rcases (show j = 1 ∨ j = 2 ∨ j = 3 by omega) with rfl | rfl | rfl
            · omega
            · omega
            · omega
          · simp at h2; omega
        · simp at h2; omega
theorem decode_max (s : ByteArray) (i : Nat) : (Utf8.decode s i).1 ≤ 1114111 := by
  have hb : ∀ k, (s.get! k).toNat < 256 := fun k => (s.get! k).toNat_lt
  have h0 := hb i; have h1 := hb (i + 1); have h2 := hb (i + 2); have h3 := hb (i + 3)
  rw [Lib.decode_at]
  unfold Lib.decodeN
  repeat' split
  all_goals simp only
  all_goals omega
theorem get_data (s : ByteArray) (i : Nat) (x : UInt8) (h : s.data.toList[i]? = some x) : s.get! i = x := by
  have hi : i < s.size := by
    have := (List.getElem?_eq_some_iff.1 h).1
    rwa [Array.length_toList] at this
  have h2 := (List.getElem?_eq_some_iff.1 h).2
  rw [← h2]
  simp [ByteArray.get!, getElem!_pos, hi]
/-- No byte of the cutset among the bytes of a rune that begins with a high one. -/
theorem noAny_rune (s : ByteArray) (i : Nat) (hi : i < s.size) (ha : 128 ≤ (s[i]'hi).toNat) (h : Lib.NoAny s.data.toList [47, 46] i) : Lib.NoAny s.data.toList [47, 46] (i + (Utf8.decode s i).2) := by
  intro j b hj hb
  by_cases h1 : j < i
  · exact h j b h1 hb
  · have hb2 : 128 ≤ b.toNat := by
      have hg := get_data s j b hb
      by_cases h2 : j = i
      · subst h2
        have := get_at s j hi
        rw [Nat.add_zero, hg] at this
        rw [this]; exact ha
      · have := (decode_cont s i hi (j - i) (by omega) (by omega)).2
        rw [show i + (j - i) = j by omega, hg] at this
        exact this
    cases hc : ([47, 46] : List UInt8).contains b with
    | false => rfl
    | true =>
      exfalso
      simp at hc
      rcases hc with rfl | rfl
      · exact absurd hb2 (by decide)
      · exact absurd hb2 (by decide)
theorem encode_parts {r : Int} (h : 128 ≤ r) (hv : Utf8.valid r = true) : (∃ a b : UInt8, Utf8.encode r = ⟨#[a, b]⟩ ∧ 128 ≤ b.toNat) ∨ (∃ a b c : UInt8, Utf8.encode r = ⟨#[a, b, c]⟩) ∨ (∃ a b c d : UInt8, Utf8.encode r = ⟨#[a, b, c, d]⟩) := by
  unfold Utf8.encode
  rw [if_pos hv]
  simp only
  rw [if_neg (by omega)]
  split
  · refine .inl ⟨_, _, rfl, ?_⟩
    rw [UInt8.toNat_ofNat']; omega
  · split
    · exact .inr (.inl ⟨_, _, _, rfl⟩)
    · exact .inr (.inr ⟨_, _, _, _, rfl⟩)
end
section
open Go.RowKit Go.PlainAid
attribute [local go_sem ↓] Go.wp_at_zero Go.wp_at_succ
theorem iter_below (w : World) (s : ByteArray) (p : Nat) : Below w.heap.size w (w.iter s p) := (Below.refl _ _).alloc (Nat.le_refl _) _
theorem slice_last (s : ByteArray) (h : s.size = 2) : s.extract 2 s.size = ⟨#[]⟩ := by
  apply ByteArray.ext
  rw [ByteArray.data_extract, h]
  apply Array.ext'
  simp
end
end Go.Proofs.YtdpcmhdmdompnaaGreatDoor
