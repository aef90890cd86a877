/- Greater text, out of: I1, I2. -/
import Derived.Test.YtdjhngbpfdopnaaGreatDoorGb
import Derived.Test.YtdjhngbpfdopnaaGreatDoorGd
import Derived.PlainAid
import Derived.Lib.OthersKept
import Derived.Lib.IndexAny
import Derived.Lib.DecodeN
import Derived.Laws.RangeAny
import Derived.Deep.LoopGhost
import Derived.Deep.DrawnRows
import Derived.Laws.Runes
import Derived.WalkMore
import Derived.Deep.RegionHeld3
namespace Go.Proofs.YtdjhngbpfdopnaaGreatDoor
section
open Go.RowKit Go.PlainAid

theorem decode_cont (s : ByteArray) (i : Nat) (hi : i < s.size) : ∀ j, 1 ≤ j → j < (Utf8.decode s i).2 → i + j < s.size ∧ 128 ≤ (s.get! (i + j)).toNat := by
  rw [Lib.decode_at]
  intro j h1 h2
  unfold Lib.decodeN at h2
  split at h2
  · simp at h2; omega
  · split at h2
    · next h =>
      split at h2
      · simp only at h2
        obtain rfl : j = 1 := by omega
        omega
      · simp at h2; omega
    · split at h2
      · next h =>
        split at h2
        · simp only at h2
          rcases (show j = 1 ∨ j = 2 by omega) with rfl | rfl
          · omega
          · omega
        · simp at h2; omega
      · split at h2
        · next h =>
          split at h2
          · simp only at h2
            rcases (show j = 1 ∨ j = 2 ∨ j = 3 by omega) with rfl | rfl | rfl
            · omega
            · omega
            · omega
          · simp at h2; omega
        · simp at h2; omega
theorem decode_max (s : ByteArray) (i : Nat) : (Utf8.decode s i).1 ≤ 1114111 := by
  have hb : ∀ k, (s.get! k).toNat < 256 := fun k => (s.get! k).toNat_lt
  have h0 := hb i; have h1 := hb (i + 1); have h2 := hb (i + 2); have h3 := hb (i + 3)
  rw [Lib.decode_at]
  unfold Lib.decodeN
  repeat' split
  all_goals simp only
  all_goals omega
theorem get_data (s : ByteArray) (i : Nat) (x : UInt8) (h : s.data.toList[i]? = some x) : s.get! i = x := by
  have hi : i < s.size := by
    have := (List.getElem?_eq_some_iff.1 h).1
    rwa [Array.length_toList] at this
  have h2 := (List.getElem?_eq_some_iff.1 h).2
  rw [← h2]
  simp [ByteArray.get!, getElem!_pos, hi]
/-- No byte of the cutset among the bytes of a rune that begins with a high one. -/
theorem noAny_rune (s : ByteArray) (i : Nat) (hi : i < s.size) (ha : 128 ≤ (s[i]'hi).toNat) (h : Lib.NoAny s.data.toList [47, 46] i) : Lib.NoAny s.data.toList [47, 46] (i + (Utf8.decode s i).2) := by
  intro j b hj hb
  by_cases h1 : j < i
  · exact h j b h1 hb
  · have hb2 : 128 ≤ b.toNat := by
      have hg := get_data s j b hb
      by_cases h2 : j = i
      · subst h2
        have := get_at s j hi
        rw [Nat.add_zero, hg] at this
        rw [this]; exact ha
      · have := (decode_cont s i hi (j - i) (by omega) (by omega)).2
        rw [show i + (j - i) = j by omega, hg] at this
        exact this
    cases hc : ([47, 46] : List UInt8).contains b with
    | false => rfl
    | true =>
      exfalso
      simp at hc
      rcases hc with rfl | rfl
      · exact absurd hb2 (by decide)
      · exact absurd hb2 (by decide)
theorem encode_parts {r : Int} (h : 128 ≤ r) (hv : Utf8.valid r = true) : (∃ a b : UInt8, Utf8.encode r = ⟨#[a, b]⟩ ∧ 128 ≤ b.toNat) ∨ (∃ a b c : UInt8, Utf8.encode r = ⟨#[a, b, c]⟩) ∨ (∃ a b c d : UInt8, Utf8.encode r = ⟨#[a, b, c, d]⟩) := by
  unfold Utf8.encode
  rw [if_pos hv]
  simp only
  rw [if_neg (by omega)]
  split
  · refine .inl ⟨_, _, rfl, ?_⟩
    rw [UInt8.toNat_ofNat']; omega
  · split
    · exact .inr (.inl ⟨_, _, _, rfl⟩)
    · exact .inr (.inr ⟨_, _, _, _, rfl⟩)
end
section
open Go.RowKit Go.PlainAid
attribute [local go_sem ↓] Go.wp_at_zero Go.wp_at_succ

theorem iter_below (w : World) (s : ByteArray) (p : Nat) : Below w.heap.size w (w.iter s p) := (Below.refl _ _).alloc (Nat.le_refl _) _
set_option maxRecDepth 100000 in
set_option maxHeartbeats 4000000 in
/-- strings.IndexRune("/.", utf8.RuneError). -/
theorem idxrune_err (w : World) : Calls Tryz.prog 113 #[.string ⟨#[47, 46]⟩, .int .i32 65533] w (SmallRes (.int .i64 (-1)) w) := by
  obtain ⟨s, hs⟩ : ∃ s : ByteArray, s = ⟨#[47, 46]⟩ := ⟨_, rfl⟩
  have hn0 := fun ty => run_next_ascii (P := Tryz.prog) w s 0 ty (by rw [hs]; decide) (by subst hs; decide)
  have hn1 := fun ty => run_next_ascii (P := Tryz.prog) w s 1 ty (by rw [hs]; decide) (by subst hs; decide)
  have hn2 := fun ty => run_next_end (P := Tryz.prog) w s 2 ty (by rw [hs]; decide)
  have e0 : ((s[0]'(by rw [hs]; decide)).toNat : Int) = 47 := by subst hs; rfl
  have e1 : ((s[1]'(by rw [hs]; decide)).toNat : Int) = 46 := by subst hs; rfl
  rw [e0] at hn0
  rw [e1] at hn1
  clear e0 e1
  rw [← hs]
  clear hs
  go_enter Tryz.func113, Tryz.ntmps113
  go_wp2_with fail
  go_loopg [5, 6] 2 (fun g _ _ wx => ∃ i : Nat, i + g = 2 ∧ wx = w.iter s i)
  case atStart => exact ⟨0, by omega, rfl⟩
  case round =>
    obtain ⟨i, hig, rfl⟩ := hrel
    rcases (show i = 0 ∨ i = 1 ∨ i = 2 by omega) with rfl | rfl | rfl
    · go_wp2_with fail
      go_roundg 1
      case measure => omega
      case rel => exact ⟨1, by omega, rfl⟩
    · go_wp2_with fail
      go_roundg 0
      case measure => omega
      case rel => exact ⟨2, by omega, rfl⟩
    · go_wp2_with fail
      go_ret
      exact ⟨rfl, iter_below _ _ _⟩
theorem slice_last (s : ByteArray) (h : s.size = 2) : s.extract 2 s.size = ⟨#[]⟩ := by
  apply ByteArray.ext
  rw [ByteArray.data_extract, h]
  apply Array.ext'
  simp
set_option maxRecDepth 100000 in
set_option maxHeartbeats 4000000 in
/-- strings.IndexRune("/.", r) of a rune that is no ASCII one. -/
theorem idxrune_high (r : Int) (w : World) (h1 : 128 ≤ r) (h2 : r ≤ 1114111) : Calls Tryz.prog 113 #[.string ⟨#[47, 46]⟩, .int .i32 r] w (SmallRes (.int .i64 (-1)) w) := by
  by_cases he : r = 65533
  · rw [he]; exact idxrune_err w
  have HV := Lib.hid (fun w => Tryz.utf8_ValidRune r w)
  have hr1 : ¬ r < 128 := by omega
  have hr2 : (0 : Int) ≤ r := by omega
  have heb : (r == 65533) = false := by rw [beq_eq_false_iff_ne]; exact he
  obtain ⟨v, hv⟩ : ∃ v, Lib.validRune r = v := ⟨_, rfl⟩
  rw [hv] at HV
  cases v with
  | false =>
    clear hv he
    go_enter Tryz.func113, Tryz.ntmps113
    go_wp2_with fail
    refine (HV.out _).mono ?_
    rintro e w' ⟨rfl, rfl⟩
    go_wp2_with fail
    go_ret
    exact ⟨rfl, Below.refl _ _⟩
  | true =>
    have hvv : Utf8.valid r = true := by unfold Lib.validRune at hv; unfold Utf8.valid; revert hv; simp; omega
    obtain ⟨hn1, hn2, hn3⟩ := encode_facts r hvv h1
    obtain ⟨E, hE⟩ : ∃ E, Utf8.encode r = E := ⟨_, rfl⟩
    rw [hE] at hn1 hn2 hn3
    obtain ⟨s, hs⟩ : ∃ s : ByteArray, s = ⟨#[47, 46]⟩ := ⟨_, rfl⟩
    have hsz : s.size = 2 := by rw [hs]; rfl
    have hszi : (s.size : Int) = 2 := by omega
    have hbs : bt s 1 = 46 := by rw [hs]; rfl
    have hsl := slice_last s hsz
    rw [← hs]
    have hbt := get_bt s
    have hbE := get_bt E
    clear hv he hvv hs
    go_enter Tryz.func113, Tryz.ntmps113
    go_wp2_with fail
    refine (HV.out _).mono ?_
    rintro e w' ⟨rfl, rfl⟩
    go_wp2_with fail
    apply wp_scope_straight
    rcases (show E.size = 2 ∨ E.size = 3 ∨ E.size = 4 by omega) with hz | hz | hz
    · have hzi : (E.size : Int) = 2 := by omega
      have hb : 128 ≤ bt E 1 := by
        have h4 := hn3 (by omega)
        have h5 : bt E 1 = ((E[1]'(by omega)).toNat : Int) := by unfold bt; rw [dif_pos (by omega)]
        have h6 : (E[E.size - 1]'(by omega)).toNat = (E[1]'(by omega)).toNat := by congr 2; omega
        omega
      have hdot : ((46 : Int) == bt E 1) = false := by rw [beq_eq_false_iff_ne]; omega
      have hdot2 : ((46 : Int) != bt E 1) = true := by rw [bne, hdot]; rfl
      have HIB := Lib.hid (fun w => show Calls Tryz.prog 159 #[.string ByteArray.empty, .int .u8 (bt E 1)] w (fun e w' => e = .returned (.int .i64 (-1)) ∧ w' = w) from Tryz.strings_IndexByte ByteArray.empty (bt E 1) w)
      have hlt : (1 : Int) < 2 := by omega
      clear hn1 hn2 hn3 hb
      go_wp2_with fail
      go_loopg [9, 10] 0 (fun _ s9 s10 wx => s9 = .int .i64 1 ∧ s10 = .int .i64 0 ∧ wx = w')
      case atStart => exact ⟨rfl, rfl, rfl⟩
      case round =>
        obtain ⟨rfl, rfl, rfl⟩ := hrel
        go_wp2_with fail
        apply wp_scope_straight
        go_wp2_with fail
        go_region_with fail
        all_goals
          go_wp2_with fail
          go_region_with (first
            | ((with_reducible refine (HIB.out _).mono ?_); rintro e w5 ⟨rfl, rfl⟩))
        all_goals
          go_wp2_with fail
          go_ret
          exact ⟨rfl, (Below.refl _ _).drew.drew⟩
    · have hzi : (E.size : Int) = 3 := by omega
      clear hn1 hn2 hn3
      go_wp2_with fail
      go_loopg [9, 10] 0 (fun _ s9 s10 wx => s9 = .int .i64 2 ∧ s10 = .int .i64 0 ∧ wx = w')
      case atStart => exact ⟨rfl, rfl, rfl⟩
      case round =>
        obtain ⟨rfl, rfl, rfl⟩ := hrel
        go_wp2_with fail
        go_ret
        exact ⟨rfl, Below.refl _ _⟩
    · have hzi : (E.size : Int) = 4 := by omega
      clear hn1 hn2 hn3
      go_wp2_with fail
      go_loopg [9, 10] 0 (fun _ s9 s10 wx => s9 = .int .i64 3 ∧ s10 = .int .i64 0 ∧ wx = w')
      case atStart => exact ⟨rfl, rfl, rfl⟩
      case round =>
        obtain ⟨rfl, rfl, rfl⟩ := hrel
        go_wp2_with fail
        go_ret
        exact ⟨rfl, Below.refl _ _⟩
end
end Go.Proofs.YtdjhngbpfdopnaaGreatDoor
