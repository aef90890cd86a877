/- Greater text, out of: K39. -/
import Derived.Test.YtpafocfpofnkpaaGreatDoorK38
import Derived.Test.YtpafocfpofnkpaaGreatDoorQ1
namespace Go.Proofs.YtpafocfpofnkpaaGreatDoor
open Go.RowKit Go.PlainAid
attribute [local go_sem] field_rat0 field_rat1
set_option maxHeartbeats 800000 in
/-- small. -/
theorem small4_any (s t : ByteArray) (w : World) (hs : s.size ≤ 9223372036854775807) (ht : t.size ≤ 9223372036854775807) :
    Calls Tryz.prog 10 #[.agg #[.string s, .string t]] w (SmallRes (.bool (decide (s.size ≤ 7) && decide (t.size ≤ 7))) w) := by
  by_cases h1 : s.size ≤ 7
  · by_cases h2 : t.size ≤ 7
    all_goals
      simp only [h1, h2, decide_true, decide_false, Bool.and_false, Bool.and_self]
      have h1' : (s.size : Int) ≤ 7 := by omega
      first | have h2' : (t.size : Int) ≤ 7 := by omega
            | have h2' : ¬ (t.size : Int) ≤ 7 := by omega
      go_enter Tryz.func10, Tryz.ntmps10
      go_wp2_with fail
      go_ret
      exact ⟨rfl, (Below.refl _ _).alloc (Nat.le_refl _) _⟩
  · simp only [h1, decide_false, Bool.false_and]
    have h1' : ¬ (s.size : Int) ≤ 7 := by omega
    go_enter Tryz.func10, Tryz.ntmps10
    go_wp2_with fail
    go_ret
    exact ⟨rfl, (Below.refl _ _).alloc (Nat.le_refl _) _⟩
set_option maxHeartbeats 800000 in
/-- none, of the zero value. -/
theorem none4_yes (w : World) : Calls Tryz.prog 14 #[.agg #[.string ⟨#[]⟩, .string ⟨#[]⟩]] w (SmallRes (.bool true) w) := by
  go_enter Tryz.func14, Tryz.ntmps14
  go_wp2_with fail
  go_ret
  exact ⟨rfl, (Below.refl _ _).alloc (Nat.le_refl _) _⟩

set_option maxRecDepth 100000 in
set_option maxHeartbeats 2000000 in
/-- same, of two slices with the same fractions. -/
theorem same4_eq (A B : Option Addr) (n cap cap' : Nat) (xs : List Rat) (w : World) (h1 : InR4 w A n cap xs) (h2 : InR4 w B n cap' xs) :
    Calls Tryz.prog 16 #[.slice A n cap, .slice B n cap'] w (SmallRes (.bool true) w) := by
  have HN := Lib.hid h1.1
  have hle := h1.2.1
  have hcap := h1.2.2.1
  by_cases h0 : n = 0
  · subst h0
    clear h1 h2
    go_enter Tryz.func16, Tryz.ntmps16
    go_wp2_with fail
    go_loopw [5] (fun vi wr => vi = .int .i64 0 ∧ Below w.heap.size w wr) (fun vi _ => 0)
    case atStart => exact ⟨rfl, Below.refl _ _⟩
    case round =>
      obtain ⟨rfl, hB⟩ := hrel
      go_wp2_with fail
      go_ret
      exact ⟨rfl, hB⟩
  obtain ⟨b, off, rfl, hbl, hc⟩ := h1.2.2.2 (by omega)
  obtain ⟨b', off', rfl, hbl', hc'⟩ := h2.2.2.2 (by omega)
  have HCS := Lib.hid hc
  have HCS' := Lib.hid hc'
  clear h1 h2 hc hc'
  go_enter Tryz.func16, Tryz.ntmps16
  go_wp2_with fail
  go_loopw [5] (fun vi wr => ∃ i : Nat, i ≤ n ∧ vi = .int .i64 (i : Int) ∧ Below w.heap.size w wr) (fun vi _ => n - (intOf vi).toNat)
  case atStart => exact ⟨0, Nat.zero_le _, rfl, Below.refl _ _⟩
  case round =>
    obtain ⟨i, hi, rfl, hB⟩ := hrel
    by_cases hin : i = n
    · subst hin
      have hlt : ¬ (i : Int) < (i : Int) := by omega
      go_wp2_with fail
      go_ret
      exact ⟨rfl, hB⟩
    · have hlt : (i : Int) < (n : Int) := by omega
      have c0 := (hB.cell (p := ⟨b, off + i * 2, none⟩) hbl).trans (HCS.out i (by omega)).1
      have c1 := (hB.cell (p := ⟨b, off + i * 2 + 1, none⟩) hbl).trans (HCS.out i (by omega)).2
      have c2 := (hB.cell (p := ⟨b', off' + i * 2, none⟩) hbl').trans (HCS'.out i (by omega)).1
      have c3 := (hB.cell (p := ⟨b', off' + i * 2 + 1, none⟩) hbl').trans (HCS'.out i (by omega)).2
      obtain ⟨x, hx⟩ : ∃ x, xs.getD i 0 = x := ⟨_, rfl⟩
      rw [hx] at c0 c1 c2 c3
      clear hx
      have hi2 : i + 1 ≤ n := by omega
      go_wp2_with fail
      go_quiet (fail)
      go_wp2_with fail
      go_roundw
      case rel => exact ⟨i + 1, hi2, by go_num, bel_drewN hB _⟩
      case measure => simp [intOf]; omega

set_option maxRecDepth 100000 in
set_option maxHeartbeats 2000000 in
/-- ints, of integers and ints that are the same. -/
theorem ints4_eq (A B : Option Addr) (n cap cap' : Nat) (xs : List Int) (w : World) (h1 : InJ w A n cap xs) (h2 : InZ w B n cap' xs) (hx : ∀ x ∈ xs, I62 x) :
    Calls Tryz.prog 29 #[.slice A n cap, .slice B n cap'] w (SmallRes (.bool true) w) := by
  have HN := Lib.hid h1.1
  have hle := h1.2.1
  have hcap := h1.2.2.1
  by_cases h0 : n = 0
  · subst h0
    clear h1 h2
    go_enter Tryz.func29, Tryz.ntmps29
    go_wp2_with fail
    go_loopw [5] (fun vi wr => vi = .int .i64 0 ∧ Below w.heap.size w wr) (fun vi _ => 0)
    case atStart => exact ⟨rfl, Below.refl _ _⟩
    case round =>
      obtain ⟨rfl, hB⟩ := hrel
      go_wp2_with fail
      go_ret
      exact ⟨rfl, hB⟩
  obtain ⟨b, off, rfl, hbl, hc⟩ := h1.2.2.2 (by omega)
  obtain ⟨b', off', rfl, hbl', hc'⟩ := h2.2.2.2 (by omega)
  have HCS := Lib.hid hc
  have HCS' := Lib.hid hc'
  have HXS := Lib.hid hx
  clear h1 h2 hc hc' hx
  go_enter Tryz.func29, Tryz.ntmps29
  go_wp2_with fail
  go_loopw [5] (fun vi wr => ∃ i : Nat, i ≤ n ∧ vi = .int .i64 (i : Int) ∧ Below w.heap.size w wr) (fun vi _ => n - (intOf vi).toNat)
  case atStart => exact ⟨0, Nat.zero_le _, rfl, Below.refl _ _⟩
  case round =>
    obtain ⟨i, hi, rfl, hB⟩ := hrel
    by_cases hin : i = n
    · subst hin
      have hlt : ¬ (i : Int) < (i : Int) := by omega
      go_wp2_with fail
      go_ret
      exact ⟨rfl, hB⟩
    · have hlt : (i : Int) < (n : Int) := by omega
      have c0 := (hB.cell (p := ⟨b, off + i, none⟩) hbl).trans (HCS.out i (by omega))
      have c2 := (hB.cell (p := ⟨b', off' + i, none⟩) hbl').trans (HCS'.out i (by omega))
      have hxm : xs.getD i 0 ∈ xs := by
        rw [List.getD_eq_getElem?_getD, List.getElem?_eq_getElem (by rw [HN.out]; omega)]
        exact List.getElem_mem _
      have HOF := Lib.hid (fun w => r4of_any (xs.getD i 0) w (HXS.out _ hxm))
      obtain ⟨x, hx⟩ : ∃ x, xs.getD i 0 = x := ⟨_, rfl⟩
      rw [hx] at c0 c2 HOF
      clear hx hxm
      have hi2 : i + 1 ≤ n := by omega
      have hzd := hB.drew
      have HBB := Lib.hid (And.intro hbl hbl')
      go_wp2_with fail
      go_region_held3 (fun w' => w'.cell? ⟨b, off + i, none⟩ = some (.string (itx x)) ∧ w'.cell? ⟨b', off' + i, none⟩ = some (.int .i64 x)) (first | exact ⟨(hb4.cell (p := ⟨b, off + i, none⟩) (Nat.lt_of_lt_of_le HBB.out.1 hzd.size)).trans c0, (hb4.cell (p := ⟨b', off' + i, none⟩) (Nat.lt_of_lt_of_le HBB.out.2 hzd.size)).trans c2⟩ | go_keep)
        (first
          | ((with_reducible refine (HOF.out _).mono ?_); rintro e w4 ⟨rfl, hb4⟩; have hz4 := bel_chain hzd hb4))
      all_goals
        go_wp2_with fail
        go_roundw
        case rel => exact ⟨i + 1, hi2, by go_num, bel_drewN hz4 0⟩
        case measure => simp [intOf]; omega
end Go.Proofs.YtpafocfpofnkpaaGreatDoor
