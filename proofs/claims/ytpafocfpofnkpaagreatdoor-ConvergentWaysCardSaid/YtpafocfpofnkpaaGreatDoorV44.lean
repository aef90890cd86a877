/- Greater text, out of: V44. -/
import Derived.Test.YtpafocfpofnkpaaGreatDoorV40
import Derived.Test.YtpafocfpofnkpaaGreatDoorK55
namespace Go.Proofs.YtpafocfpofnkpaaGreatDoor
open Go.RowKit Go.PlainAid
attribute [local go_sem] field_rat0 field_rat1
/-- A text of the two letters is a way. -/
theorem way_of (s : ByteArray) (h : ∀ b ∈ s.data.toList, ([76, 82] : List UInt8).contains b = true) : ∃ l : List Bool, l.length = s.size ∧ way l = s := by
  refine ⟨s.data.toList.map (fun b => b == 82), by rw [List.length_map, str_size], ?_⟩
  have e : wayL (s.data.toList.map (fun b => b == 82)) = s.data.toList := by
    unfold wayL
    rw [List.map_map]
    conv => rhs; rw [← List.map_id s.data.toList]
    refine List.map_congr_left fun b hb => ?_
    have := h b hb
    simp only [List.contains_cons, List.contains_nil, Bool.or_false, Bool.or_eq_true, beq_iff_eq] at this
    rcases this with rfl | rfl <;> rfl
  refine ba_ext ?_
  show (wayL (s.data.toList.map (fun b => b == 82))).toArray.toList = s.data.toList
  rw [List.toList_toArray, e]
theorem bt_lr (s : ByteArray) (i : Nat) (h : i < s.size) : ([76, 82] : List UInt8).contains (s.data.toList.getD i 0) = true ↔ (bt s i = 76 ∨ bt s i = 82) := by
  rw [bt_at s i h]
  generalize s.data.toList.getD i 0 = b
  simp only [List.contains_cons, List.contains_nil, Bool.or_false, Bool.or_eq_true, beq_iff_eq]
  constructor
  · rintro (rfl | rfl)
    · exact .inl rfl
    · exact .inr rfl
  · rintro (h | h)
    · exact .inl (UInt8.toNat_inj.1 (by show _ = 76; omega))
    · exact .inr (UInt8.toNat_inj.1 (by show _ = 82; omega))
theorem take_contains (s : ByteArray) (i : Nat) (h : i < s.size) : (∃ b ∈ s.data.toList.take (i + 1), ([76, 82] : List UInt8).contains b = false) ↔ (∃ b ∈ s.data.toList.take i, ([76, 82] : List UInt8).contains b = false) ∨ ([76, 82] : List UInt8).contains (s.data.toList.getD i 0) = false := by
  have hl : i < s.data.toList.length := by rw [str_size]; exact h
  rw [List.take_add_one, List.getElem?_eq_getElem hl, List.getD_eq_getElem?_getD, List.getElem?_eq_getElem hl]
  simp only [Option.toList, List.mem_append, List.mem_cons, List.not_mem_nil, or_false, Option.getD_some]
  constructor
  · rintro ⟨b, h1 | rfl, h2⟩
    · exact .inl ⟨b, h1, h2⟩
    · exact .inr h2
  · rintro (⟨b, h1, h2⟩ | h2)
    · exact ⟨b, .inl h1, h2⟩
    · exact ⟨_, .inr rfl, h2⟩
/-- The same text so many times. -/
def rep (s : ByteArray) : Nat → ByteArray
  | 0 => ⟨#[]⟩
  | k + 1 => rep s k ++ s
theorem rep_size (s : ByteArray) : ∀ k, (rep s k).size = k * s.size
  | 0 => by rw [Nat.zero_mul]; rfl
  | k + 1 => by
    show (rep s k ++ s).size = _
    rw [ByteArray.size_append, rep_size s k, Nat.succ_mul]

/-- What the law wants so far. -/
def wantI (s : ByteArray) (i : Nat) : Int := if (s.data.toList.take i).any (fun b => !(([76, 82] : List UInt8).contains b)) = true then 15 else 0
theorem wantI_succ (s : ByteArray) (i : Nat) (h : i < s.size) : wantI s (i + 1) = if bt s i = 76 ∨ bt s i = 82 then wantI s i else 15 := by
  have hl : i < s.data.toList.length := by rw [str_size]; exact h
  have hb := bt_lr s i h
  rw [List.getD_eq_getElem?_getD, List.getElem?_eq_getElem hl, Option.getD_some] at hb
  unfold wantI
  rw [List.take_add_one, List.getElem?_eq_getElem hl, List.any_append]
  by_cases hc : bt s i = 76 ∨ bt s i = 82
  · rw [if_pos hc]
    have := hb.2 hc
    simp only [Option.toList, List.any_cons, List.any_nil, this, Bool.not_true, Bool.or_false]
  · rw [if_neg hc, if_pos]
    rw [Bool.or_eq_true]
    right
    have : ([76, 82] : List UInt8).contains s.data.toList[i] = false := by
      cases e : ([76, 82] : List UInt8).contains s.data.toList[i] with
      | false => rfl
      | true => exact absurd (hb.1 e) hc
    simp only [Option.toList, List.any_cons, List.any_nil, this, Bool.not_false, Bool.or_false]
theorem wantI_good (s : ByteArray) (h : ∀ b ∈ s.data.toList, ([76, 82] : List UInt8).contains b = true) : wantI s s.size = 0 := by
  unfold wantI
  rw [List.take_of_length_le (by rw [str_size]; exact Nat.le_refl _), if_neg]
  rw [Bool.not_eq_true, List.any_eq_false]
  intro b hb
  rw [h b hb]; decide
theorem wantI_bad (s : ByteArray) (h : ∃ b ∈ s.data.toList, ([76, 82] : List UInt8).contains b = false) : wantI s s.size = 15 := by
  obtain ⟨b, h1, h2⟩ := h
  unfold wantI
  rw [List.take_of_length_le (by rw [str_size]; exact Nat.le_refl _), if_pos]
  rw [List.any_eq_true]
  exact ⟨b, h1, by rw [h2]; rfl⟩
set_option maxRecDepth 100000 in
set_option maxHeartbeats 2000000 in
/-- too long. -/
theorem lawWays_long (s : ByteArray) (w : World) (hamb : Amb w) (h : 30 < s.size) :
    Calls Tryz.prog 8 #[.string s] w (SmallRes (.bool true) w) := by
  have HAMB := Lib.hid hamb
  have hc : (30 : Int) < (s.size : Int) := by omega
  clear hamb h
  go_enter Tryz.func8, Tryz.ntmps8
  go_wp2_with fail
  refine (known04_any w HAMB.out).mono ?_
  rintro e w1 ⟨rfl, hb1⟩
  go_wp2_with fail
  refine (known04_any w1 (HAMB.out.below hb1)).mono ?_
  rintro e w2 ⟨rfl, hb2⟩
  go_wp2_with fail
  go_ret
  exact ⟨rfl, bel_chain hb1 hb2⟩
set_option maxRecDepth 100000 in
set_option maxHeartbeats 8000000 in
/-- of a text that is a way. -/
theorem lawWays_good (s : ByteArray) (w : World) (hamb : Amb w) (hs30 : s.size ≤ 30) (hg : ∀ b ∈ s.data.toList, ([76, 82] : List UInt8).contains b = true) :
    Calls Tryz.prog 8 #[.string s] w (SmallRes (.bool true) w) := by
  obtain ⟨x0, x1, HAT, HRA⟩ : ∃ x0 x1, Hid (∀ w, Amb w → Calls Tryz.prog 24 #[.string s] w (SmallRes (.tuple #[.agg #[.string x0, .string x1], .int .i64 0]) w)) ∧ Hid (∀ w, Calls Tryz.prog 26 #[.string s] w (SmallRes (.agg #[.string x0, .string x1]) w)) := by
    obtain ⟨l, hl, rfl⟩ := way_of s hg
    exact ⟨_, _, Lib.hid (fun w h => At_any l w h (by omega)), Lib.hid (fun w => r4at_any l w (by omega))⟩
  have HWE := Lib.hid (wantI_good s hg)
  have HAMB := Lib.hid hamb
  have hc : ¬ (30 : Int) < (s.size : Int) := by omega
  have HWS := Lib.hid (fun i h => wantI_succ s i h)
  have hbt := get_bt s
  clear hamb hg
  go_enter Tryz.func8, Tryz.ntmps8
  go_wp2_with fail
  refine (known04_any w HAMB.out).mono ?_
  rintro e w1 ⟨rfl, hb1⟩
  have HB1 := Lib.hid hb1
  clear hb1
  go_wp2_with fail
  go_loopw [3, 4] (fun vw vi wr => ∃ i : Nat, i ≤ s.size ∧ vi = .int .i64 (i : Int) ∧ vw = .int .i64 (wantI s i) ∧ Below w.heap.size w wr) (fun _ vi _ => s.size - (intOf vi).toNat)
  case atStart => exact ⟨0, Nat.zero_le _, by first | rfl | (simp; done), by first | rfl | (unfold wantI; simp; done), HB1.out⟩
  case round =>
    obtain ⟨i, hi, rfl, rfl, hB⟩ := hrel
    have HBR := Lib.hid hB
    clear hB
    by_cases hie : i = s.size
    · subst hie
      have hlt : ¬ (s.size : Int) < (s.size : Int) := by omega
      rw [HWE.out]
      go_wp2_with fail
      refine (HAT.out wr (HAMB.out.below HBR.out)).mono ?_
      rintro e w4 ⟨rfl, hb4⟩
      have hz4 := bel_chain HBR.out hb4
      clear hb4
      obtain ⟨v4, hv4⟩ : ∃ v, w4.alloc (.cells #[.string x0, .string x1] 24) = v := ⟨_, rfl⟩
      obtain ⟨hY, hBY⟩ := B1.of hv4
      have HY := Lib.hid (fun wz (hb : Below v4.heap.size v4 wz) => hY.later hb)
      have hz5 := bel_chain hz4 hBY
      have HV4 := Lib.hid hv4
      clear hv4 hY hBY hz4
      go_upto_region 10 with fail
      try rw [HV4.out]
      have hzd : Below v4.heap.size v4 v4.drew := (Below.refl _ _).drew
      have HC1 := Lib.hid (HRA.out v4.drew)
      refine wp_region_held_drew (S := fun w' => w'.cell? ⟨w4.heap.size, 0, none⟩ = some (.string x0) ∧ w'.cell? ⟨w4.heap.size, 1, none⟩ = some (.string x1)) (by kernel_rfl) (⟨(HY.out _ hzd).2.1, (HY.out _ hzd).2.2.1⟩) (fun hS => ?_)
      refine wpAnyH_take (i := 0) (v := ?_) rfl (by kernel_rfl) (by kernel_rfl) (by kernel_rfl) (fun _ _ _ h => h) (Or.inl ⟨by kernel_rfl, ?_⟩) (by assumption) ?_
      rotate_left
      · intro w hSw
        try dsimp only at hSw
        go_simp
        try with_reducible rfl
      try simp only [Act.put, List.getElem_toArray, List.getElem_cons_zero, List.setIfInBounds_toArray, List.set_cons_zero, List.set_cons_succ]
      refine wpAnyH_take (i := 1) (v := ?_) rfl (by kernel_rfl) (by kernel_rfl) (by kernel_rfl) (fun _ _ _ h => h) (Or.inl ⟨by kernel_rfl, ?_⟩) (by assumption) ?_
      rotate_left
      · intro w hSw
        try dsimp only at hSw
        go_simp
        try with_reducible rfl
      try simp only [Act.put, List.getElem_toArray, List.getElem_cons_zero, List.getElem_cons_succ, List.setIfInBounds_toArray, List.set_cons_zero, List.set_cons_succ]
      refine wpAnyH_take (i := 2) (v := ?_) rfl (by kernel_rfl) (by kernel_rfl) (by kernel_rfl) (fun _ _ _ h => h) (Or.inl ⟨by kernel_rfl, ?_⟩) (by assumption) ?_
      rotate_left
      · intro w hSw
        try dsimp only at hSw
        go_simp
        try with_reducible rfl
      try simp only [Act.put, List.getElem_toArray, List.getElem_cons_zero, List.getElem_cons_succ, List.setIfInBounds_toArray, List.set_cons_zero, List.set_cons_succ]
      refine wpAnyH_take (i := 3) (v := ?_) rfl (by kernel_rfl) (by kernel_rfl) (by kernel_rfl) (fun _ _ _ h => h) (Or.inl ⟨by kernel_rfl, ?_⟩) (by assumption) ?_
      rotate_left
      · intro w hSw
        try dsimp only at hSw
        go_simp
        try with_reducible rfl
      try simp only [Act.put, List.getElem_toArray, List.getElem_cons_zero, List.getElem_cons_succ, List.setIfInBounds_toArray, List.set_cons_zero, List.set_cons_succ]
      refine wpAnyH_take (i := 4) (v := ?_) rfl (by kernel_rfl) (by kernel_rfl) (by kernel_rfl) (fun _ _ _ h => h) (Or.inl ⟨by kernel_rfl, ?_⟩) (by assumption) ?_
      rotate_left
      · intro w hSw
        try dsimp only at hSw
        go_simp
        try with_reducible rfl
      try simp only [Act.put, List.getElem_toArray, List.getElem_cons_zero, List.getElem_cons_succ, List.setIfInBounds_toArray, List.set_cons_zero, List.set_cons_succ]
      refine wpAnyH_ready (rs := [5]) (by kernel_rfl) (by simp) ?_
      refine AllReadyH.cons rfl (fun K hK => ?_) AllReadyH.nil
      go_simp
      refine (HC1.out).mono ?_
      rintro e w6 ⟨rfl, hb6⟩
      have hy6 := bel_chain hzd hb6
      go_wp2_with fail
      refine hK.out _ _ (⟨(HY.out _ hy6).2.1, (HY.out _ hy6).2.2.1⟩) (fun hHeld => ?_)
      clear hK K hS
      have hS := hHeld
      clear hHeld
      try simp only [Act.put, List.getElem_toArray, List.getElem_cons_zero, List.getElem_cons_succ, List.setIfInBounds_toArray, List.set_cons_zero, List.set_cons_succ]
      refine wpAnyH_take (i := 6) (v := ?_) rfl (by kernel_rfl) (by kernel_rfl) (by kernel_rfl) (fun _ _ _ h => h) (Or.inl ⟨by kernel_rfl, ?_⟩) (by assumption) ?_
      rotate_left
      · intro w hSw
        try dsimp only at hSw
        go_simp
        try with_reducible rfl
      try simp only [Act.put, List.getElem_toArray, List.getElem_cons_zero, List.getElem_cons_succ, List.setIfInBounds_toArray, List.set_cons_zero, List.set_cons_succ]
      refine wpAnyH_take (i := 7) (v := ?_) rfl (by kernel_rfl) (by kernel_rfl) (by kernel_rfl) (fun _ _ _ h => h) (Or.inl ⟨by kernel_rfl, ?_⟩) (by assumption) ?_
      rotate_left
      · intro w hSw
        try dsimp only at hSw
        go_simp
        try with_reducible rfl
      try simp only [Act.put, List.getElem_toArray, List.getElem_cons_zero, List.getElem_cons_succ, List.setIfInBounds_toArray, List.set_cons_zero, List.set_cons_succ]
      refine wpAnyH_take (i := 8) (v := ?_) rfl (by kernel_rfl) (by kernel_rfl) (by kernel_rfl) (fun _ _ _ h => h) (Or.inl ⟨by kernel_rfl, ?_⟩) (by assumption) ?_
      rotate_left
      · intro w hSw
        try dsimp only at hSw
        go_simp
        try with_reducible rfl
      try simp only [Act.put, List.getElem_toArray, List.getElem_cons_zero, List.getElem_cons_succ, List.setIfInBounds_toArray, List.set_cons_zero, List.set_cons_succ]
      refine wpAnyH_take (i := 9) (v := ?_) rfl (by kernel_rfl) (by kernel_rfl) (by kernel_rfl) (fun _ _ _ h => h) (Or.inl ⟨by kernel_rfl, ?_⟩) (by assumption) ?_
      rotate_left
      · intro w hSw
        try dsimp only at hSw
        go_simp
        try with_reducible rfl
      try simp only [Act.put, List.getElem_toArray, List.getElem_cons_zero, List.getElem_cons_succ, List.setIfInBounds_toArray, List.set_cons_zero, List.set_cons_succ]
      refine wpAnyH_take (i := 10) (v := ?_) rfl (by kernel_rfl) (by kernel_rfl) (by kernel_rfl) (fun _ _ _ h => h) (Or.inl ⟨by kernel_rfl, ?_⟩) (by assumption) ?_
      rotate_left
      · intro w hSw
        try dsimp only at hSw
        go_simp
        try with_reducible rfl
      try simp only [Act.put, List.getElem_toArray, List.getElem_cons_zero, List.getElem_cons_succ, List.setIfInBounds_toArray, List.set_cons_zero, List.set_cons_succ]
      refine wpAnyH_take (i := 11) (v := ?_) rfl (by kernel_rfl) (by kernel_rfl) (by kernel_rfl) (fun _ _ _ h => h) (Or.inl ⟨by kernel_rfl, ?_⟩) (by assumption) ?_
      rotate_left
      · intro w hSw
        try dsimp only at hSw
        go_simp
        try with_reducible rfl
      try simp only [Act.put, List.getElem_toArray, List.getElem_cons_zero, List.getElem_cons_succ, List.setIfInBounds_toArray, List.set_cons_zero, List.set_cons_succ]
      refine wpAnyH_take (i := 12) (v := ?_) rfl (by kernel_rfl) (by kernel_rfl) (by kernel_rfl) (fun _ _ _ h => h) (Or.inl ⟨by kernel_rfl, ?_⟩) (by assumption) ?_
      rotate_left
      · intro w hSw
        try dsimp only at hSw
        go_simp
        try with_reducible rfl
      try simp only [Act.put, List.getElem_toArray, List.getElem_cons_zero, List.getElem_cons_succ, List.setIfInBounds_toArray, List.set_cons_zero, List.set_cons_succ]
      refine wpAnyH_take (i := 13) (v := ?_) rfl (by kernel_rfl) (by kernel_rfl) (by kernel_rfl) (fun _ _ _ h => h) (Or.inl ⟨by kernel_rfl, ?_⟩) (by assumption) ?_
      rotate_left
      · intro w hSw
        try dsimp only at hSw
        go_simp
        try with_reducible rfl
      try simp only [Act.put, List.getElem_toArray, List.getElem_cons_zero, List.getElem_cons_succ, List.setIfInBounds_toArray, List.set_cons_zero, List.set_cons_succ]
      refine wpAnyH_take (i := 14) (v := ?_) rfl (by kernel_rfl) (by kernel_rfl) (by kernel_rfl) (fun _ _ _ h => h) (Or.inl ⟨by kernel_rfl, ?_⟩) (by assumption) ?_
      rotate_left
      · intro w hSw
        try dsimp only at hSw
        go_simp
        try with_reducible rfl
      try simp only [Act.put, List.getElem_toArray, List.getElem_cons_zero, List.getElem_cons_succ, List.setIfInBounds_toArray, List.set_cons_zero, List.set_cons_succ]
      refine wpAnyH_take (i := 15) (v := ?_) rfl (by kernel_rfl) (by kernel_rfl) (by kernel_rfl) (fun _ _ _ h => h) (Or.inl ⟨by kernel_rfl, ?_⟩) (by assumption) ?_
      rotate_left
      · intro w hSw
        try dsimp only at hSw
        go_simp
        try with_reducible rfl
      try simp only [Act.put, List.getElem_toArray, List.getElem_cons_zero, List.getElem_cons_succ, List.setIfInBounds_toArray, List.set_cons_zero, List.set_cons_succ]
      refine wpAnyH_take (i := 16) (v := undef) rfl (by kernel_rfl) (by kernel_rfl) (by kernel_rfl) (fun _ _ _ h => h) (Or.inr ⟨by kernel_rfl, rfl⟩) (by assumption) ?_
      try simp only [Act.put, List.getElem_toArray, List.getElem_cons_zero, List.getElem_cons_succ, List.setIfInBounds_toArray, List.set_cons_zero, List.set_cons_succ]
      refine wpAnyH_take (i := 17) (v := undef) rfl (by kernel_rfl) (by kernel_rfl) (by kernel_rfl) (fun _ _ _ h => h) (Or.inr ⟨by kernel_rfl, rfl⟩) (by assumption) ?_
      try simp only [Act.put, List.getElem_toArray, List.getElem_cons_zero, List.getElem_cons_succ, List.setIfInBounds_toArray, List.set_cons_zero, List.set_cons_succ]
      refine wpAnyH_take (i := 18) (v := undef) rfl (by kernel_rfl) (by kernel_rfl) (by kernel_rfl) (fun _ _ _ h => h) (Or.inr ⟨by kernel_rfl, rfl⟩) (by assumption) ?_
      try simp only [Act.put, List.getElem_toArray, List.getElem_cons_zero, List.getElem_cons_succ, List.setIfInBounds_toArray, List.set_cons_zero, List.set_cons_succ]
      refine wpAnyH_take (i := 19) (v := undef) rfl (by kernel_rfl) (by kernel_rfl) (by kernel_rfl) (fun _ _ _ h => h) (Or.inr ⟨by kernel_rfl, rfl⟩) (by assumption) ?_
      try simp only [Act.put, List.getElem_toArray, List.getElem_cons_zero, List.getElem_cons_succ, List.setIfInBounds_toArray, List.set_cons_zero, List.set_cons_succ]
      refine wpAnyH_take (i := 20) (v := undef) rfl (by kernel_rfl) (by kernel_rfl) (by kernel_rfl) (fun _ _ _ h => h) (Or.inr ⟨by kernel_rfl, rfl⟩) (by assumption) ?_
      try simp only [Act.put, List.getElem_toArray, List.getElem_cons_zero, List.getElem_cons_succ, List.setIfInBounds_toArray, List.set_cons_zero, List.set_cons_succ]
      refine wpAnyH_take (i := 21) (v := undef) rfl (by kernel_rfl) (by kernel_rfl) (by kernel_rfl) (fun _ _ _ h => h) (Or.inr ⟨by kernel_rfl, rfl⟩) (by assumption) ?_
      try simp only [Act.put, List.getElem_toArray, List.getElem_cons_zero, List.getElem_cons_succ, List.setIfInBounds_toArray, List.set_cons_zero, List.set_cons_succ]
      refine wpAnyH_take (i := 22) (v := undef) rfl (by kernel_rfl) (by kernel_rfl) (by kernel_rfl) (fun _ _ _ h => h) (Or.inr ⟨by kernel_rfl, rfl⟩) (by assumption) ?_
      try simp only [Act.put, List.getElem_toArray, List.getElem_cons_zero, List.getElem_cons_succ, List.setIfInBounds_toArray, List.set_cons_zero, List.set_cons_succ]
      refine wpAnyH_take (i := 23) (v := undef) rfl (by kernel_rfl) (by kernel_rfl) (by kernel_rfl) (fun _ _ _ h => h) (Or.inr ⟨by kernel_rfl, rfl⟩) (by assumption) ?_
      try simp only [Act.put, List.getElem_toArray, List.getElem_cons_zero, List.getElem_cons_succ, List.setIfInBounds_toArray, List.set_cons_zero, List.set_cons_succ]
      refine wpAnyH_take (i := 24) (v := ?_) rfl (by kernel_rfl) (by kernel_rfl) (by kernel_rfl) (fun _ _ _ h => h) (Or.inl ⟨by kernel_rfl, ?_⟩) (by assumption) ?_
      rotate_left
      · intro w hSw
        try dsimp only at hSw
        go_simp
        try with_reducible rfl
      try simp only [Act.put, List.getElem_toArray, List.getElem_cons_zero, List.getElem_cons_succ, List.setIfInBounds_toArray, List.set_cons_zero, List.set_cons_succ]
      refine wpAnyH_take (i := 25) (v := ?_) rfl (by kernel_rfl) (by kernel_rfl) (by kernel_rfl) (fun _ _ _ h => h) (Or.inl ⟨by kernel_rfl, ?_⟩) (by assumption) ?_
      rotate_left
      · intro w hSw
        try dsimp only at hSw
        go_simp
        try with_reducible rfl
      try simp only [Act.put, List.getElem_toArray, List.getElem_cons_zero, List.getElem_cons_succ, List.setIfInBounds_toArray, List.set_cons_zero, List.set_cons_succ]
      refine wpAnyH_done (by kernel_rfl) ?_ _
      have hz6 := bel_chain hz5 hy6
      clear hzd hb6 hy6 HC1 hS
      have HZ6 := Lib.hid hz6
      clear hz6
      go_wp2_with fail
      try (go_quiet (fail); go_wp2_with fail)
      go_loopw [7, 8] (fun vl vi wr => ∃ k : Nat, k ≤ 40 ∧ vi = .int .i64 (k : Int) ∧ vl = .string (rep s k) ∧ Below w.heap.size w wr) (fun _ vi _ => 40 - (intOf vi).toNat)
      case atStart => exact ⟨0, Nat.zero_le _, by first | rfl | (simp; done), by first | rfl | (simp; done), by first | exact HZ6.out | exact bel_drewN HZ6.out _⟩
      case round =>
        obtain ⟨k, hk, rfl, rfl, hB⟩ := hrel
        have HBR := Lib.hid hB
        clear hB
        have hrs := rep_size s k
        have hmul : k * s.size ≤ 40 * 30 := Nat.mul_le_mul hk hs30
        have hcat : ((rep s k).size : Int) + (s.size : Int) ≤ 2000 := by omega
        have HRN := Lib.hid (show rep s (k + 1) = rep s k ++ s from rfl)
        have HRS := Lib.hid hrs
        obtain ⟨L, hL⟩ : ∃ L, rep s k = L := ⟨_, rfl⟩
        rw [hL] at hcat HRN HRS ⊢
        have hLs : L.size ≤ 1200 := by rw [HRS.out]; omega
        clear hrs hmul hL
        by_cases hk40 : k = 40
        · subst hk40
          by_cases hbig : (1000 : Int) < (L.size : Int)
          · have HLG := Lib.hid (fun w => At_long L w (by omega))
            have HA7 := Lib.hid HBR.out
            clear hLs
            go_wp2_with fail
            refine (HLG.out wr).mono ?_
            rintro e w7 ⟨rfl, hb7⟩
            have hz7 := bel_chain HBR.out hb7
            clear hb7
            go_wp2_with fail
            obtain ⟨v7, hv7⟩ : ∃ v, w7.alloc (.cells #[.string ⟨#[]⟩, .string ⟨#[]⟩] 24) = v := ⟨_, rfl⟩
            try rw [hv7]
            have hz8 := bel_chain hz7 (B1.of hv7).2
            clear hv7 hz7
            try go_wp2_with fail
            refine (none4_yes v7).mono ?_
            rintro e w9 ⟨rfl, hb9⟩
            have hz9 := bel_chain hz8 hb9
            go_wp2_with fail
            go_ret
            exact ⟨rfl, hz9⟩
          · clear hLs
            go_wp2_with fail
            go_ret
            exact ⟨rfl, HBR.out⟩
        · have hlt : (k : Int) < 40 := by omega
          have hkn : k + 1 ≤ 40 := by omega
          clear hLs
          go_wp2_with fail
          go_roundw
          case rel => exact ⟨k + 1, hkn, by go_num, by rw [HRN.out], HBR.out⟩
          case measure => simp [intOf]; omega
    · have hlt : (i : Int) < (s.size : Int) := by omega
      have hltn : i < s.size := by omega
      have HN := Lib.hid (HWS.out i hltn)
      obtain ⟨W0, hW0⟩ : ∃ x, wantI s i = x := ⟨_, rfl⟩
      rw [hW0] at HN ⊢
      by_cases c1 : bt s i = 76
      · have HN2 := Lib.hid (show wantI s (i + 1) = W0 by rw [HN.out, if_pos (.inl c1)])
        clear hW0 HN
        go_wp2_with fail
        go_roundw
        case rel => exact ⟨i + 1, by omega, by go_num, by rw [HN2.out], HBR.out⟩
        case measure => simp [intOf]; omega
      · by_cases c2 : bt s i = 82
        · have HN2 := Lib.hid (show wantI s (i + 1) = W0 by rw [HN.out, if_pos (.inr c2)])
          clear hW0 HN
          go_wp2_with fail
          go_roundw
          case rel => exact ⟨i + 1, by omega, by go_num, by rw [HN2.out], HBR.out⟩
          case measure => simp [intOf]; omega
        · have HN2 := Lib.hid (show wantI s (i + 1) = 15 by rw [HN.out, if_neg (by rintro (h | h); exact c1 h; exact c2 h)])
          have c3 : (bt s i == 76) = false := by rw [beq_eq_false_iff_ne]; exact c1
          have c4 : (bt s i == 82) = false := by rw [beq_eq_false_iff_ne]; exact c2
          have c5 : (bt s i != 76) = true := by rw [bne, c3]; rfl
          have c6 : (bt s i != 82) = true := by rw [bne, c4]; rfl
          clear hW0 HN
          go_wp2_with fail
          go_roundw
          case rel => exact ⟨i + 1, by omega, by go_num, by rw [HN2.out], HBR.out⟩
          case measure => simp [intOf]; omega
set_option maxRecDepth 100000 in
set_option maxHeartbeats 8000000 in
/-- of a text that is no a way. -/
theorem lawWays_bad (s : ByteArray) (w : World) (hamb : Amb w) (hs30 : s.size ≤ 30) (hg : ∃ b ∈ s.data.toList, ([76, 82] : List UInt8).contains b = false) :
    Calls Tryz.prog 8 #[.string s] w (SmallRes (.bool true) w) := by
  have HAT := Lib.hid (fun w (_ : Amb w) => At_bad s w (by omega) hg)
  have HWE := Lib.hid (wantI_bad s hg)
  have HAMB := Lib.hid hamb
  have hc : ¬ (30 : Int) < (s.size : Int) := by omega
  have HWS := Lib.hid (fun i h => wantI_succ s i h)
  have hbt := get_bt s
  clear hamb hg
  go_enter Tryz.func8, Tryz.ntmps8
  go_wp2_with fail
  refine (known04_any w HAMB.out).mono ?_
  rintro e w1 ⟨rfl, hb1⟩
  have HB1 := Lib.hid hb1
  clear hb1
  go_wp2_with fail
  go_loopw [3, 4] (fun vw vi wr => ∃ i : Nat, i ≤ s.size ∧ vi = .int .i64 (i : Int) ∧ vw = .int .i64 (wantI s i) ∧ Below w.heap.size w wr) (fun _ vi _ => s.size - (intOf vi).toNat)
  case atStart => exact ⟨0, Nat.zero_le _, by first | rfl | (simp; done), by first | rfl | (unfold wantI; simp; done), HB1.out⟩
  case round =>
    obtain ⟨i, hi, rfl, rfl, hB⟩ := hrel
    have HBR := Lib.hid hB
    clear hB
    by_cases hie : i = s.size
    · subst hie
      have hlt : ¬ (s.size : Int) < (s.size : Int) := by omega
      rw [HWE.out]
      go_wp2_with fail
      refine (HAT.out wr (HAMB.out.below HBR.out)).mono ?_
      rintro e w4 ⟨rfl, hb4⟩
      have hz4 := bel_chain HBR.out hb4
      clear hb4
      obtain ⟨v4, hv4⟩ : ∃ v, w4.alloc (.cells #[.string ⟨#[]⟩, .string ⟨#[]⟩] 24) = v := ⟨_, rfl⟩
      obtain ⟨hY, hBY⟩ := B1.of hv4
      have HY := Lib.hid (fun wz (hb : Below v4.heap.size v4 wz) => hY.later hb)
      have hz5 := bel_chain hz4 hBY
      have HV4 := Lib.hid hv4
      clear hv4 hY hBY hz4
      go_upto_region 10 with fail
      try rw [HV4.out]
      have hzd : Below v4.heap.size v4 v4.drew := (Below.refl _ _).drew
      have HC1 := Lib.hid (none4_yes v4.drew)
      refine wp_region_held_drew (S := fun w' => w'.cell? ⟨w4.heap.size, 0, none⟩ = some (.string ⟨#[]⟩) ∧ w'.cell? ⟨w4.heap.size, 1, none⟩ = some (.string ⟨#[]⟩)) (by kernel_rfl) (⟨(HY.out _ hzd).2.1, (HY.out _ hzd).2.2.1⟩) (fun hS => ?_)
      refine wpAnyH_take (i := 0) (v := ?_) rfl (by kernel_rfl) (by kernel_rfl) (by kernel_rfl) (fun _ _ _ h => h) (Or.inl ⟨by kernel_rfl, ?_⟩) (by assumption) ?_
      rotate_left
      · intro w hSw
        try dsimp only at hSw
        go_simp
        try with_reducible rfl
      try simp only [Act.put, List.getElem_toArray, List.getElem_cons_zero, List.setIfInBounds_toArray, List.set_cons_zero, List.set_cons_succ]
      refine wpAnyH_take (i := 1) (v := ?_) rfl (by kernel_rfl) (by kernel_rfl) (by kernel_rfl) (fun _ _ _ h => h) (Or.inl ⟨by kernel_rfl, ?_⟩) (by assumption) ?_
      rotate_left
      · intro w hSw
        try dsimp only at hSw
        go_simp
        try with_reducible rfl
      try simp only [Act.put, List.getElem_toArray, List.getElem_cons_zero, List.getElem_cons_succ, List.setIfInBounds_toArray, List.set_cons_zero, List.set_cons_succ]
      refine wpAnyH_take (i := 2) (v := ?_) rfl (by kernel_rfl) (by kernel_rfl) (by kernel_rfl) (fun _ _ _ h => h) (Or.inl ⟨by kernel_rfl, ?_⟩) (by assumption) ?_
      rotate_left
      · intro w hSw
        try dsimp only at hSw
        go_simp
        try with_reducible rfl
      try simp only [Act.put, List.getElem_toArray, List.getElem_cons_zero, List.getElem_cons_succ, List.setIfInBounds_toArray, List.set_cons_zero, List.set_cons_succ]
      refine wpAnyH_take (i := 3) (v := undef) rfl (by kernel_rfl) (by kernel_rfl) (by kernel_rfl) (fun _ _ _ h => h) (Or.inr ⟨by kernel_rfl, rfl⟩) (by assumption) ?_
      try simp only [Act.put, List.getElem_toArray, List.getElem_cons_zero, List.getElem_cons_succ, List.setIfInBounds_toArray, List.set_cons_zero, List.set_cons_succ]
      refine wpAnyH_take (i := 4) (v := undef) rfl (by kernel_rfl) (by kernel_rfl) (by kernel_rfl) (fun _ _ _ h => h) (Or.inr ⟨by kernel_rfl, rfl⟩) (by assumption) ?_
      try simp only [Act.put, List.getElem_toArray, List.getElem_cons_zero, List.getElem_cons_succ, List.setIfInBounds_toArray, List.set_cons_zero, List.set_cons_succ]
      refine wpAnyH_take (i := 5) (v := undef) rfl (by kernel_rfl) (by kernel_rfl) (by kernel_rfl) (fun _ _ _ h => h) (Or.inr ⟨by kernel_rfl, rfl⟩) (by assumption) ?_
      try simp only [Act.put, List.getElem_toArray, List.getElem_cons_zero, List.getElem_cons_succ, List.setIfInBounds_toArray, List.set_cons_zero, List.set_cons_succ]
      refine wpAnyH_take (i := 6) (v := undef) rfl (by kernel_rfl) (by kernel_rfl) (by kernel_rfl) (fun _ _ _ h => h) (Or.inr ⟨by kernel_rfl, rfl⟩) (by assumption) ?_
      try simp only [Act.put, List.getElem_toArray, List.getElem_cons_zero, List.getElem_cons_succ, List.setIfInBounds_toArray, List.set_cons_zero, List.set_cons_succ]
      refine wpAnyH_take (i := 7) (v := undef) rfl (by kernel_rfl) (by kernel_rfl) (by kernel_rfl) (fun _ _ _ h => h) (Or.inr ⟨by kernel_rfl, rfl⟩) (by assumption) ?_
      try simp only [Act.put, List.getElem_toArray, List.getElem_cons_zero, List.getElem_cons_succ, List.setIfInBounds_toArray, List.set_cons_zero, List.set_cons_succ]
      refine wpAnyH_take (i := 8) (v := undef) rfl (by kernel_rfl) (by kernel_rfl) (by kernel_rfl) (fun _ _ _ h => h) (Or.inr ⟨by kernel_rfl, rfl⟩) (by assumption) ?_
      try simp only [Act.put, List.getElem_toArray, List.getElem_cons_zero, List.getElem_cons_succ, List.setIfInBounds_toArray, List.set_cons_zero, List.set_cons_succ]
      refine wpAnyH_take (i := 9) (v := undef) rfl (by kernel_rfl) (by kernel_rfl) (by kernel_rfl) (fun _ _ _ h => h) (Or.inr ⟨by kernel_rfl, rfl⟩) (by assumption) ?_
      try simp only [Act.put, List.getElem_toArray, List.getElem_cons_zero, List.getElem_cons_succ, List.setIfInBounds_toArray, List.set_cons_zero, List.set_cons_succ]
      refine wpAnyH_take (i := 10) (v := undef) rfl (by kernel_rfl) (by kernel_rfl) (by kernel_rfl) (fun _ _ _ h => h) (Or.inr ⟨by kernel_rfl, rfl⟩) (by assumption) ?_
      try simp only [Act.put, List.getElem_toArray, List.getElem_cons_zero, List.getElem_cons_succ, List.setIfInBounds_toArray, List.set_cons_zero, List.set_cons_succ]
      refine wpAnyH_take (i := 11) (v := ?_) rfl (by kernel_rfl) (by kernel_rfl) (by kernel_rfl) (fun _ _ _ h => h) (Or.inl ⟨by kernel_rfl, ?_⟩) (by assumption) ?_
      rotate_left
      · intro w hSw
        try dsimp only at hSw
        go_simp
        try with_reducible rfl
      try simp only [Act.put, List.getElem_toArray, List.getElem_cons_zero, List.getElem_cons_succ, List.setIfInBounds_toArray, List.set_cons_zero, List.set_cons_succ]
      refine wpAnyH_take (i := 12) (v := ?_) rfl (by kernel_rfl) (by kernel_rfl) (by kernel_rfl) (fun _ _ _ h => h) (Or.inl ⟨by kernel_rfl, ?_⟩) (by assumption) ?_
      rotate_left
      · intro w hSw
        try dsimp only at hSw
        go_simp
        try with_reducible rfl
      try simp only [Act.put, List.getElem_toArray, List.getElem_cons_zero, List.getElem_cons_succ, List.setIfInBounds_toArray, List.set_cons_zero, List.set_cons_succ]
      refine wpAnyH_take (i := 13) (v := ?_) rfl (by kernel_rfl) (by kernel_rfl) (by kernel_rfl) (fun _ _ _ h => h) (Or.inl ⟨by kernel_rfl, ?_⟩) (by assumption) ?_
      rotate_left
      · intro w hSw
        try dsimp only at hSw
        go_simp
        try with_reducible rfl
      try simp only [Act.put, List.getElem_toArray, List.getElem_cons_zero, List.getElem_cons_succ, List.setIfInBounds_toArray, List.set_cons_zero, List.set_cons_succ]
      refine wpAnyH_take (i := 14) (v := ?_) rfl (by kernel_rfl) (by kernel_rfl) (by kernel_rfl) (fun _ _ _ h => h) (Or.inl ⟨by kernel_rfl, ?_⟩) (by assumption) ?_
      rotate_left
      · intro w hSw
        try dsimp only at hSw
        go_simp
        try with_reducible rfl
      try simp only [Act.put, List.getElem_toArray, List.getElem_cons_zero, List.getElem_cons_succ, List.setIfInBounds_toArray, List.set_cons_zero, List.set_cons_succ]
      refine wpAnyH_take (i := 15) (v := ?_) rfl (by kernel_rfl) (by kernel_rfl) (by kernel_rfl) (fun _ _ _ h => h) (Or.inl ⟨by kernel_rfl, ?_⟩) (by assumption) ?_
      rotate_left
      · intro w hSw
        try dsimp only at hSw
        go_simp
        try with_reducible rfl
      try simp only [Act.put, List.getElem_toArray, List.getElem_cons_zero, List.getElem_cons_succ, List.setIfInBounds_toArray, List.set_cons_zero, List.set_cons_succ]
      refine wpAnyH_take (i := 16) (v := ?_) rfl (by kernel_rfl) (by kernel_rfl) (by kernel_rfl) (fun _ _ _ h => h) (Or.inl ⟨by kernel_rfl, ?_⟩) (by assumption) ?_
      rotate_left
      · intro w hSw
        try dsimp only at hSw
        go_simp
        try with_reducible rfl
      try simp only [Act.put, List.getElem_toArray, List.getElem_cons_zero, List.getElem_cons_succ, List.setIfInBounds_toArray, List.set_cons_zero, List.set_cons_succ]
      refine wpAnyH_ready (rs := [17]) (by kernel_rfl) (by simp) ?_
      refine AllReadyH.cons rfl (fun K hK => ?_) AllReadyH.nil
      go_simp
      refine (HC1.out).mono ?_
      rintro e w6 ⟨rfl, hb6⟩
      have hy6 := bel_chain hzd hb6
      go_wp2_with fail
      refine hK.out _ _ (⟨(HY.out _ hy6).2.1, (HY.out _ hy6).2.2.1⟩) (fun hHeld => ?_)
      clear hK K hS
      have hS := hHeld
      clear hHeld
      try simp only [Act.put, List.getElem_toArray, List.getElem_cons_zero, List.getElem_cons_succ, List.setIfInBounds_toArray, List.set_cons_zero, List.set_cons_succ]
      refine wpAnyH_take (i := 18) (v := ?_) rfl (by kernel_rfl) (by kernel_rfl) (by kernel_rfl) (fun _ _ _ h => h) (Or.inl ⟨by kernel_rfl, ?_⟩) (by assumption) ?_
      rotate_left
      · intro w hSw
        try dsimp only at hSw
        go_simp
        try with_reducible rfl
      try simp only [Act.put, List.getElem_toArray, List.getElem_cons_zero, List.getElem_cons_succ, List.setIfInBounds_toArray, List.set_cons_zero, List.set_cons_succ]
      refine wpAnyH_take (i := 19) (v := ?_) rfl (by kernel_rfl) (by kernel_rfl) (by kernel_rfl) (fun _ _ _ h => h) (Or.inl ⟨by kernel_rfl, ?_⟩) (by assumption) ?_
      rotate_left
      · intro w hSw
        try dsimp only at hSw
        go_simp
        try with_reducible rfl
      try simp only [Act.put, List.getElem_toArray, List.getElem_cons_zero, List.getElem_cons_succ, List.setIfInBounds_toArray, List.set_cons_zero, List.set_cons_succ]
      refine wpAnyH_take (i := 20) (v := ?_) rfl (by kernel_rfl) (by kernel_rfl) (by kernel_rfl) (fun _ _ _ h => h) (Or.inl ⟨by kernel_rfl, ?_⟩) (by assumption) ?_
      rotate_left
      · intro w hSw
        try dsimp only at hSw
        go_simp
        try with_reducible rfl
      try simp only [Act.put, List.getElem_toArray, List.getElem_cons_zero, List.getElem_cons_succ, List.setIfInBounds_toArray, List.set_cons_zero, List.set_cons_succ]
      refine wpAnyH_take (i := 21) (v := ?_) rfl (by kernel_rfl) (by kernel_rfl) (by kernel_rfl) (fun _ _ _ h => h) (Or.inl ⟨by kernel_rfl, ?_⟩) (by assumption) ?_
      rotate_left
      · intro w hSw
        try dsimp only at hSw
        go_simp
        try with_reducible rfl
      try simp only [Act.put, List.getElem_toArray, List.getElem_cons_zero, List.getElem_cons_succ, List.setIfInBounds_toArray, List.set_cons_zero, List.set_cons_succ]
      refine wpAnyH_take (i := 22) (v := ?_) rfl (by kernel_rfl) (by kernel_rfl) (by kernel_rfl) (fun _ _ _ h => h) (Or.inl ⟨by kernel_rfl, ?_⟩) (by assumption) ?_
      rotate_left
      · intro w hSw
        try dsimp only at hSw
        go_simp
        try with_reducible rfl
      try simp only [Act.put, List.getElem_toArray, List.getElem_cons_zero, List.getElem_cons_succ, List.setIfInBounds_toArray, List.set_cons_zero, List.set_cons_succ]
      refine wpAnyH_take (i := 23) (v := ?_) rfl (by kernel_rfl) (by kernel_rfl) (by kernel_rfl) (fun _ _ _ h => h) (Or.inl ⟨by kernel_rfl, ?_⟩) (by assumption) ?_
      rotate_left
      · intro w hSw
        try dsimp only at hSw
        go_simp
        try with_reducible rfl
      try simp only [Act.put, List.getElem_toArray, List.getElem_cons_zero, List.getElem_cons_succ, List.setIfInBounds_toArray, List.set_cons_zero, List.set_cons_succ]
      refine wpAnyH_take (i := 24) (v := ?_) rfl (by kernel_rfl) (by kernel_rfl) (by kernel_rfl) (fun _ _ _ h => h) (Or.inl ⟨by kernel_rfl, ?_⟩) (by assumption) ?_
      rotate_left
      · intro w hSw
        try dsimp only at hSw
        go_simp
        try with_reducible rfl
      try simp only [Act.put, List.getElem_toArray, List.getElem_cons_zero, List.getElem_cons_succ, List.setIfInBounds_toArray, List.set_cons_zero, List.set_cons_succ]
      refine wpAnyH_take (i := 25) (v := ?_) rfl (by kernel_rfl) (by kernel_rfl) (by kernel_rfl) (fun _ _ _ h => h) (Or.inl ⟨by kernel_rfl, ?_⟩) (by assumption) ?_
      rotate_left
      · intro w hSw
        try dsimp only at hSw
        go_simp
        try with_reducible rfl
      try simp only [Act.put, List.getElem_toArray, List.getElem_cons_zero, List.getElem_cons_succ, List.setIfInBounds_toArray, List.set_cons_zero, List.set_cons_succ]
      refine wpAnyH_done (by kernel_rfl) ?_ _
      have hz6 := bel_chain hz5 hy6
      clear hzd hb6 hy6 HC1 hS
      have HZ6 := Lib.hid hz6
      clear hz6
      go_wp2_with fail
      try (go_quiet (fail); go_wp2_with fail)
      go_loopw [7, 8] (fun vl vi wr => ∃ k : Nat, k ≤ 40 ∧ vi = .int .i64 (k : Int) ∧ vl = .string (rep s k) ∧ Below w.heap.size w wr) (fun _ vi _ => 40 - (intOf vi).toNat)
      case atStart => exact ⟨0, Nat.zero_le _, by first | rfl | (simp; done), by first | rfl | (simp; done), by first | exact HZ6.out | exact bel_drewN HZ6.out _⟩
      case round =>
        obtain ⟨k, hk, rfl, rfl, hB⟩ := hrel
        have HBR := Lib.hid hB
        clear hB
        have hrs := rep_size s k
        have hmul : k * s.size ≤ 40 * 30 := Nat.mul_le_mul hk hs30
        have hcat : ((rep s k).size : Int) + (s.size : Int) ≤ 2000 := by omega
        have HRN := Lib.hid (show rep s (k + 1) = rep s k ++ s from rfl)
        have HRS := Lib.hid hrs
        obtain ⟨L, hL⟩ : ∃ L, rep s k = L := ⟨_, rfl⟩
        rw [hL] at hcat HRN HRS ⊢
        have hLs : L.size ≤ 1200 := by rw [HRS.out]; omega
        clear hrs hmul hL
        by_cases hk40 : k = 40
        · subst hk40
          by_cases hbig : (1000 : Int) < (L.size : Int)
          · have HLG := Lib.hid (fun w => At_long L w (by omega))
            have HA7 := Lib.hid HBR.out
            clear hLs
            go_wp2_with fail
            refine (HLG.out wr).mono ?_
            rintro e w7 ⟨rfl, hb7⟩
            have hz7 := bel_chain HBR.out hb7
            clear hb7
            go_wp2_with fail
            obtain ⟨v7, hv7⟩ : ∃ v, w7.alloc (.cells #[.string ⟨#[]⟩, .string ⟨#[]⟩] 24) = v := ⟨_, rfl⟩
            try rw [hv7]
            have hz8 := bel_chain hz7 (B1.of hv7).2
            clear hv7 hz7
            try go_wp2_with fail
            refine (none4_yes v7).mono ?_
            rintro e w9 ⟨rfl, hb9⟩
            have hz9 := bel_chain hz8 hb9
            go_wp2_with fail
            go_ret
            exact ⟨rfl, hz9⟩
          · clear hLs
            go_wp2_with fail
            go_ret
            exact ⟨rfl, HBR.out⟩
        · have hlt : (k : Int) < 40 := by omega
          have hkn : k + 1 ≤ 40 := by omega
          clear hLs
          go_wp2_with fail
          go_roundw
          case rel => exact ⟨k + 1, hkn, by go_num, by rw [HRN.out], HBR.out⟩
          case measure => simp [intOf]; omega
    · have hlt : (i : Int) < (s.size : Int) := by omega
      have hltn : i < s.size := by omega
      have HN := Lib.hid (HWS.out i hltn)
      obtain ⟨W0, hW0⟩ : ∃ x, wantI s i = x := ⟨_, rfl⟩
      rw [hW0] at HN ⊢
      by_cases c1 : bt s i = 76
      · have HN2 := Lib.hid (show wantI s (i + 1) = W0 by rw [HN.out, if_pos (.inl c1)])
        clear hW0 HN
        go_wp2_with fail
        go_roundw
        case rel => exact ⟨i + 1, by omega, by go_num, by rw [HN2.out], HBR.out⟩
        case measure => simp [intOf]; omega
      · by_cases c2 : bt s i = 82
        · have HN2 := Lib.hid (show wantI s (i + 1) = W0 by rw [HN.out, if_pos (.inr c2)])
          clear hW0 HN
          go_wp2_with fail
          go_roundw
          case rel => exact ⟨i + 1, by omega, by go_num, by rw [HN2.out], HBR.out⟩
          case measure => simp [intOf]; omega
        · have HN2 := Lib.hid (show wantI s (i + 1) = 15 by rw [HN.out, if_neg (by rintro (h | h); exact c1 h; exact c2 h)])
          have c3 : (bt s i == 76) = false := by rw [beq_eq_false_iff_ne]; exact c1
          have c4 : (bt s i == 82) = false := by rw [beq_eq_false_iff_ne]; exact c2
          have c5 : (bt s i != 76) = true := by rw [bne, c3]; rfl
          have c6 : (bt s i != 82) = true := by rw [bne, c4]; rfl
          clear hW0 HN
          go_wp2_with fail
          go_roundw
          case rel => exact ⟨i + 1, by omega, by go_num, by rw [HN2.out], HBR.out⟩
          case measure => simp [intOf]; omega
theorem lawWays_walk (s : ByteArray) (w : World) (hamb : Amb w) :
    Calls Tryz.prog 8 #[.string s] w (SmallRes (.bool true) w) := by
  by_cases h : s.size ≤ 30
  · by_cases hg : ∃ b ∈ s.data.toList, ([76, 82] : List UInt8).contains b = false
    · exact lawWays_bad s w hamb h hg
    · refine lawWays_good s w hamb h fun b hb => ?_
      cases e : ([76, 82] : List UInt8).contains b with
      | true => rfl
      | false => exact absurd ⟨b, hb, e⟩ hg
  · exact lawWays_long s w hamb (by omega)
end Go.Proofs.YtpafocfpofnkpaaGreatDoor
