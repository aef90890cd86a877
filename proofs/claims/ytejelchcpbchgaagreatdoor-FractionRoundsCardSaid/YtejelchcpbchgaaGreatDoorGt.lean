/- Greater text, out of: T18. -/
import Derived.Test.YtejelchcpbchgaaGreatDoorGi
import Derived.Test.YtejelchcpbchgaaGreatDoorGg
import Derived.Test.YtejelchcpbchgaaGreatDoorGv
import Derived.Deep.RegionHeld3
namespace Go.Proofs.YtejelchcpbchgaaGreatDoor
open Go.RowKit Go.PlainAid
attribute [local go_sem] field_whole0 field_whole1 field_rat0 field_rat1

theorem NQ_half3 (k : Nat) (hk : 1 ≤ k) : NQ (Rat.divInt 1 2) k := NQ.of_divInt (by decide) (Nat.le_trans ((nz_le_iff 1 0).2 (by decide)) hk) (Nat.le_trans ((nz_le_iff 2 0).2 (by decide)) hk)
/-- A state of a region that several orders lead to: what is shown of it once. -/
theorem node8 {I B : World → Value → Value → Value → Value → Nat → Nat → Nat → Prop} {G : Prop} (main : (∀ w a b c d x y z, I w a b c d x y z → B w a b c d x y z) → G) (proof : ∀ w a b c d x y z, I w a b c d x y z → B w a b c d x y z) : G := main proof
set_option maxRecDepth 100000 in
set_option maxHeartbeats 4000000 in
/-- schismaref03.Floor. -/
theorem t3rfloor_any (p : Rat) (w : World) (hamb : Amb w) (hp : NQ p 20000) :
    Calls Tryz.prog 13 #[rv p] w (SmallRes (.string (itx p.floor)) w) := by
  obtain ⟨hp1, hp2⟩ := hp
  have HFL := Lib.hid (show p.floor = p.num / (p.den : Int) from Rat.floor_def p)
  have HNF := Lib.hid (show nz p.floor ≤ 1000000 by rw [Rat.floor_def]; exact Nat.le_trans (nz_mono (natAbs_ediv_le _ _ (by omega))) (by omega))
  generalize p.floor = fl at *
  have HDP := Lib.hid (rden_pos p)
  have HAMB := Lib.hid hamb
  clear hamb
  go_enter Tryz.func13, Tryz.ntmps13
  go_wp2_with fail
  obtain ⟨W, hW⟩ : ∃ W, (w.alloc (.cells #[.string (itx p.num), .string (itx (p.den : Int))] 27)) = W := ⟨_, rfl⟩
  rw [hW]
  obtain ⟨hX, hBW⟩ := B1.of hW
  clear hW
  have HX := Lib.hid (fun wz (hb : Below W.heap.size W wz) => hX.later hb)
  have HB := Lib.hid hBW
  have HA := Lib.hid (fun wz (hb : Below W.heap.size W wz) => HAMB.out.below (bel_chain HB.out hb))
  have hz0 : Below W.heap.size W W := Below.refl _ _
  clear hBW
  obtain ⟨_, c000, c001, f000, f001⟩ := hX
  obtain ⟨d1, _⟩ : ∃ v : Value, v = v := ⟨.bool false, rfl⟩
  obtain ⟨d2, _⟩ : ∃ v : Value, v = v := ⟨.bool false, rfl⟩
  obtain ⟨d3, _⟩ : ∃ v : Value, v = v := ⟨.bool false, rfl⟩
  obtain ⟨d4, _⟩ : ∃ v : Value, v = v := ⟨.bool false, rfl⟩
  obtain ⟨k1, _⟩ : ∃ v : Nat, v = v := ⟨0, rfl⟩
  obtain ⟨k2, _⟩ : ∃ v : Nat, v = v := ⟨0, rfl⟩
  obtain ⟨k3, _⟩ : ∃ v : Nat, v = v := ⟨0, rfl⟩
  have HS := Lib.hid (fun wz (h : Below W.heap.size W wz) => show wz.cell? ⟨w.heap.size, 0, none⟩ = some (.string (itx p.num)) ∧ wz.cell? ⟨w.heap.size, 1, none⟩ = some (.string (itx (p.den : Int))) from ⟨(HX.out _ h).2.1, (HX.out _ h).2.2.1⟩)
  have hzd := hz0.drew
  refine wp_region_held_drew (S := fun w' => w'.cell? ⟨w.heap.size, 0, none⟩ = some (.string (itx p.num)) ∧ w'.cell? ⟨w.heap.size, 1, none⟩ = some (.string (itx (p.den : Int)))) (by kernel_rfl) (HS.out _ hzd) (fun hS => ?_)
  refine wpAnyH_take (i := 0) (v := ?_) rfl (by kernel_rfl) (by kernel_rfl) (by kernel_rfl) (fun _ _ _ h => h) (Or.inl ⟨by kernel_rfl, ?_⟩) (by assumption) ?_
  rotate_left
  · intro w hSw
    try dsimp only at hSw
    go_simp
    try with_reducible rfl
  try simp only [Act.put, List.getElem_toArray, List.getElem_cons_zero, List.setIfInBounds_toArray, List.set_cons_zero, List.set_cons_succ]
  refine wpAnyH_take (i := 1) (v := ?_) rfl (by kernel_rfl) (by kernel_rfl) (by kernel_rfl) (fun _ _ _ h => h) (Or.inl ⟨by kernel_rfl, ?_⟩) (by assumption) ?_
  rotate_left
  · intro w hSw
    try dsimp only at hSw
    go_simp
    try with_reducible rfl
  try simp only [Act.put, List.getElem_toArray, List.getElem_cons_zero, List.getElem_cons_succ, List.setIfInBounds_toArray, List.set_cons_zero, List.set_cons_succ]
  refine wpAnyH_take (i := 3) (v := ?_) rfl (by kernel_rfl) (by kernel_rfl) (by kernel_rfl) (fun _ _ _ h => h) (Or.inl ⟨by kernel_rfl, ?_⟩) (by assumption) ?_
  rotate_left
  · intro w hSw
    try dsimp only at hSw
    go_simp
    try with_reducible rfl
  try simp only [Act.put, List.getElem_toArray, List.getElem_cons_zero, List.getElem_cons_succ, List.setIfInBounds_toArray, List.set_cons_zero, List.set_cons_succ]
  refine wpAnyH_take (i := 4) (v := ?_) rfl (by kernel_rfl) (by kernel_rfl) (by kernel_rfl) (fun _ _ _ h => h) (Or.inl ⟨by kernel_rfl, ?_⟩) (by assumption) ?_
  rotate_left
  · intro w hSw
    try dsimp only at hSw
    go_simp
    try with_reducible rfl
  try simp only [Act.put, List.getElem_toArray, List.getElem_cons_zero, List.getElem_cons_succ, List.setIfInBounds_toArray, List.set_cons_zero, List.set_cons_succ]
  apply node8 (I := fun w' a b c d x y z => (Below W.heap.size W w') ∧ (W3 w' a p.num) ∧ (W3 w' b (p.den : Int)) ∧ ((∃ s A n k, c = .agg #[.bool s, .slice A n k]) ∧ W3 w' c fl ∧ ∃ s A n k, d = .agg #[.bool s, .slice A n k]) ∧ (Box2 w' x (.bool false) (.slice none 0 0) ∧ NoInt w' x ∧ W.heap.size ≤ x) ∧ (Box2 w' y (.bool false) (.slice none 0 0) ∧ NoInt w' y ∧ W.heap.size ≤ y) ∧ (x ≠ y))
  intro n0
  have N312 := Lib.hid n0
  clear n0
  apply node8 (I := fun w' a b c d x y z => (Below W.heap.size W w') ∧ (W3 w' a p.num) ∧ (W3 w' b (p.den : Int)) ∧ ((∃ s A n k, c = .agg #[.bool s, .slice A n k]) ∧ W3 w' c fl ∧ ∃ s A n k, d = .agg #[.bool s, .slice A n k]) ∧ (Box2 w' y (.bool false) (.slice none 0 0) ∧ NoInt w' y ∧ W.heap.size ≤ y))
  intro n0
  have N32 := Lib.hid n0
  clear n0
  apply node8 (I := fun w' a b c d x y z => (Below W.heap.size W w') ∧ (W3 w' a p.num) ∧ (W3 w' b (p.den : Int)) ∧ ((∃ s A n k, c = .agg #[.bool s, .slice A n k]) ∧ W3 w' c fl ∧ ∃ s A n k, d = .agg #[.bool s, .slice A n k]) ∧ (Box2 w' x (.bool false) (.slice none 0 0) ∧ NoInt w' x ∧ W.heap.size ≤ x))
  intro n0
  have N31 := Lib.hid n0
  clear n0
  apply node8 (I := fun w' a b c d x y z => (Below W.heap.size W w') ∧ (W3 w' a p.num) ∧ (W3 w' b (p.den : Int)) ∧ (Box2 w' x (.bool false) (.slice none 0 0) ∧ NoInt w' x ∧ W.heap.size ≤ x) ∧ (Box2 w' y (.bool false) (.slice none 0 0) ∧ NoInt w' y ∧ W.heap.size ≤ y) ∧ (x ≠ y))
  intro n0
  have N212 := Lib.hid n0
  clear n0
  apply node8 (I := fun w' a b c d x y z => (Below W.heap.size W w') ∧ (W3 w' a p.num) ∧ (W3 w' b (p.den : Int)) ∧ ((∃ s A n k, c = .agg #[.bool s, .slice A n k]) ∧ W3 w' c fl ∧ ∃ s A n k, d = .agg #[.bool s, .slice A n k]))
  intro n0
  have N3 := Lib.hid n0
  clear n0
  apply node8 (I := fun w' a b c d x y z => (Below W.heap.size W w') ∧ (W3 w' a p.num) ∧ (W3 w' b (p.den : Int)) ∧ (Box2 w' y (.bool false) (.slice none 0 0) ∧ NoInt w' y ∧ W.heap.size ≤ y))
  intro n0
  have N22 := Lib.hid n0
  clear n0
  apply node8 (I := fun w' a b c d x y z => (Below W.heap.size W w') ∧ (W3 w' a p.num) ∧ (W3 w' b (p.den : Int)) ∧ (Box2 w' x (.bool false) (.slice none 0 0) ∧ NoInt w' x ∧ W.heap.size ≤ x))
  intro n0
  have N21 := Lib.hid n0
  clear n0
  apply node8 (I := fun w' a b c d x y z => (Below W.heap.size W w') ∧ (W3 w' a p.num) ∧ (Box2 w' x (.bool false) (.slice none 0 0) ∧ NoInt w' x ∧ W.heap.size ≤ x) ∧ (Box2 w' y (.bool false) (.slice none 0 0) ∧ NoInt w' y ∧ W.heap.size ≤ y) ∧ (x ≠ y))
  intro n0
  have N112 := Lib.hid n0
  clear n0
  apply node8 (I := fun w' a b c d x y z => (Below W.heap.size W w') ∧ (W3 w' a p.num) ∧ (W3 w' b (p.den : Int)))
  intro n0
  have N2 := Lib.hid n0
  clear n0
  apply node8 (I := fun w' a b c d x y z => (Below W.heap.size W w') ∧ (W3 w' a p.num) ∧ (Box2 w' y (.bool false) (.slice none 0 0) ∧ NoInt w' y ∧ W.heap.size ≤ y))
  intro n0
  have N12 := Lib.hid n0
  clear n0
  apply node8 (I := fun w' a b c d x y z => (Below W.heap.size W w') ∧ (W3 w' a p.num) ∧ (Box2 w' x (.bool false) (.slice none 0 0) ∧ NoInt w' x ∧ W.heap.size ≤ x))
  intro n0
  have N11 := Lib.hid n0
  clear n0
  apply node8 (I := fun w' a b c d x y z => (Below W.heap.size W w') ∧ (Box2 w' x (.bool false) (.slice none 0 0) ∧ NoInt w' x ∧ W.heap.size ≤ x) ∧ (Box2 w' y (.bool false) (.slice none 0 0) ∧ NoInt w' y ∧ W.heap.size ≤ y) ∧ (x ≠ y))
  intro n0
  have N012 := Lib.hid n0
  clear n0
  apply node8 (I := fun w' a b c d x y z => (Below W.heap.size W w') ∧ (W3 w' a p.num))
  intro n0
  have N1 := Lib.hid n0
  clear n0
  apply node8 (I := fun w' a b c d x y z => (Below W.heap.size W w') ∧ (Box2 w' y (.bool false) (.slice none 0 0) ∧ NoInt w' y ∧ W.heap.size ≤ y))
  intro n0
  have N02 := Lib.hid n0
  clear n0
  apply node8 (I := fun w' a b c d x y z => (Below W.heap.size W w') ∧ (Box2 w' x (.bool false) (.slice none 0 0) ∧ NoInt w' x ∧ W.heap.size ≤ x))
  intro n0
  have N01 := Lib.hid n0
  clear n0
  · obtain ⟨w', hw'⟩ : ∃ w', W.drew = w' := ⟨_, rfl⟩
    rw [hw'] at hzd ⊢
    have hz := hzd
    clear hw'
    obtain ⟨a, ha⟩ : ∃ v : Value, v = d1 := ⟨_, rfl⟩
    obtain ⟨b, hb⟩ : ∃ v : Value, v = d2 := ⟨_, rfl⟩
    obtain ⟨c, hc⟩ : ∃ v : Value, v = d3 := ⟨_, rfl⟩
    obtain ⟨d, hd⟩ : ∃ v : Value, v = d4 := ⟨_, rfl⟩
    obtain ⟨x, hx⟩ : ∃ v : Nat, v = k1 := ⟨_, rfl⟩
    obtain ⟨y, hy⟩ : ∃ v : Nat, v = k2 := ⟨_, rfl⟩
    obtain ⟨z, hzz⟩ : ∃ v : Nat, v = k3 := ⟨_, rfl⟩
    clear ha hb hc hd hx hy hzz
    have hS := HS.out _ hz
    refine wpAnyH_ready (rs := [2, 10, 11]) (by kernel_rfl) (by simp) ?_
    refine AllReadyH.cons rfl (fun K hK => ?_) ?_
    · go_simp
      refine (t3to_any p.num w' (by omega)).mono ?_
      rintro e w5 ⟨v5, rfl, hnew, hb5⟩
      have hz5 := bel_chain hz hb5
      dsimp only
      refine hK.out _ _ (HS.out _ hz5) (fun _ => ?_)
      clear hK K
      try simp only [Act.put, List.getElem_toArray, List.getElem_cons_zero, List.getElem_cons_succ, List.setIfInBounds_toArray, List.set_cons_zero, List.set_cons_succ]
      exact N1.out w5 v5 b c d x y z ⟨bel_chain hz hb5, hnew⟩
    refine AllReadyH.cons rfl (fun K hK => ?_) ?_
    · go_simp
      refine hK.out _ _ (HS.out _ (hz.alloc hz.size _)) (fun _ => ?_)
      clear hK K
      try simp only [Act.put, List.getElem_toArray, List.getElem_cons_zero, List.getElem_cons_succ, List.setIfInBounds_toArray, List.set_cons_zero, List.set_cons_succ]
      have hnx := Box2.new w' (.bool false) (.slice none 0 0) 37
      have hni0 := NoInt.new w' #[.bool false, .slice none 0 0] 37 whole_ne_int
      have hbe : Below w'.heap.size w' (w'.alloc (.cells #[.bool false, .slice none 0 0] 37)) := (Below.refl _ _).alloc (Nat.le_refl _) _
      have hnl := hz.size
      obtain ⟨w5, hw5⟩ : ∃ w5, (w'.alloc (.cells #[.bool false, .slice none 0 0] 37)) = w5 := ⟨_, rfl⟩
      obtain ⟨g5, hg5⟩ : ∃ g5, w'.heap.size = g5 := ⟨_, rfl⟩
      rw [hw5] at hnx hni0 hbe ⊢
      have hni : NoInt w5 g5 := hg5 ▸ hni0
      clear hni0
      have hnx' : Box2 w5 g5 (.bool false) (.slice none 0 0) := hg5 ▸ hnx
      have hnl' : W.heap.size ≤ g5 := hg5 ▸ hnl
      rw [hg5]
      clear hnx hnl
      have hnx := hnx'
      have hnl := hnl'
      exact N01.out w5 a b c d g5 y z ⟨bel_chain hz hbe, ⟨hnx, hni, hnl⟩⟩
    refine AllReadyH.cons rfl (fun K hK => ?_) ?_
    · go_simp
      refine hK.out _ _ (HS.out _ (hz.alloc hz.size _)) (fun _ => ?_)
      clear hK K
      try simp only [Act.put, List.getElem_toArray, List.getElem_cons_zero, List.getElem_cons_succ, List.setIfInBounds_toArray, List.set_cons_zero, List.set_cons_succ]
      have hnx := Box2.new w' (.bool false) (.slice none 0 0) 37
      have hni0 := NoInt.new w' #[.bool false, .slice none 0 0] 37 whole_ne_int
      have hbe : Below w'.heap.size w' (w'.alloc (.cells #[.bool false, .slice none 0 0] 37)) := (Below.refl _ _).alloc (Nat.le_refl _) _
      have hnl := hz.size
      obtain ⟨w5, hw5⟩ : ∃ w5, (w'.alloc (.cells #[.bool false, .slice none 0 0] 37)) = w5 := ⟨_, rfl⟩
      obtain ⟨g5, hg5⟩ : ∃ g5, w'.heap.size = g5 := ⟨_, rfl⟩
      rw [hw5] at hnx hni0 hbe ⊢
      have hni : NoInt w5 g5 := hg5 ▸ hni0
      clear hni0
      have hnx' : Box2 w5 g5 (.bool false) (.slice none 0 0) := hg5 ▸ hnx
      have hnl' : W.heap.size ≤ g5 := hg5 ▸ hnl
      rw [hg5]
      clear hnx hnl
      have hnx := hnx'
      have hnl := hnl'
      exact N02.out w5 a b c d x g5 z ⟨bel_chain hz hbe, ⟨hnx, hni, hnl⟩⟩
    exact AllReadyH.nil
  · intro w' a b c d x y z hI
    obtain ⟨hz, ⟨hx10, hn10, hl10⟩⟩ := hI
    have hS := HS.out _ hz
    refine wpAnyH_ready (rs := [2, 11]) (by kernel_rfl) (by simp) ?_
    refine AllReadyH.cons rfl (fun K hK => ?_) ?_
    · go_simp
      refine (t3to_any p.num w' (by omega)).mono ?_
      rintro e w5 ⟨v5, rfl, hnew, hb5⟩
      have hz5 := bel_chain hz hb5
      dsimp only
      refine hK.out _ _ (HS.out _ hz5) (fun _ => ?_)
      clear hK K
      try simp only [Act.put, List.getElem_toArray, List.getElem_cons_zero, List.getElem_cons_succ, List.setIfInBounds_toArray, List.set_cons_zero, List.set_cons_succ]
      exact N11.out w5 v5 b c d x y z ⟨bel_chain hz hb5, hnew, ⟨hx10.later hb5, hn10.later hb5, hl10⟩⟩
    refine AllReadyH.cons rfl (fun K hK => ?_) ?_
    · go_simp
      refine hK.out _ _ (HS.out _ (hz.alloc hz.size _)) (fun _ => ?_)
      clear hK K
      try simp only [Act.put, List.getElem_toArray, List.getElem_cons_zero, List.getElem_cons_succ, List.setIfInBounds_toArray, List.set_cons_zero, List.set_cons_succ]
      have hnx := Box2.new w' (.bool false) (.slice none 0 0) 37
      have hni0 := NoInt.new w' #[.bool false, .slice none 0 0] 37 whole_ne_int
      have hbe : Below w'.heap.size w' (w'.alloc (.cells #[.bool false, .slice none 0 0] 37)) := (Below.refl _ _).alloc (Nat.le_refl _) _
      have hnl := hz.size
      have hlo := hx10.1
      obtain ⟨w5, hw5⟩ : ∃ w5, (w'.alloc (.cells #[.bool false, .slice none 0 0] 37)) = w5 := ⟨_, rfl⟩
      obtain ⟨g5, hg5⟩ : ∃ g5, w'.heap.size = g5 := ⟨_, rfl⟩
      rw [hw5] at hnx hni0 hbe ⊢
      have hni : NoInt w5 g5 := hg5 ▸ hni0
      clear hni0
      have hnx' : Box2 w5 g5 (.bool false) (.slice none 0 0) := hg5 ▸ hnx
      have hnl' : W.heap.size ≤ g5 := hg5 ▸ hnl
      rw [hg5]
      have hnn : x ≠ g5 := by rw [← hg5]; omega
      clear hnx hnl
      have hnx := hnx'
      have hnl := hnl'
      exact N012.out w5 a b c d x g5 z ⟨bel_chain hz hbe, ⟨hx10.later hbe, hn10.later hbe, hl10⟩, ⟨hnx, hni, hnl⟩, hnn⟩
    exact AllReadyH.nil
  · intro w' a b c d x y z hI
    obtain ⟨hz, ⟨hx11, hn11, hl11⟩⟩ := hI
    have hS := HS.out _ hz
    refine wpAnyH_ready (rs := [2, 10]) (by kernel_rfl) (by simp) ?_
    refine AllReadyH.cons rfl (fun K hK => ?_) ?_
    · go_simp
      refine (t3to_any p.num w' (by omega)).mono ?_
      rintro e w5 ⟨v5, rfl, hnew, hb5⟩
      have hz5 := bel_chain hz hb5
      dsimp only
      refine hK.out _ _ (HS.out _ hz5) (fun _ => ?_)
      clear hK K
      try simp only [Act.put, List.getElem_toArray, List.getElem_cons_zero, List.getElem_cons_succ, List.setIfInBounds_toArray, List.set_cons_zero, List.set_cons_succ]
      exact N12.out w5 v5 b c d x y z ⟨bel_chain hz hb5, hnew, ⟨hx11.later hb5, hn11.later hb5, hl11⟩⟩
    refine AllReadyH.cons rfl (fun K hK => ?_) ?_
    · go_simp
      refine hK.out _ _ (HS.out _ (hz.alloc hz.size _)) (fun _ => ?_)
      clear hK K
      try simp only [Act.put, List.getElem_toArray, List.getElem_cons_zero, List.getElem_cons_succ, List.setIfInBounds_toArray, List.set_cons_zero, List.set_cons_succ]
      have hnx := Box2.new w' (.bool false) (.slice none 0 0) 37
      have hni0 := NoInt.new w' #[.bool false, .slice none 0 0] 37 whole_ne_int
      have hbe : Below w'.heap.size w' (w'.alloc (.cells #[.bool false, .slice none 0 0] 37)) := (Below.refl _ _).alloc (Nat.le_refl _) _
      have hnl := hz.size
      have hlo := hx11.1
      obtain ⟨w5, hw5⟩ : ∃ w5, (w'.alloc (.cells #[.bool false, .slice none 0 0] 37)) = w5 := ⟨_, rfl⟩
      obtain ⟨g5, hg5⟩ : ∃ g5, w'.heap.size = g5 := ⟨_, rfl⟩
      rw [hw5] at hnx hni0 hbe ⊢
      have hni : NoInt w5 g5 := hg5 ▸ hni0
      clear hni0
      have hnx' : Box2 w5 g5 (.bool false) (.slice none 0 0) := hg5 ▸ hnx
      have hnl' : W.heap.size ≤ g5 := hg5 ▸ hnl
      rw [hg5]
      have hnn : g5 ≠ y := by rw [← hg5]; omega
      clear hnx hnl
      have hnx := hnx'
      have hnl := hnl'
      exact N012.out w5 a b c d g5 y z ⟨bel_chain hz hbe, ⟨hnx, hni, hnl⟩, ⟨hx11.later hbe, hn11.later hbe, hl11⟩, hnn⟩
    exact AllReadyH.nil
  · intro w' a b c d x y z hI
    obtain ⟨hz, hv1⟩ := hI
    have hS := HS.out _ hz
    refine wpAnyH_ready (rs := [5, 10, 11]) (by kernel_rfl) (by simp) ?_
    refine AllReadyH.cons rfl (fun K hK => ?_) ?_
    · go_simp
      refine (t3to_any (p.den : Int) w' (by omega)).mono ?_
      rintro e w5 ⟨v5, rfl, hnew, hb5⟩
      have hz5 := bel_chain hz hb5
      dsimp only
      refine hK.out _ _ (HS.out _ hz5) (fun _ => ?_)
      clear hK K
      try simp only [Act.put, List.getElem_toArray, List.getElem_cons_zero, List.getElem_cons_succ, List.setIfInBounds_toArray, List.set_cons_zero, List.set_cons_succ]
      exact N2.out w5 a v5 c d x y z ⟨bel_chain hz hb5, hv1.below hb5, hnew⟩
    refine AllReadyH.cons rfl (fun K hK => ?_) ?_
    · go_simp
      refine hK.out _ _ (HS.out _ (hz.alloc hz.size _)) (fun _ => ?_)
      clear hK K
      try simp only [Act.put, List.getElem_toArray, List.getElem_cons_zero, List.getElem_cons_succ, List.setIfInBounds_toArray, List.set_cons_zero, List.set_cons_succ]
      have hnx := Box2.new w' (.bool false) (.slice none 0 0) 37
      have hni0 := NoInt.new w' #[.bool false, .slice none 0 0] 37 whole_ne_int
      have hbe : Below w'.heap.size w' (w'.alloc (.cells #[.bool false, .slice none 0 0] 37)) := (Below.refl _ _).alloc (Nat.le_refl _) _
      have hnl := hz.size
      obtain ⟨w5, hw5⟩ : ∃ w5, (w'.alloc (.cells #[.bool false, .slice none 0 0] 37)) = w5 := ⟨_, rfl⟩
      obtain ⟨g5, hg5⟩ : ∃ g5, w'.heap.size = g5 := ⟨_, rfl⟩
      rw [hw5] at hnx hni0 hbe ⊢
      have hni : NoInt w5 g5 := hg5 ▸ hni0
      clear hni0
      have hnx' : Box2 w5 g5 (.bool false) (.slice none 0 0) := hg5 ▸ hnx
      have hnl' : W.heap.size ≤ g5 := hg5 ▸ hnl
      rw [hg5]
      clear hnx hnl
      have hnx := hnx'
      have hnl := hnl'
      exact N11.out w5 a b c d g5 y z ⟨bel_chain hz hbe, hv1.below hbe, ⟨hnx, hni, hnl⟩⟩
    refine AllReadyH.cons rfl (fun K hK => ?_) ?_
    · go_simp
      refine hK.out _ _ (HS.out _ (hz.alloc hz.size _)) (fun _ => ?_)
      clear hK K
      try simp only [Act.put, List.getElem_toArray, List.getElem_cons_zero, List.getElem_cons_succ, List.setIfInBounds_toArray, List.set_cons_zero, List.set_cons_succ]
      have hnx := Box2.new w' (.bool false) (.slice none 0 0) 37
      have hni0 := NoInt.new w' #[.bool false, .slice none 0 0] 37 whole_ne_int
      have hbe : Below w'.heap.size w' (w'.alloc (.cells #[.bool false, .slice none 0 0] 37)) := (Below.refl _ _).alloc (Nat.le_refl _) _
      have hnl := hz.size
      obtain ⟨w5, hw5⟩ : ∃ w5, (w'.alloc (.cells #[.bool false, .slice none 0 0] 37)) = w5 := ⟨_, rfl⟩
      obtain ⟨g5, hg5⟩ : ∃ g5, w'.heap.size = g5 := ⟨_, rfl⟩
      rw [hw5] at hnx hni0 hbe ⊢
      have hni : NoInt w5 g5 := hg5 ▸ hni0
      clear hni0
      have hnx' : Box2 w5 g5 (.bool false) (.slice none 0 0) := hg5 ▸ hnx
      have hnl' : W.heap.size ≤ g5 := hg5 ▸ hnl
      rw [hg5]
      clear hnx hnl
      have hnx := hnx'
      have hnl := hnl'
      exact N12.out w5 a b c d x g5 z ⟨bel_chain hz hbe, hv1.below hbe, ⟨hnx, hni, hnl⟩⟩
    exact AllReadyH.nil
  · intro w' a b c d x y z hI
    obtain ⟨hz, ⟨hx10, hn10, hl10⟩, ⟨hx11, hn11, hl11⟩, hne⟩ := hI
    have hS := HS.out _ hz
    refine wpAnyH_ready (rs := [2]) (by kernel_rfl) (by simp) ?_
    refine AllReadyH.cons rfl (fun K hK => ?_) ?_
    · go_simp
      refine (t3to_any p.num w' (by omega)).mono ?_
      rintro e w5 ⟨v5, rfl, hnew, hb5⟩
      have hz5 := bel_chain hz hb5
      dsimp only
      refine hK.out _ _ (HS.out _ hz5) (fun _ => ?_)
      clear hK K
      try simp only [Act.put, List.getElem_toArray, List.getElem_cons_zero, List.getElem_cons_succ, List.setIfInBounds_toArray, List.set_cons_zero, List.set_cons_succ]
      exact N112.out w5 v5 b c d x y z ⟨bel_chain hz hb5, hnew, ⟨hx10.later hb5, hn10.later hb5, hl10⟩, ⟨hx11.later hb5, hn11.later hb5, hl11⟩, hne⟩
    exact AllReadyH.nil
  · intro w' a b c d x y z hI
    obtain ⟨hz, hv1, ⟨hx10, hn10, hl10⟩⟩ := hI
    have hS := HS.out _ hz
    refine wpAnyH_ready (rs := [5, 11]) (by kernel_rfl) (by simp) ?_
    refine AllReadyH.cons rfl (fun K hK => ?_) ?_
    · go_simp
      refine (t3to_any (p.den : Int) w' (by omega)).mono ?_
      rintro e w5 ⟨v5, rfl, hnew, hb5⟩
      have hz5 := bel_chain hz hb5
      dsimp only
      refine hK.out _ _ (HS.out _ hz5) (fun _ => ?_)
      clear hK K
      try simp only [Act.put, List.getElem_toArray, List.getElem_cons_zero, List.getElem_cons_succ, List.setIfInBounds_toArray, List.set_cons_zero, List.set_cons_succ]
      exact N21.out w5 a v5 c d x y z ⟨bel_chain hz hb5, hv1.below hb5, hnew, ⟨hx10.later hb5, hn10.later hb5, hl10⟩⟩
    refine AllReadyH.cons rfl (fun K hK => ?_) ?_
    · go_simp
      refine hK.out _ _ (HS.out _ (hz.alloc hz.size _)) (fun _ => ?_)
      clear hK K
      try simp only [Act.put, List.getElem_toArray, List.getElem_cons_zero, List.getElem_cons_succ, List.setIfInBounds_toArray, List.set_cons_zero, List.set_cons_succ]
      have hnx := Box2.new w' (.bool false) (.slice none 0 0) 37
      have hni0 := NoInt.new w' #[.bool false, .slice none 0 0] 37 whole_ne_int
      have hbe : Below w'.heap.size w' (w'.alloc (.cells #[.bool false, .slice none 0 0] 37)) := (Below.refl _ _).alloc (Nat.le_refl _) _
      have hnl := hz.size
      have hlo := hx10.1
      obtain ⟨w5, hw5⟩ : ∃ w5, (w'.alloc (.cells #[.bool false, .slice none 0 0] 37)) = w5 := ⟨_, rfl⟩
      obtain ⟨g5, hg5⟩ : ∃ g5, w'.heap.size = g5 := ⟨_, rfl⟩
      rw [hw5] at hnx hni0 hbe ⊢
      have hni : NoInt w5 g5 := hg5 ▸ hni0
      clear hni0
      have hnx' : Box2 w5 g5 (.bool false) (.slice none 0 0) := hg5 ▸ hnx
      have hnl' : W.heap.size ≤ g5 := hg5 ▸ hnl
      rw [hg5]
      have hnn : x ≠ g5 := by rw [← hg5]; omega
      clear hnx hnl
      have hnx := hnx'
      have hnl := hnl'
      exact N112.out w5 a b c d x g5 z ⟨bel_chain hz hbe, hv1.below hbe, ⟨hx10.later hbe, hn10.later hbe, hl10⟩, ⟨hnx, hni, hnl⟩, hnn⟩
    exact AllReadyH.nil
  · intro w' a b c d x y z hI
    obtain ⟨hz, hv1, ⟨hx11, hn11, hl11⟩⟩ := hI
    have hS := HS.out _ hz
    refine wpAnyH_ready (rs := [5, 10]) (by kernel_rfl) (by simp) ?_
    refine AllReadyH.cons rfl (fun K hK => ?_) ?_
    · go_simp
      refine (t3to_any (p.den : Int) w' (by omega)).mono ?_
      rintro e w5 ⟨v5, rfl, hnew, hb5⟩
      have hz5 := bel_chain hz hb5
      dsimp only
      refine hK.out _ _ (HS.out _ hz5) (fun _ => ?_)
      clear hK K
      try simp only [Act.put, List.getElem_toArray, List.getElem_cons_zero, List.getElem_cons_succ, List.setIfInBounds_toArray, List.set_cons_zero, List.set_cons_succ]
      exact N22.out w5 a v5 c d x y z ⟨bel_chain hz hb5, hv1.below hb5, hnew, ⟨hx11.later hb5, hn11.later hb5, hl11⟩⟩
    refine AllReadyH.cons rfl (fun K hK => ?_) ?_
    · go_simp
      refine hK.out _ _ (HS.out _ (hz.alloc hz.size _)) (fun _ => ?_)
      clear hK K
      try simp only [Act.put, List.getElem_toArray, List.getElem_cons_zero, List.getElem_cons_succ, List.setIfInBounds_toArray, List.set_cons_zero, List.set_cons_succ]
      have hnx := Box2.new w' (.bool false) (.slice none 0 0) 37
      have hni0 := NoInt.new w' #[.bool false, .slice none 0 0] 37 whole_ne_int
      have hbe : Below w'.heap.size w' (w'.alloc (.cells #[.bool false, .slice none 0 0] 37)) := (Below.refl _ _).alloc (Nat.le_refl _) _
      have hnl := hz.size
      have hlo := hx11.1
      obtain ⟨w5, hw5⟩ : ∃ w5, (w'.alloc (.cells #[.bool false, .slice none 0 0] 37)) = w5 := ⟨_, rfl⟩
      obtain ⟨g5, hg5⟩ : ∃ g5, w'.heap.size = g5 := ⟨_, rfl⟩
      rw [hw5] at hnx hni0 hbe ⊢
      have hni : NoInt w5 g5 := hg5 ▸ hni0
      clear hni0
      have hnx' : Box2 w5 g5 (.bool false) (.slice none 0 0) := hg5 ▸ hnx
      have hnl' : W.heap.size ≤ g5 := hg5 ▸ hnl
      rw [hg5]
      have hnn : g5 ≠ y := by rw [← hg5]; omega
      clear hnx hnl
      have hnx := hnx'
      have hnl := hnl'
      exact N112.out w5 a b c d g5 y z ⟨bel_chain hz hbe, hv1.below hbe, ⟨hnx, hni, hnl⟩, ⟨hx11.later hbe, hn11.later hbe, hl11⟩, hnn⟩
    exact AllReadyH.nil
  · intro w' a b c d x y z hI
    obtain ⟨hz, hv1, hv2⟩ := hI
    have hS := HS.out _ hz
    refine wpAnyH_ready (rs := [6, 10, 11]) (by kernel_rfl) (by simp) ?_
    refine AllReadyH.cons rfl (fun K hK => ?_) ?_
    · go_simp
      refine (t3floor_any a b p.num (p.den : Int) w' (HA.out _ hz) hv1 hv2 HDP.out (by omega) (by omega)).mono ?_
      rintro e w5 ⟨v5, v6, rfl, hq5, hr5, hb5⟩
      rw [← HFL.out] at hq5
      obtain ⟨s5, A5, n5, k5, hs5, _, _, _, _⟩ := hq5.parts
      obtain ⟨s6, A6, n6, k6, hs6, _, _, _, _⟩ := hr5.parts
      have hnew := And.intro (⟨s5, A5, n5, k5, hs5⟩ : ∃ s A n k, v5 = Value.agg #[.bool s, .slice A n k]) (And.intro hq5 (⟨s6, A6, n6, k6, hs6⟩ : ∃ s A n k, v6 = Value.agg #[.bool s, .slice A n k]))
      clear hs5 hs6
      have hz5 := bel_chain hz hb5
      dsimp only
      refine hK.out _ _ (HS.out _ hz5) (fun _ => ?_)
      clear hK K
      try simp only [Act.put, List.getElem_toArray, List.getElem_cons_zero, List.getElem_cons_succ, List.setIfInBounds_toArray, List.set_cons_zero, List.set_cons_succ]
      have hS := HS.out _ hz5
      refine wpAnyH_take (i := 7) (v := ?_) rfl (by kernel_rfl) (by kernel_rfl) (by kernel_rfl) (fun _ _ _ h => h) (Or.inl ⟨by kernel_rfl, ?_⟩) (by assumption) ?_
      rotate_left
      · intro w hSw
        try dsimp only at hSw
        go_simp
        try with_reducible rfl
      try simp only [Act.put, List.getElem_toArray, List.getElem_cons_zero, List.getElem_cons_succ, List.setIfInBounds_toArray, List.set_cons_zero, List.set_cons_succ]
      refine wpAnyH_take (i := 8) (v := ?_) rfl (by kernel_rfl) (by kernel_rfl) (by kernel_rfl) (fun _ _ _ h => h) (Or.inl ⟨by kernel_rfl, ?_⟩) (by assumption) ?_
      rotate_left
      · intro w hSw
        try dsimp only at hSw
        go_simp
        try with_reducible rfl
      try simp only [Act.put, List.getElem_toArray, List.getElem_cons_zero, List.getElem_cons_succ, List.setIfInBounds_toArray, List.set_cons_zero, List.set_cons_succ]
      refine wpAnyH_take (i := 9) (v := ?_) rfl (by kernel_rfl) (by kernel_rfl) (by kernel_rfl) (fun _ _ _ h => h) (Or.inl ⟨by kernel_rfl, ?_⟩) (by assumption) ?_
      rotate_left
      · intro w hSw
        try dsimp only at hSw
        go_simp
        try with_reducible rfl
      try simp only [Act.put, List.getElem_toArray, List.getElem_cons_zero, List.getElem_cons_succ, List.setIfInBounds_toArray, List.set_cons_zero, List.set_cons_succ]
      exact N3.out w5 a b v5 v6 x y z ⟨bel_chain hz hb5, hv1.below hb5, hv2.below hb5, hnew⟩
    refine AllReadyH.cons rfl (fun K hK => ?_) ?_
    · go_simp
      refine hK.out _ _ (HS.out _ (hz.alloc hz.size _)) (fun _ => ?_)
      clear hK K
      try simp only [Act.put, List.getElem_toArray, List.getElem_cons_zero, List.getElem_cons_succ, List.setIfInBounds_toArray, List.set_cons_zero, List.set_cons_succ]
      have hnx := Box2.new w' (.bool false) (.slice none 0 0) 37
      have hni0 := NoInt.new w' #[.bool false, .slice none 0 0] 37 whole_ne_int
      have hbe : Below w'.heap.size w' (w'.alloc (.cells #[.bool false, .slice none 0 0] 37)) := (Below.refl _ _).alloc (Nat.le_refl _) _
      have hnl := hz.size
      obtain ⟨w5, hw5⟩ : ∃ w5, (w'.alloc (.cells #[.bool false, .slice none 0 0] 37)) = w5 := ⟨_, rfl⟩
      obtain ⟨g5, hg5⟩ : ∃ g5, w'.heap.size = g5 := ⟨_, rfl⟩
      rw [hw5] at hnx hni0 hbe ⊢
      have hni : NoInt w5 g5 := hg5 ▸ hni0
      clear hni0
      have hnx' : Box2 w5 g5 (.bool false) (.slice none 0 0) := hg5 ▸ hnx
      have hnl' : W.heap.size ≤ g5 := hg5 ▸ hnl
      rw [hg5]
      clear hnx hnl
      have hnx := hnx'
      have hnl := hnl'
      exact N21.out w5 a b c d g5 y z ⟨bel_chain hz hbe, hv1.below hbe, hv2.below hbe, ⟨hnx, hni, hnl⟩⟩
    refine AllReadyH.cons rfl (fun K hK => ?_) ?_
    · go_simp
      refine hK.out _ _ (HS.out _ (hz.alloc hz.size _)) (fun _ => ?_)
      clear hK K
      try simp only [Act.put, List.getElem_toArray, List.getElem_cons_zero, List.getElem_cons_succ, List.setIfInBounds_toArray, List.set_cons_zero, List.set_cons_succ]
      have hnx := Box2.new w' (.bool false) (.slice none 0 0) 37
      have hni0 := NoInt.new w' #[.bool false, .slice none 0 0] 37 whole_ne_int
      have hbe : Below w'.heap.size w' (w'.alloc (.cells #[.bool false, .slice none 0 0] 37)) := (Below.refl _ _).alloc (Nat.le_refl _) _
      have hnl := hz.size
      obtain ⟨w5, hw5⟩ : ∃ w5, (w'.alloc (.cells #[.bool false, .slice none 0 0] 37)) = w5 := ⟨_, rfl⟩
      obtain ⟨g5, hg5⟩ : ∃ g5, w'.heap.size = g5 := ⟨_, rfl⟩
      rw [hw5] at hnx hni0 hbe ⊢
      have hni : NoInt w5 g5 := hg5 ▸ hni0
      clear hni0
      have hnx' : Box2 w5 g5 (.bool false) (.slice none 0 0) := hg5 ▸ hnx
      have hnl' : W.heap.size ≤ g5 := hg5 ▸ hnl
      rw [hg5]
      clear hnx hnl
      have hnx := hnx'
      have hnl := hnl'
      exact N22.out w5 a b c d x g5 z ⟨bel_chain hz hbe, hv1.below hbe, hv2.below hbe, ⟨hnx, hni, hnl⟩⟩
    exact AllReadyH.nil
  · intro w' a b c d x y z hI
    obtain ⟨hz, hv1, ⟨hx10, hn10, hl10⟩, ⟨hx11, hn11, hl11⟩, hne⟩ := hI
    have hS := HS.out _ hz
    refine wpAnyH_ready (rs := [5]) (by kernel_rfl) (by simp) ?_
    refine AllReadyH.cons rfl (fun K hK => ?_) ?_
    · go_simp
      refine (t3to_any (p.den : Int) w' (by omega)).mono ?_
      rintro e w5 ⟨v5, rfl, hnew, hb5⟩
      have hz5 := bel_chain hz hb5
      dsimp only
      refine hK.out _ _ (HS.out _ hz5) (fun _ => ?_)
      clear hK K
      try simp only [Act.put, List.getElem_toArray, List.getElem_cons_zero, List.getElem_cons_succ, List.setIfInBounds_toArray, List.set_cons_zero, List.set_cons_succ]
      exact N212.out w5 a v5 c d x y z ⟨bel_chain hz hb5, hv1.below hb5, hnew, ⟨hx10.later hb5, hn10.later hb5, hl10⟩, ⟨hx11.later hb5, hn11.later hb5, hl11⟩, hne⟩
    exact AllReadyH.nil
  · intro w' a b c d x y z hI
    obtain ⟨hz, hv1, hv2, ⟨hx10, hn10, hl10⟩⟩ := hI
    have hS := HS.out _ hz
    refine wpAnyH_ready (rs := [6, 11]) (by kernel_rfl) (by simp) ?_
    refine AllReadyH.cons rfl (fun K hK => ?_) ?_
    · go_simp
      refine (t3floor_any a b p.num (p.den : Int) w' (HA.out _ hz) hv1 hv2 HDP.out (by omega) (by omega)).mono ?_
      rintro e w5 ⟨v5, v6, rfl, hq5, hr5, hb5⟩
      rw [← HFL.out] at hq5
      obtain ⟨s5, A5, n5, k5, hs5, _, _, _, _⟩ := hq5.parts
      obtain ⟨s6, A6, n6, k6, hs6, _, _, _, _⟩ := hr5.parts
      have hnew := And.intro (⟨s5, A5, n5, k5, hs5⟩ : ∃ s A n k, v5 = Value.agg #[.bool s, .slice A n k]) (And.intro hq5 (⟨s6, A6, n6, k6, hs6⟩ : ∃ s A n k, v6 = Value.agg #[.bool s, .slice A n k]))
      clear hs5 hs6
      have hz5 := bel_chain hz hb5
      dsimp only
      refine hK.out _ _ (HS.out _ hz5) (fun _ => ?_)
      clear hK K
      try simp only [Act.put, List.getElem_toArray, List.getElem_cons_zero, List.getElem_cons_succ, List.setIfInBounds_toArray, List.set_cons_zero, List.set_cons_succ]
      have hS := HS.out _ hz5
      refine wpAnyH_take (i := 7) (v := ?_) rfl (by kernel_rfl) (by kernel_rfl) (by kernel_rfl) (fun _ _ _ h => h) (Or.inl ⟨by kernel_rfl, ?_⟩) (by assumption) ?_
      rotate_left
      · intro w hSw
        try dsimp only at hSw
        go_simp
        try with_reducible rfl
      try simp only [Act.put, List.getElem_toArray, List.getElem_cons_zero, List.getElem_cons_succ, List.setIfInBounds_toArray, List.set_cons_zero, List.set_cons_succ]
      refine wpAnyH_take (i := 8) (v := ?_) rfl (by kernel_rfl) (by kernel_rfl) (by kernel_rfl) (fun _ _ _ h => h) (Or.inl ⟨by kernel_rfl, ?_⟩) (by assumption) ?_
      rotate_left
      · intro w hSw
        try dsimp only at hSw
        go_simp
        try with_reducible rfl
      try simp only [Act.put, List.getElem_toArray, List.getElem_cons_zero, List.getElem_cons_succ, List.setIfInBounds_toArray, List.set_cons_zero, List.set_cons_succ]
      refine wpAnyH_take (i := 9) (v := ?_) rfl (by kernel_rfl) (by kernel_rfl) (by kernel_rfl) (fun _ _ _ h => h) (Or.inl ⟨by kernel_rfl, ?_⟩) (by assumption) ?_
      rotate_left
      · intro w hSw
        try dsimp only at hSw
        go_simp
        try with_reducible rfl
      try simp only [Act.put, List.getElem_toArray, List.getElem_cons_zero, List.getElem_cons_succ, List.setIfInBounds_toArray, List.set_cons_zero, List.set_cons_succ]
      exact N31.out w5 a b v5 v6 x y z ⟨bel_chain hz hb5, hv1.below hb5, hv2.below hb5, hnew, ⟨hx10.later hb5, hn10.later hb5, hl10⟩⟩
    refine AllReadyH.cons rfl (fun K hK => ?_) ?_
    · go_simp
      refine hK.out _ _ (HS.out _ (hz.alloc hz.size _)) (fun _ => ?_)
      clear hK K
      try simp only [Act.put, List.getElem_toArray, List.getElem_cons_zero, List.getElem_cons_succ, List.setIfInBounds_toArray, List.set_cons_zero, List.set_cons_succ]
      have hnx := Box2.new w' (.bool false) (.slice none 0 0) 37
      have hni0 := NoInt.new w' #[.bool false, .slice none 0 0] 37 whole_ne_int
      have hbe : Below w'.heap.size w' (w'.alloc (.cells #[.bool false, .slice none 0 0] 37)) := (Below.refl _ _).alloc (Nat.le_refl _) _
      have hnl := hz.size
      have hlo := hx10.1
      obtain ⟨w5, hw5⟩ : ∃ w5, (w'.alloc (.cells #[.bool false, .slice none 0 0] 37)) = w5 := ⟨_, rfl⟩
      obtain ⟨g5, hg5⟩ : ∃ g5, w'.heap.size = g5 := ⟨_, rfl⟩
      rw [hw5] at hnx hni0 hbe ⊢
      have hni : NoInt w5 g5 := hg5 ▸ hni0
      clear hni0
      have hnx' : Box2 w5 g5 (.bool false) (.slice none 0 0) := hg5 ▸ hnx
      have hnl' : W.heap.size ≤ g5 := hg5 ▸ hnl
      rw [hg5]
      have hnn : x ≠ g5 := by rw [← hg5]; omega
      clear hnx hnl
      have hnx := hnx'
      have hnl := hnl'
      exact N212.out w5 a b c d x g5 z ⟨bel_chain hz hbe, hv1.below hbe, hv2.below hbe, ⟨hx10.later hbe, hn10.later hbe, hl10⟩, ⟨hnx, hni, hnl⟩, hnn⟩
    exact AllReadyH.nil
  · intro w' a b c d x y z hI
    obtain ⟨hz, hv1, hv2, ⟨hx11, hn11, hl11⟩⟩ := hI
    have hS := HS.out _ hz
    refine wpAnyH_ready (rs := [6, 10]) (by kernel_rfl) (by simp) ?_
    refine AllReadyH.cons rfl (fun K hK => ?_) ?_
    · go_simp
      refine (t3floor_any a b p.num (p.den : Int) w' (HA.out _ hz) hv1 hv2 HDP.out (by omega) (by omega)).mono ?_
      rintro e w5 ⟨v5, v6, rfl, hq5, hr5, hb5⟩
      rw [← HFL.out] at hq5
      obtain ⟨s5, A5, n5, k5, hs5, _, _, _, _⟩ := hq5.parts
      obtain ⟨s6, A6, n6, k6, hs6, _, _, _, _⟩ := hr5.parts
      have hnew := And.intro (⟨s5, A5, n5, k5, hs5⟩ : ∃ s A n k, v5 = Value.agg #[.bool s, .slice A n k]) (And.intro hq5 (⟨s6, A6, n6, k6, hs6⟩ : ∃ s A n k, v6 = Value.agg #[.bool s, .slice A n k]))
      clear hs5 hs6
      have hz5 := bel_chain hz hb5
      dsimp only
      refine hK.out _ _ (HS.out _ hz5) (fun _ => ?_)
      clear hK K
      try simp only [Act.put, List.getElem_toArray, List.getElem_cons_zero, List.getElem_cons_succ, List.setIfInBounds_toArray, List.set_cons_zero, List.set_cons_succ]
      have hS := HS.out _ hz5
      refine wpAnyH_take (i := 7) (v := ?_) rfl (by kernel_rfl) (by kernel_rfl) (by kernel_rfl) (fun _ _ _ h => h) (Or.inl ⟨by kernel_rfl, ?_⟩) (by assumption) ?_
      rotate_left
      · intro w hSw
        try dsimp only at hSw
        go_simp
        try with_reducible rfl
      try simp only [Act.put, List.getElem_toArray, List.getElem_cons_zero, List.getElem_cons_succ, List.setIfInBounds_toArray, List.set_cons_zero, List.set_cons_succ]
      refine wpAnyH_take (i := 8) (v := ?_) rfl (by kernel_rfl) (by kernel_rfl) (by kernel_rfl) (fun _ _ _ h => h) (Or.inl ⟨by kernel_rfl, ?_⟩) (by assumption) ?_
      rotate_left
      · intro w hSw
        try dsimp only at hSw
        go_simp
        try with_reducible rfl
      try simp only [Act.put, List.getElem_toArray, List.getElem_cons_zero, List.getElem_cons_succ, List.setIfInBounds_toArray, List.set_cons_zero, List.set_cons_succ]
      refine wpAnyH_take (i := 9) (v := ?_) rfl (by kernel_rfl) (by kernel_rfl) (by kernel_rfl) (fun _ _ _ h => h) (Or.inl ⟨by kernel_rfl, ?_⟩) (by assumption) ?_
      rotate_left
      · intro w hSw
        try dsimp only at hSw
        go_simp
        try with_reducible rfl
      try simp only [Act.put, List.getElem_toArray, List.getElem_cons_zero, List.getElem_cons_succ, List.setIfInBounds_toArray, List.set_cons_zero, List.set_cons_succ]
      exact N32.out w5 a b v5 v6 x y z ⟨bel_chain hz hb5, hv1.below hb5, hv2.below hb5, hnew, ⟨hx11.later hb5, hn11.later hb5, hl11⟩⟩
    refine AllReadyH.cons rfl (fun K hK => ?_) ?_
    · go_simp
      refine hK.out _ _ (HS.out _ (hz.alloc hz.size _)) (fun _ => ?_)
      clear hK K
      try simp only [Act.put, List.getElem_toArray, List.getElem_cons_zero, List.getElem_cons_succ, List.setIfInBounds_toArray, List.set_cons_zero, List.set_cons_succ]
      have hnx := Box2.new w' (.bool false) (.slice none 0 0) 37
      have hni0 := NoInt.new w' #[.bool false, .slice none 0 0] 37 whole_ne_int
      have hbe : Below w'.heap.size w' (w'.alloc (.cells #[.bool false, .slice none 0 0] 37)) := (Below.refl _ _).alloc (Nat.le_refl _) _
      have hnl := hz.size
      have hlo := hx11.1
      obtain ⟨w5, hw5⟩ : ∃ w5, (w'.alloc (.cells #[.bool false, .slice none 0 0] 37)) = w5 := ⟨_, rfl⟩
      obtain ⟨g5, hg5⟩ : ∃ g5, w'.heap.size = g5 := ⟨_, rfl⟩
      rw [hw5] at hnx hni0 hbe ⊢
      have hni : NoInt w5 g5 := hg5 ▸ hni0
      clear hni0
      have hnx' : Box2 w5 g5 (.bool false) (.slice none 0 0) := hg5 ▸ hnx
      have hnl' : W.heap.size ≤ g5 := hg5 ▸ hnl
      rw [hg5]
      have hnn : g5 ≠ y := by rw [← hg5]; omega
      clear hnx hnl
      have hnx := hnx'
      have hnl := hnl'
      exact N212.out w5 a b c d g5 y z ⟨bel_chain hz hbe, hv1.below hbe, hv2.below hbe, ⟨hnx, hni, hnl⟩, ⟨hx11.later hbe, hn11.later hbe, hl11⟩, hnn⟩
    exact AllReadyH.nil
  · intro w' a b c d x y z hI
    obtain ⟨hz, hv1, hv2, ⟨hc, hvc, hd⟩⟩ := hI
    have hS := HS.out _ hz
    refine wpAnyH_ready (rs := [10, 11]) (by kernel_rfl) (by simp) ?_
    refine AllReadyH.cons rfl (fun K hK => ?_) ?_
    · go_simp
      refine hK.out _ _ (HS.out _ (hz.alloc hz.size _)) (fun _ => ?_)
      clear hK K
      try simp only [Act.put, List.getElem_toArray, List.getElem_cons_zero, List.getElem_cons_succ, List.setIfInBounds_toArray, List.set_cons_zero, List.set_cons_succ]
      have hnx := Box2.new w' (.bool false) (.slice none 0 0) 37
      have hni0 := NoInt.new w' #[.bool false, .slice none 0 0] 37 whole_ne_int
      have hbe : Below w'.heap.size w' (w'.alloc (.cells #[.bool false, .slice none 0 0] 37)) := (Below.refl _ _).alloc (Nat.le_refl _) _
      have hnl := hz.size
      obtain ⟨w5, hw5⟩ : ∃ w5, (w'.alloc (.cells #[.bool false, .slice none 0 0] 37)) = w5 := ⟨_, rfl⟩
      obtain ⟨g5, hg5⟩ : ∃ g5, w'.heap.size = g5 := ⟨_, rfl⟩
      rw [hw5] at hnx hni0 hbe ⊢
      have hni : NoInt w5 g5 := hg5 ▸ hni0
      clear hni0
      have hnx' : Box2 w5 g5 (.bool false) (.slice none 0 0) := hg5 ▸ hnx
      have hnl' : W.heap.size ≤ g5 := hg5 ▸ hnl
      rw [hg5]
      clear hnx hnl
      have hnx := hnx'
      have hnl := hnl'
      exact N31.out w5 a b c d g5 y z ⟨bel_chain hz hbe, hv1.below hbe, hv2.below hbe, ⟨hc, hvc.below hbe, hd⟩, ⟨hnx, hni, hnl⟩⟩
    refine AllReadyH.cons rfl (fun K hK => ?_) ?_
    · go_simp
      refine hK.out _ _ (HS.out _ (hz.alloc hz.size _)) (fun _ => ?_)
      clear hK K
      try simp only [Act.put, List.getElem_toArray, List.getElem_cons_zero, List.getElem_cons_succ, List.setIfInBounds_toArray, List.set_cons_zero, List.set_cons_succ]
      have hnx := Box2.new w' (.bool false) (.slice none 0 0) 37
      have hni0 := NoInt.new w' #[.bool false, .slice none 0 0] 37 whole_ne_int
      have hbe : Below w'.heap.size w' (w'.alloc (.cells #[.bool false, .slice none 0 0] 37)) := (Below.refl _ _).alloc (Nat.le_refl _) _
      have hnl := hz.size
      obtain ⟨w5, hw5⟩ : ∃ w5, (w'.alloc (.cells #[.bool false, .slice none 0 0] 37)) = w5 := ⟨_, rfl⟩
      obtain ⟨g5, hg5⟩ : ∃ g5, w'.heap.size = g5 := ⟨_, rfl⟩
      rw [hw5] at hnx hni0 hbe ⊢
      have hni : NoInt w5 g5 := hg5 ▸ hni0
      clear hni0
      have hnx' : Box2 w5 g5 (.bool false) (.slice none 0 0) := hg5 ▸ hnx
      have hnl' : W.heap.size ≤ g5 := hg5 ▸ hnl
      rw [hg5]
      clear hnx hnl
      have hnx := hnx'
      have hnl := hnl'
      exact N32.out w5 a b c d x g5 z ⟨bel_chain hz hbe, hv1.below hbe, hv2.below hbe, ⟨hc, hvc.below hbe, hd⟩, ⟨hnx, hni, hnl⟩⟩
    exact AllReadyH.nil
  · intro w' a b c d x y z hI
    obtain ⟨hz, hv1, hv2, ⟨hx10, hn10, hl10⟩, ⟨hx11, hn11, hl11⟩, hne⟩ := hI
    have hS := HS.out _ hz
    refine wpAnyH_ready (rs := [6]) (by kernel_rfl) (by simp) ?_
    refine AllReadyH.cons rfl (fun K hK => ?_) ?_
    · go_simp
      refine (t3floor_any a b p.num (p.den : Int) w' (HA.out _ hz) hv1 hv2 HDP.out (by omega) (by omega)).mono ?_
      rintro e w5 ⟨v5, v6, rfl, hq5, hr5, hb5⟩
      rw [← HFL.out] at hq5
      obtain ⟨s5, A5, n5, k5, hs5, _, _, _, _⟩ := hq5.parts
      obtain ⟨s6, A6, n6, k6, hs6, _, _, _, _⟩ := hr5.parts
      have hnew := And.intro (⟨s5, A5, n5, k5, hs5⟩ : ∃ s A n k, v5 = Value.agg #[.bool s, .slice A n k]) (And.intro hq5 (⟨s6, A6, n6, k6, hs6⟩ : ∃ s A n k, v6 = Value.agg #[.bool s, .slice A n k]))
      clear hs5 hs6
      have hz5 := bel_chain hz hb5
      dsimp only
      refine hK.out _ _ (HS.out _ hz5) (fun _ => ?_)
      clear hK K
      try simp only [Act.put, List.getElem_toArray, List.getElem_cons_zero, List.getElem_cons_succ, List.setIfInBounds_toArray, List.set_cons_zero, List.set_cons_succ]
      have hS := HS.out _ hz5
      refine wpAnyH_take (i := 7) (v := ?_) rfl (by kernel_rfl) (by kernel_rfl) (by kernel_rfl) (fun _ _ _ h => h) (Or.inl ⟨by kernel_rfl, ?_⟩) (by assumption) ?_
      rotate_left
      · intro w hSw
        try dsimp only at hSw
        go_simp
        try with_reducible rfl
      try simp only [Act.put, List.getElem_toArray, List.getElem_cons_zero, List.getElem_cons_succ, List.setIfInBounds_toArray, List.set_cons_zero, List.set_cons_succ]
      refine wpAnyH_take (i := 8) (v := ?_) rfl (by kernel_rfl) (by kernel_rfl) (by kernel_rfl) (fun _ _ _ h => h) (Or.inl ⟨by kernel_rfl, ?_⟩) (by assumption) ?_
      rotate_left
      · intro w hSw
        try dsimp only at hSw
        go_simp
        try with_reducible rfl
      try simp only [Act.put, List.getElem_toArray, List.getElem_cons_zero, List.getElem_cons_succ, List.setIfInBounds_toArray, List.set_cons_zero, List.set_cons_succ]
      refine wpAnyH_take (i := 9) (v := ?_) rfl (by kernel_rfl) (by kernel_rfl) (by kernel_rfl) (fun _ _ _ h => h) (Or.inl ⟨by kernel_rfl, ?_⟩) (by assumption) ?_
      rotate_left
      · intro w hSw
        try dsimp only at hSw
        go_simp
        try with_reducible rfl
      try simp only [Act.put, List.getElem_toArray, List.getElem_cons_zero, List.getElem_cons_succ, List.setIfInBounds_toArray, List.set_cons_zero, List.set_cons_succ]
      exact N312.out w5 a b v5 v6 x y z ⟨bel_chain hz hb5, hv1.below hb5, hv2.below hb5, hnew, ⟨hx10.later hb5, hn10.later hb5, hl10⟩, ⟨hx11.later hb5, hn11.later hb5, hl11⟩, hne⟩
    exact AllReadyH.nil
  · intro w' a b c d x y z hI
    obtain ⟨hz, hv1, hv2, ⟨hc, hvc, hd⟩, ⟨hx10, hn10, hl10⟩⟩ := hI
    have hS := HS.out _ hz
    refine wpAnyH_ready (rs := [11]) (by kernel_rfl) (by simp) ?_
    refine AllReadyH.cons rfl (fun K hK => ?_) ?_
    · go_simp
      refine hK.out _ _ (HS.out _ (hz.alloc hz.size _)) (fun _ => ?_)
      clear hK K
      try simp only [Act.put, List.getElem_toArray, List.getElem_cons_zero, List.getElem_cons_succ, List.setIfInBounds_toArray, List.set_cons_zero, List.set_cons_succ]
      have hnx := Box2.new w' (.bool false) (.slice none 0 0) 37
      have hni0 := NoInt.new w' #[.bool false, .slice none 0 0] 37 whole_ne_int
      have hbe : Below w'.heap.size w' (w'.alloc (.cells #[.bool false, .slice none 0 0] 37)) := (Below.refl _ _).alloc (Nat.le_refl _) _
      have hnl := hz.size
      have hlo := hx10.1
      obtain ⟨w5, hw5⟩ : ∃ w5, (w'.alloc (.cells #[.bool false, .slice none 0 0] 37)) = w5 := ⟨_, rfl⟩
      obtain ⟨g5, hg5⟩ : ∃ g5, w'.heap.size = g5 := ⟨_, rfl⟩
      rw [hw5] at hnx hni0 hbe ⊢
      have hni : NoInt w5 g5 := hg5 ▸ hni0
      clear hni0
      have hnx' : Box2 w5 g5 (.bool false) (.slice none 0 0) := hg5 ▸ hnx
      have hnl' : W.heap.size ≤ g5 := hg5 ▸ hnl
      rw [hg5]
      have hnn : x ≠ g5 := by rw [← hg5]; omega
      clear hnx hnl
      have hnx := hnx'
      have hnl := hnl'
      exact N312.out w5 a b c d x g5 z ⟨bel_chain hz hbe, hv1.below hbe, hv2.below hbe, ⟨hc, hvc.below hbe, hd⟩, ⟨hx10.later hbe, hn10.later hbe, hl10⟩, ⟨hnx, hni, hnl⟩, hnn⟩
    exact AllReadyH.nil
  · intro w' a b c d x y z hI
    obtain ⟨hz, hv1, hv2, ⟨hc, hvc, hd⟩, ⟨hx11, hn11, hl11⟩⟩ := hI
    have hS := HS.out _ hz
    refine wpAnyH_ready (rs := [10]) (by kernel_rfl) (by simp) ?_
    refine AllReadyH.cons rfl (fun K hK => ?_) ?_
    · go_simp
      refine hK.out _ _ (HS.out _ (hz.alloc hz.size _)) (fun _ => ?_)
      clear hK K
      try simp only [Act.put, List.getElem_toArray, List.getElem_cons_zero, List.getElem_cons_succ, List.setIfInBounds_toArray, List.set_cons_zero, List.set_cons_succ]
      have hnx := Box2.new w' (.bool false) (.slice none 0 0) 37
      have hni0 := NoInt.new w' #[.bool false, .slice none 0 0] 37 whole_ne_int
      have hbe : Below w'.heap.size w' (w'.alloc (.cells #[.bool false, .slice none 0 0] 37)) := (Below.refl _ _).alloc (Nat.le_refl _) _
      have hnl := hz.size
      have hlo := hx11.1
      obtain ⟨w5, hw5⟩ : ∃ w5, (w'.alloc (.cells #[.bool false, .slice none 0 0] 37)) = w5 := ⟨_, rfl⟩
      obtain ⟨g5, hg5⟩ : ∃ g5, w'.heap.size = g5 := ⟨_, rfl⟩
      rw [hw5] at hnx hni0 hbe ⊢
      have hni : NoInt w5 g5 := hg5 ▸ hni0
      clear hni0
      have hnx' : Box2 w5 g5 (.bool false) (.slice none 0 0) := hg5 ▸ hnx
      have hnl' : W.heap.size ≤ g5 := hg5 ▸ hnl
      rw [hg5]
      have hnn : g5 ≠ y := by rw [← hg5]; omega
      clear hnx hnl
      have hnx := hnx'
      have hnl := hnl'
      exact N312.out w5 a b c d g5 y z ⟨bel_chain hz hbe, hv1.below hbe, hv2.below hbe, ⟨hc, hvc.below hbe, hd⟩, ⟨hnx, hni, hnl⟩, ⟨hx11.later hbe, hn11.later hbe, hl11⟩, hnn⟩
    exact AllReadyH.nil
  · intro w' a b c d x y z hI
    obtain ⟨hz, hv1, hv2, ⟨hc, hvc, hd⟩, ⟨hx10, hn10, hl10⟩, ⟨hx11, hn11, hl11⟩, hne⟩ := hI
    have hS := HS.out _ hz
    obtain ⟨s5, A5, n5, k5, rfl⟩ := hc
    obtain ⟨s6, A6, n6, k6, rfl⟩ := hd
    obtain ⟨e100, e101, e102, e103, e104⟩ := hx10
    obtain ⟨e110, e111, e112, e113, e114⟩ := hx11
    have HX10 := Lib.hid (show Box2 w' x (.bool false) (.slice none 0 0) from ⟨e100, e101, e102, e103, e104⟩)
    have hnx : ¬ x = y := hne
    have hny : ¬ y = x := fun h => hne h.symm
    have hlw := (HX.out _ hz).1
    refine wpAnyH_ready (rs := [12]) (by kernel_rfl) (by simp) ?_
    refine AllReadyH.cons rfl (fun K hK => ?_) AllReadyH.nil
    go_simp
    have hz6 := (hz.setCell (p := ⟨x, 0, none⟩) hl10 (.bool s5)).setCell (p := ⟨x, 1, none⟩) hl10 (.slice A5 n5 k5)
    have HY := Lib.hid ((HX10.out.set0 (.bool s5)).set1 (.slice A5 n5 k5))
    refine hK.out _ _ (HS.out _ hz6) (fun _ => ?_)
    clear hK K
    try simp only [Act.put, List.getElem_toArray, List.getElem_cons_zero, List.getElem_cons_succ, List.setIfInBounds_toArray, List.set_cons_zero, List.set_cons_succ]
    have hni1 := hn10
    have hni2 := hn11
    have hz7 := (hz6.setCell (p := ⟨y, 0, none⟩) hl11 (.bool s6)).setCell (p := ⟨y, 1, none⟩) hl11 (.slice A6 n6 k6)
    have hw7 := (((hvc.store2 hni1 (.bool s5) (.slice A5 n5 k5) (i := 0) (j := 1))).store2 ((hni2.setCell ⟨x, 0, none⟩ (.bool s5)).setCell ⟨x, 1, none⟩ (.slice A5 n5 k5)) (.bool s6) (.slice A6 n6 k6) (i := 0) (j := 1))
    have HY7 := Lib.hid ((HY.out.far (p := ⟨y, 0, none⟩) hnx (.bool s6)).far (p := ⟨y, 1, none⟩) hnx (.slice A6 n6 k6))
    have HZ7 := Lib.hid (And.intro hz7 hw7)
    clear hz7 hw7 hz6 hvc hni1 hni2 hn10 hn11
    refine wpAnyH_ready (rs := [13]) (by kernel_rfl) (by simp) ?_
    refine AllReadyH.cons rfl (fun K hK => ?_) AllReadyH.nil
    go_simp
    refine hK.out _ _ (HS.out _ HZ7.out.1) (fun _ => ?_)
    clear hK K
    try simp only [Act.put, List.getElem_toArray, List.getElem_cons_zero, List.getElem_cons_succ, List.setIfInBounds_toArray, List.set_cons_zero, List.set_cons_succ]
    refine wpAnyH_done (by kernel_rfl) ?_ _
    obtain ⟨w7, hw7⟩ : ∃ w7, ((((w'.setCell ⟨x, 0, none⟩ (.bool s5)).setCell ⟨x, 1, none⟩ (.slice A5 n5 k5)).setCell ⟨y, 0, none⟩ (.bool s6)).setCell ⟨y, 1, none⟩ (.slice A6 n6 k6)) = w7 := ⟨_, rfl⟩
    rw [hw7] at HY7 HZ7 ⊢
    clear hw7 HX10 HY e110 e111 e112 e113 e114 e100 e101 e102 e103 e104 hS
    obtain ⟨_, y70, y71, _, _⟩ := HY7.out
    have HC := Lib.hid (t3from_any _ fl w7 (HA.out _ HZ7.out.1) HZ7.out.2 HNF.out)
    go_wp2_with fail
    refine HC.out.mono ?_
    rintro e w8 ⟨rfl, hb8⟩
    go_wp2_with fail
    go_ret
    exact ⟨rfl, bel_chain HB.out (bel_chain HZ7.out.1 hb8)⟩

set_option maxRecDepth 100000 in
set_option maxHeartbeats 4000000 in
/-- schismaref03.Nearest. -/
theorem t3rnearest_any (p : Rat) (w : World) (hamb : Amb w) (hp : NQ p 19998) :
    Calls Tryz.prog 22 #[rv p] w (SmallRes (.string (itx (nearZ p))) w) := by
  have hp2 : NQ p 20000 := hp.mono (by omega)
  have HH := Lib.hid ((hp.add (NQ_half3 1 (by omega))).mono (show 19998 + 1 + 1 ≤ 20000 by omega))
  have HP := Lib.hid hp2
  have HQ2 := Lib.hid (NQ_half3 20000 (by omega))
  clear hp hp2
  unfold nearZ
  have HAMB := Lib.hid hamb
  clear hamb
  go_enter Tryz.func22, Tryz.ntmps22
  go_wp2_with fail
  obtain ⟨W, hW⟩ : ∃ W, (w.alloc (.cells #[.string (itx p.num), .string (itx (p.den : Int))] 27)) = W := ⟨_, rfl⟩
  rw [hW]
  obtain ⟨hX, hBW⟩ := B1.of hW
  clear hW
  have HX := Lib.hid (fun wz (hb : Below W.heap.size W wz) => hX.later hb)
  have HB := Lib.hid hBW
  have HA := Lib.hid (fun wz (hb : Below W.heap.size W wz) => HAMB.out.below (bel_chain HB.out hb))
  have hz0 : Below W.heap.size W W := Below.refl _ _
  clear hBW
  obtain ⟨_, c000, c001, f000, f001⟩ := hX
  have hzd := hz0.drew
  have HC1 := Lib.hid (t3frac_any 1 2 W.drew (HA.out _ hzd) (by decide) (by decide) (by decide) (by decide) (by decide))
  go_region_held3 (fun w' => w'.cell? ⟨w.heap.size, 0, none⟩ = some (.string (itx p.num)) ∧ w'.cell? ⟨w.heap.size, 1, none⟩ = some (.string (itx (p.den : Int)))) (go_keep)
    (first
      | ((with_reducible refine HC3.out.mono ?_); rintro e w3 ⟨rfl, hb3⟩; have hz3 := bel_chain hz2 hb3; obtain ⟨_, c300, c301, f300, f301⟩ := HX.out _ hz3; have HXL := Lib.hid (HX.out _ hz3))
      | ((with_reducible refine HC2.out.mono ?_); rintro e w2 ⟨rfl, hb2⟩; have hz2 := bel_chain hz1 hb2; obtain ⟨_, c200, c201, f200, f201⟩ := HX.out _ hz2; have HC3 := Lib.hid (t3rfloor_any (p + Rat.divInt 1 2) w2 (HA.out _ hz2) HH.out))
      | ((with_reducible refine HC1.out.mono ?_); rintro e w1 ⟨rfl, hb1⟩; have hz1 := bel_chain hzd hb1; obtain ⟨_, c100, c101, f100, f101⟩ := HX.out _ hz1; have HC2 := Lib.hid (t3radd_any p (Rat.divInt 1 2) w1 (HA.out _ hz1) HP.out HQ2.out)))
  go_wp2_with fail
  go_ret
  exact ⟨rfl, bel_chain HB.out hz3⟩
end Go.Proofs.YtejelchcpbchgaaGreatDoor
