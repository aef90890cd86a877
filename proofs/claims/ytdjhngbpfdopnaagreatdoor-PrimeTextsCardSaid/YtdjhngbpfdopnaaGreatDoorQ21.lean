/- Greater text, out of: Q21. -/
import Derived.Test.YtdjhngbpfdopnaaGreatDoorQ20
namespace Go.Proofs.YtdjhngbpfdopnaaGreatDoor
open Go.RowKit Go.PlainAid

/-- The pieces between the points. -/
def pieces (s : ByteArray) : List ByteArray := Lib.splitB ⟨#[46]⟩ 0 (Lib.countB s ⟨#[46]⟩) s
theorem pieces_len (s : ByteArray) : (pieces s).length = Lib.countB s ⟨#[46]⟩ + 1 := Lib.splitB_all ⟨#[46]⟩ (by decide) 0 _ s rfl
theorem pieces_few {s : ByteArray} (h : s.size ≤ 40) : (pieces s).length ≤ 41 := by
  rw [pieces_len]
  have := Lib.countB_le ⟨#[46]⟩ (by decide) s.size s (Nat.le_refl _)
  omega
/-- The list that Parse returns. -/
def prsX (zs : List Int) : List Int := if chk zs = 0 then zs else []
theorem prsX_ok {zs : List Int} (h : chk zs = 0) : prsX zs = zs := if_pos h
theorem prsX_no {zs : List Int} (h : ¬ chk zs = 0) : prsX zs = [] := if_neg h
theorem Pcv.val {t : ByteArray} {u v : Int} (h : Pcv t u) (hv : Lib.atoiAll t.data.toList = .ok v) : u = v := by
  have := h.1.symm.trans hv
  injection this
theorem pcv_neg {t : ByteArray} {v : Int} (hv : Lib.atoiAll t.data.toList = .ok v) (h1 : ¬ 0 ≤ v) (u : Int) (h : Pcv t u) : False := h1 (h.val hv ▸ h.2.1)
theorem pcv_big {t : ByteArray} {v : Int} (hv : Lib.atoiAll t.data.toList = .ok v) (h2 : ¬ v ≤ 999) (u : Int) (h : Pcv t u) : False := h2 (h.val hv ▸ h.2.2.1)
theorem pcv_ne {t : ByteArray} {v : Int} (hv : Lib.atoiAll t.data.toList = .ok v) (h3 : itx v ≠ t) (u : Int) (h : Pcv t u) : False := h3 (h.val hv ▸ h.2.2.2)
theorem pcv_long {t : ByteArray} (h4 : 3 < t.size) (u : Int) (h : Pcv t u) : False := by
  have := (itx_three h.2.1).2 h.2.2.1
  rw [h.2.2.2] at this
  omega
theorem split_small : ∀ (k : Nat) (s : ByteArray), ∀ x ∈ Lib.splitB ⟨#[46]⟩ 0 k s, x.size ≤ s.size := by
  intro k
  induction k with
  | zero =>
    intro s x hx
    rw [Lib.splitB_zero, List.mem_singleton] at hx
    rw [hx]; exact Nat.le_refl _
  | succ k ih =>
    intro s x hx
    unfold Lib.splitB at hx
    split at hx
    · rw [List.mem_singleton] at hx
      rw [hx]; exact Nat.le_refl _
    · rw [List.mem_cons] at hx
      rcases hx with rfl | hx
      · rw [extract_size']; omega
      · have := ih _ x hx
        rw [extract_size'] at this
        omega
theorem pieces_small {s : ByteArray} (h : s.size ≤ 40) {i : Nat} (hi : i < (pieces s).length) : ((pieces s).getD i ⟨#[]⟩).size ≤ 40 := by
  rw [List.getD_eq_getElem?_getD, List.getElem?_eq_getElem hi]
  exact Nat.le_trans (split_small _ s _ (List.getElem_mem hi)) h
set_option maxRecDepth 100000 in
set_option maxHeartbeats 4000000 in
theorem lparse_no (s : ByteArray) (hz : ∀ zs, ¬ Pcs (pieces s) (pieces s).length zs) (w : World) (hamb : Amb11 w) (hs : s.size ≤ 40) :
    Calls Tryz.prog 43 #[.string s] w (SmallRes (.tuple #[.slice none 0 0, .bool false]) w) := by
  obtain ⟨mm, hm⟩ := hamb.m
  have HSP := Lib.hid (Tryz.strings_Split s ⟨#[46]⟩ mm w (by omega) hm (by decide))
  have HLN := Lib.hid (pieces_len s)
  have HLF := Lib.hid (pieces_few hs)
  have HSM := Lib.hid (fun i (hi : i < (pieces s).length) => pieces_small hs hi)
  have HAMB := Lib.hid (fun wz (hb : Below w.heap.size w wz) => (hamb.below hb).a)
  have h40 : ¬ 40 < (s.size : Int) := by omega
  have HZ := Lib.hid hz
  rw [← HLN.out, show Lib.splitB ⟨#[46]⟩ 0 (Lib.countB s ⟨#[46]⟩) s = pieces s from rfl] at HSP
  obtain ⟨L, hL⟩ : ∃ L, pieces s = L := ⟨_, rfl⟩
  rw [hL] at HSP HLF HSM HZ
  obtain ⟨N, hN⟩ : ∃ N, L.length = N := ⟨_, rfl⟩
  rw [hN] at HSP HLF HSM HZ
  have HNL := Lib.hid hN
  clear hamb hm hs hz hL hN HLN
  go_enter Tryz.func43, Tryz.ntmps43
  go_wp2_with fail
  refine HSP.out.mono ?_
  rintro e w1 ⟨rfl, hw1⟩
  have hT : Tc w1 w.heap.size N N L := by
    rw [hw1]
    refine Tc.mk' (heap_alloc_new w _) (Nat.le_refl _) (by unfold maxLen; have := HLF.out; omega) (by simp [HNL.out]) ?_
    rw [List.take_of_length_le (by simp [HNL.out])]
    rfl
  have hB1 : Below w.heap.size w w1 := by rw [hw1]; exact (Below.refl _ _).alloc (Nat.le_refl _) _
  have hsz : w1.heap.size = w.heap.size + 1 := by rw [hw1]; exact World.size_alloc _ _
  have hN41 : N ≤ 41 := HLF.out
  clear hw1 HSP
  have HT := Lib.hid hT
  have HB1 := Lib.hid hB1
  clear hT hB1
  go_wp2_with fail
  go_loopw [4, 15] (fun vo vi wr => ∃ (i : Nat) (xs : List Int), i ≤ N ∧ vi = .int .i64 (i : Int) ∧ OwnZ (w.heap.size + 1) wr vo xs ∧ Hid (Pcs L i xs) ∧ Below (w.heap.size + 1) w1 wr) (fun _ vi _ => N - (intOf vi).toNat)
  case atStart => exact ⟨0, [], by omega, rfl, OwnZ.nil _ _, Lib.hid (Pcs.zero L), Below.refl _ _⟩
  case round =>
    obtain ⟨i, xs, hi, rfl, hown, HP, hB⟩ := hrel
    have HO := Lib.hid hown
    have HB := Lib.hid hB
    by_cases hin : i = N
    · have hlt : ¬ (i : Int) < (N : Int) := by omega
      have HE := Lib.hid (hin ▸ HP.out)
      exact absurd HE.out (HZ.out xs)
    · have hlt : (i : Int) < (N : Int) := by omega
      have hcell := (HT.out.below HB.out (by omega)).cell i (by omega)
      have hsm := HSM.out i (by omega)
      have HSN := Lib.hid (fun v (hv : Pcv (L.getD i ⟨#[]⟩) v) => HP.out.snoc hv)
      have HMISS := Lib.hid (fun (hn : ∀ v, ¬ Pcv (L.getD i ⟨#[]⟩) v) zs' (h : Pcs L N zs') => h.miss (by omega : i < N) hn)
      have HXL := Lib.hid HP.out.1
      obtain ⟨t, ht⟩ : ∃ t, L.getD i ⟨#[]⟩ = t := ⟨_, rfl⟩
      rw [ht] at hcell hsm HSN HMISS
      have hA := HAMB.out _ (HB1.out.trans (HB.out.mono (by omega)))
      have hat := atoi_any t wr hA (by omega)
      have HA := Lib.hid hA
      clear hown hB ht hA
      rcases hat with ⟨v, hv, hvb, HAT⟩ | ⟨hv, HAT⟩
      · have HAT := Lib.hid HAT
        have HIT := Lib.hid (fun wz (hb : Below wr.heap.size wr wz) => itoa_any v wz (HA.out.below hb) hvb.1 hvb.2)
        have hsi : (t.size : Int) ≤ 40 := by omega
        by_cases h4 : 3 < t.size
        · have HNO := Lib.hid (HMISS.out fun u h => pcv_long h4 u h)
          clear hv
          have h4' : 3 < (t.size : Int) := by omega
          go_wp2_with fail
          refine HAT.out.mono ?_
          rintro e w5 ⟨rfl, hb5⟩
          have HB5 := Lib.hid (HB1.out.trans ((HB.out.mono (by omega)).trans (hb5.mono (by have := HB.out.size; omega))))
          clear hb5
          go_wp2_with fail
          go_ret2
          exact ⟨rfl, HB5.out⟩
        have h4' : ¬ 3 < (t.size : Int) := by omega
        by_cases h3 : ¬ itx v = t
        · have HNO := Lib.hid (HMISS.out fun u h => pcv_ne hv h3 u h)
          clear hv
          have hne := itx_ne_test h3
          go_wp2_with fail
          refine HAT.out.mono ?_
          rintro e w5 ⟨rfl, hb5⟩
          go_wp2_with fail
          refine (HIT.out _ hb5).mono ?_
          rintro e w6 ⟨rfl, hb6⟩
          have hb5 := bel_chain hb5 hb6
          have HB5 := Lib.hid (HB1.out.trans ((HB.out.mono (by omega)).trans (hb5.mono (by have := HB.out.size; omega))))
          clear hb5
          go_wp2_with fail
          go_ret2
          exact ⟨rfl, HB5.out⟩
        have h3 := Decidable.not_not.1 h3
        by_cases h1 : ¬ 0 ≤ v
        · have HNO := Lib.hid (HMISS.out fun u h => pcv_neg hv h1 u h)
          clear hv
          subst h3
          go_wp2_with fail
          refine HAT.out.mono ?_
          rintro e w5 ⟨rfl, hb5⟩
          go_wp2_with fail
          refine (HIT.out _ hb5).mono ?_
          rintro e w6 ⟨rfl, hb6⟩
          have hb5 := bel_chain hb5 hb6
          have HB5 := Lib.hid (HB1.out.trans ((HB.out.mono (by omega)).trans (hb5.mono (by have := HB.out.size; omega))))
          clear hb5
          go_wp2_with fail
          go_ret2
          exact ⟨rfl, HB5.out⟩
        have h1 := Decidable.not_not.1 h1
        have h2 : v ≤ 999 := (itx_three h1).1 (by rw [h3]; omega)
        · have HPC := Lib.hid (HSN.out v ⟨hv, h1, h2, h3⟩)
          subst h3
          have hlen : xs.length ≤ 1000000000 := by have := HXL.out; omega
          obtain ⟨T, hT⟩ : ∃ T, itx v = T := ⟨_, rfl⟩
          have h33 := (itx_three h1).2 h2
          rw [hT] at hcell HAT HIT h33
          clear hv hT hsm hsi
          go_wp2_with fail
          refine HAT.out.mono ?_
          rintro e w5 ⟨rfl, hb5⟩
          go_wp2_with fail
          refine (HIT.out _ hb5).mono ?_
          rintro e w6 ⟨rfl, hb6⟩
          have hb56 := bel_chain hb5 hb6
          have hown6 := HO.out.below hb56
          have hB6 := HB.out.trans (hb56.mono (by have := HB.out.size; omega))
          have HB6 := Lib.hid hB6
          have hsz6 : w.heap.size + 1 ≤ w6.heap.size := by have := hB6.size; omega
          clear hb5 hb6 hb56 hcell hB6
          go_wp2_with (at_builtin; refine append_OwnZ rfl _ _ 35 rfl Tryz.underlying35 (w.heap.size + 1) _ xs w6 rfl hown6 hsz6 hlen v rfl rfl ?_; intro v7 w7 hown7 hb7; have HO7 := Lib.hid hown7; have HB7 := Lib.hid hb7; clear hown7 hb7)
          go_roundw
          case rel => exact ⟨i + 1, xs ++ [v], by omega, by go_num, HO7.out, HPC, HB6.out.trans HB7.out⟩
          case measure => simp [intOf]; omega
      · have HAT := Lib.hid HAT
        have HNO := Lib.hid (HMISS.out fun v h => hv v h.1)
        clear hv
        go_wp2_with fail
        refine HAT.out.mono ?_
        rintro e w5 ⟨n5, t5, p5, rfl, hb5⟩
        have HB5 := Lib.hid (HB1.out.trans ((HB.out.mono (by omega)).trans (hb5.mono (by have := HB.out.size; omega))))
        clear hb5
        go_wp2_with fail
        go_ret2
        exact ⟨rfl, HB5.out⟩
set_option maxRecDepth 100000 in
set_option maxHeartbeats 4000000 in
theorem lparse_yes (s : ByteArray) (zs : List Int) (hz : Pcs (pieces s) (pieces s).length zs) (w : World) (hamb : Amb11 w) (hs : s.size ≤ 40) :
    Calls Tryz.prog 43 #[.string s] w (fun e w' => ∃ A n cap, e = .returned (.tuple #[.slice A n cap, .bool true]) ∧ InZ w' A n cap zs ∧ Below w.heap.size w w') := by
  obtain ⟨mm, hm⟩ := hamb.m
  have HSP := Lib.hid (Tryz.strings_Split s ⟨#[46]⟩ mm w (by omega) hm (by decide))
  have HLN := Lib.hid (pieces_len s)
  have HLF := Lib.hid (pieces_few hs)
  have HSM := Lib.hid (fun i (hi : i < (pieces s).length) => pieces_small hs hi)
  have HAMB := Lib.hid (fun wz (hb : Below w.heap.size w wz) => (hamb.below hb).a)
  have h40 : ¬ 40 < (s.size : Int) := by omega
  have HZ := Lib.hid hz
  rw [← HLN.out, show Lib.splitB ⟨#[46]⟩ 0 (Lib.countB s ⟨#[46]⟩) s = pieces s from rfl] at HSP
  obtain ⟨L, hL⟩ : ∃ L, pieces s = L := ⟨_, rfl⟩
  rw [hL] at HSP HLF HSM HZ
  obtain ⟨N, hN⟩ : ∃ N, L.length = N := ⟨_, rfl⟩
  rw [hN] at HSP HLF HSM HZ
  have HNL := Lib.hid hN
  clear hamb hm hs hz hL hN HLN
  go_enter Tryz.func43, Tryz.ntmps43
  go_wp2_with fail
  refine HSP.out.mono ?_
  rintro e w1 ⟨rfl, hw1⟩
  have hT : Tc w1 w.heap.size N N L := by
    rw [hw1]
    refine Tc.mk' (heap_alloc_new w _) (Nat.le_refl _) (by unfold maxLen; have := HLF.out; omega) (by simp [HNL.out]) ?_
    rw [List.take_of_length_le (by simp [HNL.out])]
    rfl
  have hB1 : Below w.heap.size w w1 := by rw [hw1]; exact (Below.refl _ _).alloc (Nat.le_refl _) _
  have hsz : w1.heap.size = w.heap.size + 1 := by rw [hw1]; exact World.size_alloc _ _
  have hN41 : N ≤ 41 := HLF.out
  clear hw1 HSP
  have HT := Lib.hid hT
  have HB1 := Lib.hid hB1
  clear hT hB1
  go_wp2_with fail
  go_loopw [4, 15] (fun vo vi wr => ∃ (i : Nat) (xs : List Int), i ≤ N ∧ vi = .int .i64 (i : Int) ∧ OwnZ (w.heap.size + 1) wr vo xs ∧ Hid (Pcs L i xs) ∧ Below (w.heap.size + 1) w1 wr) (fun _ vi _ => N - (intOf vi).toNat)
  case atStart => exact ⟨0, [], by omega, rfl, OwnZ.nil _ _, Lib.hid (Pcs.zero L), Below.refl _ _⟩
  case round =>
    obtain ⟨i, xs, hi, rfl, hown, HP, hB⟩ := hrel
    have HO := Lib.hid hown
    have HB := Lib.hid hB
    by_cases hin : i = N
    · have hlt : ¬ (i : Int) < (N : Int) := by omega
      have HE := Lib.hid (hin ▸ HP.out)
      have HXZ := Lib.hid (HE.out.same HZ.out)
      obtain ⟨A, c, rfl, hin2⟩ := hown.ins
      have HIN := Lib.hid hin2
      clear hown hB hin2
      subst hin
      go_wp2_with fail
      go_ret2
      exact ⟨_, _, _, rfl, by rw [← HXZ.out]; exact HIN.out, HB1.out.trans (HB.out.mono (by omega))⟩
    · have hlt : (i : Int) < (N : Int) := by omega
      have hcell := (HT.out.below HB.out (by omega)).cell i (by omega)
      have hsm := HSM.out i (by omega)
      have HSN := Lib.hid (fun v (hv : Pcv (L.getD i ⟨#[]⟩) v) => HP.out.snoc hv)
      have HMISS := Lib.hid (fun (hn : ∀ v, ¬ Pcv (L.getD i ⟨#[]⟩) v) zs' (h : Pcs L N zs') => h.miss (by omega : i < N) hn)
      have HXL := Lib.hid HP.out.1
      obtain ⟨t, ht⟩ : ∃ t, L.getD i ⟨#[]⟩ = t := ⟨_, rfl⟩
      rw [ht] at hcell hsm HSN HMISS
      have hA := HAMB.out _ (HB1.out.trans (HB.out.mono (by omega)))
      have hat := atoi_any t wr hA (by omega)
      have HA := Lib.hid hA
      clear hown hB ht hA
      rcases hat with ⟨v, hv, hvb, HAT⟩ | ⟨hv, HAT⟩
      · have HAT := Lib.hid HAT
        have HIT := Lib.hid (fun wz (hb : Below wr.heap.size wr wz) => itoa_any v wz (HA.out.below hb) hvb.1 hvb.2)
        have hsi : (t.size : Int) ≤ 40 := by omega
        by_cases h4 : 3 < t.size
        · have HNO := Lib.hid (HMISS.out fun u h => pcv_long h4 u h)
          exact absurd HZ.out (HNO.out zs)
        have h4' : ¬ 3 < (t.size : Int) := by omega
        by_cases h3 : ¬ itx v = t
        · have HNO := Lib.hid (HMISS.out fun u h => pcv_ne hv h3 u h)
          exact absurd HZ.out (HNO.out zs)
        have h3 := Decidable.not_not.1 h3
        by_cases h1 : ¬ 0 ≤ v
        · have HNO := Lib.hid (HMISS.out fun u h => pcv_neg hv h1 u h)
          exact absurd HZ.out (HNO.out zs)
        have h1 := Decidable.not_not.1 h1
        have h2 : v ≤ 999 := (itx_three h1).1 (by rw [h3]; omega)
        · have HPC := Lib.hid (HSN.out v ⟨hv, h1, h2, h3⟩)
          subst h3
          have hlen : xs.length ≤ 1000000000 := by have := HXL.out; omega
          obtain ⟨T, hT⟩ : ∃ T, itx v = T := ⟨_, rfl⟩
          have h33 := (itx_three h1).2 h2
          rw [hT] at hcell HAT HIT h33
          clear hv hT hsm hsi
          go_wp2_with fail
          refine HAT.out.mono ?_
          rintro e w5 ⟨rfl, hb5⟩
          go_wp2_with fail
          refine (HIT.out _ hb5).mono ?_
          rintro e w6 ⟨rfl, hb6⟩
          have hb56 := bel_chain hb5 hb6
          have hown6 := HO.out.below hb56
          have hB6 := HB.out.trans (hb56.mono (by have := HB.out.size; omega))
          have HB6 := Lib.hid hB6
          have hsz6 : w.heap.size + 1 ≤ w6.heap.size := by have := hB6.size; omega
          clear hb5 hb6 hb56 hcell hB6
          go_wp2_with (at_builtin; refine append_OwnZ rfl _ _ 35 rfl Tryz.underlying35 (w.heap.size + 1) _ xs w6 rfl hown6 hsz6 hlen v rfl rfl ?_; intro v7 w7 hown7 hb7; have HO7 := Lib.hid hown7; have HB7 := Lib.hid hb7; clear hown7 hb7)
          go_roundw
          case rel => exact ⟨i + 1, xs ++ [v], by omega, by go_num, HO7.out, HPC, HB6.out.trans HB7.out⟩
          case measure => simp [intOf]; omega
      · have HAT := Lib.hid HAT
        have HNO := Lib.hid (HMISS.out fun v h => hv v h.1)
        clear hv
        exact absurd HZ.out (HNO.out zs)
set_option maxRecDepth 100000 in
set_option maxHeartbeats 4000000 in
theorem Parse_no (s : ByteArray) (hz : ∀ zs, ¬ Pcs (pieces s) (pieces s).length zs) (w : World) (hamb : Amb11 w) (hs : s.size ≤ 40) :
    Calls Tryz.prog 41 #[.string s] w (SmallRes (.tuple #[.slice none 0 0, .int .i64 15]) w) := by
  obtain ⟨mm, hm⟩ := hamb.m
  have HSP := Lib.hid (Tryz.strings_Split s ⟨#[46]⟩ mm w (by omega) hm (by decide))
  have HLN := Lib.hid (pieces_len s)
  have HLF := Lib.hid (pieces_few hs)
  have HSM := Lib.hid (fun i (hi : i < (pieces s).length) => pieces_small hs hi)
  have HAMB := Lib.hid (fun wz (hb : Below w.heap.size w wz) => (hamb.below hb).a)
  have h40 : ¬ 40 < (s.size : Int) := by omega
  have HZ := Lib.hid hz
  rw [← HLN.out, show Lib.splitB ⟨#[46]⟩ 0 (Lib.countB s ⟨#[46]⟩) s = pieces s from rfl] at HSP
  obtain ⟨L, hL⟩ : ∃ L, pieces s = L := ⟨_, rfl⟩
  rw [hL] at HSP HLF HSM HZ
  obtain ⟨N, hN⟩ : ∃ N, L.length = N := ⟨_, rfl⟩
  rw [hN] at HSP HLF HSM HZ
  have HNL := Lib.hid hN
  clear hamb hm hs hz hL hN HLN
  go_enter Tryz.func41, Tryz.ntmps41
  go_wp2_with fail
  refine HSP.out.mono ?_
  rintro e w1 ⟨rfl, hw1⟩
  have hT : Tc w1 w.heap.size N N L := by
    rw [hw1]
    refine Tc.mk' (heap_alloc_new w _) (Nat.le_refl _) (by unfold maxLen; have := HLF.out; omega) (by simp [HNL.out]) ?_
    rw [List.take_of_length_le (by simp [HNL.out])]
    rfl
  have hB1 : Below w.heap.size w w1 := by rw [hw1]; exact (Below.refl _ _).alloc (Nat.le_refl _) _
  have hsz : w1.heap.size = w.heap.size + 1 := by rw [hw1]; exact World.size_alloc _ _
  have hN41 : N ≤ 41 := HLF.out
  clear hw1 HSP
  have HT := Lib.hid hT
  have HB1 := Lib.hid hB1
  clear hT hB1
  go_wp2_with fail
  go_loopw [4, 16] (fun vo vi wr => ∃ (i : Nat) (xs : List Int), i ≤ N ∧ vi = .int .i64 (i : Int) ∧ OwnZ (w.heap.size + 1) wr vo xs ∧ Hid (Pcs L i xs) ∧ Below (w.heap.size + 1) w1 wr) (fun _ vi _ => N - (intOf vi).toNat)
  case atStart => exact ⟨0, [], by omega, rfl, OwnZ.nil _ _, Lib.hid (Pcs.zero L), Below.refl _ _⟩
  case round =>
    obtain ⟨i, xs, hi, rfl, hown, HP, hB⟩ := hrel
    have HO := Lib.hid hown
    have HB := Lib.hid hB
    by_cases hin : i = N
    · have hlt : ¬ (i : Int) < (N : Int) := by omega
      have HE := Lib.hid (hin ▸ HP.out)
      exact absurd HE.out (HZ.out xs)
    · have hlt : (i : Int) < (N : Int) := by omega
      have hcell := (HT.out.below HB.out (by omega)).cell i (by omega)
      have hsm := HSM.out i (by omega)
      have HSN := Lib.hid (fun v (hv : Pcv (L.getD i ⟨#[]⟩) v) => HP.out.snoc hv)
      have HMISS := Lib.hid (fun (hn : ∀ v, ¬ Pcv (L.getD i ⟨#[]⟩) v) zs' (h : Pcs L N zs') => h.miss (by omega : i < N) hn)
      have HXL := Lib.hid HP.out.1
      obtain ⟨t, ht⟩ : ∃ t, L.getD i ⟨#[]⟩ = t := ⟨_, rfl⟩
      rw [ht] at hcell hsm HSN HMISS
      have hA := HAMB.out _ (HB1.out.trans (HB.out.mono (by omega)))
      have hat := atoi_any t wr hA (by omega)
      have HA := Lib.hid hA
      clear hown hB ht hA
      rcases hat with ⟨v, hv, hvb, HAT⟩ | ⟨hv, HAT⟩
      · have HAT := Lib.hid HAT
        have HIT := Lib.hid (fun wz (hb : Below wr.heap.size wr wz) => itoa_any v wz (HA.out.below hb) hvb.1 hvb.2)
        have hsi : (t.size : Int) ≤ 40 := by omega
        by_cases h1 : ¬ 0 ≤ v
        · have HNO := Lib.hid (HMISS.out fun u h => pcv_neg hv h1 u h)
          clear hv
          have h1' : v < 0 := by omega
          go_wp2_with fail
          refine HAT.out.mono ?_
          rintro e w5 ⟨rfl, hb5⟩
          have HB5 := Lib.hid (HB1.out.trans ((HB.out.mono (by omega)).trans (hb5.mono (by have := HB.out.size; omega))))
          clear hb5
          go_wp2_with fail
          go_ret2
          exact ⟨rfl, HB5.out⟩
        have h1 := Decidable.not_not.1 h1
        by_cases h2 : ¬ v ≤ 999
        · have HNO := Lib.hid (HMISS.out fun u h => pcv_big hv h2 u h)
          clear hv
          have h2' : 999 < v := by omega
          go_wp2_with fail
          refine HAT.out.mono ?_
          rintro e w5 ⟨rfl, hb5⟩
          have HB5 := Lib.hid (HB1.out.trans ((HB.out.mono (by omega)).trans (hb5.mono (by have := HB.out.size; omega))))
          clear hb5
          go_wp2_with fail
          go_ret2
          exact ⟨rfl, HB5.out⟩
        have h2 := Decidable.not_not.1 h2
        by_cases h3 : ¬ itx v = t
        · have HNO := Lib.hid (HMISS.out fun u h => pcv_ne hv h3 u h)
          clear hv
          have hne := itx_ne_test h3
          have h1' : ¬ v < 0 := by omega
          have h2' : ¬ 999 < v := by omega
          go_wp2_with fail
          refine HAT.out.mono ?_
          rintro e w5 ⟨rfl, hb5⟩
          go_wp2_with fail
          refine (HIT.out _ hb5).mono ?_
          rintro e w6 ⟨rfl, hb6⟩
          have hb5 := bel_chain hb5 hb6
          have HB5 := Lib.hid (HB1.out.trans ((HB.out.mono (by omega)).trans (hb5.mono (by have := HB.out.size; omega))))
          clear hb5
          go_wp2_with fail
          go_ret2
          exact ⟨rfl, HB5.out⟩
        have h3 := Decidable.not_not.1 h3
        · have h1' : ¬ v < 0 := by omega
          have h2' : ¬ 999 < v := by omega
          have HPC := Lib.hid (HSN.out v ⟨hv, h1, h2, h3⟩)
          subst h3
          have hlen : xs.length ≤ 1000000000 := by have := HXL.out; omega
          obtain ⟨T, hT⟩ : ∃ T, itx v = T := ⟨_, rfl⟩
          have h33 := (itx_three h1).2 h2
          rw [hT] at hcell HAT HIT h33
          clear hv hT hsm hsi
          go_wp2_with fail
          refine HAT.out.mono ?_
          rintro e w5 ⟨rfl, hb5⟩
          go_wp2_with fail
          refine (HIT.out _ hb5).mono ?_
          rintro e w6 ⟨rfl, hb6⟩
          have hb56 := bel_chain hb5 hb6
          have hown6 := HO.out.below hb56
          have hB6 := HB.out.trans (hb56.mono (by have := HB.out.size; omega))
          have HB6 := Lib.hid hB6
          have hsz6 : w.heap.size + 1 ≤ w6.heap.size := by have := hB6.size; omega
          clear hb5 hb6 hb56 hcell hB6
          go_wp2_with (at_builtin; refine append_OwnZ rfl _ _ 35 rfl Tryz.underlying35 (w.heap.size + 1) _ xs w6 rfl hown6 hsz6 hlen v rfl rfl ?_; intro v7 w7 hown7 hb7; have HO7 := Lib.hid hown7; have HB7 := Lib.hid hb7; clear hown7 hb7)
          go_roundw
          case rel => exact ⟨i + 1, xs ++ [v], by omega, by go_num, HO7.out, HPC, HB6.out.trans HB7.out⟩
          case measure => simp [intOf]; omega
      · have HAT := Lib.hid HAT
        have HNO := Lib.hid (HMISS.out fun v h => hv v h.1)
        clear hv
        go_wp2_with fail
        refine HAT.out.mono ?_
        rintro e w5 ⟨n5, t5, p5, rfl, hb5⟩
        have HB5 := Lib.hid (HB1.out.trans ((HB.out.mono (by omega)).trans (hb5.mono (by have := HB.out.size; omega))))
        clear hb5
        go_wp2_with fail
        go_ret2
        exact ⟨rfl, HB5.out⟩
set_option maxRecDepth 100000 in
set_option maxHeartbeats 4000000 in
theorem Parse_yes (s : ByteArray) (zs : List Int) (hz : Pcs (pieces s) (pieces s).length zs) (w : World) (hamb : Amb11 w) (hs : s.size ≤ 40) :
    Calls Tryz.prog 41 #[.string s] w (ZRes (prsX zs) (chk zs) w) := by
  obtain ⟨mm, hm⟩ := hamb.m
  have HSP := Lib.hid (Tryz.strings_Split s ⟨#[46]⟩ mm w (by omega) hm (by decide))
  have HLN := Lib.hid (pieces_len s)
  have HLF := Lib.hid (pieces_few hs)
  have HSM := Lib.hid (fun i (hi : i < (pieces s).length) => pieces_small hs hi)
  have HAMB := Lib.hid (fun wz (hb : Below w.heap.size w wz) => (hamb.below hb).a)
  have h40 : ¬ 40 < (s.size : Int) := by omega
  have HZ := Lib.hid hz
  rw [← HLN.out, show Lib.splitB ⟨#[46]⟩ 0 (Lib.countB s ⟨#[46]⟩) s = pieces s from rfl] at HSP
  obtain ⟨L, hL⟩ : ∃ L, pieces s = L := ⟨_, rfl⟩
  rw [hL] at HSP HLF HSM HZ
  obtain ⟨N, hN⟩ : ∃ N, L.length = N := ⟨_, rfl⟩
  rw [hN] at HSP HLF HSM HZ
  have HNL := Lib.hid hN
  clear hamb hm hs hz hL hN HLN
  go_enter Tryz.func41, Tryz.ntmps41
  go_wp2_with fail
  refine HSP.out.mono ?_
  rintro e w1 ⟨rfl, hw1⟩
  have hT : Tc w1 w.heap.size N N L := by
    rw [hw1]
    refine Tc.mk' (heap_alloc_new w _) (Nat.le_refl _) (by unfold maxLen; have := HLF.out; omega) (by simp [HNL.out]) ?_
    rw [List.take_of_length_le (by simp [HNL.out])]
    rfl
  have hB1 : Below w.heap.size w w1 := by rw [hw1]; exact (Below.refl _ _).alloc (Nat.le_refl _) _
  have hsz : w1.heap.size = w.heap.size + 1 := by rw [hw1]; exact World.size_alloc _ _
  have hN41 : N ≤ 41 := HLF.out
  clear hw1 HSP
  have HT := Lib.hid hT
  have HB1 := Lib.hid hB1
  clear hT hB1
  go_wp2_with fail
  go_loopw [4, 16] (fun vo vi wr => ∃ (i : Nat) (xs : List Int), i ≤ N ∧ vi = .int .i64 (i : Int) ∧ OwnZ (w.heap.size + 1) wr vo xs ∧ Hid (Pcs L i xs) ∧ Below (w.heap.size + 1) w1 wr) (fun _ vi _ => N - (intOf vi).toNat)
  case atStart => exact ⟨0, [], by omega, rfl, OwnZ.nil _ _, Lib.hid (Pcs.zero L), Below.refl _ _⟩
  case round =>
    obtain ⟨i, xs, hi, rfl, hown, HP, hB⟩ := hrel
    have HO := Lib.hid hown
    have HB := Lib.hid hB
    by_cases hin : i = N
    · have hlt : ¬ (i : Int) < (N : Int) := by omega
      have HE := Lib.hid (hin ▸ HP.out)
      have HXZ := Lib.hid (HE.out.same HZ.out)
      obtain ⟨A, c, rfl, hin2⟩ := hown.ins
      have HIN := Lib.hid hin2
      have HCK := Lib.hid (pcheck_any A xs.length c xs wr hin2)
      rw [HXZ.out] at HCK HIN
      obtain ⟨cc, hcc⟩ : ∃ cc, chk zs = cc := ⟨_, rfl⟩
      have HCC := Lib.hid hcc
      rw [hcc] at HCK
      have hxl : xs.length = zs.length := by rw [HXZ.out]
      rw [hxl]
      clear hown hB hin2 hcc hxl
      subst hin
      go_wp2_with fail
      refine HCK.out.mono ?_
      rintro e w5 ⟨rfl, hb5⟩
      have HB5 := Lib.hid (HB1.out.trans ((HB.out.mono (by omega)).trans (hb5.mono (by have := HB.out.size; omega))))
      have HIN5 := Lib.hid (HIN.out.below hb5)
      clear hb5
      by_cases hc0 : cc = 0
      · have HC0 := Lib.hid hc0
        subst hc0
        go_wp2_with fail
        go_ret2
        exact ⟨_, _, _, by rw [HCC.out]; rfl, by rw [prsX_ok HCC.out]; exact HIN5.out, HB5.out⟩
      · go_wp2_with fail
        go_ret2
        exact ⟨_, _, _, by rw [HCC.out]; rfl, by rw [prsX_no (by rw [HCC.out]; exact hc0)]; exact InZ.nil _, HB5.out⟩
    · have hlt : (i : Int) < (N : Int) := by omega
      have hcell := (HT.out.below HB.out (by omega)).cell i (by omega)
      have hsm := HSM.out i (by omega)
      have HSN := Lib.hid (fun v (hv : Pcv (L.getD i ⟨#[]⟩) v) => HP.out.snoc hv)
      have HMISS := Lib.hid (fun (hn : ∀ v, ¬ Pcv (L.getD i ⟨#[]⟩) v) zs' (h : Pcs L N zs') => h.miss (by omega : i < N) hn)
      have HXL := Lib.hid HP.out.1
      obtain ⟨t, ht⟩ : ∃ t, L.getD i ⟨#[]⟩ = t := ⟨_, rfl⟩
      rw [ht] at hcell hsm HSN HMISS
      have hA := HAMB.out _ (HB1.out.trans (HB.out.mono (by omega)))
      have hat := atoi_any t wr hA (by omega)
      have HA := Lib.hid hA
      clear hown hB ht hA
      rcases hat with ⟨v, hv, hvb, HAT⟩ | ⟨hv, HAT⟩
      · have HAT := Lib.hid HAT
        have HIT := Lib.hid (fun wz (hb : Below wr.heap.size wr wz) => itoa_any v wz (HA.out.below hb) hvb.1 hvb.2)
        have hsi : (t.size : Int) ≤ 40 := by omega
        by_cases h1 : ¬ 0 ≤ v
        · have HNO := Lib.hid (HMISS.out fun u h => pcv_neg hv h1 u h)
          exact absurd HZ.out (HNO.out zs)
        have h1 := Decidable.not_not.1 h1
        by_cases h2 : ¬ v ≤ 999
        · have HNO := Lib.hid (HMISS.out fun u h => pcv_big hv h2 u h)
          exact absurd HZ.out (HNO.out zs)
        have h2 := Decidable.not_not.1 h2
        by_cases h3 : ¬ itx v = t
        · have HNO := Lib.hid (HMISS.out fun u h => pcv_ne hv h3 u h)
          exact absurd HZ.out (HNO.out zs)
        have h3 := Decidable.not_not.1 h3
        · have h1' : ¬ v < 0 := by omega
          have h2' : ¬ 999 < v := by omega
          have HPC := Lib.hid (HSN.out v ⟨hv, h1, h2, h3⟩)
          subst h3
          have hlen : xs.length ≤ 1000000000 := by have := HXL.out; omega
          obtain ⟨T, hT⟩ : ∃ T, itx v = T := ⟨_, rfl⟩
          have h33 := (itx_three h1).2 h2
          rw [hT] at hcell HAT HIT h33
          clear hv hT hsm hsi
          go_wp2_with fail
          refine HAT.out.mono ?_
          rintro e w5 ⟨rfl, hb5⟩
          go_wp2_with fail
          refine (HIT.out _ hb5).mono ?_
          rintro e w6 ⟨rfl, hb6⟩
          have hb56 := bel_chain hb5 hb6
          have hown6 := HO.out.below hb56
          have hB6 := HB.out.trans (hb56.mono (by have := HB.out.size; omega))
          have HB6 := Lib.hid hB6
          have hsz6 : w.heap.size + 1 ≤ w6.heap.size := by have := hB6.size; omega
          clear hb5 hb6 hb56 hcell hB6
          go_wp2_with (at_builtin; refine append_OwnZ rfl _ _ 35 rfl Tryz.underlying35 (w.heap.size + 1) _ xs w6 rfl hown6 hsz6 hlen v rfl rfl ?_; intro v7 w7 hown7 hb7; have HO7 := Lib.hid hown7; have HB7 := Lib.hid hb7; clear hown7 hb7)
          go_roundw
          case rel => exact ⟨i + 1, xs ++ [v], by omega, by go_num, HO7.out, HPC, HB6.out.trans HB7.out⟩
          case measure => simp [intOf]; omega
      · have HAT := Lib.hid HAT
        have HNO := Lib.hid (HMISS.out fun v h => hv v h.1)
        clear hv
        exact absurd HZ.out (HNO.out zs)
end Go.Proofs.YtdjhngbpfdopnaaGreatDoor
