/- The walk of the first chapter's Make: the number that digits describe, for any slice. -/
import Derived.Test.YtojgfpoinbblhaaDoorKnown1
namespace Go.Proofs.YtojgfpoinbblhaaDoor
open Go.RowKit

/-- A slice of bytes that came in: its elements are l. -/
def InB (w : World) (A : Option Addr) (n cap : Nat) (l : List UInt8) : Prop :=
  l.length = n ∧ n ≤ cap ∧ cap ≤ 9223372036854775807 ∧ (0 < n → ∃ b off, A = some ⟨b, off, none⟩ ∧ b < w.heap.size ∧ ∀ j, j < n → w.cell? ⟨b, off + j, none⟩ = some (.int .u8 ((l.getD j 0).toNat : Int)))
theorem InB.below {w w' : World} {A : Option Addr} {n cap : Nat} {l : List UInt8} (h : InB w A n cap l) (hb : Below w.heap.size w w') : InB w' A n cap l := by
  refine ⟨h.1, h.2.1, h.2.2.1, fun hn => ?_⟩
  obtain ⟨b, off, e, hlt, hc⟩ := h.2.2.2 hn
  have := hb.size
  exact ⟨b, off, e, by omega, fun j hj => (hb.cell (p := ⟨b, off + j, none⟩) hlt).trans (hc j hj)⟩

/-- The number that digits describe (modulo 10 each; at most 120 of them). -/
def mk (l : List UInt8) : Nat := (l.take 120).foldl (fun a c => 10 * a + c.toNat % 10) 0
def mkTo (l : List UInt8) (i : Nat) : Nat := (l.take i).foldl (fun a c => 10 * a + c.toNat % 10) 0
theorem mkTo_succ (l : List UInt8) (i : Nat) (h : i < l.length) : mkTo l (i + 1) = 10 * mkTo l i + (l.getD i 0).toNat % 10 := by
  unfold mkTo
  rw [List.take_succ_eq_append_getElem h, List.foldl_append, List.getD_eq_getElem?_getD, List.getElem?_eq_getElem h]; rfl
theorem mkTo_end (l : List UInt8) (i : Nat) (h : l.length ≤ i ∨ i = 120) (hi : i ≤ 120) : mkTo l i = mk l := by
  unfold mkTo mk
  rcases h with h | h
  · rw [List.take_of_length_le h, List.take_of_length_le (by omega)]
  · rw [h]
theorem mk_lt (l : List UInt8) : mk l < 10 ^ min 120 l.length := by
  have key : ∀ (m : List UInt8), m.foldl (fun a c => 10 * a + c.toNat % 10) 0 < 10 ^ m.length := by
    intro m
    suffices H : ∀ (m : List UInt8) (a k : Nat), a < 10 ^ k → m.foldl (fun a c => 10 * a + c.toNat % 10) a < 10 ^ (k + m.length) by
      have := H m 0 0 (by simp); simpa using this
    intro m
    induction m with
    | nil => intro a k h; simpa using h
    | cons c m ih =>
      intro a k h
      rw [List.foldl_cons, List.length_cons, show k + (m.length + 1) = (k + 1) + m.length by omega]
      exact ih _ _ (by rw [Nat.pow_succ]; omega)
  have := key (l.take 120)
  rwa [List.length_take] at this
theorem mk_nd (l : List UInt8) : Lib.nDigits (mk l) ≤ 120 := by
  have h1 := mk_lt l
  have h2 : 10 ^ min 120 l.length ≤ 10 ^ (119 + 1) := Nat.pow_le_pow_right (by decide) (by omega)
  exact (nd_le_iff _ 119).2 (by omega)
theorem mk_nd_le (l : List UInt8) (k : Nat) (h : l.length ≤ k + 1) : Lib.nDigits (mk l) ≤ k + 1 := by
  have h1 := mk_lt l
  have h2 : 10 ^ min 120 l.length ≤ 10 ^ (k + 1) := Nat.pow_le_pow_right (by decide) (by omega)
  exact (nd_le_iff _ k).2 (by omega)
/-- The digits so far. -/
def mkOut (v : Nat) : List UInt8 := if v = 0 then [] else Lib.decDigits v
theorem mkOut_zero : mkOut 0 = [] := rfl
theorem mkOut_pos {v : Nat} (h : v ≠ 0) : mkOut v = Lib.decDigits v := by rw [mkOut, if_neg h]
theorem mkOut_step (v d : Nat) (hd : d < 10) (h : 0 < d ∨ v ≠ 0) : mkOut (10 * v + d) = mkOut v ++ [UInt8.ofNat (48 + d)] := by
  rw [mkOut_pos (by omega)]
  by_cases hv : v = 0
  · subst hv; rw [mkOut_zero, Nat.mul_zero, Nat.zero_add, dd_small hd]; rfl
  · rw [mkOut_pos hv, dd_big (by omega), show (10 * v + d) / 10 = v by omega, show (10 * v + d) % 10 = d by omega]
theorem mkOut_len (v : Nat) : (mkOut v).length = 0 ↔ v = 0 := by
  by_cases h : v = 0
  · subst h; simp [mkOut_zero]
  · rw [mkOut_pos h]; have := dd_ne_nil v; simp [h, this]

/-- A slice of bytes that is nil or the call's own. -/
def OwnB (w0 w : World) (v : Value) (xs : List UInt8) : Prop := (v = .slice none 0 0 ∧ xs = []) ∨ ∃ g cap, v = .slice (some ⟨g, 0, none⟩) xs.length cap ∧ w0.heap.size ≤ g ∧ Bc w g xs.length cap xs
def MakeRel (l : List UInt8) (i : Nat) (vo : Value) (w wr : World) : Prop := Below w.heap.size w wr ∧ OwnB w wr vo (mkOut (mkTo l i)) ∧ (mkOut (mkTo l i)).length ≤ i

theorem make_nil (A : Option Addr) (cap : Nat) (w : World) : Calls Tryd.prog 16 #[.slice A 0 cap] w (StrPost (dec 0) w) := by
  go_enter Tryd.func16, Tryd.ntmps16
  go_wp2_with fail
  refine wp_loop_rounds 1 ?_
  rw [rounds_succ]
  go_wp2_with fail
  go_ret
  exact ⟨ret_str (by (rw [dec0]) <;> rfl), Below.refl _ _⟩
set_option maxRecDepth 100000 in
set_option maxHeartbeats 1000000 in
/-- schismalaw01.Make. -/
theorem make_any (A : Option Addr) (n cap : Nat) (l : List UInt8) (w : World) (h : InB w A n cap l) : Calls Tryd.prog 16 #[.slice A n cap] w (StrPost (dec (mk l)) w) := by
  obtain ⟨hl, hle, hcap, hcells⟩ := h
  by_cases hn0 : n = 0
  · subst hn0
    have hl0 := List.eq_nil_of_length_eq_zero hl
    subst hl0
    exact make_nil A cap w
  obtain ⟨b, off, rfl, hbl, hc⟩ := hcells (by omega)
  have HL := Lib.hid hl
  have HC := Lib.hid hc
  clear hl hc hcells
  go_enter Tryd.func16, Tryd.ntmps16
  go_wp2_with fail
  go_loopw [3, 4] (fun vo vi wr => ∃ i : Nat, i ≤ n ∧ i ≤ 120 ∧ vi = .int .i64 (i : Int) ∧ MakeRel l i vo w wr) (fun _ vi _ => n - (intOf vi).toNat)
  case atStart => exact ⟨0, by omega, by omega, rfl, Below.refl _ _, .inl ⟨rfl, rfl⟩, Nat.le_refl _⟩
  case round =>
    obtain ⟨i, hi, hi2, rfl, hB, hown, hol⟩ := hrel
    obtain ⟨wo, rfl⟩ : ∃ wo : World, wo = wr := ⟨_, rfl⟩
    have hBs := hB.size
    by_cases hgo : i < n ∧ i < 120
    · obtain ⟨hin, hi120⟩ := hgo
      have hcell := (hB.cell (p := ⟨b, off + i, none⟩) hbl).trans (HC.out i hin)
      have hst := mkTo_succ l i (by rw [HL.out]; exact hin)
      have HST := Lib.hid hst
      have hcb := (l.getD i 0).toNat_lt
      clear hst
      generalize (l.getD i 0).toNat = x at *
      generalize mkTo l i = v at *
      by_cases hap : 0 < x % 10 ∨ v ≠ 0
      · have hout := mkOut_step v (x % 10) (by omega) hap
        obtain ⟨y, hy⟩ : ∃ y, UInt8.ofNat (48 + x % 10) = y := ⟨_, rfl⟩
        have hyi : ((y.toNat : Nat) : Int) = 48 + (x : Int) % 10 := by rw [← hy, ofNat_toNat_dig _ (by omega)]; omega
        rw [hy, ← HST.out] at hout
        have HOUT := Lib.hid hout
        clear hout hy
        have hone := Bc.one wo y
        rw [hyi] at hone
        rcases hown with ⟨rfl, e0⟩ | ⟨g, cp, rfl, hg, hp⟩
        · have hv0 : v = 0 := (mkOut_len v).1 (by rw [e0]; rfl)
          have hx0 : 0 < x % 10 := by omega
          have hx1 : (0 : Int) < (x : Int) % 10 := by omega
          have E0 := Lib.hid e0
          clear e0 hap hv0
          go_wp2_with (at_builtin; refine append_nil_Bc rfl _ _ 23 rfl Tryd.underlying23 rfl wo.heap.size 1 1 [y] rfl hone (by omega) (by omega) ?_; intro cap4 w4 hq4 hb4)
          go_roundw
          case rel =>
            rw [World.size_alloc] at hq4
            have e1 : mkOut (mkTo l (i + 1)) = [y] := by rw [HOUT.out, E0.out]; rfl
            refine ⟨i + 1, by omega, by omega, by go_num, (hB.alloc hBs _).trans (hb4.mono (by rw [World.size_alloc]; omega)), ?_, by rw [e1]; simp⟩
            rw [e1]
            exact .inr ⟨_, cap4, rfl, by omega, hq4⟩
          case measure => simp [intOf]; omega
        · have hal := hp.alloc (.cells #[.int .u8 (48 + (x : Int) % 10)] 5)
          have hcl := hp.cap_le
          have hple := hp.le
          obtain ⟨m, hm⟩ : ∃ m, (mkOut v).length = m := ⟨_, rfl⟩
          rw [hm] at hal hol hple ⊢
          have HM := Lib.hid hm
          have hkey : ∀ (P : Prop), (0 < x % 10 → P) → (¬ 0 < x % 10 → 0 < m → P) → P := fun P h1 h2 => by
            by_cases h : 0 < x % 10
            · exact h1 h
            · refine h2 h ?_
              have : v ≠ 0 := hap.resolve_left h
              have h3 := mt (mkOut_len v).1 this
              omega
          clear hm hap
          refine hkey _ (fun hx => ?_) (fun hx hm0 => ?_)
          all_goals
            clear hkey
            have hxi : (0 : Int) < (x : Int) % 10 ∨ ¬ (0 : Int) < (x : Int) % 10 := by omega
            clear hxi
            go_wp2_with (at_builtin; refine append_Bc rfl _ _ 23 rfl Tryd.underlying23 g m cp (mkOut v) rfl hal wo.heap.size 1 1 [y] rfl hone (by omega) ?_; intro g4 cap4 w4 hq4 hon4 hat4)
            go_roundw
            case rel =>
              have hl4 : (mkOut (mkTo l (i + 1))).length = m + 1 := by rw [HOUT.out, List.length_append, List.length_singleton, HM.out]
              have hs4 : (wo.alloc (.cells #[.int .u8 (48 + (x : Int) % 10)] 5)).heap.size = wo.heap.size + 1 := by simp
              refine ⟨i + 1, by omega, by omega, by go_num, bel_only (hB.alloc hBs _) hon4 hg (by omega), .inr ⟨g4, cap4, by rw [hl4], by rcases hat4 with h | h <;> omega, ?_⟩, by omega⟩
              rw [hl4, HOUT.out]; exact hq4
            case measure => simp [intOf]; omega
      · have hx0 : x % 10 = 0 := by omega
        have hv0 : v = 0 := by
          rcases Nat.eq_zero_or_pos v with h | h
          · exact h
          · exact absurd (.inr (by omega)) hap
        have hx1 : ¬ (0 : Int) < (x : Int) % 10 := by omega
        have hz : mkTo l (i + 1) = 0 := by rw [HST.out, hx0, hv0]
        have HZ := Lib.hid hz
        rcases hown with ⟨rfl, e0⟩ | ⟨g, cp, rfl, hg, hp⟩
        · clear e0 hap hv0 hz hx0
          go_wp2_with fail
          go_roundw
          case rel => exact ⟨i + 1, by omega, by omega, by go_num, hB, .inl ⟨rfl, by rw [HZ.out, mkOut_zero]⟩, by rw [HZ.out, mkOut_zero]; simp⟩
          case measure => simp [intOf]; omega
        · have hm0 : (mkOut v).length = 0 := by rw [hv0]; rfl
          rw [hm0] at hp ⊢
          have hout : mkOut v = mkOut (mkTo l (i + 1)) := by rw [HZ.out, hv0]
          have HO := Lib.hid hout
          have HM := Lib.hid hm0
          clear hap hv0 hz hx0 hm0 hout
          go_wp2_with fail
          go_roundw
          case rel => exact ⟨i + 1, by omega, by omega, by go_num, hB, .inr ⟨g, cp, by rw [← HO.out, HM.out], hg, by rw [← HO.out, HM.out]; exact hp⟩, by rw [← HO.out]; omega⟩
          case measure => simp [intOf]; omega
    · have hend : mkTo l i = mk l := mkTo_end l i (by rw [HL.out]; omega) hi2
      rw [hend] at hown
      have hkey : ∀ (P : Prop), (¬ i < n → P) → (i < n → ¬ i < 120 → P) → P := fun P h1 h2 => by
        by_cases h : i < n
        · exact h2 h (fun h3 => hgo ⟨h, h3⟩)
        · exact h1 h
      clear hgo hend hol
      rcases hown with ⟨rfl, e0⟩ | ⟨g, cp, rfl, hg, hp⟩
      · have hv0 : mk l = 0 := (mkOut_len _).1 (by rw [e0]; rfl)
        have HV := Lib.hid hv0
        clear hv0 e0
        refine hkey _ (fun h => ?_) (fun h1 h2 => ?_)
        all_goals
          clear hkey
          go_wp2_with fail
          go_ret
          exact ⟨ret_str (by (rw [HV.out, dec0]) <;> rfl), hB⟩
      · obtain ⟨m, hm⟩ : ∃ m, (mkOut (mk l)).length = m := ⟨_, rfl⟩
        rw [hm] at hp ⊢
        by_cases hm0 : m = 0
        · have hv0 : mk l = 0 := (mkOut_len _).1 (by omega)
          have HV := Lib.hid hv0
          subst hm0
          clear hv0 hm
          refine hkey _ (fun h => ?_) (fun h1 h2 => ?_)
          all_goals
            clear hkey
            go_wp2_with fail
            go_ret
            exact ⟨ret_str (by (rw [HV.out, dec0]) <;> rfl), hB⟩
        · have hmz : ((m : Int) == 0) = false := by simp; omega
          have hv0 : mk l ≠ 0 := fun h => hm0 (by rw [← hm, h]; rfl)
          have hcv := str_of_Bc 23 26 Tryd.underlying23 Tryd.underlying26 hp
          rw [mkOut_pos hv0] at hcv
          have HCV := Lib.hid hcv
          clear hm hv0
          refine hkey _ (fun h => ?_) (fun h1 h2 => ?_)
          all_goals
            clear hkey hcv
            have hcv := HCV.out
            go_wp2_with fail
            go_ret
            exact ⟨rfl, hB⟩
end Go.Proofs.YtojgfpoinbblhaaDoor
