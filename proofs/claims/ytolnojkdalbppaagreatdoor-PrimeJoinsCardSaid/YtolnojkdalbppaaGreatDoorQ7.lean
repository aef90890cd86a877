/- Greater text, out of: Q7. -/
import Derived.Test.YtolnojkdalbppaaGreatDoorQ6
import Derived.Test.YtolnojkdalbppaaGreatDoorQ5
namespace Go.Proofs.YtolnojkdalbppaaGreatDoor
open Go.RowKit Go.PlainAid

/-- The closure of far. -/
theorem far_gives (x : Int) (W : World) : FnGives Tryz.prog 54 #[] #[.int .i64 x] (.bool (decide (1000 < x) || decide (x < -1000))) W := by
  show Calls Tryz.prog 54 #[.int .i64 x] W _
  go_enter Tryz.func54, Tryz.ntmps54
  go_wp2
  all_goals (go_ret; exact ⟨by simp_all, 0, rfl⟩)
theorem far_in (A : Option Addr) (n cap : Nat) (xs : List Int) (w : World) (h : InZ w A n cap xs) :
    Calls Tryz.prog 53 #[.slice A n cap, .func (.func 54) #[] #[]] w (SmallRes (.bool (farB xs)) w) := by
  have e1 := h.1
  have b1 : n ≤ 9223372036854775807 := by have := h.2.1; have := h.2.2.1; omega
  by_cases h0 : n = 0
  · subst h0
    obtain rfl := List.length_eq_zero_iff.1 e1
    first | (exact (Tryz.slices_ContainsFunc_empty_f53 (α := Int) A cap _ w).mono fun e w' ⟨he, hw⟩ => ⟨he, by rw [hw]; exact Below.refl _ _⟩) | (exact (Tryz.slices_ContainsFunc_empty (α := Int) A cap _ w).mono fun e w' ⟨he, hw⟩ => ⟨he, by rw [hw]; exact Below.refl _ _⟩)
  · obtain ⟨b, off, rfl, hb, hc⟩ := h.cells (by omega)
    have eg : ∀ args w, (callFunc 54 args).run Tryz.prog w = .ok (.enter 54 args) w := enters_of Tryz.func54 (by kernel_rfl) rfl
    first | (refine (Tryz.slices_ContainsFunc_f53 (Value.int .i64) (fun x => decide (1000 < x) || decide (x < -1000)) 54 #[] eg b off n cap xs w (fun W x _ => far_gives x W) (by omega) b1 hc).mono fun e w' ⟨he, q, hw⟩ => ⟨?_, by rw [hw]; exact below_drewN w q⟩) | (refine (Tryz.slices_ContainsFunc (Value.int .i64) (fun x => decide (1000 < x) || decide (x < -1000)) 54 #[] eg b off n cap xs w (fun W x _ => far_gives x W) (by omega) b1 hc).mono fun e w' ⟨he, q, hw⟩ => ⟨?_, by rw [hw]; exact below_drewN w q⟩)
    rw [he, take_len e1]; rfl
/-- prime.far. -/
theorem far_any (A : Option Addr) (n cap : Nat) (xs : List Int) (w : World) (h : InZ w A n cap xs) :
    Calls Tryz.prog 31 #[.slice A n cap] w (SmallRes (.bool (farB xs)) w) := by
  have HC := Lib.hid (far_in A n cap xs w h)
  clear h
  go_enter Tryz.func31, Tryz.ntmps31
  go_wp2_with fail
  refine HC.out.mono ?_
  rintro e w1 ⟨rfl, hb1⟩
  go_wp2_with fail
  go_ret
  exact ⟨rfl, hb1⟩
/-- The error of a row over a right list. -/
def fit (ps xs : List Int) : Int := if xs.length = ps.length then (if farB xs = true then 4 else 0) else 5
set_option maxHeartbeats 400000 in
/-- prime.fits. -/
theorem fits_any (A A2 : Option Addr) (n cap n2 cap2 : Nat) (ps xs : List Int) (w : World) (h : InZ w A n cap ps) (h2 : InZ w A2 n2 cap2 xs) :
    Calls Tryz.prog 33 #[.slice A n cap, .slice A2 n2 cap2] w (SmallRes (.int .i64 (fit ps xs)) w) := by
  have HV := Lib.hid (show fit ps xs = if n2 = n then (if farB xs = true then 4 else 0) else 5 by unfold fit; rw [h.1, h2.1])
  have b1 : n ≤ 9223372036854775807 := by have := h.2.1; have := h.2.2.1; omega
  have b2 : n2 ≤ 9223372036854775807 := by have := h2.2.1; have := h2.2.2.1; omega
  have HC := Lib.hid (far_any A2 n2 cap2 xs w h2)
  clear h h2
  by_cases hn : n2 = n
  · cases hf : farB xs with
    | true =>
      have HV1 := Lib.hid (show fit ps xs = 4 by rw [HV.out, if_pos hn, hf, if_pos rfl])
      rw [hf] at HC
      subst hn
      clear hf HV
      go_enter Tryz.func33, Tryz.ntmps33
      go_wp2_with fail
      refine HC.out.mono ?_
      rintro e w1 ⟨rfl, hb1⟩
      go_wp2_with fail
      go_ret
      exact ⟨by rw [HV1.out]; rfl, hb1⟩
    | false =>
      have HV1 := Lib.hid (show fit ps xs = 0 by rw [HV.out, if_pos hn, hf, if_neg (by decide)])
      rw [hf] at HC
      subst hn
      clear hf HV
      go_enter Tryz.func33, Tryz.ntmps33
      go_wp2_with fail
      refine HC.out.mono ?_
      rintro e w1 ⟨rfl, hb1⟩
      go_wp2_with fail
      go_ret
      exact ⟨by rw [HV1.out]; rfl, hb1⟩
  · have hni : ¬ (n2 : Int) = (n : Int) := by omega
    clear HC
    go_enter Tryz.func33, Tryz.ntmps33
    go_wp2_with fail
    go_ret
    exact ⟨by rw [HV.out, if_neg hn]; rfl, Below.refl _ _⟩
/-- The first error of two lists. -/
def twoE (ps qs : List Int) : Int := if chk ps = 0 then chk qs else chk ps
/-- prime.two. -/
theorem two_any (A A2 : Option Addr) (n cap n2 cap2 : Nat) (ps qs : List Int) (w : World) (h : InZ w A n cap ps) (h2 : InZ w A2 n2 cap2 qs) :
    Calls Tryz.prog 20 #[.slice A n cap, .slice A2 n2 cap2] w (SmallRes (.int .i64 (twoE ps qs)) w) := by
  have HC1 := Lib.hid (pcheck_any A n cap ps w h)
  have HC2 := Lib.hid (fun wz (hb : Below w.heap.size w wz) => pcheck_any A2 n2 cap2 qs wz (h2.below hb))
  have HV := Lib.hid (show twoE ps qs = if chk ps = 0 then chk qs else chk ps from rfl)
  obtain ⟨c, hc⟩ : ∃ c, chk ps = c := ⟨_, rfl⟩
  obtain ⟨d, hd⟩ : ∃ d, chk qs = d := ⟨_, rfl⟩
  rw [hc] at HC1
  rw [hc, hd] at HV
  rw [hd] at HC2
  clear h h2 hc hd
  go_enter Tryz.func20, Tryz.ntmps20
  go_wp2_with fail
  refine HC1.out.mono ?_
  rintro e w1 ⟨rfl, hb1⟩
  by_cases h0 : c = 0
  · have HV0 := Lib.hid (show twoE ps qs = d by rw [HV.out, if_pos h0])
    subst h0
    go_wp2_with fail
    refine (HC2.out _ hb1).mono ?_
    rintro e w2 ⟨rfl, hb2⟩
    go_wp2_with fail
    go_ret
    exact ⟨by rw [HV0.out]; rfl, bel_chain hb1 hb2⟩
  · go_wp2_with fail
    go_ret
    exact ⟨by rw [HV.out, if_neg h0]; rfl, hb1⟩
theorem twoE_fst {ps : List Int} (qs : List Int) (h : chk ps ≠ 0) : twoE ps qs = chk ps := by unfold twoE; rw [if_neg h]
theorem twoE_snd {ps : List Int} (qs : List Int) (h : chk ps = 0) : twoE ps qs = chk qs := by unfold twoE; rw [if_pos h]
set_option maxRecDepth 100000 in
theorem factor_bad (A : Option Addr) (n cap : Nat) (ps : List Int) (a b : ByteArray) (c : Int) (w : World) (hamb : Amb w) (h : InZ w A n cap ps) (ha : a.size ≤ 1000000000) (hb : b.size ≤ 1000000000) (hc : opn ps a b = c) (h0 : c ≠ 0) :
    Calls Tryz.prog 15 #[.slice A n cap, .agg #[.string a, .string b]] w (SmallRes (.tuple #[.slice none 0 0, .int .i64 c]) w) := by
  have HC := Lib.hid (fun wz (hz : Below w.heap.size w wz) => show Calls Tryz.prog 28 #[.slice A n cap, .agg #[.string a, .string b]] wz (SmallRes (.int .i64 c) wz) from hc ▸ open_any A n cap ps a b wz (hamb.below hz) (h.below hz) ha hb)
  clear hamb h ha hb hc
  go_enter Tryz.func15, Tryz.ntmps15
  go_wp2_with fail
  obtain ⟨W, hW⟩ : ∃ W, (w.alloc (.cells #[.string a, .string b] 48)) = W := ⟨_, rfl⟩
  rw [hW]
  obtain ⟨hX, hBW⟩ := B1.of hW
  clear hW
  obtain ⟨_, c000, c001, f000, f001⟩ := id hX
  have HX := Lib.hid (fun wz (hb : Below W.heap.size W wz) => hX.later hb)
  clear hX
  go_wp2_with fail
  refine (HC.out _ hBW).mono ?_
  rintro e w1 ⟨rfl, hb1⟩
  have hz1 := bel_chain hBW hb1
  obtain ⟨_, c100, c101, f100, f101⟩ := HX.out _ hb1
  clear c000 c001 f000 f001 hBW hb1
  go_wp2_with fail
  go_ret2
  exact ⟨rfl, hz1⟩
set_option maxRecDepth 100000 in
theorem join_bad (A A2 : Option Addr) (n cap n2 cap2 : Nat) (ps qs : List Int) (c : Int) (w : World) (h : InZ w A n cap ps) (h2 : InZ w A2 n2 cap2 qs) (hc : twoE ps qs = c) (h0 : c ≠ 0) :
    Calls Tryz.prog 9 #[.slice A n cap, .slice A2 n2 cap2] w (SmallRes (.tuple #[.slice none 0 0, .int .i64 c]) w) := by
  have HC := Lib.hid (fun wz (hz : Below w.heap.size w wz) => show Calls Tryz.prog 20 #[.slice A n cap, .slice A2 n2 cap2] wz (SmallRes (.int .i64 c) wz) from hc ▸ two_any A A2 n cap n2 cap2 ps qs wz (h.below hz) (h2.below hz))
  clear h h2 hc
  go_enter Tryz.func9, Tryz.ntmps9
  go_wp2_with fail
  refine (HC.out _ (Below.refl _ _)).mono ?_
  rintro e w1 ⟨rfl, hz1⟩
  go_wp2_with fail
  go_ret2
  exact ⟨rfl, hz1⟩
theorem within_bad (A A2 : Option Addr) (n cap n2 cap2 : Nat) (ps qs : List Int) (c : Int) (w : World) (h : InZ w A n cap ps) (h2 : InZ w A2 n2 cap2 qs) (hc : twoE ps qs = c) (h0 : c ≠ 0) :
    Calls Tryz.prog 8 #[.slice A n cap, .slice A2 n2 cap2] w (SmallRes (.tuple #[.bool false, .int .i64 c]) w) := by
  have HC := Lib.hid (fun wz (hz : Below w.heap.size w wz) => show Calls Tryz.prog 20 #[.slice A n cap, .slice A2 n2 cap2] wz (SmallRes (.int .i64 c) wz) from hc ▸ two_any A A2 n cap n2 cap2 ps qs wz (h.below hz) (h2.below hz))
  clear h h2 hc
  have hal : Below w.heap.size w (w.alloc (.cells #[.slice A2 n2 cap2] 27)) := (Below.refl _ _).alloc (Nat.le_refl _) _
  go_enter Tryz.func8, Tryz.ntmps8
  go_wp2_with fail
  refine (HC.out _ hal).mono ?_
  rintro e w1 ⟨rfl, hb1⟩
  have hz1 := bel_chain hal hb1
  clear hal hb1
  go_wp2_with fail
  go_ret2
  exact ⟨rfl, hz1⟩
set_option maxRecDepth 100000 in
theorem value_bad (A : Option Addr) (n cap : Nat) (ps : List Int) (v : Value) (c : Int) (w : World) (h : InZ w A n cap ps) (hc : chk ps = c) (h0 : c ≠ 0) :
    Calls Tryz.prog 16 #[.slice A n cap, v] w (SmallRes (.tuple #[.agg #[.string ⟨#[]⟩, .string ⟨#[]⟩], .int .i64 c]) w) := by
  have HC := Lib.hid (fun wz (hz : Below w.heap.size w wz) => show Calls Tryz.prog 32 #[.slice A n cap] wz (SmallRes (.int .i64 c) wz) from hc ▸ pcheck_any A n cap ps wz (h.below hz))
  clear h hc
  go_enter Tryz.func16, Tryz.ntmps16
  go_wp2_with fail
  obtain ⟨W, hW⟩ : ∃ W, (w.alloc (.cells #[.string ⟨#[]⟩, .string ⟨#[]⟩] 48)) = W := ⟨_, rfl⟩
  rw [hW]
  obtain ⟨hX, hBW⟩ := B1.of hW
  clear hW
  have HX := Lib.hid (fun wz (hb : Below W.heap.size W wz) => hX.later hb)
  clear hX
  refine (HC.out _ hBW).mono ?_
  rintro e w1 ⟨rfl, hb1⟩
  have HZ1 := Lib.hid (bel_chain hBW hb1)
  have HX1 := Lib.hid (HX.out _ hb1)
  obtain ⟨_, c100, c101, f100, f101⟩ := HX1.out
  clear hBW hb1
  go_wp2_with fail
  refine ret_cell_tmp rfl rfl (load_rat (g := w.heap.size) (HX1.out.store0 _ _)) rfl ?_
  exact ⟨rfl, (HZ1.out.setCell (by simp <;> omega) _).setCell (by simp <;> omega) _⟩
end Go.Proofs.YtolnojkdalbppaaGreatDoor
