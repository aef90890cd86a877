/- Greater text, out of: Q23. -/
import Derived.Test.YtdpcmhdmdompnaaGreatDoorQ15
namespace Go.Proofs.YtdpcmhdmdompnaaGreatDoor
open Go.RowKit Go.PlainAid
attribute [local go_sem] field_rat0 field_rat1
theorem sign_le {z : Int} (h : z ≤ 0) : z.sign ≤ 0 := by
  rcases (show z = 0 ∨ z < 0 by omega) with h | h
  · rw [h]; decide
  · rw [Int.sign_eq_neg_one_of_neg h]; decide
set_option maxRecDepth 100000 in
set_option maxHeartbeats 1000000 in
theorem Factor_neg (A : Option Addr) (n cap : Nat) (ps : List Int) (p : Rat) (w : World) (hamb : Amb w) (h : InZ w A n cap ps) (hc : chk ps = 0) (hr : rightB (itx p.num).data.toList (itx (p.den : Int)).data.toList = true) (hp : NQ p 20000) (h0 : p.num ≤ 0) :
    Calls Tryz.prog 6 #[.slice A n cap, rv p] w (SmallRes (.tuple #[.slice none 0 0, .int .i64 3]) w) := by
  have HOP := Lib.hid (fun wz (hz : Below w.heap.size w wz) => show Calls Tryz.prog 18 #[.slice A n cap, rv p] wz (SmallRes (.int .i64 0) wz) from by
    have h2 := open_any A n cap ps (itx p.num) (itx (p.den : Int)) wz (hamb.below hz) (h.below hz) (Nat.le_trans (itx_size_le _) (by have := hp.1; omega)) (Nat.le_trans (itx_size_le _) (by have := hp.2; omega))
    rw [opn_ok hc hr] at h2
    exact h2)
  have HSG := Lib.hid (fun wz => fsign_any p wz hp)
  have hs := sign_le h0
  obtain ⟨g, hg⟩ : ∃ g, p.num.sign = g := ⟨_, rfl⟩
  rw [hg] at HSG hs
  unfold rv at *
  obtain ⟨s, hs'⟩ : ∃ s, itx p.num = s := ⟨_, rfl⟩
  obtain ⟨t, ht⟩ : ∃ t, itx (p.den : Int) = t := ⟨_, rfl⟩
  rw [hs', ht] at HOP HSG ⊢
  clear h hamb hc hr hp h0 hg hs' ht
  go_enter Tryz.func6, Tryz.ntmps6
  go_wp2_with fail
  obtain ⟨W, hW⟩ : ∃ W, (w.alloc (.cells #[.string s, .string t] 27)) = W := ⟨_, rfl⟩
  rw [hW]
  obtain ⟨hX, hBW⟩ := B1.of hW
  clear hW
  obtain ⟨_, c000, c001, f000, f001⟩ := id hX
  have HX := Lib.hid (fun wz (hb : Below W.heap.size W wz) => hX.later hb)
  have HB := Lib.hid (fun wz (hb : Below W.heap.size W wz) => bel_chain hBW hb)
  clear hX hBW
  go_wp2_with fail
  refine (HOP.out _ (HB.out _ (Below.refl _ _))).mono ?_
  rintro e w1 ⟨rfl, hz1⟩
  obtain ⟨_, c100, c101, f100, f101⟩ := HX.out _ hz1
  clear c000 c001 f000 f001
  go_wp2_with fail
  refine (HSG.out _).mono ?_
  rintro e w2 ⟨rfl, hb2⟩
  have HZ2 := Lib.hid (bel_chain hz1 hb2)
  clear c100 c101 f100 f101 hb2
  go_wp2_with fail
  go_ret2
  exact ⟨rfl, HB.out _ HZ2.out⟩
set_option maxRecDepth 100000 in
set_option maxHeartbeats 1000000 in
theorem Smooth_neg (A : Option Addr) (n cap : Nat) (ps : List Int) (p : Rat) (w : World) (hamb : Amb w) (h : InZ w A n cap ps) (hc : chk ps = 0) (hr : rightB (itx p.num).data.toList (itx (p.den : Int)).data.toList = true) (hp : NQ p 20000) (h0 : p.num ≤ 0) :
    Calls Tryz.prog 7 #[.slice A n cap, rv p] w (SmallRes (.tuple #[.bool false, .int .i64 0]) w) := by
  have HOP := Lib.hid (fun wz (hz : Below w.heap.size w wz) => show Calls Tryz.prog 18 #[.slice A n cap, rv p] wz (SmallRes (.int .i64 0) wz) from by
    have h2 := open_any A n cap ps (itx p.num) (itx (p.den : Int)) wz (hamb.below hz) (h.below hz) (Nat.le_trans (itx_size_le _) (by have := hp.1; omega)) (Nat.le_trans (itx_size_le _) (by have := hp.2; omega))
    rw [opn_ok hc hr] at h2
    exact h2)
  have HFN := Lib.hid (fun wz => factor_neg (.slice A n cap) p wz hp h0)
  unfold rv at *
  obtain ⟨s, hs'⟩ : ∃ s, itx p.num = s := ⟨_, rfl⟩
  obtain ⟨t, ht⟩ : ∃ t, itx (p.den : Int) = t := ⟨_, rfl⟩
  rw [hs', ht] at HOP HFN ⊢
  clear h hamb hc hr hp h0 hs' ht
  go_enter Tryz.func7, Tryz.ntmps7
  go_wp2_with fail
  obtain ⟨W, hW⟩ : ∃ W, (w.alloc (.cells #[.string s, .string t] 27)) = W := ⟨_, rfl⟩
  rw [hW]
  obtain ⟨hX, hBW⟩ := B1.of hW
  clear hW
  obtain ⟨_, c000, c001, f000, f001⟩ := id hX
  have HX := Lib.hid (fun wz (hb : Below W.heap.size W wz) => hX.later hb)
  have HB := Lib.hid (fun wz (hb : Below W.heap.size W wz) => bel_chain hBW hb)
  clear hX hBW
  go_wp2_with fail
  refine (HOP.out _ (HB.out _ (Below.refl _ _))).mono ?_
  rintro e w1 ⟨rfl, hz1⟩
  obtain ⟨_, c100, c101, f100, f101⟩ := HX.out _ hz1
  clear c000 c001 f000 f001
  go_wp2_with fail
  refine (HFN.out _).mono ?_
  rintro e w2 ⟨rfl, hb2⟩
  have HZ2 := Lib.hid (bel_chain hz1 hb2)
  clear c100 c101 f100 f101 hb2
  go_wp2_with fail
  go_ret2
  exact ⟨rfl, HB.out _ HZ2.out⟩
end Go.Proofs.YtdpcmhdmdompnaaGreatDoor
