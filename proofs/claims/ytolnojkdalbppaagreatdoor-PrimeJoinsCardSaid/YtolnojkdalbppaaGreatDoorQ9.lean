/- Greater text, out of: Q9. -/
import Derived.Test.YtolnojkdalbppaaGreatDoorQ7
import Derived.Test.YtolnojkdalbppaaGreatDoorQ8
import Derived.Test.YtolnojkdalbppaaGreatDoorGn
namespace Go.Proofs.YtolnojkdalbppaaGreatDoor
open Go.RowKit Go.PlainAid
attribute [local go_sem] field_rat0 field_rat1
/-- A new slice of ints of the length n is returned, and no error. -/
def ZOk (n : Nat) (xs : List Int) (w : World) (e : Ending) (w' : World) : Prop := ∃ g cap, e = .returned (.tuple #[.slice (some ⟨g, 0, none⟩) n cap, .int .i64 0]) ∧ Zc w' g n cap xs ∧ Below w.heap.size w w'
theorem opn_ok {ps : List Int} {p : Rat} (h : chk ps = 0) (hr : rightB (itx p.num).data.toList (itx (p.den : Int)).data.toList = true) : opn ps (itx p.num) (itx (p.den : Int)) = 0 := by unfold opn; rw [if_pos h, if_pos hr]
set_option maxRecDepth 100000 in
set_option maxHeartbeats 1000000 in
/-- prime.Factor of a fraction greater than 0. -/
theorem Factor_pos (A : Option Addr) (n cap : Nat) (ps : List Int) (p : Rat) (N D : Nat) (w : World) (hamb : Amb w) (h : InZ w A n cap ps) (hc : chk ps = 0) (hr : rightB (itx p.num).data.toList (itx (p.den : Int)).data.toList = true) (hp : NQ p 20000) (hN : p.num = (N : Int)) (hD : p.den = D) (h0 : 0 < N)
    (a b : List Nat × Nat) (ha : stp ps N = a) (hb : stp ps D = b) :
    (a.2 = 1 ∧ b.2 = 1 → farB (dif a.1 b.1) = false → Calls Tryz.prog 15 #[.slice A n cap, rv p] w (ZOk n (dif a.1 b.1) w)) ∧
    (a.2 = 1 ∧ b.2 = 1 → farB (dif a.1 b.1) = true → Calls Tryz.prog 15 #[.slice A n cap, rv p] w (SmallRes (.tuple #[.slice none 0 0, .int .i64 4]) w)) ∧
    (¬ (a.2 = 1 ∧ b.2 = 1) → Calls Tryz.prog 15 #[.slice A n cap, rv p] w (SmallRes (.tuple #[.slice none 0 0, .int .i64 25]) w)) := by
  have hok := chk_ok hc
  have hn : ps.length = n := h.1
  have hn6 : n ≤ 6 := by have := hok.le; omega
  have HIN := Lib.hid (fun wz (hb : Below w.heap.size w wz) => h.below hb)
  have HAMB := Lib.hid (fun wz (hb : Below w.heap.size w wz) => hamb.below hb)
  have HOP := Lib.hid (fun wz (hz : Below w.heap.size w wz) => show Calls Tryz.prog 28 #[.slice A n cap, rv p] wz (SmallRes (.int .i64 0) wz) from by
    have h2 := open_any A n cap ps (itx p.num) (itx (p.den : Int)) wz (HAMB.out _ hz) (HIN.out _ hz) (Nat.le_trans (itx_size_le _) (by have := hp.1; omega)) (Nat.le_trans (itx_size_le _) (by have := hp.2; omega))
    rw [opn_ok hc hr] at h2
    exact h2)
  have HSG := Lib.hid (fun wz => show Calls Tryz.prog 29 #[rv p] wz (SmallRes (.int .i64 1) wz) from by
    have h2 := fsign_any p wz hp
    rw [Int.sign_eq_one_of_pos (show 0 < p.num by omega)] at h2
    exact h2)
  have HFA := Lib.hid (fun wz (hz : Below w.heap.size w wz) => show Calls Tryz.prog 30 #[.slice A n cap, rv p] wz (FacPost n a b wz) from by
    have h2 := factor_pos A n cap ps p N D wz (HAMB.out _ hz) (HIN.out _ hz) hn6 (fun i hi => hok.two i hi) hp hN hD h0
    rw [ha, hb] at h2
    exact h2)
  unfold rv at *
  obtain ⟨s, hs⟩ : ∃ s, itx p.num = s := ⟨_, rfl⟩
  obtain ⟨t, ht⟩ : ∃ t, itx (p.den : Int) = t := ⟨_, rfl⟩
  rw [hs, ht] at HOP HSG HFA ⊢
  clear h hamb hc hr hp hN hD h0 ha hb hok hn hs ht
  refine ⟨fun h1 hf => ?_, fun h1 hf => ?_, fun h1 => ?_⟩
  · have HSM := Lib.hid (show (decide (a.2 = 1) && decide (b.2 = 1)) = true by simp [h1.1, h1.2])
    have HF := Lib.hid hf
    clear h1 hf
    go_enter Tryz.func15, Tryz.ntmps15
    go_wp2_with fail
    obtain ⟨W, hW⟩ : ∃ W, (w.alloc (.cells #[.string s, .string t] 48)) = W := ⟨_, rfl⟩
    rw [hW]
    obtain ⟨hX, hBW⟩ := B1.of hW
    clear hW
    obtain ⟨_, c000, c001, f000, f001⟩ := id hX
    have HX := Lib.hid (fun wz (hb : Below W.heap.size W wz) => hX.later hb)
    have HB := Lib.hid (fun wz (hb : Below W.heap.size W wz) => bel_chain hBW hb)
    clear hX hBW
    go_wp2_with fail
    refine (HOP.out _ (HB.out _ (Below.refl _ _))).mono ?_
    rintro e w1 ⟨rfl, hz1⟩
    obtain ⟨_, c100, c101, f100, f101⟩ := HX.out _ hz1
    clear c000 c001 f000 f001
    go_wp2_with fail
    refine (HSG.out _).mono ?_
    rintro e w2 ⟨rfl, hb2⟩
    have hz2 := bel_chain hz1 hb2
    obtain ⟨_, c200, c201, f200, f201⟩ := HX.out _ hz2
    clear c100 c101 f100 f101 hb2
    go_wp2_with fail
    refine (HFA.out _ (HB.out _ hz2)).mono ?_
    rintro e w3 ⟨g, cap', rfl, hz, hb3⟩
    rw [HSM.out]
    have hz3 := bel_chain hz2 hb3
    have HZ := Lib.hid hz
    have HFR := Lib.hid (far_any _ _ _ _ w3 hz.ins)
    rw [HF.out] at HFR
    clear c200 c201 f200 f201 hb3 hz
    go_wp2_with fail
    refine HFR.out.mono ?_
    rintro e w4 ⟨rfl, hb4⟩
    have HZ4 := Lib.hid (bel_chain hz3 hb4)
    have HZZ := Lib.hid (HZ.out.below hb4 HZ.out.lt)
    clear hb4
    go_wp2_with fail
    go_ret2
    exact ⟨_, _, rfl, HZZ.out, HB.out _ HZ4.out⟩
  · have HSM := Lib.hid (show (decide (a.2 = 1) && decide (b.2 = 1)) = true by simp [h1.1, h1.2])
    have HF := Lib.hid hf
    clear h1 hf
    go_enter Tryz.func15, Tryz.ntmps15
    go_wp2_with fail
    obtain ⟨W, hW⟩ : ∃ W, (w.alloc (.cells #[.string s, .string t] 48)) = W := ⟨_, rfl⟩
    rw [hW]
    obtain ⟨hX, hBW⟩ := B1.of hW
    clear hW
    obtain ⟨_, c000, c001, f000, f001⟩ := id hX
    have HX := Lib.hid (fun wz (hb : Below W.heap.size W wz) => hX.later hb)
    have HB := Lib.hid (fun wz (hb : Below W.heap.size W wz) => bel_chain hBW hb)
    clear hX hBW
    go_wp2_with fail
    refine (HOP.out _ (HB.out _ (Below.refl _ _))).mono ?_
    rintro e w1 ⟨rfl, hz1⟩
    obtain ⟨_, c100, c101, f100, f101⟩ := HX.out _ hz1
    clear c000 c001 f000 f001
    go_wp2_with fail
    refine (HSG.out _).mono ?_
    rintro e w2 ⟨rfl, hb2⟩
    have hz2 := bel_chain hz1 hb2
    obtain ⟨_, c200, c201, f200, f201⟩ := HX.out _ hz2
    clear c100 c101 f100 f101 hb2
    go_wp2_with fail
    refine (HFA.out _ (HB.out _ hz2)).mono ?_
    rintro e w3 ⟨g, cap', rfl, hz, hb3⟩
    rw [HSM.out]
    have hz3 := bel_chain hz2 hb3
    have HFR := Lib.hid (far_any _ _ _ _ w3 hz.ins)
    rw [HF.out] at HFR
    clear c200 c201 f200 f201 hb3 hz
    go_wp2_with fail
    refine HFR.out.mono ?_
    rintro e w4 ⟨rfl, hb4⟩
    have HZ4 := Lib.hid (bel_chain hz3 hb4)
    clear hb4
    go_wp2_with fail
    go_ret2
    exact ⟨rfl, HB.out _ HZ4.out⟩
  · have HSM := Lib.hid (show (decide (a.2 = 1) && decide (b.2 = 1)) = false by
      rw [Bool.eq_false_iff]
      intro e
      simp only [Bool.and_eq_true, decide_eq_true_eq] at e
      exact h1 e)
    clear h1
    go_enter Tryz.func15, Tryz.ntmps15
    go_wp2_with fail
    obtain ⟨W, hW⟩ : ∃ W, (w.alloc (.cells #[.string s, .string t] 48)) = W := ⟨_, rfl⟩
    rw [hW]
    obtain ⟨hX, hBW⟩ := B1.of hW
    clear hW
    obtain ⟨_, c000, c001, f000, f001⟩ := id hX
    have HX := Lib.hid (fun wz (hb : Below W.heap.size W wz) => hX.later hb)
    have HB := Lib.hid (fun wz (hb : Below W.heap.size W wz) => bel_chain hBW hb)
    clear hX hBW
    go_wp2_with fail
    refine (HOP.out _ (HB.out _ (Below.refl _ _))).mono ?_
    rintro e w1 ⟨rfl, hz1⟩
    obtain ⟨_, c100, c101, f100, f101⟩ := HX.out _ hz1
    clear c000 c001 f000 f001
    go_wp2_with fail
    refine (HSG.out _).mono ?_
    rintro e w2 ⟨rfl, hb2⟩
    have hz2 := bel_chain hz1 hb2
    obtain ⟨_, c200, c201, f200, f201⟩ := HX.out _ hz2
    clear c100 c101 f100 f101 hb2
    go_wp2_with fail
    refine (HFA.out _ (HB.out _ hz2)).mono ?_
    rintro e w3 ⟨g, cap', rfl, hz, hb3⟩
    rw [HSM.out]
    have HZ3 := Lib.hid (bel_chain hz2 hb3)
    clear c200 c201 f200 f201 hb3 hz
    go_wp2_with fail
    go_ret2
    exact ⟨rfl, HB.out _ HZ3.out⟩
end Go.Proofs.YtolnojkdalbppaaGreatDoor
