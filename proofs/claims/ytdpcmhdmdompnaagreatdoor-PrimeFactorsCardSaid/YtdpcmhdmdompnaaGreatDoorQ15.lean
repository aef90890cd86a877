/- Greater text, out of: Q15. -/
import Derived.Test.YtdpcmhdmdompnaaGreatDoorQ13
namespace Go.Proofs.YtdpcmhdmdompnaaGreatDoor
open Go.RowKit Go.PlainAid
attribute [local go_sem] field_rat0 field_rat1
theorem itx_parts (N : Nat) : negT (itx (N : Int)).data.toList = false ∧ magT (itx (N : Int)).data.toList = Lib.decDigits N := by
  have h := mag_itoa (N : Int)
  rw [itx_data]
  rw [Int.natAbs_natCast] at h
  exact ⟨by rw [h.2, decide_eq_false (by omega)], h.1⟩
theorem canonR_nat {N : Nat} (h : nz (N : Int) ≤ 400) : canonR (itx (N : Int)).data.toList = true := by
  obtain ⟨h1, h2⟩ := itx_parts N
  unfold canonR canonT
  rw [h1, h2, canon_dd, Lib.decDigits_length]
  rw [nz_nat] at h
  simp [h]
theorem ivalT_nat (N : Nat) : ivalT (itx (N : Int)).data.toList = (N : Int) := by
  obtain ⟨h1, h2⟩ := itx_parts N
  unfold ivalT
  rw [h1, h2, val_dd, if_neg (by decide)]
theorem rightB_nat {N D : Nat} (hg : Nat.gcd N D = 1) (hD : 0 < D) (hN : nz (N : Int) ≤ 400) (hD4 : nz (D : Int) ≤ 400) : rightB (itx (N : Int)).data.toList (itx (D : Int)).data.toList = true := by
  unfold rightB
  rw [canonR_nat hN, canonR_nat hD4, ivalT_nat, ivalT_nat, Int.gcd_natCast_natCast, hg, decide_eq_true (show (0 : Int) < (D : Int) by omega)]
  rfl
/-- prime.Factor of two naturals. -/
theorem Factor_nat (A : Option Addr) (n cap : Nat) (ps : List Int) (N D : Nat) (w : World) (hamb : Amb w) (h : InZ w A n cap ps) (hc : chk ps = 0) (h0 : 0 < N) (hD : 0 < D) (hg : Nat.gcd N D = 1) (hN : nz (N : Int) ≤ 400) (hD4 : nz (D : Int) ≤ 400)
    (a b : List Nat × Nat) (ha : stp ps N = a) (hb : stp ps D = b) :
    (a.2 = 1 ∧ b.2 = 1 → farB (dif a.1 b.1) = false → Calls Tryz.prog 6 #[.slice A n cap, .agg #[.string (itx (N : Int)), .string (itx (D : Int))]] w (ZOk n (dif a.1 b.1) w)) ∧
    (a.2 = 1 ∧ b.2 = 1 → farB (dif a.1 b.1) = true → Calls Tryz.prog 6 #[.slice A n cap, .agg #[.string (itx (N : Int)), .string (itx (D : Int))]] w (SmallRes (.tuple #[.slice none 0 0, .int .i64 4]) w)) ∧
    (¬ (a.2 = 1 ∧ b.2 = 1) → Calls Tryz.prog 6 #[.slice A n cap, .agg #[.string (itx (N : Int)), .string (itx (D : Int))]] w (SmallRes (.tuple #[.slice none 0 0, .int .i64 25]) w)) := by
  have hr := rat_of_right (n := (N : Int)) (d := (D : Int)) (by omega) (by rw [Int.gcd_natCast_natCast]; exact hg)
  have hx : rv (Rat.divInt (N : Int) (D : Int)) = .agg #[.string (itx (N : Int)), .string (itx (D : Int))] := by unfold rv; rw [hr.1, hr.2]
  have hq : NQ (Rat.divInt (N : Int) (D : Int)) 20000 := by unfold NQ; rw [hr.1, hr.2]; exact ⟨by omega, by omega⟩
  have hB : rightB (itx (Rat.divInt (N : Int) (D : Int)).num).data.toList (itx ((Rat.divInt (N : Int) (D : Int)).den : Int)).data.toList = true := by rw [hr.1, hr.2]; exact rightB_nat hg hD hN hD4
  have hf := Factor_pos A n cap ps (Rat.divInt (N : Int) (D : Int)) N D w hamb h hc hB hq hr.1 (by have := hr.2; omega) h0 a b ha hb
  rw [hx] at hf
  exact hf
set_option maxRecDepth 100000 in
set_option maxHeartbeats 1000000 in
/-- prime.Smooth of a fraction greater than 0. -/
theorem Smooth_pos (A : Option Addr) (n cap : Nat) (ps : List Int) (p : Rat) (N D : Nat) (w : World) (hamb : Amb w) (h : InZ w A n cap ps) (hc : chk ps = 0) (hr : rightB (itx p.num).data.toList (itx (p.den : Int)).data.toList = true) (hp : NQ p 20000) (hN : p.num = (N : Int)) (hD : p.den = D) (h0 : 0 < N)
    (a b : List Nat × Nat) (ha : stp ps N = a) (hb : stp ps D = b) :
    Calls Tryz.prog 7 #[.slice A n cap, rv p] w (SmallRes (.tuple #[.bool (decide (a.2 = 1) && decide (b.2 = 1)), .int .i64 0]) w) := by
  have hok := chk_ok hc
  have hn : ps.length = n := h.1
  have hn6 : n ≤ 6 := by have := hok.le; omega
  have HIN := Lib.hid (fun wz (hb : Below w.heap.size w wz) => h.below hb)
  have HAMB := Lib.hid (fun wz (hb : Below w.heap.size w wz) => hamb.below hb)
  have HOP := Lib.hid (fun wz (hz : Below w.heap.size w wz) => show Calls Tryz.prog 18 #[.slice A n cap, rv p] wz (SmallRes (.int .i64 0) wz) from by
    have h2 := open_any A n cap ps (itx p.num) (itx (p.den : Int)) wz (HAMB.out _ hz) (HIN.out _ hz) (Nat.le_trans (itx_size_le _) (by have := hp.1; omega)) (Nat.le_trans (itx_size_le _) (by have := hp.2; omega))
    rw [opn_ok hc hr] at h2
    exact h2)
  have HFA := Lib.hid (fun wz (hz : Below w.heap.size w wz) => show Calls Tryz.prog 20 #[.slice A n cap, rv p] wz (FacPost n a b wz) from by
    have h2 := factor_pos A n cap ps p N D wz (HAMB.out _ hz) (HIN.out _ hz) hn6 (fun i hi => hok.two i hi) hp hN hD h0
    rw [ha, hb] at h2
    exact h2)
  unfold rv at *
  obtain ⟨s, hs⟩ : ∃ s, itx p.num = s := ⟨_, rfl⟩
  obtain ⟨t, ht⟩ : ∃ t, itx (p.den : Int) = t := ⟨_, rfl⟩
  rw [hs, ht] at HOP HFA ⊢
  obtain ⟨r, hr2⟩ : ∃ r, (decide (a.2 = 1) && decide (b.2 = 1)) = r := ⟨_, rfl⟩
  have HR := Lib.hid hr2
  rw [hr2]
  clear h hamb hc hr hp hN hD h0 ha hb hok hn hs ht hr2
  go_enter Tryz.func7, Tryz.ntmps7
  go_wp2_with fail
  obtain ⟨W, hW⟩ : ∃ W, (w.alloc (.cells #[.string s, .string t] 27)) = W := ⟨_, rfl⟩
  rw [hW]
  obtain ⟨hX, hBW⟩ := B1.of hW
  clear hW
  obtain ⟨_, c000, c001, f000, f001⟩ := id hX
  have HX := Lib.hid (fun wz (hb : Below W.heap.size W wz) => hX.later hb)
  have HB := Lib.hid (fun wz (hb : Below W.heap.size W wz) => bel_chain hBW hb)
  clear hX hBW
  go_wp2_with fail
  refine (HOP.out _ (HB.out _ (Below.refl _ _))).mono ?_
  rintro e w1 ⟨rfl, hz1⟩
  obtain ⟨_, c100, c101, f100, f101⟩ := HX.out _ hz1
  clear c000 c001 f000 f001
  go_wp2_with fail
  refine (HFA.out _ (HB.out _ hz1)).mono ?_
  rintro e w3 ⟨g, cap', rfl, hz, hb3⟩
  rw [HR.out]
  have HZ3 := Lib.hid (bel_chain hz1 hb3)
  clear c100 c101 f100 f101 hb3 hz
  go_wp2_with fail
  go_ret2
  exact ⟨rfl, HB.out _ HZ3.out⟩
end Go.Proofs.YtdpcmhdmdompnaaGreatDoor
