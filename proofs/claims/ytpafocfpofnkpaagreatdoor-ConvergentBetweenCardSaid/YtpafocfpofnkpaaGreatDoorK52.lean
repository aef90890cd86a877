/- Greater text, out of: K52. -/
import Derived.Test.YtpafocfpofnkpaaGreatDoorK50
namespace Go.Proofs.YtpafocfpofnkpaaGreatDoor
open Go.RowKit Go.PlainAid
attribute [local go_sem] field_rat0 field_rat1
theorem loN_mem (n d : Int) : ∀ k : Nat, (k = 0 ∧ loN n d k = (0, 0)) ∨ (1 ≤ k ∧ ∃ q : Int, 1 ≤ q ∧ q ≤ (k : Int) ∧ loN n d k = (loP n d q, q)) := by
  intro k
  induction k with
  | zero => exact .inl ⟨rfl, rfl⟩
  | succ k ih =>
    refine .inr ⟨by omega, ?_⟩
    show ∃ q : Int, 1 ≤ q ∧ q ≤ ((k + 1 : Nat) : Int) ∧ loStep n d (loN n d k) ((k : Int) + 1) = (loP n d q, q)
    unfold loStep
    split
    · exact ⟨(k : Int) + 1, by omega, by simp, rfl⟩
    · rename_i h
      rcases ih with ⟨_, e⟩ | ⟨_, q, h1, h2, e⟩
      · rw [e] at h; exact absurd (Or.inl rfl) h
      · exact ⟨q, h1, by omega, e⟩
theorem hiN_mem (n d : Int) : ∀ k : Nat, (k = 0 ∧ hiN n d k = (0, 0)) ∨ (1 ≤ k ∧ ∃ q : Int, 1 ≤ q ∧ q ≤ (k : Int) ∧ hiN n d k = (n * q / d + 1, q)) := by
  intro k
  induction k with
  | zero => exact .inl ⟨rfl, rfl⟩
  | succ k ih =>
    refine .inr ⟨by omega, ?_⟩
    show ∃ q : Int, 1 ≤ q ∧ q ≤ ((k + 1 : Nat) : Int) ∧ hiStep n d (hiN n d k) ((k : Int) + 1) = (n * q / d + 1, q)
    unfold hiStep
    split
    · exact ⟨(k : Int) + 1, by omega, by simp, rfl⟩
    · rename_i h
      rcases ih with ⟨_, e⟩ | ⟨_, q, h1, h2, e⟩
      · rw [e] at h; exact absurd (Or.inl rfl) h
      · exact ⟨q, h1, by omega, e⟩
theorem loP_bd {n d q : Int} (hd : 1 ≤ d) (hn : n.natAbs ≤ 9999999) (hq : q.natAbs ≤ 100) : (loP n d q).natAbs ≤ 1000000001 := by
  have := (pick_bd hd hn hq).1
  unfold loP
  split <;> omega
theorem loN_bd {n d : Int} (hd : 1 ≤ d) (hn : n.natAbs ≤ 9999999) (k : Nat) (hk : k ≤ 100) : (loN n d k).1.natAbs ≤ 1000000001 ∧ 0 ≤ (loN n d k).2 ∧ (loN n d k).2 ≤ 100 ∧ (1 ≤ k → 1 ≤ (loN n d k).2) := by
  rcases loN_mem n d k with ⟨h0, e⟩ | ⟨h1, q, h2, h3, e⟩
  · rw [e]; exact ⟨by simp, by simp, by simp, by omega⟩
  · rw [e]; exact ⟨loP_bd hd hn (by omega), by show 0 ≤ q; omega, by show q ≤ 100; omega, fun _ => h2⟩
theorem hiN_bd {n d : Int} (hd : 1 ≤ d) (hn : n.natAbs ≤ 9999999) (k : Nat) (hk : k ≤ 100) : (hiN n d k).1.natAbs ≤ 1000000001 ∧ 0 ≤ (hiN n d k).2 ∧ (hiN n d k).2 ≤ 100 ∧ (1 ≤ k → 1 ≤ (hiN n d k).2) := by
  rcases hiN_mem n d k with ⟨h0, e⟩ | ⟨h1, q, h2, h3, e⟩
  · rw [e]; exact ⟨by simp, by simp, by simp, by omega⟩
  · rw [e]; exact ⟨by have := (pick_bd (q := q) hd hn (by omega)).1; show (n * q / d + 1).natAbs ≤ _; omega, by show 0 ≤ q; omega, by show q ≤ 100; omega, fun _ => h2⟩

set_option maxRecDepth 100000 in
set_option maxHeartbeats 8000000 in
/-- schismaref04.Neighbours. -/
theorem r4neigh_any (n d : Int) (b : Nat) (w : World) (hn : n.natAbs ≤ 9999999) (hd0 : 1 ≤ d) (hd : d ≤ 9999999) (hb0 : 1 ≤ b) (hb : b ≤ 60) :
    Calls Tryz.prog 18 #[.int .i64 n, .int .i64 d, .int .i64 (b : Int)] w (SmallRes (.tuple #[rv (tr (loN n d b)), rv (tr (hiN n d b))]) w) := by
  have HFLR := Lib.hid (fun u w (hu : I62 u) => r4floor_any u d w hu hd0 (by omega))
  have HPB := Lib.hid (fun q (hq : q.natAbs ≤ 100) => pick_bd (n := n) (d := d) (q := q) hd0 (by omega) hq)
  have HPR := Lib.hid (fun q (hq : q.natAbs ≤ 100) => pr4 (a := n) (b := q) (A := 10000000) (by omega) hq)
  have HPD := Lib.hid (fun p (hp : p.natAbs ≤ 1000000000) => pr4 (a := p) (b := d) (B := 10000000) hp (by omega))
  have HLB := Lib.hid (fun k (hk : k ≤ 100) => loN_bd (n := n) (d := d) hd0 (by omega) k hk)
  have HHB := Lib.hid (fun k (hk : k ≤ 100) => hiN_bd (n := n) (d := d) hd0 (by omega) k hk)
  clear hn hd0 hd
  go_enter Tryz.func18, Tryz.ntmps18
  go_wp2_with fail
  obtain ⟨W, hW⟩ : ∃ W, ((w.alloc (.cells #[.string ⟨#[]⟩, .string ⟨#[]⟩] 24)).alloc (.cells #[.string ⟨#[]⟩, .string ⟨#[]⟩] 24)) = W := ⟨_, rfl⟩
  try rw [hW]
  obtain ⟨hX, hBW⟩ := B2.of hW
  have HB := Lib.hid hBW
  have HXB := Lib.hid (fun wz (hb : Below W.heap.size W wz) => hX.later hb)
  clear hW hX hBW
  go_loopw [8, 9, 10, 11, 12] (fun va vb vx vy vq wr => ∃ k : Nat, k ≤ b ∧ vq = .int .i64 ((k : Int) + 1) ∧ va = .int .i64 (loN n d k).1 ∧ vb = .int .i64 (loN n d k).2 ∧ vx = .int .i64 (hiN n d k).1 ∧ vy = .int .i64 (hiN n d k).2 ∧ Below W.heap.size W wr) (fun _ _ _ _ vq _ => b + 1 - (intOf vq).toNat)
  case atStart => exact ⟨0, Nat.zero_le _, by first | rfl | (simp; done), rfl, rfl, rfl, rfl, Below.refl _ _⟩
  case round =>
    obtain ⟨k, hk, rfl, rfl, rfl, rfl, rfl, hB⟩ := hrel
    have HBR := Lib.hid hB
    clear hB
    have hlb := HLB.out k (by omega)
    have hhb := HHB.out k (by omega)
    by_cases hkb : k = b
    · subst hkb
      have hlt : ¬ (k : Int) + 1 ≤ (k : Int) := by omega
      have HM1 := Lib.hid (fun w => r4make_any (loN n d k).1 (loN n d k).2 w ⟨by omega, by omega⟩ (hlb.2.2.2 hb0) (by omega))
      have HM2 := Lib.hid (fun w => r4make_any (hiN n d k).1 (hiN n d k).2 w ⟨by omega, by omega⟩ (hhb.2.2.2 hb0) (by omega))
      obtain ⟨Y1, hY1⟩ : ∃ Y, tr (loN n d k) = Y := ⟨_, rfl⟩
      obtain ⟨Y2, hY2⟩ : ∃ Y, tr (hiN n d k) = Y := ⟨_, rfl⟩
      rw [show Rat.divInt (loN n d k).1 (loN n d k).2 = Y1 from hY1] at HM1
      rw [show Rat.divInt (hiN n d k).1 (hiN n d k).2 = Y2 from hY2] at HM2
      have HY1 := Lib.hid hY1
      have HY2 := Lib.hid hY2
      obtain ⟨x1, hx1⟩ : ∃ x, (loN n d k).1 = x := ⟨_, rfl⟩
      obtain ⟨x2, hx2⟩ : ∃ x, (loN n d k).2 = x := ⟨_, rfl⟩
      obtain ⟨x3, hx3⟩ : ∃ x, (hiN n d k).1 = x := ⟨_, rfl⟩
      obtain ⟨x4, hx4⟩ : ∃ x, (hiN n d k).2 = x := ⟨_, rfl⟩
      rw [hx1, hx2] at HM1 ⊢
      rw [hx3, hx4] at HM2 ⊢
      clear hx1 hx2 hx3 hx4 hY1 hY2 hlb hhb
      go_wp2_with fail
      refine (HM1.out wr).mono ?_
      rintro e w5 ⟨rfl, hb5⟩
      have hz5 := bel_chain HBR.out hb5
      clear hb5
      go_wp2_with fail
      refine (HM2.out w5).mono ?_
      rintro e w6 ⟨rfl, hb6⟩
      have hz6 := bel_chain hz5 hb6
      have HL6 := Lib.hid (HXB.out _ hz6)
      obtain ⟨⟨_, c0, c1, f0, f1⟩, ⟨_, c2, c3, f2, f3⟩⟩ := HXB.out _ hz6
      clear hb6 hz5
      go_wp2_with fail
      refine ret_cell2 rfl rfl rfl (load_rat (g := w.heap.size) ((HL6.out.store0 _ _).store1 _ _).1) (load_rat (g := w.heap.size + 1) ((HL6.out.store0 _ _).store1 _ _).2) rfl ?_
      rw [HY1.out, HY2.out]
      exact ⟨rfl, ((((bel_chain HB.out hz6).setCell (by simp <;> omega) _).setCell (by simp <;> omega) _).setCell (by simp <;> omega) _).setCell (by simp <;> omega) _⟩
    have hlt : (k : Int) + 1 ≤ (b : Int) := by omega
    obtain ⟨q, hq⟩ : ∃ q : Int, (k : Int) + 1 = q := ⟨_, rfl⟩
    have HQK := Lib.hid hq
    rw [hq] at hlt
    have hqb : q.natAbs ≤ 100 := by omega
    have hpk := (HPB.out q hqb).1
    have hpr := HPR.out q hqb
    have HL1 := Lib.hid (show loN n d (k + 1) = loStep n d (loN n d k) q from hq ▸ rfl)
    have HH1 := Lib.hid (show hiN n d (k + 1) = hiStep n d (hiN n d k) q from hq ▸ rfl)
    rw [HQK.out]
    have hw1 : IntKind.i64.wrap (n * q) = n * q := IntWalk.i64_in _ (by omega)
    have HFL := Lib.hid (fun w => HFLR.out (n * q) w ⟨by omega, by omega⟩)
    have HLP := Lib.hid (show loP n d q = if n * q / d * d = n * q then n * q / d - 1 else n * q / d from rfl)
    obtain ⟨p0, hp0⟩ : ∃ p, n * q / d = p := ⟨_, rfl⟩
    have HHS := Lib.hid (show hiStep n d (hiN n d k) q = if (hiN n d k).2 = 0 ∨ (p0 + 1) * (hiN n d k).2 < (hiN n d k).1 * q then (p0 + 1, q) else hiN n d k by rw [← hp0]; rfl)
    rw [hp0] at hpk HFL HLP
    have hpd := HPD.out p0 (by omega)
    have hw2 : IntKind.i64.wrap (p0 + 1) = p0 + 1 := IntWalk.i64_in _ (by omega)
    have hw3 : IntKind.i64.wrap (q + 1) = q + 1 := IntWalk.i64_in _ (by omega)
    have hw4 : IntKind.i64.wrap (p0 - 1) = p0 - 1 := IntWalk.i64_in _ (by omega)
    have hw5 : IntKind.i64.wrap (p0 * d) = p0 * d := IntWalk.i64_in _ (by omega)
    have HLS := Lib.hid (show loStep n d (loN n d k) q = if (loN n d k).2 = 0 ∨ (loN n d k).1 * q < loP n d q * (loN n d k).2 then (loP n d q, q) else loN n d k from rfl)
    clear hpr hpd hq hp0
    obtain ⟨P, hP⟩ : ∃ P, loP n d q = P := ⟨_, rfl⟩
    rw [hP] at HLP HLS
    have hPc : (p0 * d = n * q ∧ P = p0 - 1) ∨ (¬ p0 * d = n * q ∧ P = p0) := by
      rw [HLP.out]
      by_cases h : p0 * d = n * q
      · exact .inl ⟨h, if_pos h⟩
      · exact .inr ⟨h, if_neg h⟩
    clear hP HLP
    by_cases hk0 : k = 0
    · subst hk0
      have HNL := Lib.hid (show loN n d 1 = (P, q) by rw [HL1.out, HLS.out]; exact if_pos (.inl rfl))
      have HNH := Lib.hid (show hiN n d 1 = (p0 + 1, q) by rw [HH1.out, HHS.out]; exact if_pos (.inl rfl))
      rw [show (loN n d 0).1 = 0 from rfl, show (loN n d 0).2 = 0 from rfl, show (hiN n d 0).1 = 0 from rfl, show (hiN n d 0).2 = 0 from rfl]
      clear hlb hhb HLS HHS HL1 HH1
      rcases hPc with ⟨hc, rfl⟩ | ⟨hc, rfl⟩
      · go_wp2_with fail
        refine (HFL.out wr).mono ?_
        rintro e w5 ⟨rfl, hb5⟩
        have hz5 := bel_chain HBR.out hb5
        clear hb5
        go_wp2_with fail
        refine (HFL.out w5).mono ?_
        rintro e w6 ⟨rfl, hb6⟩
        have hz6 := bel_chain hz5 hb6
        clear hb6 hz5
        go_wp2_with fail
        go_roundw
        case rel => exact ⟨1, by omega, by have hqk := HQK.out; congr 1; omega, by rw [HNL.out], by rw [HNL.out], by rw [HNH.out], by rw [HNH.out], hz6⟩
        case measure => have hqk := HQK.out; simp [intOf]; omega
      · go_wp2_with fail
        refine (HFL.out wr).mono ?_
        rintro e w5 ⟨rfl, hb5⟩
        have hz5 := bel_chain HBR.out hb5
        clear hb5
        go_wp2_with fail
        refine (HFL.out w5).mono ?_
        rintro e w6 ⟨rfl, hb6⟩
        have hz6 := bel_chain hz5 hb6
        clear hb6 hz5
        go_wp2_with fail
        go_roundw
        case rel => exact ⟨1, by omega, by have hqk := HQK.out; congr 1; omega, by rw [HNL.out], by rw [HNL.out], by rw [HNH.out], by rw [HNH.out], hz6⟩
        case measure => have hqk := HQK.out; simp [intOf]; omega
    · obtain ⟨l1, l2, l3, l4⟩ := hlb
      obtain ⟨m1, m2, m3, m4⟩ := hhb
      have l4 := l4 (by omega)
      have m4 := m4 (by omega)
      have HLP := Lib.hid (show loN n d k = ((loN n d k).1, (loN n d k).2) from rfl)
      have HHP := Lib.hid (show hiN n d k = ((hiN n d k).1, (hiN n d k).2) from rfl)
      obtain ⟨a1, ha1⟩ : ∃ x, (loN n d k).1 = x := ⟨_, rfl⟩
      obtain ⟨b1, hb1⟩ : ∃ x, (loN n d k).2 = x := ⟨_, rfl⟩
      obtain ⟨x1, hx1⟩ : ∃ x, (hiN n d k).1 = x := ⟨_, rfl⟩
      obtain ⟨y1, hy1⟩ : ∃ x, (hiN n d k).2 = x := ⟨_, rfl⟩
      rw [ha1] at l1 HLP HLS
      rw [hb1] at l2 l3 l4 HLP HLS
      rw [hx1] at m1 HHP HHS
      rw [hy1] at m2 m3 m4 HHP HHS
      rw [ha1, hb1, hx1, hy1]
      clear ha1 hb1 hx1 hy1
      have hPb : P.natAbs ≤ 1000000001 := by rcases hPc with ⟨_, h⟩ | ⟨_, h⟩ <;> omega
      have r1 := pr4 (a := a1) (b := q) l1 hqb
      have r2 := pr4 (a := P) (b := b1) (B := 100) hPb (by omega)
      have r3 := pr4 (a := p0 + 1) (b := y1) (A := 1000000001) (B := 100) (by omega) (by omega)
      have r4 := pr4 (a := x1) (b := q) m1 hqb
      have u1 : IntKind.i64.wrap (a1 * q) = a1 * q := IntWalk.i64_in _ (by omega)
      have u2 : IntKind.i64.wrap (P * b1) = P * b1 := IntWalk.i64_in _ (by omega)
      have u3 : IntKind.i64.wrap ((p0 + 1) * y1) = (p0 + 1) * y1 := IntWalk.i64_in _ (by omega)
      have u4 : IntKind.i64.wrap (x1 * q) = x1 * q := IntWalk.i64_in _ (by omega)
      have hb0' : (b1 == 0) = false := by rw [beq_eq_false_iff_ne]; omega
      have hy0' : (y1 == 0) = false := by rw [beq_eq_false_iff_ne]; omega
      have hbz : ¬ b1 = 0 := by omega
      have hyz : ¬ y1 = 0 := by omega
      clear r1 r2 r3 r4 l1 l2 l3 l4 m1 m2 m3 m4 hPb
      by_cases t1 : a1 * q < P * b1
      · have HNL := Lib.hid (show loN n d (k + 1) = (P, q) by rw [HL1.out, HLS.out]; exact if_pos (.inr t1))
        by_cases t2 : (p0 + 1) * y1 < x1 * q
        · have HNH := Lib.hid (show hiN n d (k + 1) = (p0 + 1, q) by rw [HH1.out, HHS.out]; exact if_pos (.inr t2))
          clear HLS HHS HL1 HH1 HLP HHP
          rcases hPc with ⟨hc, rfl⟩ | ⟨hc, rfl⟩
          · go_wp2_with fail
            refine (HFL.out wr).mono ?_
            rintro e w5 ⟨rfl, hb5⟩
            have hz5 := bel_chain HBR.out hb5
            clear hb5
            go_wp2_with fail
            refine (HFL.out w5).mono ?_
            rintro e w6 ⟨rfl, hb6⟩
            have hz6 := bel_chain hz5 hb6
            clear hb6 hz5
            go_wp2_with fail
            go_roundw
            case rel => exact ⟨k + 1, by omega, by have hqk := HQK.out; congr 1; omega, by rw [HNL.out], by rw [HNL.out], by rw [HNH.out], by rw [HNH.out], hz6⟩
            case measure => have hqk := HQK.out; simp [intOf]; omega
          · go_wp2_with fail
            refine (HFL.out wr).mono ?_
            rintro e w5 ⟨rfl, hb5⟩
            have hz5 := bel_chain HBR.out hb5
            clear hb5
            go_wp2_with fail
            refine (HFL.out w5).mono ?_
            rintro e w6 ⟨rfl, hb6⟩
            have hz6 := bel_chain hz5 hb6
            clear hb6 hz5
            go_wp2_with fail
            go_roundw
            case rel => exact ⟨k + 1, by omega, by have hqk := HQK.out; congr 1; omega, by rw [HNL.out], by rw [HNL.out], by rw [HNH.out], by rw [HNH.out], hz6⟩
            case measure => have hqk := HQK.out; simp [intOf]; omega
        · have HNH := Lib.hid (show hiN n d (k + 1) = (x1, y1) by rw [HH1.out, HHS.out, if_neg (by rintro (h | h); exact hyz h; exact t2 h)]; exact HHP.out)
          clear HLS HHS HL1 HH1 HLP HHP
          rcases hPc with ⟨hc, rfl⟩ | ⟨hc, rfl⟩
          · go_wp2_with fail
            refine (HFL.out wr).mono ?_
            rintro e w5 ⟨rfl, hb5⟩
            have hz5 := bel_chain HBR.out hb5
            clear hb5
            go_wp2_with fail
            refine (HFL.out w5).mono ?_
            rintro e w6 ⟨rfl, hb6⟩
            have hz6 := bel_chain hz5 hb6
            clear hb6 hz5
            go_wp2_with fail
            go_roundw
            case rel => exact ⟨k + 1, by omega, by have hqk := HQK.out; congr 1; omega, by rw [HNL.out], by rw [HNL.out], by rw [HNH.out], by rw [HNH.out], hz6⟩
            case measure => have hqk := HQK.out; simp [intOf]; omega
          · go_wp2_with fail
            refine (HFL.out wr).mono ?_
            rintro e w5 ⟨rfl, hb5⟩
            have hz5 := bel_chain HBR.out hb5
            clear hb5
            go_wp2_with fail
            refine (HFL.out w5).mono ?_
            rintro e w6 ⟨rfl, hb6⟩
            have hz6 := bel_chain hz5 hb6
            clear hb6 hz5
            go_wp2_with fail
            go_roundw
            case rel => exact ⟨k + 1, by omega, by have hqk := HQK.out; congr 1; omega, by rw [HNL.out], by rw [HNL.out], by rw [HNH.out], by rw [HNH.out], hz6⟩
            case measure => have hqk := HQK.out; simp [intOf]; omega
      · have HNL := Lib.hid (show loN n d (k + 1) = (a1, b1) by rw [HL1.out, HLS.out, if_neg (by rintro (h | h); exact hbz h; exact t1 h)]; exact HLP.out)
        by_cases t2 : (p0 + 1) * y1 < x1 * q
        · have HNH := Lib.hid (show hiN n d (k + 1) = (p0 + 1, q) by rw [HH1.out, HHS.out]; exact if_pos (.inr t2))
          clear HLS HHS HL1 HH1 HLP HHP
          rcases hPc with ⟨hc, rfl⟩ | ⟨hc, rfl⟩
          · go_wp2_with fail
            refine (HFL.out wr).mono ?_
            rintro e w5 ⟨rfl, hb5⟩
            have hz5 := bel_chain HBR.out hb5
            clear hb5
            go_wp2_with fail
            refine (HFL.out w5).mono ?_
            rintro e w6 ⟨rfl, hb6⟩
            have hz6 := bel_chain hz5 hb6
            clear hb6 hz5
            go_wp2_with fail
            go_roundw
            case rel => exact ⟨k + 1, by omega, by have hqk := HQK.out; congr 1; omega, by rw [HNL.out], by rw [HNL.out], by rw [HNH.out], by rw [HNH.out], hz6⟩
            case measure => have hqk := HQK.out; simp [intOf]; omega
          · go_wp2_with fail
            refine (HFL.out wr).mono ?_
            rintro e w5 ⟨rfl, hb5⟩
            have hz5 := bel_chain HBR.out hb5
            clear hb5
            go_wp2_with fail
            refine (HFL.out w5).mono ?_
            rintro e w6 ⟨rfl, hb6⟩
            have hz6 := bel_chain hz5 hb6
            clear hb6 hz5
            go_wp2_with fail
            go_roundw
            case rel => exact ⟨k + 1, by omega, by have hqk := HQK.out; congr 1; omega, by rw [HNL.out], by rw [HNL.out], by rw [HNH.out], by rw [HNH.out], hz6⟩
            case measure => have hqk := HQK.out; simp [intOf]; omega
        · have HNH := Lib.hid (show hiN n d (k + 1) = (x1, y1) by rw [HH1.out, HHS.out, if_neg (by rintro (h | h); exact hyz h; exact t2 h)]; exact HHP.out)
          clear HLS HHS HL1 HH1 HLP HHP
          rcases hPc with ⟨hc, rfl⟩ | ⟨hc, rfl⟩
          · go_wp2_with fail
            refine (HFL.out wr).mono ?_
            rintro e w5 ⟨rfl, hb5⟩
            have hz5 := bel_chain HBR.out hb5
            clear hb5
            go_wp2_with fail
            refine (HFL.out w5).mono ?_
            rintro e w6 ⟨rfl, hb6⟩
            have hz6 := bel_chain hz5 hb6
            clear hb6 hz5
            go_wp2_with fail
            go_roundw
            case rel => exact ⟨k + 1, by omega, by have hqk := HQK.out; congr 1; omega, by rw [HNL.out], by rw [HNL.out], by rw [HNH.out], by rw [HNH.out], hz6⟩
            case measure => have hqk := HQK.out; simp [intOf]; omega
          · go_wp2_with fail
            refine (HFL.out wr).mono ?_
            rintro e w5 ⟨rfl, hb5⟩
            have hz5 := bel_chain HBR.out hb5
            clear hb5
            go_wp2_with fail
            refine (HFL.out w5).mono ?_
            rintro e w6 ⟨rfl, hb6⟩
            have hz6 := bel_chain hz5 hb6
            clear hb6 hz5
            go_wp2_with fail
            go_roundw
            case rel => exact ⟨k + 1, by omega, by have hqk := HQK.out; congr 1; omega, by rw [HNL.out], by rw [HNL.out], by rw [HNH.out], by rw [HNH.out], hz6⟩
            case measure => have hqk := HQK.out; simp [intOf]; omega
end Go.Proofs.YtpafocfpofnkpaaGreatDoor
