/- Greater text, out of: Q8. -/
import Derived.Test.YtolnojkdalbppaaGreatDoorQ6
namespace Go.Proofs.YtolnojkdalbppaaGreatDoor
open Go.RowKit Go.PlainAid

/-- The exponents of a sign. -/
def pws (s : Int) (xs : List Int) : List Nat := xs.map fun x => (s * x).toNat
theorem pws_one (xs : List Int) : pws 1 xs = ups xs := by simp [pws, ups]
theorem pws_neg (xs : List Int) : pws (-1) xs = dns xs := by simp [pws, dns]
theorem pws_len (s : Int) (xs : List Int) : (pws s xs).length = xs.length := by simp [pws]
theorem pws_get (s : Int) (xs : List Int) (i : Nat) (h : i < xs.length) : (pws s xs).getD i 0 = (s * xs.getD i 0).toNat := by
  simp [pws, List.getD_eq_getElem?_getD, List.getElem?_eq_getElem h]
/-- What power returns of a product. -/
def pwV (P : Nat) : Value := if nz (P : Int) ≤ 400 then .tuple #[.string (itx (P : Int)), .bool true] else .tuple #[.string ⟨#[]⟩, .bool false]
theorem pwV_yes {P : Nat} (h : nz (P : Int) ≤ 400) : pwV P = .tuple #[.string (itx (P : Int)), .bool true] := if_pos h
theorem pwV_no {P : Nat} (h : ¬ nz (P : Int) ≤ 400) : pwV P = .tuple #[.string ⟨#[]⟩, .bool false] := if_neg h
theorem nat_pow_pos2 {p : Int} {e : Nat} (h : 2 ≤ p) : 1 ≤ p.toNat ^ e := Nat.pow_pos (by omega)
/-- A part of the product is not greater. -/
theorem prodTo_le {ps : List Int} {es : List Nat} (hp : ∀ i, i < ps.length → 2 ≤ ps.getD i 0) (hl : es.length = ps.length) : ∀ (m i : Nat), ps.length - i = m → i ≤ ps.length → prodTo ps es i ≤ prod ps es := by
  intro m
  induction m with
  | zero => intro i hm hi; rw [prodTo_all ps es i (by omega) (by omega)]; exact Nat.le_refl _
  | succ m ih =>
    intro i hm hi
    have h := ih (i + 1) (by omega) (by omega)
    rw [prodTo_succ ps es i (by omega) (by omega)] at h
    have h1 := nat_pow_pos2 (e := es.getD i 0) (hp i (by omega))
    have h2 := Nat.mul_le_mul_left (prodTo ps es i) h1
    omega
theorem prodTo_pow_le {ps : List Int} {es : List Nat} (hp : ∀ i, i < ps.length → 2 ≤ ps.getD i 0) (hl : es.length = ps.length) {i j : Nat} (hi : i < ps.length) (hj : j ≤ es.getD i 0) : prodTo ps es i * (ps.getD i 0).toNat ^ j ≤ prod ps es := by
  have h := prodTo_le hp hl _ (i + 1) rfl (by omega)
  rw [prodTo_succ ps es i hi (by omega)] at h
  have h1 := Nat.pow_le_pow_right (n := (ps.getD i 0).toNat) (by have := hp i hi; omega) hj
  have h2 := Nat.mul_le_mul_left (prodTo ps es i) h1
  omega
theorem itx_size_nat (P : Nat) : (itx (P : Int)).size = nz (P : Int) := by rw [itx_size, if_neg (by omega)]; omega

set_option maxRecDepth 100000 in
set_option maxHeartbeats 2000000 in
/-- prime.power. -/
theorem power_any (A A2 : Option Addr) (n cap cap2 : Nat) (ps xs : List Int) (s : Int) (w : World) (hamb : Amb w) (h : InZ w A n cap ps) (h2 : InZ w A2 n cap2 xs) (hn6 : n ≤ 6) (hps : ∀ i, i < ps.length → 2 ≤ ps.getD i 0 ∧ ps.getD i 0 ≤ 97)
    (hxs : ∀ i, i < xs.length → -1000 ≤ xs.getD i 0 ∧ xs.getD i 0 ≤ 1000) (hs : s = 1 ∨ s = -1) :
    Calls Tryz.prog 34 #[.slice A n cap, .slice A2 n cap2, .int .i64 s] w (SmallRes (pwV (prod ps (pws s xs))) w) := by
  have HL := Lib.hid h.1
  have HL2 := Lib.hid h2.1
  have hle := h.2.1
  have hcap := h.2.2.1
  have hcap2 := h2.2.2.1
  have hle2 := h2.2.1
  have HIN := Lib.hid (fun wz (hb : Below w.heap.size w wz) => (h.below hb).2.2.2)
  have HIN2 := Lib.hid (fun wz (hb : Below w.heap.size w wz) => (h2.below hb).2.2.2)
  have HAMB := Lib.hid (fun wz (hb : Below w.heap.size w wz) => hamb.below hb)
  have HPS := Lib.hid hps
  have HSX := Lib.hid (fun i (hi : i < n) => show -1000 ≤ s * xs.getD i 0 ∧ s * xs.getD i 0 ≤ 1000 by
    have := hxs i (by rw [h2.1]; exact hi)
    rcases hs with rfl | rfl <;> omega)
  obtain ⟨es, hes⟩ : ∃ es, pws s xs = es := ⟨_, rfl⟩
  have HEL := Lib.hid (show es.length = ps.length by rw [← hes, pws_len, h.1, h2.1])
  have HEG := Lib.hid (fun i (hi : i < n) => show es.getD i 0 = (s * xs.getD i 0).toNat by rw [← hes, pws_get s xs i (by rw [h2.1]; exact hi)])
  rw [hes]
  have HP2 := Lib.hid (fun i (hi : i < ps.length) => (hps i hi).1)
  obtain ⟨P, hP⟩ : ∃ P, prod ps es = P := ⟨_, rfl⟩
  have HP := Lib.hid hP
  rw [hP]
  have HZ1 := Lib.hid itx_lit_one
  clear h h2 hamb hps hxs hes hP hs
  go_enter Tryz.func34, Tryz.ntmps34
  go_wp2_with fail
  go_loopw [8, 13] (fun vo vi wr => ∃ i : Nat, i ≤ n ∧ vi = .int .i64 (i : Int) ∧ vo = .string (itx ((prodTo ps es i : Nat) : Int)) ∧ nz ((prodTo ps es i : Nat) : Int) ≤ 400 ∧ Below w.heap.size w wr) (fun _ vi _ => n - (intOf vi).toNat)
  case atStart => exact ⟨0, Nat.zero_le _, rfl, by rw [prodTo_zero]; exact congrArg Value.string HZ1.out.symm, by rw [prodTo_zero]; exact Nat.le_trans (show nz ((1 : Nat) : Int) ≤ 1 from (nz_le_iff 1 0).2 (by decide)) (by omega), Below.refl _ _⟩
  case round =>
    obtain ⟨i, hi, rfl, rfl, hnz, hB⟩ := hrel
    obtain ⟨wo, rfl⟩ : ∃ wo : World, wo = wr := ⟨_, rfl⟩
    by_cases hin : i = n
    · have HPE := Lib.hid (show prodTo ps es i = P by rw [prodTo_all ps es i (by rw [HL.out]; omega) (by rw [HEL.out, HL.out]; omega)]; exact HP.out)
      rw [HPE.out] at hnz ⊢
      have HNZ := Lib.hid hnz
      have hlt : ¬ (i : Int) < (n : Int) := by omega
      subst hin
      clear hnz
      go_wp2_with fail
      go_ret2
      exact ⟨by rw [pwV_yes HNZ.out]; rfl, hB⟩
    · have hlt : (i : Int) < (n : Int) := by omega
      obtain ⟨b, off, rfl, hbl, hc⟩ := HIN.out _ hB (by omega)
      obtain ⟨b2, off2, rfl, hbl2, hc2⟩ := HIN2.out _ hB (by omega)
      have hcell := hc i (by omega)
      have hcell2 := hc2 i (by omega)
      have HE := Lib.hid (HEG.out i (by omega))
      have hsx := HSX.out i (by omega)
      have HPB := Lib.hid (HPS.out i (by rw [HL.out]; omega))
      have HSC := Lib.hid (prodTo_succ ps es i (by rw [HL.out]; omega) (by rw [HEL.out, HL.out]; omega))
      have HLE := Lib.hid (fun j (hj : j ≤ es.getD i 0) => HP.out ▸ prodTo_pow_le HP2.out HEL.out (i := i) (j := j) (by rw [HL.out]; omega) hj)
      obtain ⟨Q, hQ⟩ : ∃ Q, prodTo ps es i = Q := ⟨_, rfl⟩
      obtain ⟨p, hp⟩ : ∃ p, ps.getD i 0 = p := ⟨_, rfl⟩
      obtain ⟨x, hx⟩ : ∃ x, xs.getD i 0 = x := ⟨_, rfl⟩
      obtain ⟨e, he⟩ : ∃ e, es.getD i 0 = e := ⟨_, rfl⟩
      rw [hQ] at HSC HLE hnz ⊢
      rw [hp] at HSC HLE HPB hcell
      rw [hx] at hcell2 HE hsx
      rw [he] at HSC HLE HE
      have hmx : max (s * x) 0 = (e : Int) := by have := HE.out; omega
      have he1 : e ≤ 1000 := by omega
      have HNZ := Lib.hid hnz
      have HB := Lib.hid hB
      clear hc hc2 hQ hp hx he hnz hbl hbl2
      go_wp2_with fail
      go_loopw [8, 25] (fun vo vj wr => ∃ j : Nat, j ≤ e ∧ vj = .int .i64 (j : Int) ∧ vo = .string (itx ((Q * p.toNat ^ j : Nat) : Int)) ∧ nz ((Q * p.toNat ^ j : Nat) : Int) ≤ 400 ∧ Below w.heap.size w wr) (fun _ vj _ => e - (intOf vj).toNat)
      case atStart => exact ⟨0, Nat.zero_le _, rfl, by rw [Nat.pow_zero, Nat.mul_one], by rw [Nat.pow_zero, Nat.mul_one]; exact HNZ.out, HB.out⟩
      case round =>
        obtain ⟨j, hj, rfl, rfl, hnz, hB2⟩ := hrel
        by_cases hje : j = e
        · subst hje
          have hlt2 : ¬ (j : Int) < (j : Int) := by omega
          have HNZ2 := Lib.hid hnz
          clear hnz
          go_wp2_with fail
          go_roundw
          case rel => exact ⟨i + 1, by omega, by go_num, by rw [HSC.out], by rw [HSC.out]; exact HNZ2.out, hB2⟩
          case measure => simp [intOf]; omega
        · have hlt2 : (j : Int) < (e : Int) := by omega
          have HOF := Lib.hid (wof_any p wr (HAMB.out _ hB2) (by have := HPB.out; omega) (by have := HPB.out; omega))
          have HLJ := Lib.hid (HLE.out (j + 1) (by omega))
          have HMU := Lib.hid (fun wz (ha : Amb wz) => show Calls Tryz.prog 55 #[.string (itx ((Q * p.toNat ^ j : Nat) : Int)), .string (itx p)] wz (SmallRes (.string (itx ((Q * p.toNat ^ (j + 1) : Nat) : Int))) wz) from by
            have h := wmul_any ((Q * p.toNat ^ j : Nat) : Int) p wz ha (by omega) (Nat.le_trans (nz_i64 (by have := HPB.out; omega) (by have := HPB.out; omega)) (by omega))
            have e1 : ((Q * p.toNat ^ j : Nat) : Int) * p = ((Q * p.toNat ^ (j + 1) : Nat) : Int) := by
              have e2 : p = ((p.toNat : Nat) : Int) := by have := HPB.out; omega
              rw [Nat.pow_succ, ← Nat.mul_assoc, Int.natCast_mul (Q * p.toNat ^ j) p.toNat, ← e2]
            rw [e1] at h
            exact h)
          have HSZ := Lib.hid (itx_size_nat (Q * p.toNat ^ (j + 1)))
          obtain ⟨R, hR⟩ : ∃ R, Q * p.toNat ^ (j + 1) = R := ⟨_, rfl⟩
          rw [hR] at HMU HSZ HLJ
          have HR := Lib.hid hR
          obtain ⟨T, hT⟩ : ∃ T, itx ((Q * p.toNat ^ j : Nat) : Int) = T := ⟨_, rfl⟩
          rw [hT] at HMU ⊢
          clear hR hnz hT
          go_wp2_with fail
          refine HOF.out.mono ?_
          rintro e' w1 ⟨rfl, hb1⟩
          have hz1 := bel_chain hB2 hb1
          clear hb1
          go_wp2_with fail
          refine (HMU.out _ (HAMB.out _ hz1)).mono ?_
          rintro e' w2 ⟨rfl, hb2⟩
          have hz2 := bel_chain hz1 hb2
          clear hb2 hz1
          by_cases h4 : 400 < nz (R : Int)
          · have HNO := Lib.hid (show ¬ nz (P : Int) ≤ 400 from fun hh => by
              have := nz_le_nat HLJ.out hh
              omega)
            have h4' : 400 < ((itx (R : Int)).size : Int) := by rw [HSZ.out]; omega
            go_wp2_with fail
            go_ret2
            exact ⟨by rw [pwV_no HNO.out]; rfl, hz2⟩
          · have h4' : ¬ 400 < ((itx (R : Int)).size : Int) := by rw [HSZ.out]; omega
            have HN4 := Lib.hid (show nz (R : Int) ≤ 400 by omega)
            go_wp2_with fail
            go_roundw
            case rel => exact ⟨j + 1, by omega, by go_num, by rw [HR.out], by rw [HR.out]; exact HN4.out, hz2⟩
            case measure => simp [intOf]; omega
end Go.Proofs.YtolnojkdalbppaaGreatDoor
