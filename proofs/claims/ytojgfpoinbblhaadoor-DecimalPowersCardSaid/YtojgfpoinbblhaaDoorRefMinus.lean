/- The walk of the first chapter's reference Minus: a - b, for b at most a. -/
import Derived.Test.YtojgfpoinbblhaaDoorRefAdd
namespace Go.Proofs.YtojgfpoinbblhaaDoor
open Go.RowKit Go.PlainAid

def Borrow (a b i c : Nat) : Prop := a / 10 ^ i = b / 10 ^ i + c + (a - b) / 10 ^ i ∧ c ≤ 1
theorem Borrow.start {a b : Nat} (h : b ≤ a) : Borrow a b 0 0 := ⟨by rw [Nat.pow_zero, Nat.div_one, Nat.div_one, Nat.div_one]; omega, by omega⟩
theorem Borrow.step {a b i c : Nat} (h : Borrow a b i c) :
    Borrow a b (i + 1) (if a / 10 ^ i % 10 < b / 10 ^ i % 10 + c then 1 else 0) ∧ (if a / 10 ^ i % 10 < b / 10 ^ i % 10 + c then a / 10 ^ i % 10 + 10 - b / 10 ^ i % 10 - c else a / 10 ^ i % 10 - b / 10 ^ i % 10 - c) = (a - b) / 10 ^ i % 10 := by
  obtain ⟨h1, h2⟩ := h
  unfold Borrow
  rw [Nat.pow_succ, ← Nat.div_div_eq_div_mul, ← Nat.div_div_eq_div_mul, ← Nat.div_div_eq_div_mul, h1]
  split <;> omega
set_option maxRecDepth 100000 in
set_option maxHeartbeats 2000000 in
theorem rminus_big (a b : Nat) (w : World) (ha : Lib.nDigits a ≤ 1000000) (hba : b ≤ a) (h : ¬ (Lib.nDigits a ≤ 18 ∧ Lib.nDigits b ≤ 18)) :
    Calls Tryd.prog 40 #[.string (dec a), .string (dec b)] w (StrPost (dec (a - b)) w) := by
  have hb := nd_mono hba
  have h18 : 18 < Lib.nDigits a := by omega
  obtain ⟨n, hn⟩ : ∃ n : Nat, n = Lib.nDigits a := ⟨_, rfl⟩
  have hmx : ((dec a).size : Int) = (n : Int) := by rw [dec_size, hn]
  have hsum : a - b < 10 ^ n := by
    have h1 := Lib.lt_pow_nDigits a
    rw [hn]; omega
  have hn2 : n ≤ 1000000 := by omega
  have hn1 : 1 ≤ n := by omega
  have HSUM := Lib.hid hsum
  have HS := Lib.hid (Borrow.start hba)
  have hmk := make_Bc 23 Tryd.underlying23 n n (Nat.le_refl _) (by omega) w
  clear hsum hn h hba
  go_enter Tryd.func40, Tryd.ntmps40
  go_wp2_with fail
  refine (rquick_no a _ h18).mono ?_
  rintro e w1 ⟨rfl, rfl⟩
  obtain ⟨vb, fb, hbq⟩ : ∃ (vb : Int) (fb : Bool), ∀ w1, Calls Tryd.prog 43 #[.string (dec b)] w1 fun e w' => e = .returned (.tuple #[.int .u64 vb, .bool fb]) ∧ w1 = w' := by
    by_cases hb18 : Lib.nDigits b ≤ 18
    · exact ⟨_, _, fun w1 => rquick_yes b w1 hb18⟩
    · exact ⟨_, _, fun w1 => rquick_no b w1 (by omega)⟩
  have HBQ := Lib.hid hbq
  clear hbq
  go_wp2_with fail
  refine (HBQ.out _).mono ?_
  rintro e w1 ⟨rfl, rfl⟩
  go_wp2_with fail
  clear hmk hmx
  go_loopw [11, 12] (fun vc vi wr => ∃ c i : Nat, i ≤ n ∧ c ≤ 1 ∧ vc = .int .i64 (c : Int) ∧ vi = .int .i64 (i : Int) ∧ Borrow a b i c ∧ AddAt n i (a - b) w wr) (fun _ vi _ => n - (intOf vi).toNat)
  case atStart => exact ⟨0, 0, by omega, by omega, rfl, rfl, HS.out, (Below.refl _ _).alloc (Nat.le_refl _) _, _, RowAt.start n _ _ (by simp), Bc.made w n n (Nat.le_refl _) (by omega)⟩
  case round =>
    obtain ⟨c, i, hi, hc1, rfl, rfl, hC, hb0, ys, hR, hp⟩ := hrel
    by_cases hin : i = n
    · subst hin
      have hf := hR.fin HSUM.out
      have hrt := rtrim_any _ _ _ ys wr hp hn1 hf.1
      rw [hf.2] at hrt
      have HRT := Lib.hid hrt
      clear hrt hf hR hp hC
      go_wp2_with fail
      refine HRT.out.mono ?_
      rintro e w1 ⟨rfl, rfl⟩
      go_wp2_with fail
      go_ret
      exact ⟨rfl, hb0⟩
    · have hin' : i < n := by omega
      obtain ⟨j, hj⟩ : ∃ j, j + i + 1 = n := ⟨n - 1 - i, by omega⟩
      have hji : (n : Int) - 1 - (i : Int) = (j : Int) := by omega
      have hst := hC.step
      have hrs := hR.step hin' j hj
      have hcell := hp.cell j (by omega)
      have hfr := hp.free j
      have hset := hp.set j (UInt8.ofNat (48 + (a - b) / 10 ^ i % 10))
      rw [ofNat_toNat_dig _ (by omega)] at hset
      have hda := rdigit_any a i wr (by omega) (by omega)
      have hdb := rdigit_any b i wr (by omega) (by omega)
      rw [← hst.2] at hset hrs
      have ha10 : a / 10 ^ i % 10 < 10 := Nat.mod_lt _ (by decide)
      have hb10 : b / 10 ^ i % 10 < 10 := Nat.mod_lt _ (by decide)
      have HST := Lib.hid hst.1
      obtain ⟨x, hx⟩ : ∃ x, a / 10 ^ i % 10 = x := ⟨_, rfl⟩
      obtain ⟨y, hy⟩ : ∃ y, b / 10 ^ i % 10 = y := ⟨_, rfl⟩
      rw [hx] at hset hrs hda ha10 HST
      rw [hy] at hset hrs hdb hb10 HST
      have HDA := Lib.hid hda
      have HDB := Lib.hid hdb
      have HJ := Lib.hid hj
      have hjn : (j : Int) < (n : Int) := by omega
      clear hda hdb hx hy hst hC hR hp hin hj
      generalize (ys.getD j 0).toNat = q at *
      by_cases hlt : x < y + c
      · rw [if_pos hlt] at hset hrs HST
        obtain ⟨d, hd⟩ : ∃ d, x + 10 - y - c = d := ⟨_, rfl⟩
        rw [hd] at hset hrs
        have hdi : (x : Int) - (y : Int) - (c : Int) + 10 = (d : Int) := by omega
        rw [show ((48 + d : Nat) : Int) = 48 + (d : Int) by omega] at hset
        have hd9 : d ≤ 9 := by omega
        have hneg : (x : Int) - (y : Int) - (c : Int) < 0 := by omega
        have HSET := Lib.hid hset
        have HRS := Lib.hid hrs
        clear hset hrs hd hlt
        go_wp2_with fail
        refine HDA.out.mono ?_
        rintro e w1 ⟨rfl, rfl⟩
        go_wp2_with fail
        refine HDB.out.mono ?_
        rintro e w1 ⟨rfl, rfl⟩
        go_wp2_with fail
        exact ⟨⟨1, i + 1, by omega, by omega, rfl, by go_num, HST.out, hb0.setCell (Nat.le_refl _) _, _, HRS.out, HSET.out⟩, by simp [intOf]; omega⟩
      · rw [if_neg hlt] at hset hrs HST
        obtain ⟨d, hd⟩ : ∃ d, x - y - c = d := ⟨_, rfl⟩
        rw [hd] at hset hrs
        have hdi : (x : Int) - (y : Int) - (c : Int) = (d : Int) := by omega
        rw [show ((48 + d : Nat) : Int) = 48 + (d : Int) by omega] at hset
        have hd9 : d ≤ 9 := by omega
        have HSET := Lib.hid hset
        have HRS := Lib.hid hrs
        clear hset hrs hd hlt
        go_wp2_with fail
        refine HDA.out.mono ?_
        rintro e w1 ⟨rfl, rfl⟩
        go_wp2_with fail
        refine HDB.out.mono ?_
        rintro e w1 ⟨rfl, rfl⟩
        go_wp2_with fail
        exact ⟨⟨0, i + 1, by omega, by omega, rfl, by go_num, HST.out, hb0.setCell (Nat.le_refl _) _, _, HRS.out, HSET.out⟩, by simp [intOf]; omega⟩
theorem rminus_any (a b : Nat) (w : World) (ha : Lib.nDigits a ≤ 1000000) (hba : b ≤ a) :
    Calls Tryd.prog 40 #[.string (dec a), .string (dec b)] w (StrPost (dec (a - b)) w) := by
  by_cases h : Lib.nDigits a ≤ 18 ∧ Lib.nDigits b ≤ 18
  · have h1 := (nd_le_iff a 17).1 h.1
    have hof := fun w1 => rof_any (a - b) w1 (by omega)
    rw [Int.ofNat_sub hba] at hof
    have HOF := Lib.hid hof
    have h3 : a < 1000000000000000000 := h1
    clear hof h1
    go_enter Tryd.func40, Tryd.ntmps40
    go_wp2_with fail
    refine (rquick_yes a _ h.1).mono ?_
    rintro e w1 ⟨rfl, rfl⟩
    go_wp2_with fail
    refine (rquick_yes b _ h.2).mono ?_
    rintro e w1 ⟨rfl, rfl⟩
    go_wp2_with fail
    refine (HOF.out _).mono ?_
    rintro e w1 ⟨rfl, hb1⟩
    go_wp2_with fail
    go_ret
    exact ⟨rfl, hb1⟩
  · exact rminus_big a b w ha hba h
end Go.Proofs.YtojgfpoinbblhaaDoor
