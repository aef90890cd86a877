/- The walks of the first chapter's reference Gcd, Power and Bits. -/
import Derived.Test.YtojgfpoinbblhaaDoorRefMul
import Derived.Test.YtojgfpoinbblhaaDoorDec5
import Derived.Test.YtojgfpoinbblhaaDoorBitsP
namespace Go.Proofs.YtojgfpoinbblhaaDoor
open Go.RowKit Go.PlainAid

set_option maxRecDepth 100000 in
set_option maxHeartbeats 2000000 in
/-- schismaref01.Gcd. -/
theorem rgcd_any (a b : Nat) (w : World) (ha : Lib.nDigits a ≤ 100000) (hb : Lib.nDigits b ≤ 100000) :
    Calls Tryd.prog 33 #[.string (dec a), .string (dec b)] w (StrPost (dec (Nat.gcd a b)) w) := by
  go_enter Tryd.func33, Tryd.ntmps33
  go_wp2_with fail
  go_loopw [0, 1] (fun vx vy wr => ∃ x y : Nat, vx = .string (dec x) ∧ vy = .string (dec y) ∧ Nat.gcd x y = Nat.gcd a b ∧ Lib.nDigits x ≤ 100000 ∧ Lib.nDigits y ≤ 100000 ∧ Below w.heap.size w wr) (fun _ vy _ => strVal vy)
  case atStart => exact ⟨a, b, rfl, rfl, rfl, ha, hb, Below.refl _ _⟩
  case round =>
    obtain ⟨x, y, rfl, rfl, hg, hx, hy, hB⟩ := hrel
    obtain ⟨wo, rfl⟩ : ∃ wo : World, wo = wr := ⟨_, rfl⟩
    have HG := Lib.hid hg
    clear hg
    by_cases hy0 : y = 0
    · subst hy0
      have h0 := dec_zero_same
      have h1 : (!(dec 0).toList == [48]) = false := by rw [h0]; rfl
      go_wp2_with fail
      go_ret
      have := HG.out
      rw [Nat.gcd_zero_right] at this
      exact ⟨ret_str (by (rw [← this]) <;> rfl), hB⟩
    · have h0 := dec_zero_test hy0
      have h1 : (!(dec y).toList == [48]) = true := by rw [h0]; rfl
      by_cases h18 : Lib.nDigits x ≤ 18 ∧ Lib.nDigits y ≤ 18
      · obtain ⟨hx18, hy18⟩ := h18
        have hxv : x < 1000000000000000000 := (nd_le_iff x 17).1 hx18
        have hyv : y < 1000000000000000000 := (nd_le_iff y 17).1 hy18
        go_wp2_with fail
        refine (rquick_yes x _ hx18).mono ?_
        rintro e w1 ⟨rfl, rfl⟩
        go_wp2_with fail
        refine (rquick_yes y _ hy18).mono ?_
        rintro e w1 ⟨rfl, rfl⟩
        go_wp2_with fail
        clear h0 h1
        go_loopw [5, 7] (fun vu vv wr => ∃ u v : Nat, vu = .int .u64 (u : Int) ∧ vv = .int .u64 (v : Int) ∧ u < 1000000000000000000 ∧ v < 1000000000000000000 ∧ Hid (Nat.gcd u v = Nat.gcd a b) ∧ Below w.heap.size w wr) (fun _ vv _ => (intOf vv).toNat)
        case atStart => exact ⟨x, y, rfl, rfl, hxv, hyv, HG, hB⟩
        case round =>
          obtain ⟨u, v, rfl, rfl, hu, hv, HG2, hB2⟩ := hrel
          by_cases hv0 : v = 0
          · subst hv0
            have hof := fun w1 => rof_any u w1 (by omega)
            have HOF := Lib.hid hof
            clear hof
            go_wp2_with fail
            refine (HOF.out _).mono ?_
            rintro e w2 ⟨rfl, hb2⟩
            go_wp2_with fail
            go_ret
            have := HG2.out
            rw [Nat.gcd_zero_right] at this
            exact ⟨ret_str (by (rw [← this]) <;> rfl), bel_chain hB2 hb2⟩
          · have hv1 : (1 : Int) ≤ (v : Int) := by omega
            have hm := Nat.mod_lt u (Nat.pos_of_ne_zero hv0)
            have hg2 : Nat.gcd v (u % v) = Nat.gcd a b := by rw [← HG2.out, Nat.gcd_comm u v, Nat.gcd_rec v u, Nat.gcd_comm]
            have H1 := Lib.hid hm
            have H2 := Lib.hid hg2
            clear hm hg2
            go_wp2
            go_quiet (fail)
            go_wp2
            go_roundw
            case rel => exact ⟨v, u % v, rfl, vint (by omega), hv, by have := H1.out; omega, H2, bel_drewN hB2 _⟩
            case measure =>
              have := H1.out
              simp [intOf]
              omega
      · obtain ⟨va, vb, fa, fb, hfl, hqa, hqb⟩ := rquick_two x y h18
        have HQA := Lib.hid hqa
        have HQB := Lib.hid hqb
        have HFL := Lib.hid hfl
        have hm := Nat.mod_lt x (Nat.pos_of_ne_zero hy0)
        have hg2 : Nat.gcd y (x % y) = Nat.gcd a b := by rw [← HG.out, Nat.gcd_comm x y, Nat.gcd_rec y x, Nat.gcd_comm]
        have hr : Lib.nDigits (x % y) ≤ 100000 := Nat.le_trans (nd_mono (Nat.le_of_lt hm)) hy
        have H1 := Lib.hid hm
        have H2 := Lib.hid hg2
        have H3 := Lib.hid hr
        clear hqa hqb hfl hm hg2 hr
        cases fa with
        | true =>
          obtain rfl := HFL.out rfl
          go_wp2_with fail
          refine (HQA.out _).mono ?_
          rintro e w1 ⟨rfl, rfl⟩
          go_wp2_with fail
          refine (HQB.out _).mono ?_
          rintro e w1 ⟨rfl, rfl⟩
          go_wp2_with fail
          refine (rdivmod_any x y _ hx hy (Nat.pos_of_ne_zero hy0)).mono ?_
          rintro e w2 ⟨rfl, hb2⟩
          go_wp2_with fail
          go_roundw
          case rel => exact ⟨y, x % y, rfl, rfl, H2.out, hy, H3.out, bel_chain hB hb2⟩
          case measure =>
            show strVal (.string (dec (x % y))) < strVal (.string (dec y))
            rw [strVal_dec, strVal_dec]; exact H1.out
        | false =>
          go_wp2_with fail
          refine (HQA.out _).mono ?_
          rintro e w1 ⟨rfl, rfl⟩
          go_wp2_with fail
          refine (HQB.out _).mono ?_
          rintro e w1 ⟨rfl, rfl⟩
          go_wp2_with fail
          refine (rdivmod_any x y _ hx hy (Nat.pos_of_ne_zero hy0)).mono ?_
          rintro e w2 ⟨rfl, hb2⟩
          go_wp2_with fail
          go_roundw
          case rel => exact ⟨y, x % y, rfl, rfl, H2.out, hy, H3.out, bel_chain hB hb2⟩
          case measure =>
            show strVal (.string (dec (x % y))) < strVal (.string (dec y))
            rw [strVal_dec, strVal_dec]; exact H1.out

theorem bitsN_nd (a : Nat) : bitsN a ≤ 4 * Lib.nDigits a := by
  by_cases h0 : a = 0
  · subst h0; rw [bitsN_zero]; omega
  · have h1 := bitsN_ge a h0
    have h2 := Lib.lt_pow_nDigits a
    have h3 : (10 : Nat) ^ Lib.nDigits a ≤ (2 ^ 4) ^ Lib.nDigits a := Nat.pow_le_pow_left (by decide) _
    rw [← Nat.pow_mul] at h3
    have h4 := (Nat.pow_lt_pow_iff_right (show 1 < 2 by decide)).1 (Nat.lt_of_le_of_lt h1 (Nat.lt_of_lt_of_le h2 h3))
    omega
set_option maxRecDepth 100000 in
set_option maxHeartbeats 2000000 in
/-- schismaref01.Bits. -/
theorem rbits_any (a : Nat) (w : World) (ha : Lib.nDigits a ≤ 100000) :
    Calls Tryd.prog 32 #[.string (dec a)] w (SmallRes (.int .i64 (bitsN a : Int)) w) := by
  have hba : bitsN a ≤ 400000 := Nat.le_trans (bitsN_nd a) (by omega)
  have hlit : (⟨#[49, 48, 55, 51, 55, 52, 49, 56, 50, 52]⟩ : ByteArray) = dec 1073741824 := lit_dec [49, 48, 55, 51, 55, 52, 49, 56, 50, 52] _ (by decide) (by decide)
  have hdm := fun x w1 (hx : Lib.nDigits x ≤ 100000) => rdivmod_any x 1073741824 w1 hx (by rw [show Lib.nDigits 1073741824 = 10 by (repeat rw [Lib.nDigits_big (by omega)]); rw [Lib.nDigits_small (by omega)]]; omega) (by omega)
  rw [← hlit] at hdm
  have HDM := Lib.hid hdm
  clear hdm hlit
  go_enter Tryd.func32, Tryd.ntmps32
  go_wp2_with fail
  go_loopw [0, 3] (fun vx vn wr => ∃ x n : Nat, vx = .string (dec x) ∧ vn = .int .i64 (n : Int) ∧ bitsN x + n = bitsN a ∧ Lib.nDigits x ≤ 100000 ∧ Below w.heap.size w wr) (fun vx _ _ => strVal vx)
  case atStart => exact ⟨a, 0, rfl, rfl, rfl, ha, Below.refl _ _⟩
  case round =>
    obtain ⟨x, n, rfl, rfl, hs, hx, hB⟩ := hrel
    obtain ⟨wo, rfl⟩ : ∃ wo : World, wo = wr := ⟨_, rfl⟩
    have hn : n ≤ 400000 := by omega
    have HS := Lib.hid hs
    clear hs
    by_cases hx0 : x = 0
    · subst hx0
      have h0 := dec_zero_same
      have h1 : (!(dec 0).toList == [48]) = false := by rw [h0]; rfl
      go_wp2_with fail
      go_ret
      have := HS.out
      rw [bitsN_zero] at this
      exact ⟨ret_int (by omega), hB⟩
    · have h0 := dec_zero_test hx0
      have h1 : (!(dec x).toList == [48]) = true := by rw [h0]; rfl
      by_cases h18 : Lib.nDigits x ≤ 18
      · have hxv : x < 1000000000000000000 := (nd_le_iff x 17).1 h18
        go_wp2_with fail
        refine (rquick_yes x _ h18).mono ?_
        rintro e w1 ⟨rfl, rfl⟩
        go_wp2_with fail
        clear h0 h1
        go_loop [3, 4] (fun vn vy => ∃ y m : Nat, vn = .int .i64 (m : Int) ∧ vy = .int .u64 (y : Int) ∧ m ≤ 400000 ∧ y < 1000000000000000000 ∧ Hid (bitsN y + m = bitsN a)) (fun _ vy => (intOf vy).toNat)
        case atStart => exact ⟨x, n, rfl, rfl, hn, hxv, HS⟩
        case round =>
          obtain ⟨y, m, rfl, rfl, hm, hy, HS2⟩ := hrel
          by_cases hy0 : y = 0
          · subst hy0
            go_wp2_with fail
            go_ret
            have := HS2.out
            rw [bitsN_zero] at this
            exact ⟨ret_int (by omega), hB⟩
          · have hy1 : 0 < y := by omega
            have hs2 : bitsN (y / 2) + (m + 1) = bitsN a := by rw [← HS2.out, bitsN_pos hy0]; omega
            have hm2 : m + 1 ≤ 400000 := by omega
            have HS3 := Lib.hid hs2
            clear hs2 hy0
            go_wp2_with fail
            go_round
            case rel => exact ⟨y / 2, m + 1, by go_num, by go_num, hm2, by omega, HS3⟩
            case measure => simp [intOf]; omega
      · have hbig : 1000000000000000000 ≤ x := by
          rcases Nat.lt_or_ge x 1000000000000000000 with h | h
          · exact absurd ((nd_le_iff x 17).2 h) h18
          · exact h
        have hsh := bitsN_shift 30 (x / 1073741824) (x % 1073741824) (by omega) (by omega)
        rw [show x % 1073741824 + 2 ^ 30 * (x / 1073741824) = x by omega] at hsh
        have hs2 : bitsN (x / 1073741824) + (n + 30) = bitsN a := by rw [← HS.out, hsh]; omega
        have hlt : x / 1073741824 < x := by omega
        have hnd : Lib.nDigits (x / 1073741824) ≤ 100000 := Nat.le_trans (nd_mono (Nat.le_of_lt hlt)) hx
        have HS2 := Lib.hid hs2
        have HLT := Lib.hid hlt
        have HND := Lib.hid hnd
        clear hsh hs2 hlt hnd
        go_wp2_with fail
        refine (rquick_no x _ (by omega)).mono ?_
        rintro e w1 ⟨rfl, rfl⟩
        go_wp2_with fail
        refine (HDM.out x _ hx).mono ?_
        rintro e w2 ⟨rfl, hb2⟩
        go_wp2_with fail
        go_roundw
        case rel => exact ⟨x / 1073741824, n + 30, rfl, by go_num, HS2.out, HND.out, bel_chain hB hb2⟩
        case measure =>
          show strVal (.string (dec (x / 1073741824))) < strVal (.string (dec x))
          rw [strVal_dec, strVal_dec]; exact HLT.out

set_option maxRecDepth 100000 in
theorem rpower_one (n m : Int) (w : World) :
    Calls Tryd.prog 26 #[.string (dec 1), .int .i64 n, .int .i64 m] w fun e w' => e = .returned (.tuple #[.string (dec 1), .bool true]) ∧ w = w' := by
  have h1 := dec_one_same
  have h0 := dec_zero_test (b := 1) (by omega)
  go_enter Tryd.func26, Tryd.ntmps26
  go_wp2_with fail
  go_ret2
  exact ⟨rfl, rfl⟩
set_option maxRecDepth 100000 in
theorem rpower_zero (n m : Int) (hn : 0 < n) (w : World) :
    Calls Tryd.prog 26 #[.string (dec 0), .int .i64 n, .int .i64 m] w fun e w' => e = .returned (.tuple #[.string (dec 0), .bool true]) ∧ w = w' := by
  have h0 := dec_zero_same
  go_enter Tryd.func26, Tryd.ntmps26
  go_wp2_with fail
  go_ret2
  exact ⟨rfl, rfl⟩
set_option maxRecDepth 100000 in
set_option maxHeartbeats 2000000 in
/-- schismaref01.Power of a number greater than 1, or of 0 with the exponent 0, where no power is too long. -/
theorem rpower_any (a n m : Nat) (w : World) (h2 : 2 ≤ a ∨ (a = 0 ∧ n = 0)) (ha : Lib.nDigits a ≤ 50000) (hn : n ≤ 1000000) (hm : m ≤ 50000) (hp : ∀ i, i ≤ n → Lib.nDigits (a ^ i) ≤ m) :
    Calls Tryd.prog 26 #[.string (dec a), .int .i64 (n : Int), .int .i64 (m : Int)] w (SmallRes (.tuple #[.string (dec (a ^ n)), .bool true]) w) := by
  have HP := Lib.hid hp
  have H2 := Lib.hid h2
  have h1 := dec_one_test (a := a) (by omega)
  have H1 := Lib.hid h1
  clear hp h2 h1
  go_enter Tryd.func26, Tryd.ntmps26
  go_upto_region 1 with fail
  go_cut [19] (fun s19 wx => s19 = .bool false ∧ w = wx)
  case first =>
    have h1 := H1.out
    rcases H2.out with h | ⟨rfl, rfl⟩
    · have h0 := dec_zero_test (b := a) (by omega)
      go_wp2_with fail
      go_meet
      exact ⟨rfl, rfl⟩
    · have h0 := dec_zero_same
      go_wp2_with fail
      go_meet
      exact ⟨rfl, rfl⟩
  case rest =>
    obtain ⟨rfl, rfl⟩ := hcut
    go_wp2_with fail
    go_loopw [8, 9] (fun vo vi wr => ∃ i : Nat, i ≤ n ∧ vi = .int .i64 (i : Int) ∧ vo = .string (dec (a ^ i)) ∧ Below w.heap.size w wr) (fun _ vi _ => n - (intOf vi).toNat)
    case atStart => exact ⟨0, by omega, rfl, by rw [Nat.pow_zero, dec1], Below.refl _ _⟩
    case round =>
      obtain ⟨i, hi, rfl, rfl, hB⟩ := hrel
      by_cases hin : i = n
      · subst hin
        go_wp2_with fail
        go_ret2
        exact ⟨rfl, hB⟩
      · have hin' : i < n := by omega
        have hx := HP.out i hi
        have hy := HP.out (i + 1) (by omega)
        have hsz : ((dec (a ^ (i + 1))).size : Int) ≤ (m : Int) := by rw [dec_size]; omega
        have hml := fun w1 => rmul_any (a ^ i) a w1 (by omega) (by omega)
        rw [← Nat.pow_succ] at hml
        have HML := Lib.hid hml
        clear hml hin hx hy
        go_wp2_with fail
        refine (HML.out _).mono ?_
        rintro e w2 ⟨rfl, hb2⟩
        go_wp2_with fail
        go_roundw
        case rel => exact ⟨i + 1, by omega, by go_num, rfl, bel_chain hB hb2⟩
        case measure => simp [intOf]; omega
end Go.Proofs.YtojgfpoinbblhaaDoor
