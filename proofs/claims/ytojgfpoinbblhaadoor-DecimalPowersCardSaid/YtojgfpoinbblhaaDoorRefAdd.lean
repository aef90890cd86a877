/- The walks of the first chapter's reference Add and Minus. -/
import Derived.Test.YtojgfpoinbblhaaDoorRefTrim
namespace Go.Proofs.YtojgfpoinbblhaaDoor
open Go.RowKit Go.PlainAid

theorem pd_snoc (i : Nat) : ∀ X, pd (i + 1) X = pd i X ++ [UInt8.ofNat (48 + X / 10 ^ i % 10)] := by
  induction i with
  | zero => intro X; rw [pd, pd, pd, Nat.pow_zero, Nat.div_one]; rfl
  | succ i ih =>
    intro X
    rw [pd, ih (X / 10), pd, Nat.pow_succ, Nat.mul_comm, ← Nat.div_div_eq_div_mul]; rfl
theorem val_pd (i : Nat) : ∀ X, X < 10 ^ i → val (pd i X).reverse = X := by
  induction i with
  | zero => intro X h; rw [Nat.pow_zero] at h; rw [show X = 0 by omega]; rfl
  | succ i ih =>
    intro X h
    rw [Nat.pow_succ] at h
    rw [pd, List.reverse_cons, val_snoc, ih (X / 10) (by omega), ofNat_toNat_dig _ (by omega)]
    omega
theorem all_pd (i : Nat) : ∀ X, (pd i X).reverse.all isDig = true := by
  induction i with
  | zero => intro X; rfl
  | succ i ih =>
    intro X
    rw [pd, List.reverse_cons, List.all_append, ih, List.all_cons, isDig_ofNat _ (by omega)]; rfl
def RowAt (n i X : Nat) (ys : List UInt8) : Prop := ys.length = n ∧ ys.drop (n - i) = (pd i X).reverse
theorem RowAt.start (n X : Nat) (ys : List UInt8) (h : ys.length = n) : RowAt n 0 X ys := ⟨h, by rw [Nat.sub_zero, List.drop_of_length_le (by omega)]; rfl⟩
theorem RowAt.step {n i X : Nat} {ys : List UInt8} (h : RowAt n i X ys) (hi : i < n) (j : Nat) (hj : j + i + 1 = n) : RowAt n (i + 1) X (ys.set j (UInt8.ofNat (48 + X / 10 ^ i % 10))) := by
  obtain ⟨h1, h2⟩ := h
  refine ⟨by simpa using h1, ?_⟩
  rw [show n - (i + 1) = j by omega, List.drop_eq_getElem_cons (by simp; omega), List.getElem_set_self, List.drop_set_of_lt (by omega), show j + 1 = n - i by omega, h2, pd_snoc, List.reverse_append]
  rfl
theorem RowAt.fin {n X : Nat} {ys : List UInt8} (h : RowAt n n X ys) (hX : X < 10 ^ n) : ys.all isDig = true ∧ val ys = X := by
  have h2 := h.2
  rw [Nat.sub_self, List.drop_zero] at h2
  rw [h2]
  exact ⟨all_pd _ _, val_pd _ _ hX⟩
def AddAt (n i X : Nat) (w wr : World) : Prop := Below w.heap.size w wr ∧ ∃ ys, RowAt n i X ys ∧ Bc wr w.heap.size n n ys
def Carry (a b i c : Nat) : Prop := (a + b) / 10 ^ i = a / 10 ^ i + b / 10 ^ i + c ∧ c ≤ 1
theorem Carry.step {a b i c : Nat} (h : Carry a b i c) : Carry a b (i + 1) ((a / 10 ^ i % 10 + b / 10 ^ i % 10 + c) / 10) ∧ (a / 10 ^ i % 10 + b / 10 ^ i % 10 + c) % 10 = (a + b) / 10 ^ i % 10 := by
  obtain ⟨h1, h2⟩ := h
  unfold Carry
  rw [Nat.pow_succ, ← Nat.div_div_eq_div_mul, ← Nat.div_div_eq_div_mul, ← Nat.div_div_eq_div_mul, h1]
  omega
set_option maxRecDepth 100000 in
set_option maxHeartbeats 2000000 in
theorem radd_big (a b : Nat) (w : World) (ha : Lib.nDigits a ≤ 1000000) (hb : Lib.nDigits b ≤ 1000000) (h : ¬ (Lib.nDigits a ≤ 18 ∧ Lib.nDigits b ≤ 18)) :
    Calls Tryd.prog 23 #[.string (dec a), .string (dec b)] w (StrPost (dec (a + b)) w) := by
  obtain ⟨n, hn⟩ : ∃ n : Nat, n = max (Lib.nDigits a) (Lib.nDigits b) + 1 := ⟨_, rfl⟩
  have hmx : max ((dec a).size : Int) ((dec b).size : Int) + 1 = (n : Int) := by rw [dec_size, dec_size]; omega
  have hsum : a + b < 10 ^ n := by
    have h1 := Lib.lt_pow_nDigits a
    have h2 := Lib.lt_pow_nDigits b
    have h3 : 10 ^ Lib.nDigits a ≤ 10 ^ (n - 1) := Nat.pow_le_pow_right (by decide) (by omega)
    have h4 : 10 ^ Lib.nDigits b ≤ 10 ^ (n - 1) := Nat.pow_le_pow_right (by decide) (by omega)
    have h5 : 10 ^ n = 10 ^ (n - 1) * 10 := by rw [← Nat.pow_succ]; congr 1; omega
    omega
  have hn2 : n ≤ 1000001 := by omega
  have hn1 : 1 ≤ n := by omega
  have HSUM := Lib.hid hsum
  have HQ := Lib.hid h
  have HN := Lib.hid hn
  have hmk := make_Bc 23 Tryd.underlying23 n n (Nat.le_refl _) (by omega) w
  clear hsum hn h
  by_cases h18 : Lib.nDigits a ≤ 18
  · go_enter Tryd.func23, Tryd.ntmps23
    go_wp2_with fail
    refine (rquick_yes a _ h18).mono ?_
    rintro e w1 ⟨rfl, rfl⟩
    go_wp2_with fail
    refine (rquick_no b _ (by have := HQ.out; omega)).mono ?_
    rintro e w1 ⟨rfl, rfl⟩
    go_wp2_with fail
    clear hmk hmx
    go_loopw [11, 12] (fun vc vi wr => ∃ c i : Nat, i ≤ n ∧ c ≤ 1 ∧ vc = .int .i64 (c : Int) ∧ vi = .int .i64 (i : Int) ∧ Carry a b i c ∧ AddAt n i (a + b) w wr) (fun _ vi _ => n - (intOf vi).toNat)
    case atStart => exact ⟨0, 0, by omega, by omega, rfl, rfl, ⟨by rw [Nat.pow_zero, Nat.div_one, Nat.div_one, Nat.div_one, Nat.add_zero], by omega⟩, (Below.refl _ _).alloc (Nat.le_refl _) _, _, RowAt.start n _ _ (by simp), Bc.made w n n (Nat.le_refl _) (by omega)⟩
    case round =>
      obtain ⟨c, i, hi, hc1, rfl, rfl, hC, hb0, ys, hR, hp⟩ := hrel
      by_cases hin : i = n
      · subst hin
        have hf := hR.fin HSUM.out
        have hrt := rtrim_any _ _ _ ys wr hp hn1 hf.1
        rw [hf.2] at hrt
        have HRT := Lib.hid hrt
        clear hrt hf hR hp hC
        go_wp2_with fail
        refine HRT.out.mono ?_
        rintro e w1 ⟨rfl, rfl⟩
        go_wp2_with fail
        go_ret
        exact ⟨rfl, hb0⟩
      · have hin' : i < n := by omega
        obtain ⟨j, hj⟩ : ∃ j, j + i + 1 = n := ⟨n - 1 - i, by omega⟩
        have hji : (n : Int) - 1 - (i : Int) = (j : Int) := by omega
        have hst := hC.step
        have hrs := hR.step hin' j hj
        have hcell := hp.cell j (by omega)
        have hfr := hp.free j
        have hset := hp.set j (UInt8.ofNat (48 + (a + b) / 10 ^ i % 10))
        rw [ofNat_toNat_dig _ (by omega)] at hset
        have hda := rdigit_any a i wr (by omega) (by omega)
        have hdb := rdigit_any b i wr (by omega) (by omega)
        rw [← hst.2] at hset hrs
        have ha10 : a / 10 ^ i % 10 < 10 := Nat.mod_lt _ (by decide)
        have hb10 : b / 10 ^ i % 10 < 10 := Nat.mod_lt _ (by decide)
        have HST := Lib.hid hst.1
        obtain ⟨x, hx⟩ : ∃ x, a / 10 ^ i % 10 = x := ⟨_, rfl⟩
        obtain ⟨y, hy⟩ : ∃ y, b / 10 ^ i % 10 = y := ⟨_, rfl⟩
        rw [hx] at hset hrs hda ha10 HST
        rw [hy] at hset hrs hdb hb10 HST
        rw [show ((48 + (x + y + c) % 10 : Nat) : Int) = 48 + ((x : Int) + (y : Int) + (c : Int)) % 10 by omega] at hset
        have HSET := Lib.hid hset
        have HRS := Lib.hid hrs
        have HDA := Lib.hid hda
        have HDB := Lib.hid hdb
        have HJ := Lib.hid hj
        clear hset hrs hda hdb hx hy hst hC hR hp hin hj
        generalize (ys.getD j 0).toNat = q at *
        have hxy0 : (0 : Int) ≤ (x : Int) + (y : Int) + (c : Int) := by omega
        have hm : Int.tmod ((x : Int) + (y : Int) + (c : Int)) 10 = ((x : Int) + (y : Int) + (c : Int)) % 10 := Int.tmod_eq_emod_of_nonneg hxy0
        have hq : Int.tdiv ((x : Int) + (y : Int) + (c : Int)) 10 = ((x : Int) + (y : Int) + (c : Int)) / 10 := Int.tdiv_eq_ediv_of_nonneg hxy0
        have hjn : (j : Int) < (n : Int) := by omega
        go_wp2_with fail
        refine HDA.out.mono ?_
        rintro e w1 ⟨rfl, rfl⟩
        go_wp2_with fail
        refine HDB.out.mono ?_
        rintro e w1 ⟨rfl, rfl⟩
        go_wp2_with fail
        exact ⟨⟨(x + y + c) / 10, i + 1, by omega, by omega, vint (by omega), by go_num, HST.out, hb0.setCell (Nat.le_refl _) _, _, HRS.out, HSET.out⟩, by simp [intOf]; omega⟩
  · go_enter Tryd.func23, Tryd.ntmps23
    go_wp2_with fail
    refine (rquick_no a _ (by omega)).mono ?_
    rintro e w1 ⟨rfl, rfl⟩
    by_cases hb18 : Lib.nDigits b ≤ 18
    all_goals
      go_wp2_with fail
      first
        | refine (rquick_yes b _ hb18).mono ?_
        | refine (rquick_no b _ (by omega)).mono ?_
      rintro e w1 ⟨rfl, rfl⟩
      go_wp2_with fail
      clear hmk hmx
      go_loopw [11, 12] (fun vc vi wr => ∃ c i : Nat, i ≤ n ∧ c ≤ 1 ∧ vc = .int .i64 (c : Int) ∧ vi = .int .i64 (i : Int) ∧ Carry a b i c ∧ AddAt n i (a + b) w wr) (fun _ vi _ => n - (intOf vi).toNat)
      case atStart => exact ⟨0, 0, by omega, by omega, rfl, rfl, ⟨by rw [Nat.pow_zero, Nat.div_one, Nat.div_one, Nat.div_one, Nat.add_zero], by omega⟩, (Below.refl _ _).alloc (Nat.le_refl _) _, _, RowAt.start n _ _ (by simp), Bc.made w n n (Nat.le_refl _) (by omega)⟩
      case round =>
        obtain ⟨c, i, hi, hc1, rfl, rfl, hC, hb0, ys, hR, hp⟩ := hrel
        by_cases hin : i = n
        · subst hin
          have hf := hR.fin HSUM.out
          have hrt := rtrim_any _ _ _ ys wr hp hn1 hf.1
          rw [hf.2] at hrt
          have HRT := Lib.hid hrt
          clear hrt hf hR hp hC
          go_wp2_with fail
          refine HRT.out.mono ?_
          rintro e w1 ⟨rfl, rfl⟩
          go_wp2_with fail
          go_ret
          exact ⟨rfl, hb0⟩
        · have hin' : i < n := by omega
          obtain ⟨j, hj⟩ : ∃ j, j + i + 1 = n := ⟨n - 1 - i, by omega⟩
          have hji : (n : Int) - 1 - (i : Int) = (j : Int) := by omega
          have hst := hC.step
          have hrs := hR.step hin' j hj
          have hcell := hp.cell j (by omega)
          have hfr := hp.free j
          have hset := hp.set j (UInt8.ofNat (48 + (a + b) / 10 ^ i % 10))
          rw [ofNat_toNat_dig _ (by omega)] at hset
          have hda := rdigit_any a i wr (by omega) (by omega)
          have hdb := rdigit_any b i wr (by omega) (by omega)
          rw [← hst.2] at hset hrs
          have ha10 : a / 10 ^ i % 10 < 10 := Nat.mod_lt _ (by decide)
          have hb10 : b / 10 ^ i % 10 < 10 := Nat.mod_lt _ (by decide)
          have HST := Lib.hid hst.1
          obtain ⟨x, hx⟩ : ∃ x, a / 10 ^ i % 10 = x := ⟨_, rfl⟩
          obtain ⟨y, hy⟩ : ∃ y, b / 10 ^ i % 10 = y := ⟨_, rfl⟩
          rw [hx] at hset hrs hda ha10 HST
          rw [hy] at hset hrs hdb hb10 HST
          rw [show ((48 + (x + y + c) % 10 : Nat) : Int) = 48 + ((x : Int) + (y : Int) + (c : Int)) % 10 by omega] at hset
          have HSET := Lib.hid hset
          have HRS := Lib.hid hrs
          have HDA := Lib.hid hda
          have HDB := Lib.hid hdb
          have HJ := Lib.hid hj
          clear hset hrs hda hdb hx hy hst hC hR hp hin hj
          generalize (ys.getD j 0).toNat = q at *
          have hxy0 : (0 : Int) ≤ (x : Int) + (y : Int) + (c : Int) := by omega
          have hm : Int.tmod ((x : Int) + (y : Int) + (c : Int)) 10 = ((x : Int) + (y : Int) + (c : Int)) % 10 := Int.tmod_eq_emod_of_nonneg hxy0
          have hq : Int.tdiv ((x : Int) + (y : Int) + (c : Int)) 10 = ((x : Int) + (y : Int) + (c : Int)) / 10 := Int.tdiv_eq_ediv_of_nonneg hxy0
          have hjn : (j : Int) < (n : Int) := by omega
          go_wp2_with fail
          refine HDA.out.mono ?_
          rintro e w1 ⟨rfl, rfl⟩
          go_wp2_with fail
          refine HDB.out.mono ?_
          rintro e w1 ⟨rfl, rfl⟩
          go_wp2_with fail
          exact ⟨⟨(x + y + c) / 10, i + 1, by omega, by omega, vint (by omega), by go_num, HST.out, hb0.setCell (Nat.le_refl _) _, _, HRS.out, HSET.out⟩, by simp [intOf]; omega⟩
theorem radd_any (a b : Nat) (w : World) (ha : Lib.nDigits a ≤ 1000000) (hb : Lib.nDigits b ≤ 1000000) :
    Calls Tryd.prog 23 #[.string (dec a), .string (dec b)] w (StrPost (dec (a + b)) w) := by
  by_cases h : Lib.nDigits a ≤ 18 ∧ Lib.nDigits b ≤ 18
  · have h1 := (nd_le_iff a 17).1 h.1
    have h2 := (nd_le_iff b 17).1 h.2
    have hof := fun w1 => rof_any (a + b) w1 (by omega)
    rw [Int.natCast_add] at hof
    have HOF := Lib.hid hof
    have h3 : a < 1000000000000000000 := h1
    have h4 : b < 1000000000000000000 := h2
    clear hof h1 h2
    go_enter Tryd.func23, Tryd.ntmps23
    go_wp2_with fail
    refine (rquick_yes a _ h.1).mono ?_
    rintro e w1 ⟨rfl, rfl⟩
    go_wp2_with fail
    refine (rquick_yes b _ h.2).mono ?_
    rintro e w1 ⟨rfl, rfl⟩
    go_wp2_with fail
    refine (HOF.out _).mono ?_
    rintro e w1 ⟨rfl, hb1⟩
    go_wp2_with fail
    go_ret
    exact ⟨rfl, hb1⟩
  · exact radd_big a b w ha hb h
end Go.Proofs.YtojgfpoinbblhaaDoor
