/- The walks of the first chapter's reference limbs and join. -/
import Derived.Test.YtojgfpoinbblhaaDoorRefMinus
import Derived.Test.YtojgfpoinbblhaaDoorNil
import Derived.Test.YtojgfpoinbblhaaDoorCut
namespace Go.Proofs.YtojgfpoinbblhaaDoor
open Go.RowKit Go.PlainAid

/-- A slice of uint64 that is nil or the call's own. -/
def OwnU (w0 w : World) (v : Value) (xs : List Nat) : Prop := (v = .slice none 0 0 ∧ xs = []) ∨ ∃ g cap, v = .slice (some ⟨g, 0, none⟩) xs.length cap ∧ w0.heap.size ≤ g ∧ Pc w g xs.length cap xs
theorem cutAt_next {l : List UInt8} {b : Nat} {xs : List Nat} (h : CutAt l b true xs) (hd : l.all isDig = true) (hbl : b ≤ l.length) :
    CutAt l (b - 9) (decide (9 < b)) (xs ++ [val ((l.take b).drop (b - 9))]) :=
  h.step hd (by omega) hbl (fun h => by have := of_decide_eq_true h; omega) (by omega)
theorem val_seg_succ (l : List UInt8) (a i : Nat) (ha : a ≤ i) (h : i < l.length) : val ((l.take (i + 1)).drop a) = 10 * val ((l.take i).drop a) + ((l.getD i 0).toNat - 48) := by
  rw [List.take_succ_eq_append_getElem h, List.drop_append_of_le_length (by rw [List.length_take]; omega), val_snoc, List.getD_eq_getElem?_getD, List.getElem?_eq_getElem h]; rfl
theorem val_seg_le {l : List UInt8} (hd : l.all isDig = true) (a i : Nat) (h : i ≤ a + 8) : val ((l.take i).drop a) ≤ 99999999 := by
  have h1 := val_lt ((l.take i).drop a) (all_sub hd a i)
  have h2 : 10 ^ ((l.take i).drop a).length ≤ 10 ^ 8 := Nat.pow_le_pow_right (by decide) (by rw [List.length_drop, List.length_take]; omega)
  have h3 : (10 : Nat) ^ 8 = 100000000 := by decide
  omega
theorem val_seg_start (l : List UInt8) (a : Nat) : val ((l.take a).drop a) = 0 := by
  rw [List.drop_of_length_le (by rw [List.length_take]; omega)]; rfl
def LimbsRel (l : List UInt8) (e : Nat) (m : Bool) (vo : Value) (w wr : World) : Prop :=
  Below w.heap.size w wr ∧ ∃ xs, OwnU w wr vo xs ∧ CutAt l e m xs ∧ xs.length + e ≤ l.length ∧ (e < l.length → xs ≠ [])
def LimbsPost (a : Nat) (w : World) (e : Ending) (w' : World) : Prop :=
  ∃ xs n g cap, e = .returned (.slice (some ⟨g, 0, none⟩) n cap) ∧ w.heap.size ≤ g ∧ Pc w' g n cap xs ∧ Lims xs ∧ lv xs = a ∧ n ≤ Lib.nDigits a ∧ Below w.heap.size w w'
set_option maxRecDepth 100000 in
set_option maxHeartbeats 1000000 in
/-- schismaref01.limbs. -/
theorem rlimbs_any (a : Nat) (w : World) (ha : Lib.nDigits a ≤ 1000000000) :
    Calls Tryd.prog 52 #[.string (dec a)] w (LimbsPost a w) := by
  have hs : (dec a).size ≤ 1000000000 := by rw [dec_size]; exact ha
  have HND := Lib.hid (show (dec a).size = Lib.nDigits a from dec_size a)
  have HVD := Lib.hid (val_dd a)
  have hds0 : 0 < (dec a).size := by rw [dec_size]; exact Lib.nDigits_pos a
  have hbt := get_bt (dec a)
  have HBT := Lib.hid (fun j (h : j < Lib.nDigits a) => And.intro (bt_dec a j h) (dgt_bd a j h))
  have HSZ := Lib.hid (show (Lib.decDigits a).length = (dec a).size by rw [Lib.decDigits_length, dec_size])
  have HAD := Lib.hid (all_dd a)
  generalize Lib.decDigits a = l at *
  clear ha
  go_enter Tryd.func52, Tryd.ntmps52
  go_wp2
  go_loopw [3, 4] (fun vo ve wr => ∃ e : Int, e ≤ (dec a).size ∧ -9 ≤ e ∧ ve = .int .i64 e ∧ LimbsRel l e.toNat (decide (0 < e)) vo w wr) (fun _ ve _ => (intOf ve).toNat)
  case atStart =>
    refine ⟨(dec a).size, Int.le_refl _, by omega, rfl, Below.refl _ _, [], .inl ⟨rfl, rfl⟩, ?_, ?_, ?_⟩
    · have := CutAt.start l
      rw [HSZ.out] at this
      exact ⟨this.lims, this.sum, fun _ => this.len rfl⟩
    · rw [HSZ.out]; simp
    · rw [HSZ.out]; intro h; omega
  case round =>
    obtain ⟨e, he1, he2, rfl, hB, xs, hown, hC, hlen, hne⟩ := hrel
    obtain ⟨wo, rfl⟩ : ∃ wo : World, wo = wr := ⟨_, rfl⟩
    by_cases hpos : 0 < e
    · obtain ⟨b, rfl⟩ : ∃ b : Nat, e = b := ⟨e.toNat, by omega⟩
      rw [decide_eq_true hpos, Int.toNat_natCast] at hC
      rw [Int.toNat_natCast] at hlen
      have hnx := cutAt_next hC HAD.out (by rw [HSZ.out]; omega)
      have hst := val_seg_start l (b - 9)
      have hmx : max ((b : Int) - 9) 0 = ((b - 9 : Nat) : Int) := by omega
      have hcb : b - 9 < b := by omega
      have h9 : b ≤ b - 9 + 9 := by omega
      have HNE := Lib.hid (show decide (9 < b) = decide (0 < (b : Int) - 9) by rw [decide_eq_decide]; omega)
      have HTN := Lib.hid (show b - 9 = ((b : Int) - 9).toNat by omega)
      obtain ⟨c, hc⟩ : ∃ c, b - 9 = c := ⟨_, rfl⟩
      rw [hc] at hnx hst hmx hcb h9 HTN
      have HNX := Lib.hid hnx
      have HST := Lib.hid hst
      have HLEN := Lib.hid hlen
      clear hnx hst hc hC hlen hne
      go_wp2
      go_loop [5, 6] (fun vn vi => ∃ i : Nat, c ≤ i ∧ i ≤ b ∧ vi = .int .i64 (i : Int) ∧ vn = .int .u64 ((val ((l.take i).drop c) : Nat) : Int)) (fun _ vi => b - (intOf vi).toNat)
      case atStart => exact ⟨c, Nat.le_refl _, by omega, rfl, by rw [HST.out]; rfl⟩
      case round =>
        obtain ⟨i, hi1, hi2, rfl, rfl⟩ := hrel
        by_cases hib : i = b
        · subst hib
          have hone := Pc.one wo (val ((l.take i).drop c))
          have HL2 := Lib.hid HLEN.out
          rcases hown with ⟨rfl, rfl⟩ | ⟨g, cap, rfl, hg, hp⟩
          · generalize val ((l.take i).drop c) = v at *
            go_wp2_with (at_builtin; refine append_nil_Pc rfl _ _ 61 rfl Tryd.underlying61 rfl wo.heap.size 1 1 [v] rfl hone (by omega) (by omega) ?_; intro cap4 w4 hq4 hb4)
            go_roundw
            case rel =>
              rw [World.size_alloc] at hq4
              have hBs := hB.size
              refine ⟨(i : Int) - 9, by omega, by omega, by go_num, (hB.alloc hBs _).trans (hb4.mono (by rw [World.size_alloc]; omega)), [v], .inr ⟨_, cap4, rfl, by omega, hq4⟩, ?_, ?_, fun _ => by simp⟩
              · rw [← HTN.out, ← HNE.out]; exact HNX.out
              · rw [← HTN.out]; have := HL2.out; simp; simp at this; omega
            case measure => simp [intOf]; omega
          · have hal := hp.alloc (.cells #[.int .u64 ((val ((l.take i).drop c) : Nat) : Int)] 22)
            have hcl := hp.cap_le
            have hple := hp.le
            have hxl : xs.length ≤ 1000000000 := by have := HL2.out; have := HSZ.out; omega
            generalize val ((l.take i).drop c) = v at *
            obtain ⟨m, hm⟩ : ∃ m, xs.length = m := ⟨_, rfl⟩
            rw [hm] at hal hple hxl ⊢
            have HM := Lib.hid hm
            clear hm
            go_wp2_with (at_builtin; refine append_Pc rfl _ _ 61 rfl Tryd.underlying61 g m cap xs rfl hal wo.heap.size 1 1 [v] rfl hone (by omega) ?_; intro g4 cap4 w4 hq4 hon4 hat4)
            go_roundw
            case rel =>
              have hBs := hB.size
              have hl4 : (xs ++ [v]).length = m + 1 := by rw [List.length_append, List.length_singleton, HM.out]
              have hs4 : (wo.alloc (.cells #[.int .u64 (v : Int)] 22)).heap.size = wo.heap.size + 1 := by simp
              refine ⟨(i : Int) - 9, by omega, by omega, by go_num, bel_only (hB.alloc hBs _) hon4 hg (by omega), xs ++ [v], .inr ⟨g4, cap4, by rw [hl4], by rcases hat4 with h | h <;> omega, by rw [hl4]; exact hq4⟩, ?_, ?_, fun _ => by simp⟩
              · rw [← HTN.out, ← HNE.out]; exact HNX.out
              · rw [← HTN.out, hl4]; have := HL2.out; have := HM.out; omega
            case measure => simp [intOf]; omega
        · have hib' : i < b := by omega
          have hi3 : i < (dec a).size := by omega
          have hx := HBT.out i (by rw [← HND.out]; exact hi3)
          have hb := hx.1
          have hdg := hx.2
          have hv := val_seg_le HAD.out c i (by omega)
          have hs := val_seg_succ l c i hi1 (by rw [HSZ.out]; exact hi3)
          have HS := Lib.hid hs
          clear hs hx hib
          generalize (l.getD i 0).toNat = d at *
          generalize hvv : val ((l.take i).drop c) = v at *
          clear hvv
          go_wp2
          go_round
          case rel =>
            refine ⟨i + 1, by omega, by omega, by go_num, ?_⟩
            rw [HS.out]
            exact vint (by omega)
          case measure => simp [intOf]; omega
    · have h0 : e.toNat = 0 := by omega
      rw [h0] at hC hlen hne
      have hsum := hC.sum
      rw [List.drop_zero, HVD.out] at hsum
      have hxn := hne (by rw [HSZ.out]; exact hds0)
      have hxl : xs.length ≤ Lib.nDigits a := by rw [← HND.out, ← HSZ.out]; omega
      have hlm := hC.lims
      have HF := Lib.hid (And.intro hlm (And.intro hsum (And.intro hxl hxn)))
      clear hC hlen hne hsum hxn hxl hlm h0
      rcases hown with ⟨rfl, rfl⟩ | ⟨g, cap, rfl, hg, hp⟩
      · exact absurd rfl HF.out.2.2.2
      · go_wp2
        go_ret
        exact ⟨xs, _, g, cap, rfl, hg, hp, HF.out.1, HF.out.2.1, HF.out.2.2.1, hB⟩

theorem lv_digit (xs : List Nat) (h : Lims xs) (k i : Nat) (hk : k < xs.length) (hi : i < 9) : xs.getD k 0 / 10 ^ i % 10 = lv xs / 10 ^ (9 * k + i) % 10 := by
  have h1 := lv_drop xs h k (by omega)
  rw [lv_drop_pred xs k hk] at h1
  rw [Nat.pow_add, ← Nat.div_div_eq_div_mul, Nat.pow_mul, show (10 : Nat) ^ 9 = 1000000000 by decide, ← h1]
  generalize lv (xs.drop (k + 1)) = z
  have e : (1000000000 : Nat) = 10 ^ i * (10 * 10 ^ (8 - i)) := by
    have h3 : i + 1 + (8 - i) = 9 := by omega
    rw [← Nat.mul_assoc, ← Nat.pow_succ, ← Nat.pow_add, h3]
  rw [e, Nat.mul_assoc, Nat.add_mul_div_left _ _ (Nat.pow_pos (by decide)), Nat.mul_assoc, Nat.add_mul_mod_self_left]
def JoinAt (N i X : Nat) (w wr : World) : Prop := Below w.heap.size w wr ∧ ∃ ys, RowAt N i X ys ∧ ys.getD 0 0 = 48 ∧ Bc wr w.heap.size N N ys
theorem join_fin {m X : Nat} {ys : List UInt8} (h : RowAt (9 * m + 1) (9 * m) X ys) (h0 : ys.getD 0 0 = 48) (hX : X < 10 ^ (9 * m)) : ys.all isDig = true ∧ val ys = X := by
  obtain ⟨h1, h2⟩ := h
  rw [show 9 * m + 1 - 9 * m = 1 by omega] at h2
  have e : ys = 48 :: (pd (9 * m) X).reverse := by
    cases ys with
    | nil => simp at h1
    | cons y ys =>
      rw [List.drop_succ_cons, List.drop_zero] at h2
      have : y = 48 := by simpa using h0
      rw [this, h2]
  rw [e, List.all_cons, all_pd, val_zero_cons, val_pd _ _ hX]
  exact ⟨rfl, rfl⟩
set_option maxRecDepth 100000 in
set_option maxHeartbeats 2000000 in
/-- schismaref01.join. -/
theorem rjoin_any (g n cap : Nat) (xs : List Nat) (w : World) (hp : Pc w g n cap xs) (hL : Lims xs) (hn : n ≤ 1000000000) :
    Calls Tryd.prog 53 #[.slice (some ⟨g, 0, none⟩) n cap] w (StrPost (dec (lv xs)) w) := by
  have hcap := hp.cap_le
  have hle := hp.le
  have hg := hp.lt
  have hlen := hp.len
  obtain ⟨N, hN⟩ : ∃ N : Nat, N = 9 * n + 1 := ⟨_, rfl⟩
  have hNi : 9 * (n : Int) + 1 = (N : Int) := by omega
  have hmk := make_Bc 23 Tryd.underlying23 N N (Nat.le_refl _) (by omega) w
  have hmade := (Bc.made w N N (Nat.le_refl _) (by omega)).set 0 48
  have hfr0 := (Bc.made w N N (Nat.le_refl _) (by omega)).free 0
  have hcell0 := (Bc.made w N N (Nat.le_refl _) (by omega)).cell 0 (by omega)
  have hlv : lv xs < 10 ^ (9 * n) := by
    have := lv_lt xs hL
    rw [hlen] at this
    rw [Nat.pow_mul]; exact this
  have hN1 : 1 ≤ N := by omega
  have hN2 : N ≤ 9000000001 := by omega
  rw [World.setCell_alloc_new] at hmade
  have HM := Lib.hid hmade
  have HN := Lib.hid hN
  have HL := Lib.hid hL
  have HLEN := Lib.hid hlen
  have HLV := Lib.hid hlv
  have HP := Lib.hid hp
  clear hmade hN hL hlen hlv hp
  go_enter Tryd.func53, Tryd.ntmps53
  go_wp2
  clear hmk hfr0 hcell0
  go_loopw [4] (fun vk wr => ∃ k : Nat, k ≤ n ∧ vk = .int .i64 (k : Int) ∧ JoinAt N (9 * k) (lv xs) w wr) (fun vk _ => n - (intOf vk).toNat)
  case atStart =>
    refine ⟨0, by omega, rfl, (Below.refl _ _).alloc (Nat.le_refl _) _, (List.replicate N 0).set 0 48, RowAt.start N _ _ (by simp), ?_, HM.out⟩
    rw [List.getD_eq_getElem?_getD, List.getElem?_set_self (by rw [List.length_replicate]; omega)]; rfl
  case round =>
    obtain ⟨k, hk, rfl, hb0, ys, hR, hz, hq⟩ := hrel
    obtain ⟨wo, rfl⟩ : ∃ wo : World, wo = wr := ⟨_, rfl⟩
    by_cases hkn : k = n
    · subst hkn
      have hf := join_fin (m := k) (by rw [← HN.out]; exact hR) hz HLV.out
      have hrt := rtrim_any _ _ _ ys wo hq hN1 hf.1
      rw [hf.2] at hrt
      have HRT := Lib.hid hrt
      clear hrt hf hR hz hq
      go_wp2_with fail
      refine HRT.out.mono ?_
      rintro e w1 ⟨rfl, rfl⟩
      go_wp2_with fail
      go_ret
      exact ⟨rfl, hb0⟩
    · have hk' : k < n := by omega
      have hck := (HP.out.below hb0 hg).cell k hk'
      have hxb := Lims_getD HL.out k
      have HDG := Lib.hid (fun i (h : i < 9) => lv_digit xs HL.out k i (by rw [HLEN.out]; exact hk') h)
      obtain ⟨x, hx⟩ : ∃ x, xs.getD k 0 = x := ⟨_, rfl⟩
      rw [hx] at hck hxb HDG
      have HR := Lib.hid hR
      clear hx hR hkn
      go_wp2
      go_loopw [5, 6] (fun vn vi wr => ∃ i y : Nat, i ≤ 9 ∧ y < 1000000000 ∧ vi = .int .i64 (i : Int) ∧ vn = .int .u64 (y : Int) ∧ Hid (y = x / 10 ^ i) ∧ JoinAt N (9 * k + i) (lv xs) w wr) (fun _ vi _ => 9 - (intOf vi).toNat)
      case atStart => exact ⟨0, x, by omega, hxb, rfl, rfl, Lib.hid (by rw [Nat.pow_zero, Nat.div_one]), hb0, ys, HR.out, hz, hq⟩
      case round =>
        obtain ⟨i, y, hi, hy, rfl, rfl, HY, hb1, zs, hR1, hz1, hq1⟩ := hrel
        by_cases hi9 : i = 9
        · subst hi9
          have HR1 := Lib.hid hR1
          have HZ := Lib.hid hz1
          have HQ1 := Lib.hid hq1
          clear hR1 hz1 hq1
          go_wp2
          go_roundw
          case rel => exact ⟨k + 1, by omega, by go_num, hb1, zs, by rw [Nat.mul_add]; exact HR1.out, HZ.out, HQ1.out⟩
          case measure => simp [intOf]; omega
        · have hi' : i < 9 := by omega
          obtain ⟨j, hj⟩ : ∃ j, j + (9 * k + i) + 1 = N := ⟨N - 1 - (9 * k + i), by have := HN.out; omega⟩
          have hj1 : 1 ≤ j := by have := HN.out; omega
          have hji : (N : Int) - 1 - 9 * (k : Int) - (i : Int) = (j : Int) := by omega
          have hjn : (j : Int) < (N : Int) := by omega
          have hdg := HDG.out i hi'
          rw [← HY.out] at hdg
          have hrs := hR1.step (by omega) j hj
          have hcell := hq1.cell j (by omega)
          have hfr := hq1.free j
          have hset := hq1.set j (UInt8.ofNat (48 + lv xs / 10 ^ (9 * k + i) % 10))
          rw [ofNat_toNat_dig _ (by omega)] at hset
          rw [← hdg] at hset hrs
          rw [show ((48 + y % 10 : Nat) : Int) = 48 + (y : Int) % 10 by omega] at hset
          have hz2 : (zs.set j (UInt8.ofNat (48 + y % 10))).getD 0 0 = 48 := by
            rw [List.getD_eq_getElem?_getD, List.getElem?_set_ne (by omega), ← List.getD_eq_getElem?_getD]; exact hz1
          have hy2 : y / 10 = x / 10 ^ (i + 1) := by rw [HY.out, Nat.div_div_eq_div_mul, Nat.pow_succ]
          have HSET := Lib.hid hset
          have HRS := Lib.hid hrs
          have HZ := Lib.hid hz2
          have HY2 := Lib.hid hy2
          clear hset hrs hz2 hy2 hdg hz1 hR1 hj hi9 hq1
          generalize (zs.getD j 0).toNat = q at *
          go_wp2
          go_roundw
          case rel => exact ⟨i + 1, y / 10, by omega, by omega, by go_num, vint (by omega), HY2, hb1.setCell (Nat.le_refl _) _, _, HRS.out, HZ.out, HSET.out⟩
          case measure => simp [intOf]; omega
end Go.Proofs.YtojgfpoinbblhaaDoor
