/- The walk of the program's text: the digits of pieces, for any number. -/
import Derived.Test.YtebcmefbpfcgmaaGreatDoorRev
import Derived.Test.YtebcmefbpfcgmaaGreatDoorAmb
import Derived.Laws.IdiomStrings
namespace Go.Proofs.YtebcmefbpfcgmaaGreatDoor
open Go.RowKit

/-! The digits, the last one first. -/
def ld (n : Nat) : List UInt8 := if h : n = 0 then [] else UInt8.ofNat (48 + n % 10) :: ld (n / 10)
  termination_by n
  decreasing_by omega
theorem ld_zero : ld 0 = [] := by rw [ld, dif_pos rfl]
theorem ld_pos {n : Nat} (h : n ≠ 0) : ld n = UInt8.ofNat (48 + n % 10) :: ld (n / 10) := by rw [ld, dif_neg h]
/-- The last k digits, with zeros. -/
def pd : Nat → Nat → List UInt8
  | 0, _ => []
  | k + 1, n => UInt8.ofNat (48 + n % 10) :: pd k (n / 10)
theorem ld_reverse (n : Nat) (h : n ≠ 0) : (ld n).reverse = Lib.decDigits n := by
  induction n using Nat.strongRecOn with
  | _ n ih =>
    rw [ld_pos h, List.reverse_cons]
    by_cases h10 : n < 10
    · rw [dd_small h10, show n / 10 = 0 by omega, ld_zero, show n % 10 = n by omega]; rfl
    · rw [dd_big h10, ih (n / 10) (by omega) (by omega)]
theorem pd_ld (k x m : Nat) (hm : m ≠ 0) (hx : x < 10 ^ k) : ld (x + 10 ^ k * m) = pd k x ++ ld m := by
  induction k generalizing x with
  | zero => rw [Nat.pow_zero] at hx; rw [show x = 0 by omega, Nat.pow_zero, pd, Nat.one_mul, Nat.zero_add]; rfl
  | succ k ih =>
    rw [Nat.pow_succ] at hx ⊢
    have hp : 0 < 10 ^ k := Nat.pow_pos (by decide)
    have hpm : 0 < 10 ^ k * m := Nat.mul_pos hp (by omega)
    have e : 10 ^ k * 10 * m = 10 * (10 ^ k * m) := by rw [Nat.mul_comm (10 ^ k) 10, Nat.mul_assoc]
    rw [e, ld_pos (by omega), show (x + 10 * (10 ^ k * m)) % 10 = x % 10 by omega, show (x + 10 * (10 ^ k * m)) / 10 = x / 10 + 10 ^ k * m by omega, ih (x / 10) (by omega)]
    rfl
theorem ld_len9 (x : Nat) (hx : x < 1000000000) : (ld x).length ≤ 9 := by
  have key : ∀ k x, x < 10 ^ k → (ld x).length ≤ k := by
    intro k
    induction k with
    | zero => intro x h; rw [show x = 0 by simpa using h, ld_zero]; simp
    | succ k ih =>
      intro x h
      by_cases h0 : x = 0
      · rw [h0, ld_zero]; simp
      · rw [ld_pos h0, List.length_cons]; have := ih (x / 10) (by rw [Nat.pow_succ] at h; omega); omega
  exact key 9 x (by have : (10 : Nat) ^ 9 = 1000000000 := by decide
                    omega)
/-- What is still to be written at digit k of a piece (n: what is left of it; more: whether pieces follow, with value m). -/
def tl (more : Bool) (m k n : Nat) : List UInt8 := if more then pd (9 - k) n ++ ld m else ld n
theorem tl_start (v i : Nat) (hi : i < (lims v).length) : tl (decide (i + 1 < (lims v).length)) (lv ((lims v).drop (i + 1))) 0 ((lims v).getD i 0) = ld (lv ((lims v).drop i)) := by
  have hx := Lims_getD (Lims_lims v) i
  rw [lv_drop_pred _ i hi]
  unfold tl
  by_cases h : i + 1 < (lims v).length
  · rw [decide_eq_true h, if_pos rfl, Nat.sub_zero]
    have hm : lv ((lims v).drop (i + 1)) ≠ 0 := by
      rw [lv_drop _ (Lims_lims v) _ (by omega), lv_lims]
      have hv : v ≠ 0 := by intro e; rw [e, lims_zero] at hi; simp at hi
      have h1 := pow_le_lims v hv
      have h2 : 1000000000 ^ (i + 1) ≤ 1000000000 ^ ((lims v).length - 1) := Nat.pow_le_pow_right (by decide) (by omega)
      intro e
      rw [Nat.div_eq_zero_iff] at e
      rcases e with e | e
      · simp at e
      · omega
    have := pd_ld 9 ((lims v).getD i 0) _ hm (by have : (10 : Nat) ^ 9 = 1000000000 := by decide
                                                 omega)
    rw [show (10 : Nat) ^ 9 = 1000000000 by decide] at this
    rw [this]
  · rw [decide_eq_false h, if_neg (by decide), List.drop_of_length_le (by omega)]; simp [lv]
theorem tl_step (more : Bool) (m k n : Nat) (hk : k < 9) (h : more = true ∨ 0 < n) : tl more m k n = UInt8.ofNat (48 + n % 10) :: tl more m (k + 1) (n / 10) := by
  unfold tl
  cases more with
  | true => rw [if_pos rfl, if_pos rfl, show 9 - k = (9 - (k + 1)) + 1 by omega, pd]; rfl
  | false =>
    rw [if_neg (by decide), if_neg (by decide), ld_pos (by rcases h with h | h; · cases h
                                                           · omega)]
theorem tl_stop (more : Bool) (m k n : Nat) (hn : n < 10 ^ (9 - k)) (h : ¬ (k < 9 ∧ (more = true ∨ 0 < n))) : tl more m k n = ld (if more then m else 0) := by
  unfold tl
  cases more with
  | true =>
    rw [if_pos rfl, if_pos rfl]
    rw [show 9 - k = 0 by (by_cases hk : k < 9
                           · exact absurd ⟨hk, .inl rfl⟩ h
                           · omega), pd]; rfl
  | false =>
    rw [if_neg (by decide), if_neg (by decide)]
    by_cases hk : k < 9
    · have h0 : n = 0 := by
        rcases Nat.eq_zero_or_pos n with h0 | h0
        · exact h0
        · exact absurd ⟨hk, .inr h0⟩ h
      rw [h0]
    · rw [show 9 - k = 0 by omega, Nat.pow_zero] at hn
      rw [show n = 0 by omega]
theorem dig_byte (n : Nat) : ((UInt8.ofNat (48 + n % 10)).toNat : Int) = 48 + (n : Int) % 10 := by
  rw [ofNat_toNat_dig (n % 10) (by omega)]; omega
theorem div10 {k n : Nat} (hk : k < 9) (h : n < 10 ^ (9 - k)) : n / 10 < 10 ^ (9 - (k + 1)) := by
  rw [show 9 - k = (9 - (k + 1)) + 1 by omega, Nat.pow_succ] at h; omega

theorem dec0 : dec 0 = ⟨#[48]⟩ := by unfold dec; rw [dd_small (by omega)]; rfl
/-- The digits that are still to come, at the beginning of piece i. -/
def TextRel (v i : Nat) (g n cap : Nat) (w wr : World) : Prop := Below w.heap.size w wr ∧ w.heap.size ≤ g ∧ ∃ out, Bc wr g n cap out ∧ out ++ ld (lv ((lims v).drop i)) = ld v
def TextIn (v : Nat) (more : Bool) (m k x : Nat) (g n cap : Nat) (w wr : World) : Prop := Below w.heap.size w wr ∧ w.heap.size ≤ g ∧ x < 10 ^ (9 - k) ∧ ∃ out, Bc wr g n cap out ∧ out ++ tl more m k x = ld v

set_option maxRecDepth 100000 in
set_option maxHeartbeats 1000000 in
/-- (decimal.pieces).text. -/
theorem text_any (g n cap v : Nat) (w : World) (hp : Pc w g n cap (lims v)) (hn : n ≤ 1000000000) :
    Calls Tryz.prog 58 #[.slice (some ⟨g, 0, none⟩) n cap] w (StrPost (dec v) w) := by
  have hcap := hp.cap_le
  have hle := hp.le
  have hg := hp.lt
  have HL := Lib.hid hp.len
  by_cases h0 : n = 0
  · subst h0
    have hv : v = 0 := lims_ne_nil.1 (List.eq_nil_of_length_eq_zero hp.len)
    have HV := Lib.hid hv
    clear hv
    go_enter Tryz.func58, Tryz.ntmps58
    go_wp2
    go_ret
    exact ⟨ret_str (by rw [HV.out, dec0]), Below.refl _ _⟩
  · have h0' : ((n : Int) == 0) = false := by simp; omega
    have hmk := make_Bc 22 Tryz.underlying22 0 (9 * n) (by omega) (by omega)
    simp only [Int.natCast_mul, Int.cast_ofNat_Int] at hmk
    have HM := Lib.hid (Bc.made w 0 (9 * n) (by omega) (by omega))
    go_enter Tryz.func58, Tryz.ntmps58
    go_wp2
    clear hmk
    go_loopw [3, 16] (fun vo vi wr => ∃ i g' n' cap' : Nat, i ≤ n ∧ n' ≤ 9 * i ∧ vi = .int .i64 (i : Int) ∧ vo = .slice (some ⟨g', 0, none⟩) n' cap' ∧ TextRel v i g' n' cap' w wr) (fun _ vi _ => n - (intOf vi).toNat)
    case atStart => exact ⟨0, w.heap.size, 0, 9 * n, by omega, by omega, rfl, rfl, (Below.refl _ _).alloc (Nat.le_refl _) _, Nat.le_refl _, [], HM.out, by rw [List.drop_zero, lv_lims]; rfl⟩
    case round =>
      obtain ⟨i, g', n', cap', hi, hn', rfl, rfl, hb, hg', out, ho, hd⟩ := hrel
      obtain ⟨wo, rfl⟩ : ∃ wo : World, wo = wr := ⟨_, rfl⟩
      by_cases hin : i = n
      · subst hin
        have hfin : out = ld v := by rw [List.drop_of_length_le (by rw [HL.out]; omega)] at hd; simpa [lv, ld_zero] using hd
        have hv : v ≠ 0 := by intro e; have := HL.out; rw [e, lims_zero] at this; simp at this; omega
        have HF := Lib.hid hfin
        have HV := Lib.hid hv
        clear hfin hd hv
        have hcon := fun w2 (h : Bc w2 g' n' cap' out.reverse) => str_of_Bc 22 27 Tryz.underlying22 Tryz.underlying27 h
        have HCON := Lib.hid hcon
        clear hcon
        go_wp2_with fail
        refine (rev_any _ _ _ out _ ho).mono ?_
        rintro e w' ⟨rfl, hon, hr⟩
        have hcv := HCON.out w' hr
        go_wp2
        go_ret
        refine ⟨ret_str ?_, bel_only hb hon hg' hb.size⟩
        rw [HF.out, ld_reverse v HV.out]; rfl
      · have hi' : i < n := by omega
        have hc := (hp.below hb hg).cell i hi'
        have hst := tl_start v i (by rw [HL.out]; exact hi')
        have hx := Lims_getD (Lims_lims v) i
        rw [← hst, HL.out] at hd
        have HD := Lib.hid hd
        have htl := HL.out
        have hend : ld (if decide (i + 1 < n) = true then lv ((lims v).drop (i + 1)) else 0) = ld (lv ((lims v).drop (i + 1))) := by
          by_cases h : i + 1 < n
          · rw [decide_eq_true h, if_pos rfl]
          · rw [decide_eq_false h, if_neg (by decide), List.drop_of_length_le (by omega)]; rfl
        have HE := Lib.hid hend
        clear hd hst htl hend
        generalize (lims v).getD i 0 = x0 at *
        have hx9 : x0 < 10 ^ (9 - 0) := by rw [Nat.sub_zero, show (10 : Nat) ^ 9 = 1000000000 by decide]; exact hx
        have HX := Lib.hid hx9
        clear hx9
        go_wp2
        go_loopw [3, 5, 6] (fun vo vx vk wr => ∃ k x g2 n2 cap2 : Nat, k ≤ 9 ∧ x < 1000000000 ∧ n2 ≤ 9 * i + k ∧ vk = .int .i64 (k : Int) ∧ vx = .int .u64 (x : Int) ∧ vo = .slice (some ⟨g2, 0, none⟩) n2 cap2 ∧ TextIn v (decide (i + 1 < n)) (lv ((lims v).drop (i + 1))) k x g2 n2 cap2 w wr) (fun _ _ vk _ => 9 - (intOf vk).toNat)
        case atStart => exact ⟨0, x0, g', n', cap', by omega, hx, by omega, rfl, rfl, rfl, hb, hg', HX.out, out, ho, HD.out⟩
        case round =>
          obtain ⟨k, x, g2, n2, cap2, hk, hx1, hn2, rfl, rfl, rfl, hb2, hg2, hx2, out2, ho2, hd2⟩ := hrel
          by_cases hgo : k < 9 ∧ (i + 1 < n ∨ 0 < x)
          · obtain ⟨hk9, hor⟩ := hgo
            have hstp := tl_step (decide (i + 1 < n)) (lv ((lims v).drop (i + 1))) k x hk9 (hor.imp (fun h => decide_eq_true h) id)
            obtain ⟨b, hbv⟩ : ∃ b, UInt8.ofNat (48 + x % 10) = b := ⟨_, rfl⟩
            have hbi : ((b.toNat : Nat) : Int) = 48 + (x : Int) % 10 := by rw [← hbv]; exact dig_byte x
            have hd3 : (out2 ++ [b]) ++ tl (decide (i + 1 < n)) (lv ((lims v).drop (i + 1))) (k + 1) (x / 10) = ld v := by
              rw [← hd2, hstp, hbv, List.append_assoc]; rfl
            have HD3 := Lib.hid hd3
            have HX3 := Lib.hid (div10 hk9 hx2)
            have hone := Bc.one wr b
            rw [hbi] at hone
            have hal := ho2.alloc (.cells #[.int .u8 (48 + (x : Int) % 10)] 5)
            clear hstp hbv hbi hd3 hx2 hd2
            have key : ∀ (P : Prop), (i + 1 < n → P) → (¬ i + 1 < n → 0 < x → P) → P := fun P h1 h2 => by
              by_cases h : i + 1 < n
              · exact h1 h
              · exact h2 h (hor.resolve_left h)
            clear hor
            refine key _ (fun hmore => ?_) (fun hmore hxp => ?_)
            all_goals
              clear key
              go_wp2_with (at_builtin; refine append_Bc rfl _ _ 22 rfl Tryz.underlying22 g2 n2 cap2 out2 rfl hal wr.heap.size 1 1 [b] rfl hone (by omega) ?_; intro g3 cap3 w3 hq hon hat)
              go_roundw
              case rel =>
                refine ⟨k + 1, x / 10, g3, n2 + 1, cap3, by omega, by omega, by omega, by go_num, by go_num, rfl, ?_, ?_, HX3.out, _, hq, HD3.out⟩
                · exact bel_only (hb2.alloc hb2.size _) hon hg2 (by have := hb2.size; simp; omega)
                · have h1 := hb2.size
                  have h2 : (wr.alloc (.cells #[.int .u8 (48 + (x : Int) % 10)] 5)).heap.size = wr.heap.size + 1 := by simp
                  rcases hat with h3 | h3 <;> omega
              case measure => simp [intOf]; omega
          · have hstp := tl_stop (decide (i + 1 < n)) (lv ((lims v).drop (i + 1))) k x hx2 (by intro ⟨h1, h2⟩; exact hgo ⟨h1, h2.imp (fun h => of_decide_eq_true h) id⟩)
            have hd3 : out2 ++ ld (lv ((lims v).drop (i + 1))) = ld v := by rw [← hd2, hstp, HE.out]
            have HD3 := Lib.hid hd3
            clear hstp hd3 hd2 hx2
            have key : ∀ (P : Prop), (¬ k < 9 → P) → (k < 9 → ¬ i + 1 < n → x = 0 → P) → P := fun P h1 h2 => by
              by_cases h : k < 9
              · exact h2 h (fun h3 => hgo ⟨h, .inl h3⟩) (by rcases Nat.eq_zero_or_pos x with h4 | h4
                                                            · exact h4
                                                            · exact absurd ⟨h, .inr h4⟩ hgo)
              · exact h1 h
            clear hgo
            refine key _ (fun hk9 => ?_) (fun hk9 hmore hx0 => ?_)
            · clear key
              go_wp2
              go_roundw
              case rel => exact ⟨i + 1, g2, n2, cap2, by omega, by omega, by go_num, rfl, hb2, hg2, out2, ho2, HD3.out⟩
              case measure => simp [intOf]; omega
            · clear key
              subst hx0
              go_wp2
              go_roundw
              case rel => exact ⟨i + 1, g2, n2, cap2, by omega, by omega, by go_num, rfl, hb2, hg2, out2, ho2, HD3.out⟩
              case measure => simp [intOf]; omega
end Go.Proofs.YtebcmefbpfcgmaaGreatDoor
