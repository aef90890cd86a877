/- The walks of the first chapter's reference trim and digit. -/
import Derived.Test.YtojgfpoinbblhaaDoorRefOf
import Derived.Test.YtojgfpoinbblhaaDoorRefA
import Derived.Test.YtojgfpoinbblhaaDoorText
namespace Go.Proofs.YtojgfpoinbblhaaDoor
open Go.RowKit Go.PlainAid

theorem val_zero_cons (l : List UInt8) : val (48 :: l) = val l := by
  have := val_append [48] l
  rw [List.singleton_append] at this
  rw [this, val_one]; simp
theorem val_drop_zero (l : List UInt8) (k : Nat) (hk : k < l.length) (h : (l.getD k 0).toNat = 48) : val (l.drop k) = val (l.drop (k + 1)) := by
  have e : l.getD k 0 = 48 := UInt8.toNat_inj.1 h
  rw [List.getD_eq_getElem?_getD, List.getElem?_eq_getElem hk] at e
  rw [List.drop_eq_getElem_cons hk, show l[k] = 48 from e, val_zero_cons]
theorem canon_drop (l : List UInt8) (k : Nat) (hk : k < l.length) (ha : l.all isDig = true) (h : k + 1 = l.length ∨ (l.getD k 0).toNat ≠ 48) : canon (l.drop k) = true := by
  unfold canon
  have h1 : (l.drop k).all isDig = true := by
    rw [List.all_eq_true] at ha ⊢
    exact fun x hx => ha x (List.mem_of_mem_drop hx)
  rw [h1, List.length_drop, Bool.true_and]
  rcases h with h | h
  · rw [show l.length - k = 1 by omega]; rfl
  · by_cases h2 : l.length - k = 1
    · rw [h2]; rfl
    · have e : (l.drop k).getD 0 0 = l.getD k 0 := by rw [List.getD_eq_getElem?_getD, List.getElem?_drop, Nat.add_zero, List.getD_eq_getElem?_getD]
      rw [e, decide_eq_true (by omega : 1 < l.length - k)]
      have : (l.getD k 0 == 48) = false := by
        rw [beq_eq_false_iff_ne]; intro e2; rw [e2] at h; exact h rfl
      rw [this]; simp
def TrAt (l : List UInt8) (k : Nat) : Prop := val (l.drop k) = val l
set_option maxHeartbeats 1000000 in
/-- schismaref01.trim. -/
theorem rtrim_any (g n cap : Nat) (l : List UInt8) (w : World) (hp : Bc w g n cap l) (hn : 1 ≤ n) (ha : l.all isDig = true) :
    Calls Tryd.prog 51 #[.slice (some ⟨g, 0, none⟩) n cap] w fun e w' => e = .returned (.string (dec (val l))) ∧ w = w' := by
  have hcap := hp.cap_le
  have hle := hp.le
  have hl := hp.len
  have HL := Lib.hid hl
  have HP := Lib.hid hp
  have HA := Lib.hid ha
  clear ha hl hp
  go_enter Tryd.func51, Tryd.ntmps51
  go_wp2
  go_loop [3] (fun vk => ∃ k : Nat, k < n ∧ vk = .int .i64 (k : Int) ∧ TrAt l k) (fun vk => n - (intOf vk).toNat)
  case atStart => exact ⟨0, by omega, rfl, by unfold TrAt; rw [List.drop_zero]⟩
  case round =>
    obtain ⟨k, hk, rfl, hT⟩ := hrel
    have hc := HP.out.cell k hk
    have hstop : (k + 1 = n ∨ (l.getD k 0).toNat ≠ 48) → (convert 23 26 (.slice (some ⟨g, k, none⟩) (n - k) (cap - k))).run Tryd.prog w = .ok (.string (dec (val l))) w := by
      intro h
      have hcn := canon_drop l k (by rw [HL.out]; exact hk) HA.out (by rw [HL.out]; exact h)
      have hdv := dd_val _ hcn
      rw [hT] at hdv
      have hd : (l.drop k).length = n - k := by rw [List.length_drop, HL.out]
      have := run_convert_bytes_back w 23 26 5 ⟨g, k, none⟩ (cap - k) (l.drop k) Tryd.underlying23 Tryd.underlying5 Tryd.underlying26 (fun j hj => by
        have hj' : j < l.length - k := by rwa [List.length_drop] at hj
        have hln := HL.out
        rw [Lib.add_plain, HP.out.cell (k + j) (by omega), List.getD_eq_getElem?_getD, List.getElem?_eq_getElem (by omega)]
        simp)
      rw [hd] at this
      rw [this]
      unfold dec
      rw [hdv]
    have HSTOP := Lib.hid hstop
    have HZ := Lib.hid (fun h => val_drop_zero l k (by rw [HL.out]; exact hk) h)
    have HT := Lib.hid hT
    clear hstop hT
    generalize (l.getD k 0).toNat = d at *
    by_cases hlast : k + 1 = n
    · have hcv := HSTOP.out (.inl hlast)
      have hlt : ¬ (k : Int) < (n : Int) - 1 := by omega
      go_wp2
      go_ret
      exact ⟨rfl, rfl⟩
    · have hlt : (k : Int) < (n : Int) - 1 := by omega
      by_cases hd : d = 48
      · have hdi : ((d : Int) == 48) = true := by rw [hd]; rfl
        have HD := Lib.hid hd
        clear hd
        go_wp2
        go_round
        case rel => exact ⟨k + 1, by omega, by go_num, by unfold TrAt; rw [← HZ.out HD.out]; exact HT.out⟩
        case measure => simp [intOf]; omega
      · have hdi : ((d : Int) == 48) = false := by simp; omega
        have hcv := HSTOP.out (.inr hd)
        clear hd
        go_wp2
        go_ret
        exact ⟨rfl, rfl⟩

theorem dd_digit (i : Nat) : ∀ a, i < Lib.nDigits a → ((Lib.decDigits a).getD (Lib.nDigits a - 1 - i) 0).toNat = 48 + a / 10 ^ i % 10 := by
  induction i with
  | zero =>
    intro a h
    rw [Nat.pow_zero, Nat.div_one, Nat.sub_zero]
    by_cases h10 : a < 10
    · rw [dd_small h10, Lib.nDigits_small h10, show a % 10 = a by omega]; exact ofNat_toNat_dig _ (by omega)
    · rw [dd_big h10, ← Lib.decDigits_length, dd_big h10, List.getD_eq_getElem?_getD, List.length_append, List.length_singleton, Nat.add_sub_cancel, List.getElem?_append_right (Nat.le_refl _), Nat.sub_self]
      exact ofNat_toNat_dig _ (by omega)
  | succ i ih =>
    intro a h
    by_cases h10 : a < 10
    · rw [Lib.nDigits_small h10] at h; omega
    · have hd := Lib.nDigits_big h10
      have := ih (a / 10) (by omega)
      rw [hd, dd_big h10, show Lib.nDigits (a / 10) + 1 - 1 - (i + 1) = Lib.nDigits (a / 10) - 1 - i by omega, List.getD_eq_getElem?_getD, List.getElem?_append_left (by rw [Lib.decDigits_length]; omega), ← List.getD_eq_getElem?_getD, this, Nat.pow_succ, Nat.mul_comm, Nat.div_div_eq_div_mul]
/-- schismaref01.digit. -/
theorem rdigit_any (a i : Nat) (w : World) (ha : Lib.nDigits a ≤ 1000000000) (hi : i ≤ 1000000000) :
    Calls Tryd.prog 50 #[.string (dec a), .int .i64 (i : Int)] w fun e w' => e = .returned (.int .i64 ((a / 10 ^ i % 10 : Nat) : Int)) ∧ w = w' := by
  have hs : (dec a).size ≤ 1000000000 := by rw [dec_size]; exact ha
  by_cases h : i < Lib.nDigits a
  · have hlt : i < (dec a).size := by rw [dec_size]; exact h
    obtain ⟨j, hj⟩ : ∃ j, j + i + 1 = (dec a).size := ⟨(dec a).size - 1 - i, by omega⟩
    have hb := bt_dec a j (by rw [← dec_size]; omega)
    rw [show j = Lib.nDigits a - 1 - i by rw [← dec_size]; omega, dd_digit i a h] at hb
    rw [show Lib.nDigits a - 1 - i = j by rw [← dec_size]; omega] at hb
    have hji : ((dec a).size : Int) - 1 - (i : Int) = (j : Int) := by omega
    have hbt := get_bt (dec a)
    have hd10 : a / 10 ^ i % 10 < 10 := Nat.mod_lt _ (by decide)
    generalize a / 10 ^ i % 10 = q at *
    have hjs : j < (dec a).size := by omega
    clear ha h
    go_enter Tryd.func50, Tryd.ntmps50
    go_wp2
    go_ret
    exact ⟨ret_int (by omega), rfl⟩
  · have hlt : (dec a).size ≤ i := by rw [dec_size]; omega
    have h0 : a / 10 ^ i % 10 = 0 := by
      have h1 := Lib.lt_pow_nDigits a
      have h2 : 10 ^ Lib.nDigits a ≤ 10 ^ i := Nat.pow_le_pow_right (by decide) (by omega)
      rw [Nat.div_eq_of_lt (by omega)]
    rw [h0]
    clear ha h h0
    go_enter Tryd.func50, Tryd.ntmps50
    go_wp2
    go_ret
    exact ⟨rfl, rfl⟩
end Go.Proofs.YtojgfpoinbblhaaDoor
