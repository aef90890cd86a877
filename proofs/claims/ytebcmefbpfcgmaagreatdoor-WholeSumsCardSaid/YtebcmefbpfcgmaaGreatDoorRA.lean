/- The second chapter's reference: a slice of the call's own, nil let in, and append onto it; quick, trim. -/
import Derived.Test.YtebcmefbpfcgmaaGreatDoorR1S
import Derived.Test.YtebcmefbpfcgmaaGreatDoorWords2
import Derived.Test.YtebcmefbpfcgmaaGreatDoorTrim
import Derived.Test.YtebcmefbpfcgmaaGreatDoorBack
namespace Go.Proofs.YtebcmefbpfcgmaaGreatDoor
open Go.RowKit Go.PlainAid

/-- A slice of ints that is nil or lies in a block from B on. -/
def OwnN (B : Nat) (w : World) (v : Value) (xs : List Nat) : Prop := (v = .slice none 0 0 ∧ xs = []) ∨ ∃ g cap, v = .slice (some ⟨g, 0, none⟩) xs.length cap ∧ B ≤ g ∧ Nc w g xs.length cap xs
theorem OwnN.nil (B : Nat) (w : World) : OwnN B w (.slice none 0 0) [] := .inl ⟨rfl, rfl⟩
theorem OwnN.ns {B : Nat} {w : World} {v : Value} {xs : List Nat} (h : OwnN B w v xs) : ∃ A cap, v = .slice A xs.length cap ∧ Ns w A xs.length cap xs := by
  rcases h with ⟨rfl, rfl⟩ | ⟨g, cap, rfl, _, h⟩
  · exact ⟨none, 0, rfl, Ns.nil w⟩
  · exact ⟨_, cap, rfl, Ns.of h⟩
theorem OwnN.drewN {B : Nat} {w : World} {v : Value} {xs : List Nat} (h : OwnN B w v xs) (k : Nat) : OwnN B (w.drewN k) v xs := h
/-- append of one element, onto a slice of the call's own. -/
theorem append_own {ops : Array Oper} {rest : List Oper} {o : Oper} {a : Act} {w : World} {Q : Exit → Act → World → Prop} (hgd : o.guard = none) (s x : Operand) (t : TypeId)
    (ho : o.op = .call { callee := .builtin .append, args := #[s, x], argTypes := #[t, t] }) (ht : Tryz.prog.underlying t = some (.slice 3))
    (B : Nat) (v : Value) (xs : List Nat) (w0 : World) (hs : a.eval s = v) (hp : OwnN B w0 v xs) (hB : B ≤ w0.heap.size) (hn : xs.length ≤ 1000000000) (y : Nat)
    (hw : w = w0.alloc (.cells #[.int .i64 (y : Int)] 3)) (hx : a.eval x = .slice (some ⟨w0.heap.size, 0, none⟩) 1 1)
    (h : ∀ v' w', OwnN B w' v' (xs ++ [y]) → Below B w0 w' → wpList Tryz.prog ops Q rest (a.put o.dst v') w') :
    wpList Tryz.prog ops Q (o :: rest) a w := by
  subst hw
  have hone := Nc.one w0 y
  rcases hp with ⟨rfl, rfl⟩ | ⟨g, cap, rfl, hg, hp⟩
  · refine append_nil_Nc hgd s x t ho ht hs _ 1 1 [y] hx hone (by omega) (by omega) ?_
    intro cap' w' hq hb
    have hsz : (w0.alloc (.cells #[.int .i64 (y : Int)] 3)).heap.size = w0.heap.size + 1 := World.size_alloc _ _
    exact h _ _ (.inr ⟨_, cap', rfl, by rw [hsz]; omega, hq⟩) (((Below.refl B w0).alloc hB _).trans (hb.mono (by rw [hsz]; omega)))
  · refine append_Nc hgd s x t ho ht g xs.length cap xs hs (hp.alloc _) _ 1 1 [y] hx hone (by omega) ?_
    intro g' cap' w' hq hon hat
    rw [World.size_alloc] at hat
    have hgl := hp.lt
    refine h _ _ (.inr ⟨g', cap', by rw [List.length_append]; rfl, by rcases hat with h | h <;> omega, by rw [List.length_append]; exact hq⟩) ?_
    exact bel_only ((Below.refl B w0).alloc hB _) hon hg (by rw [World.size_alloc]; omega)
set_option maxHeartbeats 400000 in
/-- schismaref02.trim. -/
theorem r2trim_any (A : Option Addr) (n cap : Nat) (xs : List Nat) (w : World) (h : Ns w A n cap xs) :
    Calls Tryz.prog 49 #[.slice A n cap] w fun e w' => e = .returned (.slice A (trimL xs).length cap) ∧ w = w' := by
  rcases h with ⟨rfl, rfl, rfl, rfl⟩ | ⟨g, rfl, h⟩
  · go_enter Tryz.func49, Tryz.ntmps49
    go_wp2
    go_loop [3] (fun v => v = .int .i64 0) (fun _ => 0)
    case atStart => rfl
    case round =>
      subst hrel
      go_wp2
      go_ret
      exact ⟨rfl, rfl⟩
  · have hn := h.len
    have hcap := h.cap_le
    have hle := h.le
    have HN := Lib.hid hn
    clear hn
    go_enter Tryz.func49, Tryz.ntmps49
    go_wp2
    go_loop [3] (fun v => ∃ k : Nat, k ≤ n ∧ v = .int .i64 (k : Int) ∧ Hid (trimL (xs.take k) = trimL xs)) (fun v => (intOf v).toNat)
    case atStart => exact ⟨n, Nat.le_refl _, rfl, Lib.hid (by rw [List.take_of_length_le (by have := HN.out; omega)])⟩
    case round =>
      obtain ⟨k, hk, rfl, HI⟩ := hrel
      by_cases hk0 : k = 0
      · subst hk0
        have HZ := Lib.hid (show (trimL xs).length = 0 by rw [← HI.out]; rfl)
        go_wp2
        go_ret
        exact ⟨by rw [HZ.out]; rfl, rfl⟩
      · obtain ⟨j, rfl⟩ : ∃ j, k = j + 1 := ⟨k - 1, by omega⟩
        have hc := h.cell j (by omega)
        have hji : ((j + 1 : Nat) : Int) - 1 = (j : Int) := by omega
        by_cases h0 : xs.getD j 0 = 0
        · rw [h0] at hc
          have H0 := Lib.hid h0
          clear h0
          go_wp2
          go_round
          case rel => exact ⟨j, by omega, by go_num, Lib.hid ((trimL_step (by have := HN.out; omega) H0.out).symm.trans HI.out)⟩
          case measure => simp [intOf]
        · have h1 : (((xs.getD j 0 : Nat) : Int) == 0) = false := by simpa using h0
          have h2 := trimL_stop (k := j) (xs := xs) (by have := HN.out; omega) h0
          have HZ := Lib.hid (show (trimL xs).length = j + 1 by rw [← HI.out, h2])
          generalize xs.getD j 0 = x at *
          clear h2 h0
          go_wp2
          go_ret
          exact ⟨by rw [HZ.out]; first | rfl | (simp; done) | (simp; omega), rfl⟩
theorem Ns.trimmed {w : World} {A : Option Addr} {n cap : Nat} {xs : List Nat} (h : Ns w A n cap xs) : Ns w A (trimL xs).length cap (trimL xs) := by
  have h1 : (trimL xs).length ≤ xs.length := by rw [trimL_take, List.length_take]; omega
  have h2 := h.take (trimL xs).length (by rw [← h.len]; exact h1)
  rw [← trimL_take] at h2
  exact h2
/-- schismaref02.quick. -/
def quickV (z : Int) : Value := if nz z ≤ 18 then .tuple #[.int .i64 z, .bool true] else .tuple #[.int .i64 0, .bool false]
theorem r2quick_any (z : Int) (w : World) (hz : nz z ≤ 1000000) :
    Calls Tryz.prog 20 #[.string (itx z)] w (SmallRes (quickV z) w) := by
  have hs : ((dec z.natAbs).size : Int) = (nz z : Int) := by rw [dec_size]; rfl
  by_cases h : nz z ≤ 18
  · have HQ := Lib.hid (show quickV z = .tuple #[.int .i64 z, .bool true] by unfold quickV; rw [if_pos h])
    have hb := (nz_le_iff z 17).1 h
    have HV := Lib.hid (show SmallV z = .tuple #[.int .i64 z, .bool true] by unfold SmallV; rw [if_pos (by omega)])
    have hle : ((dec z.natAbs).size : Int) ≤ 18 := by omega
    clear hs hb
    go_enter Tryz.func20, Tryz.ntmps20
    go_wp2_with fail
    refine (r2digits_any z _ (by omega)).mono ?_
    rintro e w1 ⟨rfl, hb1⟩
    go_wp2_with fail
    refine (r2small_any z _ hz).mono ?_
    rintro e w2 ⟨rfl, hb2⟩
    rw [HV.out]
    go_wp2_with fail
    go_ret2
    exact ⟨by rw [HQ.out]; rfl, bel_chain hb1 hb2⟩
  · have HQ := Lib.hid (show quickV z = .tuple #[.int .i64 0, .bool false] by unfold quickV; rw [if_neg h])
    have hle : 18 < ((dec z.natAbs).size : Int) := by omega
    clear hs
    go_enter Tryz.func20, Tryz.ntmps20
    go_wp2_with fail
    refine (r2digits_any z _ (by omega)).mono ?_
    rintro e w1 ⟨rfl, hb1⟩
    go_wp2_with fail
    go_ret2
    exact ⟨by rw [HQ.out]; rfl, hb1⟩
end Go.Proofs.YtebcmefbpfcgmaaGreatDoor
