/- The walk of WholeSums: it returns true, for any descriptions. -/
import Derived.Test.YtebcmefbpfcgmaaGreatDoorLaw2Base
import Derived.Deep.DrawnRows
import Derived.Test.YtebcmefbpfcgmaaGreatDoorRG
import Derived.Test.YtebcmefbpfcgmaaGreatDoorNums
namespace Go.Proofs.YtebcmefbpfcgmaaGreatDoor
open Go.RowKit Go.PlainAid
attribute [local go_sem ↓] Go.wp_at_zero Go.wp_at_succ

/-- A slice of texts that is nil or lies in a block from B on. -/
def OwnT (B : Nat) (w : World) (v : Value) (xs : List ByteArray) : Prop := (v = .slice none 0 0 ∧ xs = []) ∨ ∃ g cap, v = .slice (some ⟨g, 0, none⟩) xs.length cap ∧ B ≤ g ∧ Sc w g xs.length cap xs
theorem OwnT.nil (B : Nat) (w : World) : OwnT B w (.slice none 0 0) [] := .inl ⟨rfl, rfl⟩
theorem OwnT.below {B : Nat} {w w' : World} {v : Value} {xs : List ByteArray} (h : OwnT B w v xs) (hb : Below w.heap.size w w') : OwnT B w' v xs := by
  rcases h with h | ⟨g, c, e, hg, h⟩
  · exact .inl h
  · exact .inr ⟨g, c, e, hg, h.below hb h.lt⟩
theorem OwnT.ss {B : Nat} {w : World} {v : Value} {xs : List ByteArray} (h : OwnT B w v xs) : ∃ A cap, v = .slice A xs.length cap ∧ Ss w A xs.length cap xs := by
  rcases h with ⟨rfl, rfl⟩ | ⟨g, cap, rfl, _, h⟩
  · exact ⟨none, 0, rfl, Ss.nil w⟩
  · exact ⟨_, cap, rfl, Ss.of h⟩
/-- append of one text, onto a slice of the call's own. -/
theorem append_ownT {ops : Array Oper} {rest : List Oper} {o : Oper} {a : Act} {w : World} {Q : Exit → Act → World → Prop} (hgd : o.guard = none) (s x : Operand) (t : TypeId)
    (ho : o.op = .call { callee := .builtin .append, args := #[s, x], argTypes := #[t, t] }) (ht : Tryz.prog.underlying t = some (.slice 27))
    (B : Nat) (v : Value) (xs : List ByteArray) (w0 : World) (hs : a.eval s = v) (hp : OwnT B w0 v xs) (hB : B ≤ w0.heap.size) (hn : xs.length ≤ 1000000000) (y : ByteArray)
    (hw : w = w0.alloc (.cells #[.string y] 27)) (hx : a.eval x = .slice (some ⟨w0.heap.size, 0, none⟩) 1 1)
    (h : ∀ g' cap' w', B ≤ g' → Sc w' g' (xs.length + 1) cap' (xs ++ [y]) → Below B w0 w' → wpList Tryz.prog ops Q rest (a.put o.dst (.slice (some ⟨g', 0, none⟩) (xs.length + 1) cap')) w') :
    wpList Tryz.prog ops Q (o :: rest) a w := by
  subst hw
  have hone := Sc.one w0 y
  rcases hp with ⟨rfl, rfl⟩ | ⟨g, cap, rfl, hg, hp⟩
  · refine append_nil_Sc hgd s x t ho ht hs _ 1 1 [y] hx hone (by omega) (by omega) ?_
    intro cap' w' hq hb
    have hsz : (w0.alloc (.cells #[.string y] 27)).heap.size = w0.heap.size + 1 := World.size_alloc _ _
    exact h _ cap' w' (by rw [hsz]; omega) hq (((Below.refl B w0).alloc hB _).trans (hb.mono (by rw [hsz]; omega)))
  · refine append_Sc hgd s x t ho ht g xs.length cap xs hs (hp.alloc _) _ 1 1 [y] hx hone (by omega) ?_
    intro g' cap' w' hq hon hat
    rw [World.size_alloc] at hat
    have hgl := hp.lt
    exact h g' cap' w' (by rcases hat with h | h <;> omega) hq (bel_only ((Below.refl B w0).alloc hB _) hon hg (by rw [World.size_alloc]; omega))
theorem sumZ_nz (zs : List Int) (d : Nat) (hd : 1 ≤ d) (h : ∀ j, j < zs.length → nz (zs.getD j 0) ≤ d) (i : Nat) (hi : i ≤ zs.length) : nz (sumZ zs i) ≤ d + i := by
  induction i with
  | zero => rw [sumZ_zero]; unfold nz; rw [show (0 : Int).natAbs = 0 from rfl, Lib.nDigits_small (by omega)]; omega
  | succ i ih =>
    rw [sumZ_succ _ _ (by omega)]
    have h1 := nz_add (sumZ zs i) (zs.getD i 0)
    have h2 := ih (by omega)
    have h3 := h i (by omega)
    omega
set_option maxRecDepth 100000 in
set_option maxHeartbeats 4000000 in
theorem lawSums_walk (g0 g1 : Bool) (A0 A1 : Option Addr) (k0 k1 c0 c1 : Nat) (l0 l1 : List UInt8) (w : World) (hamb : Amb w) (h0 : InB w A0 k0 c0 l0) (h1 : InB w A1 k1 c1 l1) (A : Option Addr) (n cap : Nat) (g : Nat → Bool) (Ad : Nat → Option Addr) (k c : Nat → Nat) (l : Nat → List UInt8) (hN : InN w A n cap g Ad k c l) :
    Calls Tryz.prog 3 #[.agg #[.bool g0, .slice A0 k0 c0], .agg #[.bool g1, .slice A1 k1 c1], .slice A n cap] w (SmallRes (.bool true) w) := by
  obtain ⟨a, Ha⟩ : ∃ a, Hid (mkZ g0 l0 80 = a) := ⟨_, rfl⟩
  have hna : nz a ≤ 80 := by rw [← Ha.out]; exact mkZ_nz g0 l0 79
  obtain ⟨b, Hb⟩ : ∃ b, Hid (mkZ g1 l1 80 = b) := ⟨_, rfl⟩
  have hnb : nz b ≤ 80 := by rw [← Hb.out]; exact mkZ_nz g1 l1 79
  go_enter Tryz.func3, Tryz.ntmps3
  go_wp2_with fail
  obtain ⟨W, hW⟩ : ∃ W, ((w.alloc (.cells #[.bool g0, .slice A0 k0 c0] 24)).alloc (.cells #[.bool g1, .slice A1 k1 c1] 24)) = W := ⟨_, rfl⟩
  have hBW : Below w.heap.size w W := by rw [← hW]; exact (((Below.refl _ _).alloc (Nat.le_refl _) _).alloc (by simp only [World.size_alloc]; omega) _)
  have hx0 : Boxed W w.heap.size g0 A0 k0 c0 := by rw [← hW]; exact (Boxed.new _ _ _ _ _ _).alloc _
  have hx1 : Boxed W (w.heap.size + 1) g1 A1 k1 c1 := by
    rw [← hW]
    have h := Boxed.new (w.alloc (.cells #[.bool g0, .slice A0 k0 c0] 24)) g1 A1 k1 c1 24
    simp only [World.size_alloc] at h
    exact h
  rw [hW]
  clear hW
  refine (known2_any _ (hamb.below hBW)).mono ?_
  rintro e w1 ⟨rfl, hb1⟩
  have hB1 := bel_chain hBW hb1
  have hy0 := hx0.below hb1
  have hi0 := h0.below hB1
  have hy1 := hx1.below hb1
  have hi1 := h1.below hB1
  have hN1 := hN.below hB1
  clear hx0 hx1 hBW hb1
  by_cases hn8 : 8 < (n : Int)
  · clear hy0 hi0 hy1 hi1 hN1
    go_wp2_with fail
    refine (known2_any _ (hamb.below hB1)).mono ?_
    rintro e w2 ⟨rfl, hb2⟩
    go_wp2_with fail
    go_ret
    exact ⟨rfl, bel_chain hB1 hb2⟩
  obtain ⟨zs, hzs⟩ : ∃ zs : List Int, zs = (List.range n).map fun i => mkZ (g i) (l i) 25 := ⟨_, rfl⟩
  have HZL := Lib.hid (show zs.length = n by rw [hzs]; simp)
  have HZI := Lib.hid (fun i (h : i < n) => show mkZ (g i) (l i) 25 = zs.getD i 0 by rw [hzs, List.getD_eq_getElem?_getD, List.getElem?_map, List.getElem?_range h]; rfl)
  have HZN := Lib.hid (fun i (h : i < n) => show nz (zs.getD i 0) ≤ 25 by rw [← HZI.out i h]; exact mkZ_nz (g i) (l i) 24)
  have HSN := Lib.hid (fun i (h : i ≤ n) => sumZ_nz zs 25 (by omega) (fun j hj => HZN.out j (by rw [← HZL.out]; exact hj)) i (by rw [HZL.out]; exact h))
  clear hzs
  go_upto_region 3 with fail
  go_cut [7, 8] (fun s7 s8 wx => s7 = .string (itx a) ∧ s8 = .string (itx b) ∧ Below w.heap.size w wx)
  case first =>
    obtain ⟨hl0, hc00, hc01⟩ := hy0
    have HI0 := Lib.hid (hi0.below (bel_drewN (Below.refl _ _) 1))
    obtain ⟨hl1, hc10, hc11⟩ := hy1
    have HI1 := Lib.hid (hi1.below (bel_drewN (Below.refl _ _) 1))
    clear hi0 hi1
    go_region_with (first
      | ((with_reducible refine Calls.mono (make2_any g0 A0 k0 c0 l0 80 _ ?_ (by omega)) ?_); (focus (exact HI0.out)); rw [Ha.out]; rintro e w2 ⟨rfl, hb2⟩; have hd0_10 := (hb2.cell (p := ⟨w.heap.size + 1, 0, none⟩) hl1).trans hc10; have hd0_11 := (hb2.cell (p := ⟨w.heap.size + 1, 1, none⟩) hl1).trans hc11; have hm0_1 := Nat.lt_of_lt_of_le hl1 hb2.size)
      | ((with_reducible refine Calls.mono (make2_any g1 A1 k1 c1 l1 80 _ ?_ (by omega)) ?_); (focus (exact (HI1.out).below hb2)); rw [Hb.out]; rintro e w3 ⟨rfl, hb3⟩))
    all_goals (go_wp2_with fail; go_meet; exact ⟨rfl, rfl, bel_chain (bel_chain (bel_drewN hB1 1) hb2) hb3⟩)
  case rest =>
    obtain ⟨rfl, rfl, hB0⟩ := hcut
    have hNB := Lib.hid (fun wz (h : Below w.heap.size w wz) => hN.below h)
    have hcap := hN.2.1
    have hle := hN.1
    have HL0 := Lib.hid itx_lit_zero
    clear hB1 hy0 hi0 hy1 hi1 hN1 hN
    go_wp2_with fail
    go_loopw [9, 10, 11] (fun va vs vi wr => ∃ i : Nat, i ≤ n ∧ vi = .int .i64 (i : Int) ∧ vs = .string (itx (sumZ zs i)) ∧ OwnT w.heap.size wr va ((zs.take i).map itx) ∧ Below w.heap.size w wr) (fun _ _ vi _ => n - (intOf vi).toNat)
    case atStart => exact ⟨0, Nat.zero_le _, rfl, by rw [sumZ_zero, HL0.out], OwnT.nil _ _, hB0⟩
    case round =>
      obtain ⟨i, hi, rfl, rfl, hown, hB⟩ := hrel
      obtain ⟨wo, rfl⟩ : ∃ wo : World, wo = wr := ⟨_, rfl⟩
      by_cases hin : i = n
      · subst hin
        have htk : (zs.take i).map itx = zs.map itx := by rw [List.take_of_length_le (by rw [HZL.out]; exact Nat.le_refl _)]
        rw [htk] at hown
        obtain ⟨A5, c5, rfl, hss⟩ := hown.ss
        rw [List.length_map, HZL.out] at hss ⊢
        have HSS := Lib.hid hss
        clear htk hss
        have hA0 := hamb.below hB
        have h8 : i ≤ 1000000 := by omega
        have HZS := Lib.hid (fun j (h : j ≤ i) => show nz (sumZ zs j) ≤ 1000000 by have := HSN.out j h; omega)
        have HZ1 := Lib.hid (fun j (h : j < i) => show nz (zs.getD j 0) ≤ 1000000 by have := HZN.out j h; omega)
        go_wp2_with fail
        refine (wadd_any a b _ hA0 (by omega) (by omega)).mono ?_
        rintro e w1 ⟨rfl, hb1⟩
        have hB1 := bel_chain hB hb1
        have hA1 := hA0.below hb1
        go_wp2_with fail
        refine (r2add_any a b _ hA1 (by omega) (by omega)).mono ?_
        rintro e w2 ⟨rfl, hb2⟩
        have hB2 := bel_chain hB1 hb2
        have hA2 := hA1.below hb2
        go_wp2_with fail
        refine (wsub_any a b _ hA2 (by omega) (by omega)).mono ?_
        rintro e w3 ⟨rfl, hb3⟩
        have hB3 := bel_chain hB2 hb3
        have hA3 := hA2.below hb3
        go_wp2_with fail
        refine (r2sub_any a b _ hA3 (by omega) (by omega)).mono ?_
        rintro e w4 ⟨rfl, hb4⟩
        have hB4 := bel_chain hB3 hb4
        have hA4 := hA3.below hb4
        have hSS4 := HSS.out.below (bel_chain (bel_chain (bel_chain hb1 hb2) hb3) hb4) (Nat.le_refl _)
        have HWS := Lib.hid (wsum_any A5 i c5 zs w4 hA4 hSS4 h8 HZS.out HZ1.out)
        clear hSS4
        go_wp2_with fail
        refine HWS.out.mono ?_
        rintro e w5 ⟨rfl, hb5⟩
        have hB5 := bel_chain hB4 hb5
        go_wp2_with fail
        go_ret
        exact ⟨rfl, hB5⟩
      · have hin' : i < n := by omega
        obtain ⟨g5, off5, rfl, hlt5, hcs5⟩ := (hNB.out _ hB).2.2 (by omega)
        obtain ⟨hc50, hc51, hi5⟩ := hcs5 i hin'
        have HZI5 := Lib.hid (HZI.out i hin')
        have HZN5 := Lib.hid (HZN.out i hin')
        have HI5 := Lib.hid hi5
        have HST := Lib.hid (sumZ_succ zs i (by rw [HZL.out]; exact hin'))
        have HS1 := Lib.hid (HSN.out i hi)
        clear hcs5 hi5
        obtain ⟨z, hz⟩ : ∃ z, zs.getD i 0 = z := ⟨_, rfl⟩
        have HZV := Lib.hid hz
        rw [hz] at HZI5 HZN5 HST
        clear hz
        have hz25 := HZN5.out
        generalize hgg : g i = gi at *
        generalize hAA : Ad i = Ai at *
        generalize hkk : k i = ki at *
        generalize hcc : c i = ci at *
        generalize hll : l i = li at *
        clear hgg hAA hkk hcc hll
        have hii : (i : Int) < (n : Int) := by omega
        go_wp2_with fail
        refine (make2_any gi Ai ki ci li 25 _ HI5.out (by omega)).mono ?_
        rw [HZI5.out]
        rintro e w1 ⟨rfl, hb1⟩
        have hB1 := bel_chain hB hb1
        have hown1 := hown.below hb1
        have hA1 := hamb.below hB1
        clear hown hb1
        have hlm : ((zs.take i).map itx).length = i := by rw [List.length_map, List.length_take, HZL.out]; omega
        have HLM := Lib.hid hlm
        have hlm9 : ((zs.take i).map itx).length ≤ 1000000000 := by rw [hlm]; omega
        have HGI := Lib.hid (show ((zs.take i).map itx ++ [itx z]).getD i ⟨#[]⟩ = itx z by
          rw [List.getD_eq_getElem?_getD, List.getElem?_append_right (by omega), hlm, Nat.sub_self]; rfl)
        have HTN := Lib.hid (show (zs.take (i + 1)).map itx = (zs.take i).map itx ++ [itx z] by
          rw [List.take_succ_eq_append_getElem (by rw [HZL.out]; exact hin'), List.map_append, ← HZV.out, List.getD_eq_getElem?_getD, List.getElem?_eq_getElem]; rfl)
        clear hlm
        go_wp2_with (at_builtin; refine append_ownT rfl _ _ 29 rfl Tryz.underlying29 w.heap.size _ _ w1 rfl hown1 hB1.size hlm9 (itx z) rfl rfl ?_; intro g4 c4 w4 hg4 hq4 hb4; rw [HLM.out] at hq4 ⊢; have hc4 := hq4.cell i (by omega); rw [HGI.out] at hc4)
        have hA4 := hamb.below (hB1.trans hb4)
        have hss := HS1.out
        refine (r2add_any (sumZ zs i) z _ hA4 (by omega) (by omega)).mono ?_
        rintro e w5 ⟨rfl, hb5⟩
        rw [← HST.out]
        have hB5 := bel_chain (hB1.trans hb4) hb5
        have hq5 := hq4.below hb5 hq4.lt
        go_wp2_with fail
        go_roundw
        case rel =>
          refine ⟨i + 1, by omega, by go_num, rfl, .inr ⟨g4, c4, ?_, hg4, ?_⟩, hB5⟩
          · rw [HTN.out, List.length_append, HLM.out]; rfl
          · rw [HTN.out, List.length_append, HLM.out]; exact hq5
        case measure => simp [intOf]; omega
end Go.Proofs.YtebcmefbpfcgmaaGreatDoor
