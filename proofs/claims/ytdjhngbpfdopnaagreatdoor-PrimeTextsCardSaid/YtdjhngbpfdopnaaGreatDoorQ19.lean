/- Greater text, out of: Q19. -/
import Derived.Test.YtdjhngbpfdopnaaGreatDoorQ13
namespace Go.Proofs.YtdjhngbpfdopnaaGreatDoor
open Go.RowKit Go.PlainAid

/-- strconv.Atoi: a number, or an error. -/
theorem atoi_any (s : ByteArray) (w : World) (hamb : Amb w) (hs : s.size ≤ 1000000) :
    (∃ v, Lib.atoiAll s.data.toList = .ok v ∧ (-9223372036854775808 ≤ v ∧ v ≤ 9223372036854775807) ∧ Calls Tryz.prog 95 #[.string s] w (SmallRes (.tuple #[.int .i64 v, .nilIface]) w)) ∨
    ((∀ v, Lib.atoiAll s.data.toList ≠ .ok v) ∧ Calls Tryz.prog 95 #[.string s] w (fun e w' => ∃ n t p, e = .returned (.tuple #[.int .i64 n, .iface t p]) ∧ Below w.heap.size w w')) := by
  obtain ⟨tp, p, hr⟩ := hamb.range
  obtain ⟨tp2, p2, hy⟩ := hamb.syn
  rcases h : Lib.atoiAll s.data.toList with v | _ | _
  · refine .inl ⟨v, rfl, Lib.atoiAll_bounds h, (Tryz.strconv_Atoi_ok s (by omega) v h w).mono ?_⟩
    rintro e w' ⟨he, hw⟩
    refine ⟨he, ?_⟩
    rcases hw with rfl | ⟨t, rfl⟩
    · exact Below.refl _ _
    · exact bytes_below _ _ _
  · refine .inr ⟨fun v hv => (by cases hv), (Any.strconv_Atoi_syntax_var Tryz.laysC172 s (by omega) h tp2 p2 w hy).mono ?_⟩
    rintro e w' ⟨N, he, _, _, hb⟩
    exact ⟨_, _, _, he, hb⟩
  · refine .inr ⟨fun v hv => (by cases hv), (Any.strconv_Atoi_range_var Tryz.laysC172 s (by omega) h tp p w hr).mono ?_⟩
    rintro e w' ⟨N, he, _, _, hb⟩
    exact ⟨_, _, _, he, hb⟩

/-- The text of a list. -/
def ltext (xs : List Int) : ByteArray := ⟨(Lib.join ((xs.map itx).map (·.data.toList)) [46]).toArray⟩
theorem small_itx {x : Int} (h : 0 ≤ x ∧ x ≤ 97) : (itx x).data.toList.length ≤ 2 := by
  rw [str_size, itx_size, if_neg (by omega)]
  have : nz x ≤ 2 := (nz_le_iff x 1).2 (by have e : (10 : Nat) ^ (1 + 1) = 100 := by decide
                                           omega)
  omega
theorem join_len (sep : List UInt8) (hs : sep.length = 1) : ∀ l : List (List UInt8), (∀ x ∈ l, x.length ≤ 2) → (Lib.join l sep).length ≤ 3 * l.length := by
  intro l
  induction l with
  | nil => intro _; simp [Lib.join]
  | cons a l ih =>
    intro h
    have ha := h a (List.mem_cons_self ..)
    have hi := ih fun x hx => h x (List.mem_cons_of_mem _ hx)
    cases l with
    | nil => simp [Lib.join] at *; omega
    | cons b l =>
      simp only [Lib.join, List.length_cons] at *
      rw [show sep.intercalate (a :: b :: l) = a ++ sep ++ sep.intercalate (b :: l) by simp [List.intercalate, List.intersperse]]
      simp only [List.length_append]
      omega
theorem map_take_succ {xs : List Int} {i : Nat} (h : i < xs.length) : (xs.take (i + 1)).map itx = (xs.take i).map itx ++ [itx (xs.getD i 0)] := by
  rw [List.take_succ_eq_append_getElem h, List.map_append, getD_of h]; rfl
set_option maxRecDepth 100000 in
set_option maxHeartbeats 2000000 in
theorem Text_any (A : Option Addr) (n cap : Nat) (ps : List Int) (w : World) (hamb : Amb w) (h : InZ w A n cap ps) (hok : Okl ps) :
    Calls Tryz.prog 30 #[.slice A n cap] w (SmallRes (.tuple #[.string (ltext ps), .int .i64 0]) w) := by
  have HL := Lib.hid h.1
  have hle := h.2.1
  have hcap := h.2.2.1
  have hn0 : 0 < n := by have := hok.pos; have := h.1; omega
  have hn6 : n ≤ 6 := by have := hok.le; have := h.1; omega
  have HCK := Lib.hid (hok.chk ▸ pcheck_any A n cap ps w h)
  have HIN := Lib.hid (fun wz (hb : Below w.heap.size w wz) => (h.below hb).2.2.2)
  have HAMB := Lib.hid (fun wz (hb : Below w.heap.size w wz) => hamb.below hb)
  have HPS := Lib.hid (fun i (hi : i < n) => hok.two i (by rw [h.1]; exact hi))
  have HJL := Lib.hid (show (Lib.join ((ps.map itx).map (·.data.toList)) [46]).length ≤ 140737488355328 from by
    have hh := join_len [46] rfl ((ps.map itx).map (·.data.toList)) (fun x hx => by
      simp only [List.map_map, List.mem_map] at hx
      obtain ⟨y, hy, rfl⟩ := hx
      obtain ⟨i, hi, rfl⟩ := List.mem_iff_getElem.1 hy
      have := hok.two i hi
      rw [getD_of hi] at this
      exact small_itx (by omega))
    simp only [List.length_map] at hh
    have := hok.le
    omega)
  clear h hamb hok
  go_enter Tryz.func30, Tryz.ntmps30
  go_wp2_with fail
  refine HCK.out.mono ?_
  rintro e w1 ⟨rfl, hz0⟩
  clear HCK
  go_wp2_with fail
  go_loopw [5, 15] (fun vo vi wr => ∃ i : Nat, i ≤ n ∧ vi = .int .i64 (i : Int) ∧ OwnS w.heap.size wr vo ((ps.take i).map itx) ∧ Below w.heap.size w wr) (fun _ vi _ => n - (intOf vi).toNat)
  case atStart => exact ⟨0, Nat.zero_le _, rfl, OwnS.nil _ _, hz0⟩
  case round =>
    obtain ⟨i, hi, rfl, hown, hB⟩ := hrel
    by_cases hin : i = n
    · have hlt : ¬ (i : Int) < (n : Int) := by omega
      have htk : (ps.take i).map itx = ps.map itx := by rw [List.take_of_length_le (by rw [HL.out]; omega)]
      rw [htk] at hown
      rcases hown with ⟨_, e⟩ | ⟨g, c, rfl, _, hz⟩
      · exfalso
        have := congrArg List.length e
        rw [List.length_map, HL.out, List.length_nil] at this
        omega
      have HJ := Lib.hid (show Calls Tryz.prog 87 #[.slice (some ⟨g, 0, none⟩) n c, .string ⟨#[46]⟩] wr (SmallRes (.string (ltext ps)) wr) from by
        have hh := Tryz.strings_Join g 0 c (ps.map itx) ⟨#[46]⟩ wr (fun j x hx => by
          have hj := (List.getElem?_eq_some_iff.1 hx).1
          have hc := hz.cell j hj
          rw [List.getD_eq_getElem?_getD, hx] at hc
          rw [Nat.zero_add]; exact hc) hz.lt (by rw [List.length_map, HL.out]; omega) hz.le HJL.out
        rw [List.length_map, HL.out] at hh
        exact hh.mono fun e w' hx => ⟨hx.1, hx.2⟩)
      rw [List.length_map, HL.out] at hz ⊢
      have hc1 := hz.le
      have hc2 := hz.cap_le
      have HB := Lib.hid hB
      clear hz hB htk
      subst hin
      go_wp2_with fail
      refine HJ.out.mono ?_
      rintro e w5 ⟨rfl, hb5⟩
      have HB5 := Lib.hid (bel_chain HB.out hb5)
      clear hb5
      go_wp2_with fail
      go_ret2
      exact ⟨rfl, HB5.out⟩
    · have hlt : (i : Int) < (n : Int) := by omega
      obtain ⟨b, off, rfl, hbl, hc⟩ := HIN.out _ hB (by omega)
      have hcell := hc i (by omega)
      have HPB := Lib.hid (HPS.out i (by omega))
      have HTK := Lib.hid (map_take_succ (xs := ps) (i := i) (by rw [HL.out]; omega))
      have HLN := Lib.hid (show ((ps.take i).map itx).length ≤ 1000000000 by rw [List.length_map, List.length_take]; omega)
      obtain ⟨p, hp⟩ : ∃ p, ps.getD i 0 = p := ⟨_, rfl⟩
      obtain ⟨xs, hxs⟩ : ∃ xs, (ps.take i).map itx = xs := ⟨_, rfl⟩
      rw [hp] at hcell HPB HTK
      rw [hxs] at hown HTK HLN
      have HO := Lib.hid hown
      have HB := Lib.hid hB
      have HIT := Lib.hid (itoa_any p wr (HAMB.out _ hB) (by have := HPB.out; omega) (by have := HPB.out; omega))
      obtain ⟨s, hs⟩ : ∃ s, itx p = s := ⟨_, rfl⟩
      rw [hs] at HIT HTK
      clear hc hp hxs hown hB hbl hs
      go_wp2_with fail
      refine HIT.out.mono ?_
      rintro e w5 ⟨rfl, hb5⟩
      have hown5 := HO.out.below hb5
      have hB5 := bel_chain HB.out hb5
      have HB5 := Lib.hid hB5
      have hlen := HLN.out
      clear hb5 hcell
      go_wp2_with (at_builtin; refine append_OwnS rfl _ _ 127 rfl Tryz.underlying127 w.heap.size _ xs w5 rfl hown5 hB5.size hlen s rfl rfl ?_; intro v6 w6 hown6 hb6; have HO6 := Lib.hid hown6; have HB6 := Lib.hid hb6; clear hown6 hb6)
      go_roundw
      case rel => exact ⟨i + 1, by omega, by go_num, by rw [HTK.out]; exact HO6.out, HB5.out.trans HB6.out⟩
      case measure => simp [intOf]; omega
set_option maxRecDepth 100000 in
set_option maxHeartbeats 2000000 in
theorem ltext_any (A : Option Addr) (n cap : Nat) (ps : List Int) (w : World) (hamb : Amb w) (h : InZ w A n cap ps) (hok : Okl ps) :
    Calls Tryz.prog 42 #[.slice A n cap] w (SmallRes (.string (ltext ps)) w) := by
  have HL := Lib.hid h.1
  have hle := h.2.1
  have hcap := h.2.2.1
  have hn0 : 0 < n := by have := hok.pos; have := h.1; omega
  have hn6 : n ≤ 6 := by have := hok.le; have := h.1; omega
  have HCK := Lib.hid (hok.chk ▸ pcheck_any A n cap ps w h)
  have HIN := Lib.hid (fun wz (hb : Below w.heap.size w wz) => (h.below hb).2.2.2)
  have HAMB := Lib.hid (fun wz (hb : Below w.heap.size w wz) => hamb.below hb)
  have HPS := Lib.hid (fun i (hi : i < n) => hok.two i (by rw [h.1]; exact hi))
  have HJL := Lib.hid (show (Lib.join ((ps.map itx).map (·.data.toList)) [46]).length ≤ 140737488355328 from by
    have hh := join_len [46] rfl ((ps.map itx).map (·.data.toList)) (fun x hx => by
      simp only [List.map_map, List.mem_map] at hx
      obtain ⟨y, hy, rfl⟩ := hx
      obtain ⟨i, hi, rfl⟩ := List.mem_iff_getElem.1 hy
      have := hok.two i hi
      rw [getD_of hi] at this
      exact small_itx (by omega))
    simp only [List.length_map] at hh
    have := hok.le
    omega)
  clear h hamb hok
  go_enter Tryz.func42, Tryz.ntmps42
  clear HCK
  have hz0 := Below.refl w.heap.size w
  go_wp2_with fail
  go_loopw [3, 8] (fun vo vi wr => ∃ i : Nat, i ≤ n ∧ vi = .int .i64 (i : Int) ∧ OwnS w.heap.size wr vo ((ps.take i).map itx) ∧ Below w.heap.size w wr) (fun _ vi _ => n - (intOf vi).toNat)
  case atStart => exact ⟨0, Nat.zero_le _, rfl, OwnS.nil _ _, hz0⟩
  case round =>
    obtain ⟨i, hi, rfl, hown, hB⟩ := hrel
    by_cases hin : i = n
    · have hlt : ¬ (i : Int) < (n : Int) := by omega
      have htk : (ps.take i).map itx = ps.map itx := by rw [List.take_of_length_le (by rw [HL.out]; omega)]
      rw [htk] at hown
      rcases hown with ⟨_, e⟩ | ⟨g, c, rfl, _, hz⟩
      · exfalso
        have := congrArg List.length e
        rw [List.length_map, HL.out, List.length_nil] at this
        omega
      have HJ := Lib.hid (show Calls Tryz.prog 87 #[.slice (some ⟨g, 0, none⟩) n c, .string ⟨#[46]⟩] wr (SmallRes (.string (ltext ps)) wr) from by
        have hh := Tryz.strings_Join g 0 c (ps.map itx) ⟨#[46]⟩ wr (fun j x hx => by
          have hj := (List.getElem?_eq_some_iff.1 hx).1
          have hc := hz.cell j hj
          rw [List.getD_eq_getElem?_getD, hx] at hc
          rw [Nat.zero_add]; exact hc) hz.lt (by rw [List.length_map, HL.out]; omega) hz.le HJL.out
        rw [List.length_map, HL.out] at hh
        exact hh.mono fun e w' hx => ⟨hx.1, hx.2⟩)
      rw [List.length_map, HL.out] at hz ⊢
      have hc1 := hz.le
      have hc2 := hz.cap_le
      have HB := Lib.hid hB
      clear hz hB htk
      subst hin
      go_wp2_with fail
      refine HJ.out.mono ?_
      rintro e w5 ⟨rfl, hb5⟩
      have HB5 := Lib.hid (bel_chain HB.out hb5)
      clear hb5
      go_wp2_with fail
      go_ret
      exact ⟨rfl, HB5.out⟩
    · have hlt : (i : Int) < (n : Int) := by omega
      obtain ⟨b, off, rfl, hbl, hc⟩ := HIN.out _ hB (by omega)
      have hcell := hc i (by omega)
      have HPB := Lib.hid (HPS.out i (by omega))
      have HTK := Lib.hid (map_take_succ (xs := ps) (i := i) (by rw [HL.out]; omega))
      have HLN := Lib.hid (show ((ps.take i).map itx).length ≤ 1000000000 by rw [List.length_map, List.length_take]; omega)
      obtain ⟨p, hp⟩ : ∃ p, ps.getD i 0 = p := ⟨_, rfl⟩
      obtain ⟨xs, hxs⟩ : ∃ xs, (ps.take i).map itx = xs := ⟨_, rfl⟩
      rw [hp] at hcell HPB HTK
      rw [hxs] at hown HTK HLN
      have HO := Lib.hid hown
      have HB := Lib.hid hB
      have HIT := Lib.hid (itoa_any p wr (HAMB.out _ hB) (by have := HPB.out; omega) (by have := HPB.out; omega))
      obtain ⟨s, hs⟩ : ∃ s, itx p = s := ⟨_, rfl⟩
      rw [hs] at HIT HTK
      clear hc hp hxs hown hB hbl hs
      go_wp2_with fail
      refine HIT.out.mono ?_
      rintro e w5 ⟨rfl, hb5⟩
      have hown5 := HO.out.below hb5
      have hB5 := bel_chain HB.out hb5
      have HB5 := Lib.hid hB5
      have hlen := HLN.out
      clear hb5 hcell
      go_wp2_with (at_builtin; refine append_OwnS rfl _ _ 127 rfl Tryz.underlying127 w.heap.size _ xs w5 rfl hown5 hB5.size hlen s rfl rfl ?_; intro v6 w6 hown6 hb6; have HO6 := Lib.hid hown6; have HB6 := Lib.hid hb6; clear hown6 hb6)
      go_roundw
      case rel => exact ⟨i + 1, by omega, by go_num, by rw [HTK.out]; exact HO6.out, HB5.out.trans HB6.out⟩
      case measure => simp [intOf]; omega
end Go.Proofs.YtdjhngbpfdopnaaGreatDoor
