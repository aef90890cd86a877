/- Greater text, out of: Q22. -/
import Derived.Test.YtdjhngbpfdopnaaGreatDoorQ21
import Derived.Lib.AtoiTie
namespace Go.Proofs.YtdjhngbpfdopnaaGreatDoor
open Go.RowKit Go.PlainAid

theorem ib_none (c : UInt8) : ∀ l : List UInt8, (∀ x ∈ l, x ≠ c) → Lib.indexByte l c = -1 := by
  intro l
  induction l with
  | nil => intro _; rfl
  | cons b l ih =>
    intro h
    have h1 := h b (List.mem_cons_self ..)
    have h2 := ih fun x hx => h x (List.mem_cons_of_mem _ hx)
    unfold Lib.indexByte
    rw [if_neg (by simpa using h1), h2]; rfl
theorem ib_hit (c : UInt8) (r : List UInt8) : ∀ l : List UInt8, (∀ x ∈ l, x ≠ c) → Lib.indexByte (l ++ c :: r) c = (l.length : Int) := by
  intro l
  induction l with
  | nil => intro _; unfold Lib.indexByte; rw [List.nil_append]; simp
  | cons b l ih =>
    intro h
    have h1 := h b (List.mem_cons_self ..)
    have h2 := ih fun x hx => h x (List.mem_cons_of_mem _ hx)
    show Lib.indexByte (b :: (l ++ c :: r)) c = _
    unfold Lib.indexByte
    rw [if_neg (by simpa using h1), h2, if_neg (by simp)]
    simp only [List.length_cons]; omega
theorem split_join : ∀ L : List (List UInt8), L ≠ [] → (∀ a ∈ L, ∀ x ∈ a, x ≠ 46) → Lib.splitK [46] 0 (Lib.count (Lib.join L [46]) [46]) (Lib.join L [46]) = L := by
  intro L
  induction L with
  | nil => intro h; exact absurd rfl h
  | cons a L ih =>
    intro _ h
    have ha := h a (List.mem_cons_self ..)
    cases L with
    | nil =>
      have hj : Lib.join [a] [46] = a := by simp [Lib.join, List.intercalate, List.intersperse]
      have hi : Lib.index a [46] = -1 := by rw [Lib.index_one, ib_none 46 a ha]
      rw [hj, Lib.count_miss hi]; rfl
    | cons b L =>
      have hj : Lib.join (a :: b :: L) [46] = a ++ 46 :: Lib.join (b :: L) [46] := by simp [Lib.join, List.intercalate, List.intersperse]
      have hi : Lib.index (a ++ 46 :: Lib.join (b :: L) [46]) [46] = ((a.length : Nat) : Int) := by rw [Lib.index_one, ib_hit 46 _ a ha]
      have hd : (a ++ 46 :: Lib.join (b :: L) [46]).drop (a.length + [(46 : UInt8)].length) = Lib.join (b :: L) [46] := by
        rw [List.drop_append, List.drop_of_length_le (by simp)]; simp
      have hc := Lib.count_hit (sub := [46]) (by simp) hi
      rw [hd] at hc
      rw [hj, hc, Nat.add_comm 1]
      unfold Lib.splitK
      rw [if_neg (by rw [hi, beq_iff_eq]; omega), hi, Int.toNat_natCast, hd, ih (by simp) fun x hx => h x (List.mem_cons_of_mem _ hx)]
      simp
theorem dd_no_dot (n : Nat) : ∀ x ∈ Lib.decDigits n, x ≠ 46 := by
  intro x hx e
  have h := all_dd n
  rw [List.all_eq_true] at h
  have := h x hx
  rw [e] at this
  exact absurd this (by decide)
theorem itx_nat_data {x : Int} (h : 0 ≤ x) : (itx x).data.toList = Lib.decDigits x.natAbs := by rw [itx_data, itoa_pos h]
theorem map_data_inj : ∀ {a b : List ByteArray}, a.map (·.data.toList) = b.map (·.data.toList) → a = b := by
  intro a
  induction a with
  | nil => intro b h; cases b with | nil => rfl | cons _ _ => simp at h
  | cons x a ih =>
    intro b h
    cases b with
    | nil => simp at h
    | cons y b =>
      simp only [List.map_cons, List.cons.injEq] at h
      rw [ba_ext h.1, ih h.2]
theorem pieces_text {ps : List Int} (hok : Okl ps) : pieces (ltext ps) = ps.map itx := by
  apply map_data_inj
  unfold pieces
  rw [Lib.splitB_data]
  refine split_join ((ps.map itx).map (·.data.toList)) (fun e => ?_) (fun a ha => ?_)
  · have := congrArg List.length e
    simp only [List.length_map, List.length_nil] at this
    have := hok.pos
    omega
  · simp only [List.map_map, List.mem_map] at ha
    obtain ⟨y, hy, rfl⟩ := ha
    obtain ⟨i, hi, rfl⟩ := List.mem_iff_getElem.1 hy
    have h2 := hok.two i hi
    rw [getD_of hi] at h2
    show ∀ x ∈ (itx ps[i]).data.toList, x ≠ 46
    rw [itx_nat_data (by omega)]
    exact dd_no_dot _
theorem text_size {ps : List Int} (hok : Okl ps) : (ltext ps).size ≤ 18 := by
  rw [← str_size]
  have hh := join_len [46] rfl ((ps.map itx).map (·.data.toList)) (fun x hx => by
    simp only [List.map_map, List.mem_map] at hx
    obtain ⟨y, hy, rfl⟩ := hx
    obtain ⟨i, hi, rfl⟩ := List.mem_iff_getElem.1 hy
    have := hok.two i hi
    rw [getD_of hi] at this
    exact small_itx (by omega))
  simp only [List.length_map] at hh
  have := hok.le
  show (Lib.join ((ps.map itx).map (·.data.toList)) [46]).length ≤ 18
  omega
theorem pcs_text {ps : List Int} (hok : Okl ps) : Pcs (pieces (ltext ps)) (pieces (ltext ps)).length ps := by
  rw [pieces_text hok]
  refine ⟨by simp, fun j hj => ?_⟩
  have hj2 : j < ps.length := by simpa using hj
  have hg : (ps.map itx).getD j ⟨#[]⟩ = itx (ps.getD j 0) := by
    rw [List.getD_eq_getElem?_getD, List.getElem?_map, List.getElem?_eq_getElem hj2, getD_of hj2]; rfl
  rw [hg]
  have h2 := hok.two j hj2
  have hs := small_itx (x := ps.getD j 0) (by omega)
  refine ⟨?_, by omega, by omega, rfl⟩
  rw [Lib.atoiAll_short _ (by omega), itx_data, atoi_itoa]; rfl
theorem Parse_long (s : ByteArray) (w : World) (hs : 40 < s.size) :
    Calls Tryz.prog 41 #[.string s] w (SmallRes (.tuple #[.slice none 0 0, .int .i64 15]) w) := by
  have h40 : 40 < (s.size : Int) := by omega
  go_enter Tryz.func41, Tryz.ntmps41
  go_wp2_with fail
  go_ret2
  exact ⟨rfl, Below.refl _ _⟩
theorem lparse_long (s : ByteArray) (w : World) (hs : 40 < s.size) :
    Calls Tryz.prog 43 #[.string s] w (SmallRes (.tuple #[.slice none 0 0, .bool false]) w) := by
  have h40 : 40 < (s.size : Int) := by omega
  go_enter Tryz.func43, Tryz.ntmps43
  go_wp2_with fail
  go_ret2
  exact ⟨rfl, Below.refl _ _⟩
end Go.Proofs.YtdjhngbpfdopnaaGreatDoor
