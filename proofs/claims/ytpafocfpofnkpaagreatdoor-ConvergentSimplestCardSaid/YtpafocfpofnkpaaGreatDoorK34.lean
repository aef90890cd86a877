/- Greater text, out of: K34. -/
import Derived.Test.YtpafocfpofnkpaaGreatDoorK33
import Derived.RangeFuncNested
import Derived.RangeFuncBound
import Derived.RangeFuncCalls
import Derived.RangeFuncLeaves
import Derived.Shelf.Abstract
import Derived.Shelf.RegionOpen
import Derived.WalkKit
import Derived.OwnWalkIn
import Derived.TacticsInMore
import Derived.LoopNIn
import Derived.LoopIn
namespace Go.Proofs.YtpafocfpofnkpaaGreatDoor
open Go.RowKit Go.PlainAid Go.Shelf
attribute [local go_sem] Oper.semAt_some
/-- What may change between two rounds: the iterator's pairs; the body's fractions and slices of fractions. -/
def isPair (t : TypeId) : Bool := t == 99
def isRat (t : TypeId) : Bool := t == 24 || t == 29
/-- What the closure has captured, and what it reads. -/
structure Cap (B : Nat) (A : Option Addr) (n cap : Nat) (b : Int) (g : Nat) (ts : List Int) (w : World) : Prop where
  b0 : Boxed w B 55 (.slice A n cap)
  b1 : Boxed w (B + 1) 3 (.int .i64 b)
  b2 : Boxed w (B + 1 + 1) 65 (.func (.func g) #[] #[])
  row : Js w A n cap ts
theorem boxed_onlyT {M : Nat} {T : TypeId → Bool} {X Y : World} {b : Nat} {t : TypeId} {v : Value} (h : Boxed X b t v) (k : OnlyT M T X Y) (ht : T t = false) : Boxed Y b t v :=
  (k.same b h.lt (.inr fun cs t' f e => by rw [show X.heap[b]? = some (.cells #[v] t (0, 0)) from h] at e; cases e; exact ht)).trans h
theorem Js.onlyT {M : Nat} {T : TypeId → Bool} {X Y : World} {A : Option Addr} {n cap : Nat} {ts : List Int} (h : Js X A n cap ts) (k : OnlyT M T X Y) (ht : T 22 = false) : Js Y A n cap ts := by
  rcases h with h | ⟨g, e, h⟩
  · exact .inl h
  · refine .inr ⟨g, e, h.of_heap (k.same g h.lt (.inr fun cs t' f e => ?_))⟩
    obtain ⟨cur, hh, _⟩ := h.form
    rw [hh] at e; cases e; exact ht
theorem Cap.onlyT {B : Nat} {A : Option Addr} {n cap : Nat} {b : Int} {g : Nat} {ts : List Int} {M : Nat} {T : TypeId → Bool} {X Y : World} (h : Cap B A n cap b g ts X) (k : OnlyT M T X Y)
    (h0 : T 55 = false) (h1 : T 3 = false) (h2 : T 65 = false) (h3 : T 22 = false) : Cap B A n cap b g ts Y :=
  ⟨boxed_onlyT h.b0 k h0, boxed_onlyT h.b1 k h1, boxed_onlyT h.b2 k h2, h.row.onlyT k h3⟩
theorem Cap.later {B : Nat} {A : Option Addr} {n cap : Nat} {b : Int} {g : Nat} {ts : List Int} {X Y : World} (h : Cap B A n cap b g ts X) (hb : Below X.heap.size X Y) : Cap B A n cap b g ts Y :=
  h.onlyT (M := 0) (T := fun _ => false) (OnlyT.new hb) rfl rfl rfl rfl

/-- The int of a number's text. -/
def unItx (v : Value) : Int := match v with | .string s => (Lib.atoi s.data.toList).getD 0 | _ => 0
theorem unItx_eq (z : Int) : unItx (.string (itx z)) = z := by show (Lib.atoi (itx z).data.toList).getD 0 = z; rw [itx_data, atoi_itoa]; rfl
/-- What is still to come at the i-th term. -/
def restL (f : Int → Int → Int) (b : Int) (ts : List Int) (i : Nat) : List (Int × Int) := if i = 0 then semiL f b ts else semiT f b (runC beg (ts.take i)) (ts.drop i)
theorem restL_end (f : Int → Int → Int) (b : Int) (ts : List Int) (i : Nat) (h : ts.length ≤ i) : restL f b ts i = [] := by
  unfold restL
  rw [List.drop_eq_nil_of_le h]
  split
  · rename_i h0
    have : ts = [] := List.eq_nil_of_length_eq_zero (by omega)
    rw [this]; rfl
  · rfl
/-- From where on the parts of a term count. -/
def lowk (i : Nat) (j : Int) : Int := if i = 0 then j else max j 1
def PBox (w : World) (g : Nat) (c : P4) : Prop := Box4 w g (.string (itx c.p)) (.string (itx c.q)) (.string (itx c.b)) (.string (itx c.u))
theorem Box4.onlyT {M : Nat} {T : TypeId → Bool} {X Y : World} {g : Nat} {v0 v1 v2 v3 : Value} (h : Box4 X g v0 v1 v2 v3) (k : OnlyT M T X Y) (ht : T 99 = false) : Box4 Y g v0 v1 v2 v3 :=
  (k.same g h.lt (.inr fun cs t' f e => by rw [show X.heap[g]? = some (.cells #[v0, v1, v2, v3] 99 (0, 0)) from h] at e; cases e; exact ht)).trans h
/-- What is pending. -/
def Pend (ys : List (Int × Int)) (J : Nat → World → Prop) (P : List (Int × Int)) (wr : World) : Prop := ∃ cnt, cnt ≤ ys.length ∧ ys.drop cnt = P ∧ J cnt wr
theorem Pend.done {ys : List (Int × Int)} {J : Nat → World → Prop} {wr : World} (h : Pend ys J [] wr) : J ys.length wr := by
  obtain ⟨cnt, h1, h2, h3⟩ := h
  have : ys.length ≤ cnt := by
    have := congrArg List.length h2
    simp at this; omega
  rwa [show ys.length = cnt by omega]
theorem Pend.next {ys : List (Int × Int)} {J : Nat → World → Prop} {y : Int × Int} {P : List (Int × Int)} {wr : World} (h : Pend ys J (y :: P) wr) : ∃ cnt, cnt + 1 ≤ ys.length ∧ ys.drop (cnt + 1) = P ∧ J cnt wr ∧ (ys.map fun y => Rat.divInt y.1 y.2)[cnt]? = some (Rat.divInt y.1 y.2) := by
  obtain ⟨cnt, h1, h2, h3⟩ := h
  have hlt : cnt < ys.length := by
    have := congrArg List.length h2
    simp at this; omega
  rw [List.drop_eq_getElem_cons hlt] at h2
  injection h2 with h4 h5
  exact ⟨cnt, hlt, h5, h3, by rw [List.getElem?_map, List.getElem?_eq_getElem hlt, h4]; rfl⟩
/-- What the loop over the terms keeps. -/
structure SAt (b : Int) (ts : List Int) (i : Nat) : Prop where
  pos : 0 < i → 1 ≤ (runC beg (ts.take i)).q ∧ 0 ≤ (runC beg (ts.take i)).u ∧ (runC beg (ts.take i)).u ≤ (runC beg (ts.take i)).q ∧ (runC beg (ts.take i)).q ≤ b
  sz : (runC beg (ts.take i)).Sz (1 + 101 * i)
theorem SAt.zero (b : Int) (ts : List Int) : SAt b ts 0 := ⟨fun h => absurd h (Nat.lt_irrefl _), by rw [List.take_zero]; exact beg_sz⟩
theorem run_succ (ts : List Int) (i : Nat) (h : i < ts.length) : runC beg (ts.take (i + 1)) = (runC beg (ts.take i)).nx (ts.getD i 0) := by
  rw [List.take_succ_eq_append_getElem h, runC_append, List.getD_eq_getElem?_getD, List.getElem?_eq_getElem h]; rfl
theorem SAt.succ {b : Int} {ts : List Int} {i : Nat} (h : SAt b ts i) (hi : i < ts.length) (ha : nz (ts.getD i 0) ≤ 100) (hb : 1 ≤ b) (hp : 0 < i → 1 ≤ ts.getD i 0) (hm : 0 < i → ¬ (runC beg (ts.take i)).most (ts.getD i 0) b < ts.getD i 0) : SAt b ts (i + 1) := by
  have e := run_succ ts i hi
  refine ⟨fun _ => ?_, by rw [e]; exact (h.sz.nx ha).mono (by omega)⟩
  rw [e]
  rcases Nat.eq_zero_or_pos i with rfl | h0
  · rw [List.take_zero]
    refine ⟨?_, ?_, ?_, ?_⟩ <;> simp [runC, P4.nx, P4.den, beg]
    exact hb
  · obtain ⟨k1, k2, k3, k4⟩ := h.pos h0
    have ha1 := hp h0
    have hmm := hm h0
    generalize runC beg (ts.take i) = c at *
    generalize ts.getD i 0 = a at *
    have hq := Int.mul_le_mul_of_nonneg_right ha1 (show 0 ≤ c.q by omega)
    have hD : c.den a ≤ b := by
      rw [most_eq k1] at hmm
      have h3 : a ≤ (b - c.u) / c.q := by
        by_cases e : (b - c.u) / c.q < a
        · rw [if_pos e] at hmm; omega
        · omega
      have he := ediv_eq (b - c.u) c.q
      have hbd := emod_bd (n := b - c.u) (show 0 < c.q by omega)
      have := Int.mul_le_mul_of_nonneg_left h3 (show 0 ≤ c.q by omega)
      rw [Int.mul_comm c.q a] at this
      unfold P4.den
      omega
    refine ⟨by show 1 ≤ c.u + a * c.q; omega, by show 0 ≤ c.q; omega, by show c.q ≤ c.u + a * c.q; omega, hD⟩
/-- The parts of a term that are yielded. -/
theorem rest_split (f : Int → Int → Int) (b : Int) (ts : List Int) (i : Nat) (hi : i < ts.length) :
    restL f b ts i = (runC beg (ts.take i)).semis (lowk i (if i = 0 then ts.getD i 0 else f (ts.getD i 0) ((runC beg (ts.take i)).most (ts.getD i 0) b))) ((runC beg (ts.take i)).most (ts.getD i 0) b) ++
      if (runC beg (ts.take i)).most (ts.getD i 0) b < ts.getD i 0 then [] else restL f b ts (i + 1) := by
  have e := run_succ ts i hi
  have e2 : ts.drop i = ts.getD i 0 :: ts.drop (i + 1) := by
    rw [List.drop_eq_getElem_cons hi, List.getD_eq_getElem?_getD, List.getElem?_eq_getElem hi]; rfl
  rw [show restL f b ts (i + 1) = semiT f b ((runC beg (ts.take i)).nx (ts.getD i 0)) (ts.drop (i + 1)) by unfold restL; rw [if_neg (by omega), e]]
  rcases Nat.eq_zero_or_pos i with rfl | h0
  · obtain ⟨a, l, rfl⟩ : ∃ a l, ts = a :: l := by cases ts with | nil => exact absurd hi (Nat.not_lt_zero _) | cons a l => exact ⟨a, l, rfl⟩
    have hm : (runC beg ((a :: l).take 0)).most ((a :: l).getD 0 0) b = a := by
      show beg.most a b = a
      unfold P4.most; rw [if_pos (by rfl)]
    rw [hm, if_pos rfl, if_neg (by simp)]
    show (a, 1) :: semiT f b (beg.nx a) l = beg.semis (lowk 0 a) a ++ semiT f b (beg.nx a) l
    rw [show lowk 0 a = a from if_pos rfl]
    unfold P4.semis
    rw [rng_cons (Int.le_refl a), rng_none (by omega)]
    show _ = ((beg.num a, beg.den a) :: []) ++ _
    rw [show beg.num a = a by simp [P4.num, beg], show beg.den a = 1 by simp [P4.den, beg]]; rfl
  · unfold restL lowk
    rw [if_neg (by omega), if_neg (by omega), if_neg (by omega), e2]
    rfl
theorem cmpZ_le {a b : Int} : cmpZ a b ≤ 0 ↔ a ≤ b := by unfold cmpZ; split; omega; split <;> omega
theorem cmpZ_neg {a b : Int} : cmpZ a b < 0 ↔ a < b := by unfold cmpZ; split; omega; split <;> omega
theorem cmpZ_bd (a b : Int) : -1 ≤ cmpZ a b ∧ cmpZ a b ≤ 1 := by unfold cmpZ; split; omega; split <;> omega
theorem most_bd {c : P4} {a b : Int} (ha : nz a ≤ 100) (hb0 : 1 ≤ b) (hb1 : b ≤ 1000000) (h : c.q = 0 ∨ (1 ≤ c.q ∧ 0 ≤ c.u ∧ c.u ≤ b)) : nz (c.most a b) ≤ 100 := by
  rcases h with h | ⟨h1, h2, h3⟩
  · unfold P4.most; rw [if_pos h]; exact ha
  · rw [most_eq h1]
    split
    · have h4 : 0 ≤ (b - c.u) / c.q := Int.ediv_nonneg (by omega) (by omega)
      have h5 := Int.natAbs_ediv_le_natAbs (b - c.u) c.q
      exact Nat.le_trans ((nz_le_iff _ 6).2 (by omega)) (by omega)
    · exact ha
theorem nz_between {x lo hi : Int} {k : Nat} (h1 : lo ≤ x) (h2 : x ≤ hi) (hl : nz lo ≤ k) (hh : nz hi ≤ k) : nz x ≤ k := by
  by_cases h : 0 ≤ x
  · exact Nat.le_trans (nz_mono (by omega)) hh
  · exact Nat.le_trans (nz_mono (by omega)) hl
/-- The state of the iterator. -/
structure Sta (W : World) (M : Nat) (ys : List (Int × Int)) (J : Nat → World → Prop) (B : Nat) (A : Option Addr) (n cap : Nat) (b : Int) (g : Nat) (ts : List Int) (gb : Nat) (c : P4) (P : List (Int × Int)) (wr : World) : Prop where
  bx : PBox wr gb c
  cap : Cap B A n cap b g ts wr
  pend : Pend ys J P wr
  bl : Below M W wr
section
variable {W : World} {M : Nat} {ys : List (Int × Int)} {J : Nat → World → Prop} {B : Nat} {A : Option Addr} {n cap : Nat} {b : Int} {g : Nat} {ts : List Int} {gb : Nat} {c : P4} {P : List (Int × Int)} {wr w' : World}
theorem Sta.later (h : Sta W M ys J B A n cap b g ts gb c P wr) (hJ : ∀ k X Y, J k X → OnlyT W.heap.size isPair X Y → J k Y) (hM : M ≤ W.heap.size) (hb : Below wr.heap.size wr w') : Sta W M ys J B A n cap b g ts gb c P w' := by
  obtain ⟨h1, h2, ⟨cnt, k1, k2, k3⟩, h4⟩ := h
  exact ⟨h1.later hb, h2.later hb, ⟨cnt, k1, k2, hJ _ _ _ k3 (OnlyT.new hb)⟩, h4.trans (hb.mono (Nat.le_trans hM h4.size))⟩
theorem Sta.to (h : Sta W M ys J B A n cap b g ts gb c P wr) {P' : List (Int × Int)} (e : P = P') : Sta W M ys J B A n cap b g ts gb c P' wr := e ▸ h
/-- A new pair in the iterator's box. -/
theorem Sta.put (h : Sta W M ys J B A n cap b g ts gb c P wr) (hJ : ∀ k X Y, J k X → OnlyT W.heap.size isPair X Y → J k Y) (hM : M ≤ W.heap.size) (hg : W.heap.size ≤ gb) (c' : P4) :
    Sta W M ys J B A n cap b g ts gb c' P ((((wr.setCell ⟨gb, 0, none⟩ (.string (itx c'.p))).setCell ⟨gb, 1, none⟩ (.string (itx c'.q))).setCell ⟨gb, 2, none⟩ (.string (itx c'.b))).setCell ⟨gb, 3, none⟩ (.string (itx c'.u))) := by
  obtain ⟨h1, h2, ⟨cnt, k1, k2, k3⟩, h4⟩ := h
  have ho : ∀ (X : World) (v0 v1 v2 v3 : Value), Box4 X gb v0 v1 v2 v3 → ∀ o u, OnlyT W.heap.size isPair X (X.setCell ⟨gb, o, none⟩ u) := fun X v0 v1 v2 v3 hX o u => OnlyT.setCell (cs := #[v0, v1, v2, v3]) (f := (0, 0)) hX rfl hg u
  have hb : ∀ (X : World) (v0 v1 v2 v3 : Value), Box4 X gb v0 v1 v2 v3 → ∀ o u, o < 4 → ∃ u0 u1 u2 u3, Box4 (X.setCell ⟨gb, o, none⟩ u) gb u0 u1 u2 u3 := fun X v0 v1 v2 v3 hX o u hlt => by
    have h' : X.heap[gb]? = some (.cells #[v0, v1, v2, v3] 99 (0, 0)) := hX
    rcases (show o = 0 ∨ o = 1 ∨ o = 2 ∨ o = 3 by omega) with rfl | rfl | rfl | rfl
    · exact ⟨u, v1, v2, v3, by simp [Box4, World.setCell, Array.getElem?_modify, h']⟩
    · exact ⟨v0, u, v2, v3, by simp [Box4, World.setCell, Array.getElem?_modify, h']⟩
    · exact ⟨v0, v1, u, v3, by simp [Box4, World.setCell, Array.getElem?_modify, h']⟩
    · exact ⟨v0, v1, v2, u, by simp [Box4, World.setCell, Array.getElem?_modify, h']⟩
  have o1 := ho _ _ _ _ _ h1 0 (.string (itx c'.p))
  obtain ⟨_, _, _, _, b1⟩ := hb _ _ _ _ _ h1 0 (.string (itx c'.p)) (by omega)
  have o2 := ho _ _ _ _ _ b1 1 (.string (itx c'.q))
  obtain ⟨_, _, _, _, b2⟩ := hb _ _ _ _ _ b1 1 (.string (itx c'.q)) (by omega)
  have o3 := ho _ _ _ _ _ b2 2 (.string (itx c'.b))
  obtain ⟨_, _, _, _, b3⟩ := hb _ _ _ _ _ b2 2 (.string (itx c'.b)) (by omega)
  have o4 := ho _ _ _ _ _ b3 3 (.string (itx c'.u))
  have o := ((o1.trans o2).trans o3).trans o4
  exact ⟨h1.store _ _ _ _, h2.onlyT o rfl rfl rfl rfl, ⟨cnt, k1, k2, hJ _ _ _ k3 o⟩, h4.trans ((o.below h4.size).mono hM)⟩
/-- A round has gone on. -/
theorem Sta.yield (h : Sta W M ys J B A n cap b g ts gb c P wr) (hM : M ≤ W.heap.size) {P' : List (Int × Int)} {cnt : Nat} (h1 : cnt + 1 ≤ ys.length) (h2 : ys.drop (cnt + 1) = P') (hJ : J (cnt + 1) w') (ho : OnlyT M isRat wr w') : Sta W M ys J B A n cap b g ts gb c P' w' :=
  ⟨h.bx.onlyT ho rfl, h.cap.onlyT ho rfl rfl rfl rfl, ⟨cnt + 1, h1, h2, hJ⟩, h.bl.trans (ho.below (Nat.le_trans hM h.bl.size))⟩
end
set_option maxRecDepth 100000 in
set_option maxHeartbeats 16000000 in
theorem semi1_seq (B : Nat) (A : Option Addr) (n cap : Nat) (b : Int) (g : Nat) (ts : List Int) (f : Int → Int → Int) (M : Nat) (w : World) (hM : M ≤ w.heap.size)
    (eg : ∀ args w, (callFunc g args).run Tryz.prog w = .ok (.enter g args) w)
    (hfrom : ∀ (k : Int) (a l : Int) (w : World), nz a ≤ 100 → nz l ≤ 100 → Amb w → Calls Tryz.prog g #[.int .i64 k, .string (itx a), .string (itx l)] w (SmallRes (.string (itx (f a l))) w))
    (hf : ∀ a l, 1 ≤ a → nz a ≤ 100 → 0 ≤ l → nz l ≤ 100 → 0 ≤ f a l ∧ nz (f a l) ≤ 100)
    (hA : ∀ W, Below M w W → Amb W) (hcap : Cap B A n cap b g ts w) (hb0 : 1 ≤ b) (hb1 : b ≤ 1000000) (hn : n ≤ 100) (hts : ∀ a ∈ ts, nz a ≤ 100) (htp : ∀ a ∈ ts.tail, 1 ≤ a) :
    SeqT Tryz.prog 66 #[.pointer (some ⟨B, 0, none⟩), .pointer (some ⟨B + 1, 0, none⟩), .pointer (some ⟨B + 1 + 1, 0, none⟩)] rv ((semiL f b ts).map fun y => Rat.divInt y.1 y.2) isPair M isRat w := by
  intro l J W hW hJ hY h0
  have hlen := hcap.row.len
  have hcapW := hcap.later hW
  have HJ := Lib.hid hJ
  have HY := Lib.hid hY
  have HF := Lib.hid hf
  have HFR := Lib.hid hfrom
  have HTS := Lib.hid (show ∀ i, i < n → nz (ts.getD i 0) ≤ 100 from fun i hi => by
    rw [List.getD_eq_getElem?_getD, List.getElem?_eq_getElem (by omega)]; exact hts _ (List.getElem_mem _))
  have HTP := Lib.hid (show ∀ i, 0 < i → i < n → 1 ≤ ts.getD i 0 from fun i h0 hi => by
    rw [List.getD_eq_getElem?_getD, List.getElem?_eq_getElem (by omega)]
    refine htp _ ?_
    cases ts with
    | nil => simp at hlen; omega
    | cons a l =>
      obtain ⟨k, rfl⟩ : ∃ k, i = k + 1 := ⟨i - 1, by omega⟩
      simp)
  have HM := Lib.hid (Nat.le_trans hM hW.size)
  have HA := Lib.hid (fun wz (hb : Below M W wz) => hA wz ((hW.mono hM).trans hb))
  have HL := Lib.hid hlen
  obtain ⟨ys, hys⟩ : ∃ ys, semiL f b ts = ys := ⟨_, rfl⟩
  have HR0 := Lib.hid (show restL f b ts 0 = ys by rw [← hys]; rfl)
  rw [hys] at HY ⊢
  clear hJ hY hf hfrom hts htp hM hA hcap hW hlen hys
  refine (callsIn_wide (n := 0)).1 ?_
  refine callsIn_of_wp Tryz.func66 rfl trivial ?_ rfl
  simp only [Tryz.ntmps66, List.size_toArray, List.length_cons, List.length_nil, Nat.reduceAdd, Nat.reduceSub, Array.replicate_succ, Array.replicate_zero, List.push_toArray, List.append_toArray, List.nil_append, List.cons_append]
  gi_wp2_with fail
  refine ⟨trivial, rfl, (callsIn_wide.2 (begin_any W)).mono ?_⟩
  rintro e w1 ⟨rfl, hb1'⟩
  have hcap1 := hcapW.later hb1'
  have h1 := HJ.out _ _ _ h0 (OnlyT.new hb1')
  have hsz1 := hb1'.size
  clear hcapW h0
  obtain ⟨W2, hW2⟩ : ∃ W2, w1.alloc (.cells #[.string (itx beg.p), .string (itx beg.q), .string (itx beg.b), .string (itx beg.u)] 99) = W2 := ⟨_, rfl⟩
  have hb2 : Below w1.heap.size w1 W2 := hW2 ▸ (Below.refl _ _).alloc (Nat.le_refl _) _
  have hbx2 : PBox W2 w1.heap.size beg := hW2 ▸ Box4.new w1 _ _ _ _
  have hcap2 := hcap1.later hb2
  have h2 := HJ.out _ _ _ h1 (OnlyT.new hb2)
  have HST2 := Lib.hid (show Sta W M ys J B A n cap b g ts w1.heap.size beg ys W2 from ⟨hbx2, hcap2, ⟨0, Nat.zero_le _, rfl, h2⟩, (hb1'.mono HM.out).trans (hb2.mono (Nat.le_trans HM.out hsz1))⟩)
  have hk0 := hcap2.b0.cell
  have hk1 := hcap2.b1.cell
  have hk2 := hcap2.b2.cell
  rw [← hW2] at hk0 hk1 hk2
  have HW2 := Lib.hid hW2
  have HGB := Lib.hid (show W.heap.size ≤ w1.heap.size from hsz1)
  clear hW2 hcap1 h1 hb2 hbx2 hcap2 h2 hsz1 hb1'
  gi_wp2_with fail
  gi_loopw [13] (fun v13 wr => ∃ i : Nat, i ≤ n ∧ v13 = .int .i64 (i : Int) ∧ Hid (SAt b ts i) ∧ Hid (Sta W M ys J B A n cap b g ts w1.heap.size (runC beg (ts.take i)) (restL f b ts i) wr)) (fun v13 _ => n - (intOf v13).toNat)
  case atStart => rw [HW2.out]; exact ⟨0, Nat.zero_le _, rfl, Lib.hid (SAt.zero b ts), Lib.hid (HST2.out.to HR0.out.symm)⟩
  case round =>
    clear hk0 hk1 hk2 HW2 HST2 W2
    obtain ⟨i, hi, rfl, HS, HST⟩ := hrel
    by_cases hin : i = n
    · have HJE := Lib.hid (show J (ys.map fun y => Rat.divInt y.1 y.2).length wr by
        rw [List.length_map]
        have := HST.out.pend
        rw [restL_end f b ts i (by rw [HL.out]; omega)] at this
        exact this.done)
      have hlt : ¬ i < n := by omega
      clear hin HS HST
      gi_wp2_with fail
      go_end0
      exact ⟨⟨_, rfl⟩, HJE.out⟩
    · have hlt : i < n := by omega
      have hii : (i : Int) < (n : Int) := by omega
      have hi0 : (0 : Int) ≤ (i : Int) := by omega
      obtain ⟨ga, rfl, hrow⟩ := HST.out.cap.row.at_ hlt
      have hcell := hrow.cell i hlt
      have hlts : i < ts.length := by rw [HL.out]; exact hlt
      have hna := HTS.out i hlt
      have HSUC := Lib.hid (HS.out.succ hlts hna hb0 (fun h => HTP.out i h hlt))
      have HRUN := Lib.hid (run_succ ts i hlts)
      have hpos := HS.out.pos
      have hsz := HS.out.sz.mono (show 1 + 101 * i ≤ 20000 by omega)
      have hq : (runC beg (ts.take i)).q = 0 ∨ (1 ≤ (runC beg (ts.take i)).q ∧ 0 ≤ (runC beg (ts.take i)).u ∧ (runC beg (ts.take i)).u ≤ b) := by
        rcases Nat.eq_zero_or_pos i with h0 | h0
        · left; subst h0; rfl
        · right; have := hpos h0; omega
      have hta := HTP.out i
      have HST1 := Lib.hid (HST.out.to (rest_split f b ts i hlts))
      have hi00 : i = 0 → (runC beg (ts.take i)) = beg := fun h => by subst h; rfl
      clear hin HST HS hrow
      generalize ts.getD i 0 = a at *
      generalize runC beg (ts.take i) = c at *
      have hnm := most_bd (b := b) hna hb0 hb1 hq
      have HMOST := Lib.hid (fun w h => most_any c a b w h hsz (by omega) (by omega) hb1 (by rcases hq with h | h; omega; omega))
      generalize hmost : c.most a b = last at *
      have hm0 : 0 < i → 0 ≤ last := fun h0 => by
        have hp := hpos h0
        rw [← hmost, most_eq (by omega)]
        have := Int.ediv_nonneg (show 0 ≤ b - c.u by omega) (show 0 ≤ c.q by omega)
        have := hta h0 hlt
        split <;> omega
      have hlast0 : i = 0 → last = a := fun h0 => by
        rw [← hmost, hi00 h0]; unfold P4.most; rw [if_pos (by rfl)]
      have HPURE := Lib.hid (And.intro hpos (And.intro hta (And.intro hi00 (And.intro hm0 (And.intro hlast0 hsz)))))
      have HST1' := HST1
      obtain ⟨x0, x1, x2, x3⟩ := HST1.out.bx.cells
      have hk1 := HST1.out.cap.b1.cell
      have hk2 := HST1.out.cap.b2.cell
      clear hpos hta hi00 hm0 hlast0 hsz hq hmost
      gi_wp2_with fail
      refine ⟨trivial, rfl, (callsIn_wide.2 (HMOST.out _ (HA.out _ HST1.out.bl))).mono ?_⟩
      rintro e w3 ⟨rfl, hb3⟩
      have HST3 := Lib.hid (HST1.out.later HJ.out HM.out hb3)
      obtain ⟨tl, htl⟩ : ∃ tl, (if last < a then [] else restL f b ts (i + 1)) = tl := ⟨_, rfl⟩
      have HTL := Lib.hid htl
      rw [htl] at HST3
      clear htl hb3 HST1 HST1' hk1 x0 x1 x2 x3 hcell
      have hk2 := HST3.out.cap.b2.cell
      by_cases h0 : i = 0
      · have hki : ¬ (0 : Int) < (i : Int) := by omega
        have HST4 := Lib.hid (HST3.out.to (show _ = c.semis (lowk i a) last ++ tl by rw [if_pos h0]))
        have HNJ := Lib.hid hna
        have HI0 := Lib.hid h0
        have hkb : decide (0 < i) = false := decide_eq_false (by omega)
        clear HST3 hk2 h0
        gi_wp2_with fail
        gi_loopw [9] (fun v9 wr => ∃ j : Int, v9 = .string (itx j) ∧ Hid (a ≤ j ∧ nz j ≤ 101) ∧ Hid (Sta W M ys J B (some ⟨ga, 0, none⟩) n cap b g ts w1.heap.size c (c.semis (lowk i j) last ++ tl) wr)) (fun v9 _ => (last + 1 - unItx v9).toNat)
        case atStart => exact ⟨a, rfl, Lib.hid ⟨Int.le_refl _, Nat.le_trans HNJ.out (by omega)⟩, HST4⟩
        case round =>
          obtain ⟨j, rfl, HJB, HSJ⟩ := hrel
          have hnj : nz j ≤ 101 := HJB.out.2
          gi_wp2_with fail
          refine ⟨trivial, rfl, (callsIn_wide.2 (wcompare_any j last _ (by omega) (by omega))).mono ?_⟩
          rintro e w5 ⟨rfl, hb5⟩
          have HS5 := Lib.hid (HSJ.out.later HJ.out HM.out hb5)
          clear HSJ hb5
          by_cases hjl : j ≤ last
          · have hz : cmpZ j last ≤ 0 := cmpZ_le.2 hjl
            have HJL := Lib.hid hjl
            clear hjl
            generalize cmpZ j last = z at *
            gi_wp2_with fail
            refine ⟨trivial, rfl, (callsIn_wide.2 (sign_any j _ (by omega))).mono ?_⟩
            rintro e w6 ⟨rfl, hb6⟩
            have HS6 := Lib.hid (HS5.out.later HJ.out HM.out hb6)
            have HADD := Lib.hid (fun w (h : Amb w) => show Calls Tryz.prog 58 #[.string (itx j), .string ⟨#[49]⟩] w (SmallRes (.string (itx (j + 1))) w) from by
              rw [← itx_lit_one]; exact wadd_any j 1 w h (by omega) (Nat.le_trans ((nz_le_iff 1 0).2 (by decide)) (by omega)))
            have HN1 := Lib.hid (show a ≤ j + 1 ∧ nz (j + 1) ≤ 101 from ⟨by have := HJB.out.1; omega, nz_between (lo := a) (hi := last + 1) (by have := HJB.out.1; omega) (by have := HJL.out; omega) (Nat.le_trans HNJ.out (by omega)) (nz_add_le hnm (Nat.le_trans ((nz_le_iff 1 0).2 (by decide)) (by omega)))⟩)
            clear HS5 hb6
            by_cases hy : 0 < i ∧ j ≤ 0
            · have hsg : j.sign ≤ 0 := by rcases Int.lt_trichotomy j 0 with h | h | h; rw [Int.sign_eq_neg_one_of_neg h]; omega; rw [h]; decide; omega
              have hlow : lowk i (j + 1) = lowk i j := by unfold lowk; rw [if_neg (by omega), if_neg (by omega)]; omega
              have HS7 := Lib.hid (show Sta W M ys J B (some ⟨ga, 0, none⟩) n cap b g ts w1.heap.size c (c.semis (lowk i (j + 1)) last ++ tl) w6 by rw [hlow]; exact HS6.out)
              clear hlow HS6
              first
                | (exfalso; omega)
                | (generalize j.sign = sg at *
                   clear hy
                   gi_wp2_with fail
                   refine ⟨trivial, rfl, (callsIn_wide.2 (HADD.out _ (HA.out _ HS7.out.bl))).mono ?_⟩
                   rintro e w7 ⟨rfl, hb7⟩
                   have HS8 := Lib.hid (HS7.out.later HJ.out HM.out hb7)
                   gi_wp2_with fail
                   go_roundw
                   case rel => exact ⟨j + 1, rfl, HN1, HS8⟩
                   case measure =>
                     show (last + 1 - unItx (.string (itx (j + 1)))).toNat < (last + 1 - unItx (.string (itx j))).toNat
                     rw [unItx_eq, unItx_eq]
                     have := HJL.out
                     omega)
            · have hlow : lowk i j = j := by
                unfold lowk
                by_cases h : i = 0
                · rw [if_pos h]
                · rw [if_neg h]; omega
              have hlow1 : lowk i (j + 1) = j + 1 := by
                unfold lowk
                by_cases h : i = 0
                · rw [if_pos h]
                · rw [if_neg h]; omega
              have hsem : c.semis (lowk i j) last ++ tl = (c.num j, c.den j) :: (c.semis (lowk i (j + 1)) last ++ tl) := by
                rw [hlow, hlow1]; unfold P4.semis; rw [rng_cons HJL.out]; rfl
              have hden : c.den j ≠ 0 := by
                obtain ⟨p1, p2, p3, p4, p5, p6⟩ := HPURE.out
                by_cases h : i = 0
                · rw [p3 h]; simp [P4.den, beg]
                · obtain ⟨q1, q2, _⟩ := p1 (by omega)
                  have := Int.mul_le_mul_of_nonneg_right (show 1 ≤ j by omega) (show 0 ≤ c.q by omega)
                  unfold P4.den; omega
              have hszc := HPURE.out.2.2.2.2.2
              have HSTEP := Lib.hid (fun w h => step_any c j w h hszc (by omega))
              have HOVER := Lib.hid (fun w h => over_any (c.num j) (c.den j) w h hden (Nat.le_trans (hszc.num hnj) (by omega)) (Nat.le_trans (hszc.den hnj) (by omega)))
              have HS7 := Lib.hid (HS6.out.to hsem)
              obtain ⟨x0, x1, x2, x3⟩ := HS6.out.bx.cells
              clear HS6 hlow hlow1 hsem hden hszc
              have hcon : i = 0 ∨ ¬ j.sign ≤ 0 := by
                by_cases h0 : i = 0
                · exact .inl h0
                · right
                  intro hs
                  refine hy ⟨by omega, ?_⟩
                  rcases Int.lt_trichotomy j 0 with h | h | h
                  · omega
                  · omega
                  · rw [Int.sign_eq_one_of_pos h] at hs; omega
              generalize j.sign = sg at *
              clear hy
              by_cases hsg : sg ≤ 0
              · first
                  | (exfalso; omega)
                  | (clear hcon
                     gi_wp2_with fail
                     refine ⟨trivial, rfl, (callsIn_wide.2 (HSTEP.out _ (HA.out _ HS7.out.bl))).mono ?_⟩
                     rintro e w7 ⟨rfl, hb7⟩
                     have HS8 := Lib.hid (HS7.out.later HJ.out HM.out hb7)
                     clear hb7
                     gi_wp2_with fail
                     refine ⟨trivial, rfl, (callsIn_wide.2 (HOVER.out _ (HA.out _ HS8.out.bl))).mono ?_⟩
                     rintro e w8 ⟨rfl, hb8⟩
                     have HS9 := Lib.hid (HS8.out.later HJ.out HM.out hb8)
                     clear hb8
                     obtain ⟨cnt, k1, k2, k3, k4⟩ := HS9.out.pend.next
                     obtain ⟨fn, tmps, assign, body, hy, hR⟩ := HY.out cnt _ w8 k4 k3
                     have HK2 := Lib.hid k2
                     clear k2 k3 k4
                     gi_wp2_with fail
                     refine ⟨rfl, hR.mono ?_⟩
                     rintro e w9 ⟨rfl, hJ9, ho9⟩
                     have HS10 := Lib.hid (HS9.out.yield HM.out k1 HK2.out hJ9 ho9)
                     clear hR hy hJ9 ho9 k1
                     gi_wp2_with fail
                     refine ⟨trivial, rfl, (callsIn_wide.2 (HADD.out _ (HA.out _ HS10.out.bl))).mono ?_⟩
                     rintro e w10 ⟨rfl, hb10⟩
                     have HS11 := Lib.hid (HS10.out.later HJ.out HM.out hb10)
                     clear hb10
                     gi_wp2_with fail
                     go_roundw
                     case rel => exact ⟨j + 1, rfl, HN1, HS11⟩
                     case measure =>
                       show (last + 1 - unItx (.string (itx (j + 1)))).toNat < (last + 1 - unItx (.string (itx j))).toNat
                       rw [unItx_eq, unItx_eq]
                       have := HJL.out
                       omega)
              · clear hcon
                gi_wp2_with fail
                refine ⟨trivial, rfl, (callsIn_wide.2 (HSTEP.out _ (HA.out _ HS7.out.bl))).mono ?_⟩
                rintro e w7 ⟨rfl, hb7⟩
                have HS8 := Lib.hid (HS7.out.later HJ.out HM.out hb7)
                clear hb7
                gi_wp2_with fail
                refine ⟨trivial, rfl, (callsIn_wide.2 (HOVER.out _ (HA.out _ HS8.out.bl))).mono ?_⟩
                rintro e w8 ⟨rfl, hb8⟩
                have HS9 := Lib.hid (HS8.out.later HJ.out HM.out hb8)
                clear hb8
                obtain ⟨cnt, k1, k2, k3, k4⟩ := HS9.out.pend.next
                obtain ⟨fn, tmps, assign, body, hy, hR⟩ := HY.out cnt _ w8 k4 k3
                have HK2 := Lib.hid k2
                clear k2 k3 k4
                gi_wp2_with fail
                refine ⟨rfl, hR.mono ?_⟩
                rintro e w9 ⟨rfl, hJ9, ho9⟩
                have HS10 := Lib.hid (HS9.out.yield HM.out k1 HK2.out hJ9 ho9)
                clear hR hy hJ9 ho9 k1
                gi_wp2_with fail
                refine ⟨trivial, rfl, (callsIn_wide.2 (HADD.out _ (HA.out _ HS10.out.bl))).mono ?_⟩
                rintro e w10 ⟨rfl, hb10⟩
                have HS11 := Lib.hid (HS10.out.later HJ.out HM.out hb10)
                clear hb10
                gi_wp2_with fail
                go_roundw
                case rel => exact ⟨j + 1, rfl, HN1, HS11⟩
                case measure =>
                  show (last + 1 - unItx (.string (itx (j + 1)))).toNat < (last + 1 - unItx (.string (itx j))).toNat
                  rw [unItx_eq, unItx_eq]
                  have := HJL.out
                  omega
          · have hz : ¬ cmpZ j last ≤ 0 := fun h => hjl (cmpZ_le.1 h)
            have HS6 := Lib.hid (HS5.out.to (show _ = tl by
              rw [semis_none]; rfl
              unfold lowk; split <;> omega))
            clear HS5 hjl
            generalize cmpZ j last = z at *
            gi_wp2_with fail
            refine ⟨trivial, rfl, (callsIn_wide.2 (wcompare_any last a _ (by omega) (by omega))).mono ?_⟩
            rintro e w6 ⟨rfl, hb6⟩
            have HS7 := Lib.hid (HS6.out.later HJ.out HM.out hb6)
            clear HS6 hb6
            by_cases hla : last < a
            · have hz2 : cmpZ last a < 0 := cmpZ_neg.2 hla
              have HJE := Lib.hid (show J (ys.map fun y => Rat.divInt y.1 y.2).length w6 by
                rw [List.length_map]
                have h := HS7.out.pend
                rw [← HTL.out, if_pos hla] at h
                exact h.done)
              clear HS7 hla
              generalize cmpZ last a = z2 at *
              gi_wp2_with fail
              refine bodyPost_ret (results_none rfl _ _ _) rfl ?_
              exact ⟨⟨_, rfl⟩, HJE.out⟩
            · have hz2 : ¬ cmpZ last a < 0 := fun h => hla (cmpZ_neg.1 h)
              have HS8 := Lib.hid (HS7.out.to (show tl = restL f b ts (i + 1) by rw [← HTL.out, if_neg hla]))
              have HSU := Lib.hid (HSUC.out (fun _ => by omega))
              have hszc := HPURE.out.2.2.2.2.2
              have HNEXT := Lib.hid (fun w h => next_any c a w h hszc (by omega))
              obtain ⟨x0, x1, x2, x3⟩ := HS8.out.bx.cells
              clear HS7 hla hszc
              generalize cmpZ last a = z2 at *
              gi_wp2_with fail
              refine ⟨trivial, rfl, (callsIn_wide.2 (HNEXT.out _ (HA.out _ HS8.out.bl))).mono ?_⟩
              rintro e w7 ⟨rfl, hb7⟩
              have HS9 := Lib.hid (HS8.out.later HJ.out HM.out hb7)
              obtain ⟨y0, y1, y2, y3⟩ := HS9.out.bx.cells
              obtain ⟨f0, f1, f2, f3⟩ := HS9.out.bx.free
              clear HS8 hb7 x0 x1 x2 x3
              gi_wp2_with fail
              go_roundw
              case rel => exact ⟨i + 1, by omega, by go_num, HSU, Lib.hid (by rw [HRUN.out]; exact HS9.out.put HJ.out HM.out HGB.out _)⟩
              case measure => simp [intOf]; omega
      · have hki : (0 : Int) < (i : Int) := by omega
        have HST4' := Lib.hid (HST3.out.to (show _ = c.semis (lowk i (f a last)) last ++ tl by rw [if_neg h0]))
        have HNJ := Lib.hid (HF.out a last (HPURE.out.2.1 (by omega) hlt) hna (HPURE.out.2.2.2.1 (by omega)) hnm).2
        have HI0 := Lib.hid h0
        have hkb : decide (0 < i) = true := decide_eq_true (by omega)
        clear HST3 h0
        gi_wp2_with fail
        refine ⟨trivial, rfl, (callsIn_wide.2 (HFR.out _ _ _ _ hna hnm (HA.out _ HST4'.out.bl))).mono ?_⟩
        rintro e w4 ⟨rfl, hb4⟩
        have HST4 := Lib.hid (HST4'.out.later HJ.out HM.out hb4)
        clear HST4' hb4 hk2
        generalize f a last = j0 at *
        gi_wp2_with fail
        gi_loopw [9] (fun v9 wr => ∃ j : Int, v9 = .string (itx j) ∧ Hid (j0 ≤ j ∧ nz j ≤ 101) ∧ Hid (Sta W M ys J B (some ⟨ga, 0, none⟩) n cap b g ts w1.heap.size c (c.semis (lowk i j) last ++ tl) wr)) (fun v9 _ => (last + 1 - unItx v9).toNat)
        case atStart => exact ⟨j0, rfl, Lib.hid ⟨Int.le_refl _, Nat.le_trans HNJ.out (by omega)⟩, HST4⟩
        case round =>
          obtain ⟨j, rfl, HJB, HSJ⟩ := hrel
          have hnj : nz j ≤ 101 := HJB.out.2
          gi_wp2_with fail
          refine ⟨trivial, rfl, (callsIn_wide.2 (wcompare_any j last _ (by omega) (by omega))).mono ?_⟩
          rintro e w5 ⟨rfl, hb5⟩
          have HS5 := Lib.hid (HSJ.out.later HJ.out HM.out hb5)
          clear HSJ hb5
          by_cases hjl : j ≤ last
          · have hz : cmpZ j last ≤ 0 := cmpZ_le.2 hjl
            have HJL := Lib.hid hjl
            clear hjl
            generalize cmpZ j last = z at *
            gi_wp2_with fail
            refine ⟨trivial, rfl, (callsIn_wide.2 (sign_any j _ (by omega))).mono ?_⟩
            rintro e w6 ⟨rfl, hb6⟩
            have HS6 := Lib.hid (HS5.out.later HJ.out HM.out hb6)
            have HADD := Lib.hid (fun w (h : Amb w) => show Calls Tryz.prog 58 #[.string (itx j), .string ⟨#[49]⟩] w (SmallRes (.string (itx (j + 1))) w) from by
              rw [← itx_lit_one]; exact wadd_any j 1 w h (by omega) (Nat.le_trans ((nz_le_iff 1 0).2 (by decide)) (by omega)))
            have HN1 := Lib.hid (show j0 ≤ j + 1 ∧ nz (j + 1) ≤ 101 from ⟨by have := HJB.out.1; omega, nz_between (lo := j0) (hi := last + 1) (by have := HJB.out.1; omega) (by have := HJL.out; omega) (Nat.le_trans HNJ.out (by omega)) (nz_add_le hnm (Nat.le_trans ((nz_le_iff 1 0).2 (by decide)) (by omega)))⟩)
            clear HS5 hb6
            by_cases hy : 0 < i ∧ j ≤ 0
            · have hsg : j.sign ≤ 0 := by rcases Int.lt_trichotomy j 0 with h | h | h; rw [Int.sign_eq_neg_one_of_neg h]; omega; rw [h]; decide; omega
              have hlow : lowk i (j + 1) = lowk i j := by unfold lowk; rw [if_neg (by omega), if_neg (by omega)]; omega
              have HS7 := Lib.hid (show Sta W M ys J B (some ⟨ga, 0, none⟩) n cap b g ts w1.heap.size c (c.semis (lowk i (j + 1)) last ++ tl) w6 by rw [hlow]; exact HS6.out)
              clear hlow HS6
              first
                | (exfalso; omega)
                | (generalize j.sign = sg at *
                   clear hy
                   gi_wp2_with fail
                   refine ⟨trivial, rfl, (callsIn_wide.2 (HADD.out _ (HA.out _ HS7.out.bl))).mono ?_⟩
                   rintro e w7 ⟨rfl, hb7⟩
                   have HS8 := Lib.hid (HS7.out.later HJ.out HM.out hb7)
                   gi_wp2_with fail
                   go_roundw
                   case rel => exact ⟨j + 1, rfl, HN1, HS8⟩
                   case measure =>
                     show (last + 1 - unItx (.string (itx (j + 1)))).toNat < (last + 1 - unItx (.string (itx j))).toNat
                     rw [unItx_eq, unItx_eq]
                     have := HJL.out
                     omega)
            · have hlow : lowk i j = j := by
                unfold lowk
                by_cases h : i = 0
                · rw [if_pos h]
                · rw [if_neg h]; omega
              have hlow1 : lowk i (j + 1) = j + 1 := by
                unfold lowk
                by_cases h : i = 0
                · rw [if_pos h]
                · rw [if_neg h]; omega
              have hsem : c.semis (lowk i j) last ++ tl = (c.num j, c.den j) :: (c.semis (lowk i (j + 1)) last ++ tl) := by
                rw [hlow, hlow1]; unfold P4.semis; rw [rng_cons HJL.out]; rfl
              have hden : c.den j ≠ 0 := by
                obtain ⟨p1, p2, p3, p4, p5, p6⟩ := HPURE.out
                by_cases h : i = 0
                · rw [p3 h]; simp [P4.den, beg]
                · obtain ⟨q1, q2, _⟩ := p1 (by omega)
                  have := Int.mul_le_mul_of_nonneg_right (show 1 ≤ j by omega) (show 0 ≤ c.q by omega)
                  unfold P4.den; omega
              have hszc := HPURE.out.2.2.2.2.2
              have HSTEP := Lib.hid (fun w h => step_any c j w h hszc (by omega))
              have HOVER := Lib.hid (fun w h => over_any (c.num j) (c.den j) w h hden (Nat.le_trans (hszc.num hnj) (by omega)) (Nat.le_trans (hszc.den hnj) (by omega)))
              have HS7 := Lib.hid (HS6.out.to hsem)
              obtain ⟨x0, x1, x2, x3⟩ := HS6.out.bx.cells
              clear HS6 hlow hlow1 hsem hden hszc
              have hcon : i = 0 ∨ ¬ j.sign ≤ 0 := by
                by_cases h0 : i = 0
                · exact .inl h0
                · right
                  intro hs
                  refine hy ⟨by omega, ?_⟩
                  rcases Int.lt_trichotomy j 0 with h | h | h
                  · omega
                  · omega
                  · rw [Int.sign_eq_one_of_pos h] at hs; omega
              generalize j.sign = sg at *
              clear hy
              by_cases hsg : sg ≤ 0
              · first
                  | (exfalso; omega)
                  | (clear hcon
                     gi_wp2_with fail
                     refine ⟨trivial, rfl, (callsIn_wide.2 (HSTEP.out _ (HA.out _ HS7.out.bl))).mono ?_⟩
                     rintro e w7 ⟨rfl, hb7⟩
                     have HS8 := Lib.hid (HS7.out.later HJ.out HM.out hb7)
                     clear hb7
                     gi_wp2_with fail
                     refine ⟨trivial, rfl, (callsIn_wide.2 (HOVER.out _ (HA.out _ HS8.out.bl))).mono ?_⟩
                     rintro e w8 ⟨rfl, hb8⟩
                     have HS9 := Lib.hid (HS8.out.later HJ.out HM.out hb8)
                     clear hb8
                     obtain ⟨cnt, k1, k2, k3, k4⟩ := HS9.out.pend.next
                     obtain ⟨fn, tmps, assign, body, hy, hR⟩ := HY.out cnt _ w8 k4 k3
                     have HK2 := Lib.hid k2
                     clear k2 k3 k4
                     gi_wp2_with fail
                     refine ⟨rfl, hR.mono ?_⟩
                     rintro e w9 ⟨rfl, hJ9, ho9⟩
                     have HS10 := Lib.hid (HS9.out.yield HM.out k1 HK2.out hJ9 ho9)
                     clear hR hy hJ9 ho9 k1
                     gi_wp2_with fail
                     refine ⟨trivial, rfl, (callsIn_wide.2 (HADD.out _ (HA.out _ HS10.out.bl))).mono ?_⟩
                     rintro e w10 ⟨rfl, hb10⟩
                     have HS11 := Lib.hid (HS10.out.later HJ.out HM.out hb10)
                     clear hb10
                     gi_wp2_with fail
                     go_roundw
                     case rel => exact ⟨j + 1, rfl, HN1, HS11⟩
                     case measure =>
                       show (last + 1 - unItx (.string (itx (j + 1)))).toNat < (last + 1 - unItx (.string (itx j))).toNat
                       rw [unItx_eq, unItx_eq]
                       have := HJL.out
                       omega)
              · clear hcon
                gi_wp2_with fail
                refine ⟨trivial, rfl, (callsIn_wide.2 (HSTEP.out _ (HA.out _ HS7.out.bl))).mono ?_⟩
                rintro e w7 ⟨rfl, hb7⟩
                have HS8 := Lib.hid (HS7.out.later HJ.out HM.out hb7)
                clear hb7
                gi_wp2_with fail
                refine ⟨trivial, rfl, (callsIn_wide.2 (HOVER.out _ (HA.out _ HS8.out.bl))).mono ?_⟩
                rintro e w8 ⟨rfl, hb8⟩
                have HS9 := Lib.hid (HS8.out.later HJ.out HM.out hb8)
                clear hb8
                obtain ⟨cnt, k1, k2, k3, k4⟩ := HS9.out.pend.next
                obtain ⟨fn, tmps, assign, body, hy, hR⟩ := HY.out cnt _ w8 k4 k3
                have HK2 := Lib.hid k2
                clear k2 k3 k4
                gi_wp2_with fail
                refine ⟨rfl, hR.mono ?_⟩
                rintro e w9 ⟨rfl, hJ9, ho9⟩
                have HS10 := Lib.hid (HS9.out.yield HM.out k1 HK2.out hJ9 ho9)
                clear hR hy hJ9 ho9 k1
                gi_wp2_with fail
                refine ⟨trivial, rfl, (callsIn_wide.2 (HADD.out _ (HA.out _ HS10.out.bl))).mono ?_⟩
                rintro e w10 ⟨rfl, hb10⟩
                have HS11 := Lib.hid (HS10.out.later HJ.out HM.out hb10)
                clear hb10
                gi_wp2_with fail
                go_roundw
                case rel => exact ⟨j + 1, rfl, HN1, HS11⟩
                case measure =>
                  show (last + 1 - unItx (.string (itx (j + 1)))).toNat < (last + 1 - unItx (.string (itx j))).toNat
                  rw [unItx_eq, unItx_eq]
                  have := HJL.out
                  omega
          · have hz : ¬ cmpZ j last ≤ 0 := fun h => hjl (cmpZ_le.1 h)
            have HS6 := Lib.hid (HS5.out.to (show _ = tl by
              rw [semis_none]; rfl
              unfold lowk; split <;> omega))
            clear HS5 hjl
            generalize cmpZ j last = z at *
            gi_wp2_with fail
            refine ⟨trivial, rfl, (callsIn_wide.2 (wcompare_any last a _ (by omega) (by omega))).mono ?_⟩
            rintro e w6 ⟨rfl, hb6⟩
            have HS7 := Lib.hid (HS6.out.later HJ.out HM.out hb6)
            clear HS6 hb6
            by_cases hla : last < a
            · have hz2 : cmpZ last a < 0 := cmpZ_neg.2 hla
              have HJE := Lib.hid (show J (ys.map fun y => Rat.divInt y.1 y.2).length w6 by
                rw [List.length_map]
                have h := HS7.out.pend
                rw [← HTL.out, if_pos hla] at h
                exact h.done)
              clear HS7 hla
              generalize cmpZ last a = z2 at *
              gi_wp2_with fail
              refine bodyPost_ret (results_none rfl _ _ _) rfl ?_
              exact ⟨⟨_, rfl⟩, HJE.out⟩
            · have hz2 : ¬ cmpZ last a < 0 := fun h => hla (cmpZ_neg.1 h)
              have HS8 := Lib.hid (HS7.out.to (show tl = restL f b ts (i + 1) by rw [← HTL.out, if_neg hla]))
              have HSU := Lib.hid (HSUC.out (fun _ => by omega))
              have hszc := HPURE.out.2.2.2.2.2
              have HNEXT := Lib.hid (fun w h => next_any c a w h hszc (by omega))
              obtain ⟨x0, x1, x2, x3⟩ := HS8.out.bx.cells
              clear HS7 hla hszc
              generalize cmpZ last a = z2 at *
              gi_wp2_with fail
              refine ⟨trivial, rfl, (callsIn_wide.2 (HNEXT.out _ (HA.out _ HS8.out.bl))).mono ?_⟩
              rintro e w7 ⟨rfl, hb7⟩
              have HS9 := Lib.hid (HS8.out.later HJ.out HM.out hb7)
              obtain ⟨y0, y1, y2, y3⟩ := HS9.out.bx.cells
              obtain ⟨f0, f1, f2, f3⟩ := HS9.out.bx.free
              clear HS8 hb7 x0 x1 x2 x3
              gi_wp2_with fail
              go_roundw
              case rel => exact ⟨i + 1, by omega, by go_num, HSU, Lib.hid (by rw [HRUN.out]; exact HS9.out.put HJ.out HM.out HGB.out _)⟩
              case measure => simp [intOf]; omega
end Go.Proofs.YtpafocfpofnkpaaGreatDoor
