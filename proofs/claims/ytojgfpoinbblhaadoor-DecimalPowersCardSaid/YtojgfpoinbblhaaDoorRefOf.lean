/- The walk of the first chapter's reference Of: the digits of a number of 64 bits. -/
import Derived.Test.YtojgfpoinbblhaaDoorKnown1
namespace Go.Proofs.YtojgfpoinbblhaaDoor
open Go.RowKit

/-- A local array of bytes. -/
def Ab (w : World) (g : Nat) (ys : List UInt8) : Prop := ∃ t, w.heap[g]? = some (.cells (V ys).toArray t (0, 0))
theorem Ab.cell {w : World} {g : Nat} {ys : List UInt8} (h : Ab w g ys) (j : Nat) (hj : j < ys.length) : w.cell? ⟨g, j, none⟩ = some (.int .u8 ((ys.getD j 0).toNat : Int)) := by
  obtain ⟨t, h⟩ := h
  have := V_get ys j hj
  simp [World.cell?, h, this]
theorem Ab.free {w : World} {g : Nat} {ys : List UInt8} (h : Ab w g ys) (j : Nat) : w.frozen? ⟨g, j, none⟩ = false := by
  obtain ⟨t, h⟩ := h
  simp [World.frozen?, h]
theorem Ab.set {w : World} {g : Nat} {ys : List UInt8} (h : Ab w g ys) (j : Nat) (x : UInt8) : Ab (w.setCell ⟨g, j, none⟩ (.int .u8 (x.toNat : Int))) g (ys.set j x) := by
  obtain ⟨t, h⟩ := h
  refine ⟨t, ?_⟩
  simp [World.setCell, Array.getElem?_modify, h, ← V_set]
theorem Ab.drew {w : World} {g : Nat} {ys : List UInt8} (h : Ab w g ys) : Ab w.drew g ys := h
theorem Ab.start (w : World) (t : TypeId) : Ab (w.alloc (.cells #[.int .u8 0, .int .u8 0, .int .u8 0, .int .u8 0, .int .u8 0, .int .u8 0, .int .u8 0, .int .u8 0, .int .u8 0, .int .u8 0, .int .u8 0, .int .u8 0, .int .u8 0, .int .u8 0, .int .u8 0, .int .u8 0, .int .u8 0, .int .u8 0, .int .u8 0, .int .u8 0] t)) w.heap.size (List.replicate 20 0) :=
  ⟨t, heap_alloc_new w _⟩
theorem str_of_Ab {w : World} {g : Nat} {ys : List UInt8} (h : Ab w g ys) (src dst : TypeId) (hs : Tryd.prog.underlying src = some (.slice 5)) (hd : Tryd.prog.underlying dst = some .string) (k m cap : Nat) (hm : m = ys.length - k) (hk : k ≤ ys.length) :
    (convert src dst (.slice (some ⟨g, k, none⟩) m cap)).run Tryd.prog w = .ok (.string ⟨(ys.drop k).toArray⟩) w := by
  have hl : (ys.drop k).length = m := by rw [List.length_drop, hm]
  subst hl
  refine run_convert_bytes_back w src dst 5 ⟨g, k, none⟩ cap _ hs Tryd.underlying5 hd (fun j hj => ?_)
  have hj' := hj
  rw [List.length_drop] at hj'
  rw [Lib.add_plain, h.cell (k + j) (by omega), List.getD_eq_getElem?_getD, List.getElem?_eq_getElem (by omega)]
  simp
theorem slice_arr (g k : Nat) (hk : k < 20) (w : World) :
    (Instr.sliceAt 58 (.pointer (some ⟨g, 0, none⟩)) (some (.int .i64 (k : Int))) none none).run Tryd.prog w = .ok (.slice (some ⟨g, k, none⟩) (20 - k) (20 - k)) w := by
  have hu : Tryd.prog.underlying 58 = some (.array 20 5) := by kernel_rfl
  have h1 : Tryd.prog.arrayLen 58 = 20 := by kernel_rfl
  have h2 : Tryd.prog.elem 58 = 5 := by kernel_rfl
  obtain ⟨i, hi, hz, hsz, hb⟩ := info_parts (show (Tryd.prog.info? 5).map (fun i => (i.zero, i.size, i.bytes)) = some (some (.int .u8 0), 1, 1) by kernel_rfl)
  rw [run_sliceAt_array_l w _ ⟨g, 0, none⟩ (by rw [h1, h2]; exact hu) .i64 k (by omega) (by rw [h1]; omega), h1, h2]
  simp [slicedAt, sizeOf, typeInfo, hi, hsz, Lib.add_plain]
  omega
def OfRel (n v k : Nat) (ys : List UInt8) : Prop := ys.length = 20 ∧ k ≤ 20 ∧ Lib.nDigits v ≤ k ∧ ((k = 20 ∧ v = n) ∨ (v ≠ 0 ∧ Lib.decDigits n = Lib.decDigits v ++ ys.drop k))
theorem OfRel.step {n v k : Nat} {ys : List UInt8} (h : OfRel n v (k + 1) ys) (hv : v / 10 ≠ 0) : OfRel n (v / 10) k (ys.set k (UInt8.ofNat (48 + v % 10))) := by
  obtain ⟨h1, h2, h3, h4⟩ := h
  have hd : Lib.nDigits v = Lib.nDigits (v / 10) + 1 := by rw [← Lib.decDigits_length, ← Lib.decDigits_length, dd_big (by omega : ¬ v < 10)]; simp
  have hdr : (ys.set k (UInt8.ofNat (48 + v % 10))).drop k = UInt8.ofNat (48 + v % 10) :: ys.drop (k + 1) := by
    rw [List.drop_eq_getElem_cons (by simp; omega), List.getElem_set_self, List.drop_set_of_lt (by omega)]
  refine ⟨by simpa using h1, by omega, by omega, .inr ⟨hv, ?_⟩⟩
  rw [hdr]
  rcases h4 with ⟨e1, e2⟩ | ⟨e1, e2⟩
  · subst e2
    rw [dd_big (by omega : ¬ v < 10), List.drop_of_length_le (by omega)]
  · rw [e2, dd_big (by omega : ¬ v < 10)]; simp
theorem OfRel.last {n v k : Nat} {ys : List UInt8} (h : OfRel n v (k + 1) ys) (hv : v / 10 = 0) : (ys.set k (UInt8.ofNat (48 + v % 10))).drop k = Lib.decDigits n := by
  obtain ⟨h1, h2, h3, h4⟩ := h
  have hdr : (ys.set k (UInt8.ofNat (48 + v % 10))).drop k = UInt8.ofNat (48 + v % 10) :: ys.drop (k + 1) := by
    rw [List.drop_eq_getElem_cons (by simp; omega), List.getElem_set_self, List.drop_set_of_lt (by omega)]
  rw [hdr, show v % 10 = v by omega]
  rcases h4 with ⟨e1, e2⟩ | ⟨e1, e2⟩
  · subst e2
    rw [dd_small (by omega : v < 10), List.drop_of_length_le (by omega)]
  · rw [e2, dd_small (by omega : v < 10)]; rfl
def OfAt (n v k : Nat) (w wr : World) : Prop := Below w.heap.size w wr ∧ ∃ ys, OfRel n v k ys ∧ Ab wr w.heap.size ys
set_option maxRecDepth 100000 in
set_option maxHeartbeats 1000000 in
/-- schismaref01.Of. -/
theorem rof_any (n : Nat) (w : World) (hn : n < 18446744073709551616) :
    Calls Tryd.prog 18 #[.int .u64 (n : Int)] w (StrPost (dec n) w) := by
  have hd : Lib.nDigits n ≤ 20 := (nd_le_iff n 19).2 (by omega)
  have HD := Lib.hid hd
  clear hd
  go_enter Tryd.func18, Tryd.ntmps18
  go_wp2_with fail
  go_loopw [0, 4] (fun vn vk wr => ∃ v k : Nat, v < 18446744073709551616 ∧ 1 ≤ k ∧ k ≤ 20 ∧ vn = .int .u64 (v : Int) ∧ vk = .int .i64 (k : Int) ∧ OfAt n v k w wr) (fun _ vk _ => (intOf vk).toNat)
  case atStart => exact ⟨n, 20, hn, by omega, by omega, rfl, rfl, (Below.refl _ _).alloc (Nat.le_refl _) _, List.replicate 20 0, ⟨by simp, by omega, HD.out, .inl ⟨rfl, rfl⟩⟩, Ab.start w _⟩
  case round =>
    obtain ⟨v, k1, hv, hk0, hk1, rfl, rfl, hb, ys, hrel, hab⟩ := hrel
    obtain ⟨k, rfl⟩ : ∃ k, k1 = k + 1 := ⟨k1 - 1, by omega⟩
    have hkk : ((k + 1 : Nat) : Int) = (k : Int) + 1 := by omega
    rw [hkk]
    have hyl := hrel.1
    have hc := hab.cell k (by omega)
    have hf := hab.free k
    have hset := hab.set k (UInt8.ofNat (48 + v % 10))
    rw [ofNat_toNat_dig _ (by omega), show ((48 + v % 10 : Nat) : Int) = 48 + (v : Int) % 10 by omega] at hset
    have HSET := Lib.hid hset
    have hk20 : (k : Int) < 20 := by omega
    clear hset hkk hab
    by_cases hq : v / 10 = 0
    · have hlast := hrel.last hq
      have hcv := fun w2 (h : Ab w2 w.heap.size (ys.set k (UInt8.ofNat (48 + v % 10)))) => str_of_Ab h 23 26 Tryd.underlying23 Tryd.underlying26 k (20 - k) (20 - k) (by simp; omega) (by simp; omega)
      rw [hlast] at hcv
      have HCV := Lib.hid hcv
      have hsl := slice_arr w.heap.size k (by omega)
      have hqi : ((v : Int) / 10 == 0) = true := by rw [beq_iff_eq]; omega
      clear hcv hlast hrel hq
      have hcv := HCV.out _ HSET.out
      go_wp2_with fail
      go_ret
      exact ⟨rfl, hb.setCell (Nat.le_refl _) _⟩
    · have hst := hrel.step hq
      have HST := Lib.hid hst
      have hqi : ((v : Int) / 10 == 0) = false := by simp; omega
      have hk1' : 1 ≤ k := by have := hst.2.2.1; have := Lib.decDigits_length (v / 10); have := dd_ne_nil (v / 10); have : 0 < (Lib.decDigits (v / 10)).length := List.length_pos_iff.2 this; omega
      clear hst hrel
      go_wp2_with fail
      go_roundw
      case rel =>
        refine ⟨v / 10, k, by omega, hk1', by omega, vint (by omega), rfl, hb.setCell (Nat.le_refl _) _, _, HST.out, ?_⟩
        have := HSET.out
        exact this
      case measure => simp [intOf]
end Go.Proofs.YtojgfpoinbblhaaDoor
