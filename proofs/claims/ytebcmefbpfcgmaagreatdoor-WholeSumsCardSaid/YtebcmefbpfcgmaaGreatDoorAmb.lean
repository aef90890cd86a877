/- The library's variables as the rows list them; Of and Small. -/
import Derived.Test.YtebcmefbpfcgmaaGreatDoorBase
import Derived.Test.YtebcmefbpfcgmaaGreatDoorShelf
import Derived.Lib.ItoaMem
import Derived.Lib.AtoiAllCases
import Derived.WalkSmall
namespace Go.Proofs.YtebcmefbpfcgmaaGreatDoor
open Go.RowKit

/-- What the package-level variables of the library hold that the code reads. -/
structure Amb (w : World) : Prop where
  tab : Lib.TabIs Tryz.prog w "internal/strconv.uint64pow10" .u64 Lib.pow10Tab
  range : ∃ tp p, w.var? Tryz.prog "strconv.ErrRange" = some #[.iface tp p]
  syn : ∃ tp p, w.var? Tryz.prog "strconv.ErrSyntax" = some #[.iface tp p]
theorem var_keep {w w' : World} (hb : Below w.heap.size w w') {n : String} {cs : Array Value} (h : w.var? Tryz.prog n = some cs) : w'.var? Tryz.prog n = some cs := by
  unfold World.var? at *
  cases hg : Tryz.prog.globalNamed n with
  | none => simp [hg] at h
  | some g =>
    simp only [hg, Option.bind_some] at h ⊢
    have hlt : g < w.heap.size := by
      rcases Nat.lt_or_ge g w.heap.size with h' | h'
      · exact h'
      · rw [Array.getElem?_eq_none h'] at h; simp at h
    rw [hb.block g hlt]; exact h
theorem Amb.below {w w' : World} (h : Amb w) (hb : Below w.heap.size w w') : Amb w' := by
  obtain ⟨tp, p, h1⟩ := h.range
  obtain ⟨tq, q, h2⟩ := h.syn
  exact ⟨var_keep hb h.tab, ⟨tp, p, var_keep hb h1⟩, ⟨tq, q, var_keep hb h2⟩⟩
theorem Amb.drewN {w : World} (h : Amb w) (k : Nat) : Amb (w.drewN k) := h.below (bel_drewN (Below.refl _ _) k)
theorem Amb.alloc {w : World} (h : Amb w) (o : Obj) : Amb (w.alloc o) := h.below ((Below.refl _ _).alloc (Nat.le_refl _) o)

theorem holds0 (w : World) (T : TypeId) (nd : Nat) (hs : nd ≤ 24) : Sort.Holds (fun (b : UInt8) => Value.int .u8 (b.toNat : Int)) (w.alloc (.cells Lib.zeros24 T)) w.heap.size 0 (Array.replicate nd (0 : UInt8)) := fun j hj => by
  have hj' : j < nd := by simpa using hj
  refine ⟨?_, World.frozen?_alloc_new _ _ _ _⟩
  rw [World.cell?_alloc_new, Lib.zeros24_at _ (by omega), getElem!_pos _ j hj]
  simp
theorem putRow_below (w : World) (o : Obj) (dk : Array UInt8) (k : Nat) : Below w.heap.size w ((Sort.putRow (fun (b : UInt8) => Value.int .u8 (b.toNat : Int)) (w.alloc o) w.heap.size 0 dk).drewN k) := by
  rw [Sort.alloc_eq_grow]
  obtain ⟨os', _, e⟩ := Sort.putRow_grow_new (fun (b : UInt8) => Value.int .u8 (b.toNat : Int)) w #[o] w.heap.size 0 dk (Nat.le_refl _)
  rw [e]
  have h : Below w.heap.size w (Sort.grow w os') := ⟨rfl, rfl, rfl, by simp [Sort.grow], fun i hi => by simp [Sort.grow, Array.getElem?_append, hi]⟩
  exact bel_drewN h k

def StrPost (s : ByteArray) (w : World) (e : Ending) (w' : World) : Prop := e = .returned (.string s) ∧ Below w.heap.size w w'

set_option maxRecDepth 100000 in
set_option maxHeartbeats 2000000 in
/-- internal/strconv.FormatUint at base 10. -/
theorem fmtu_any (u : Nat) (hu : u < 18446744073709551616) (w : World) (ha : Amb w) :
    Calls Tryz.prog 92 #[.int .u64 (u : Int), .int .i64 10] w (StrPost (dec u) w) := by
  by_cases hs : u < 100
  · go_enter Tryz.func92, Tryz.ntmps92
    go_wp2_with (go_at_call 95; refine (Tryz.internal_strconv_small u hs _).mono ?_; rintro e w' ⟨rfl, rfl⟩)
    go_ret
    exact ⟨rfl, Below.refl _ _⟩
  · have hu1 : 1 ≤ u := by omega
    have hnd20 : Lib.nDigits u ≤ 20 := by have := Lib.numDigits_eq u hu1 hu; split at this <;> omega
    have hal : Tryz.prog.arrayLen 117 = 24 := by simp [Program.arrayLen, Tryz.underlying117]
    have hsl1 : ∀ W, (Instr.sliceAt 117 (.pointer (some ⟨w.heap.size, 0, none⟩)) none (some (.int .i64 (Lib.nDigits u : Int))) none).run Tryz.prog W = .ok (.slice (some ⟨w.heap.size, 0, none⟩) (Lib.nDigits u) 24) W := fun W => by
      rw [run_sliceAt_array_h W 117 ⟨w.heap.size, 0, none⟩ (by simp [Program.arrayLen, Program.elem, Tryz.underlying117]) .i64 (Lib.nDigits u : Int) (by omega) (by rw [hal]; omega)]
      go_simp
    have hH0 := holds0 w 117 (Lib.nDigits u) (by omega)
    have hfmt := Tryz.internal_strconv_formatBase10 w.heap.size 0 24 u (Array.replicate (Lib.nDigits u) 0) (w.alloc (.cells Lib.zeros24 117)) hH0 (by rw [Array.size_replicate]; exact Lib.lt_pow_nDigits u) hu (by rw [Array.size_replicate]; omega)
    rw [Array.size_replicate] at hfmt
    have HH0 := Lib.hid hH0
    have HFM := Lib.hid hfmt
    have htab := ha.tab
    have HT := Lib.hid htab
    clear hH0 hal hfmt htab
    go_enter Tryz.func92, Tryz.ntmps92
    go_wp2_with (go_at_call 96; refine (Tryz.internal_strconv_numDigits u hu1 hu _ (Lib.tabIs_alloc HT.out _)).mono ?_; rintro e w' ⟨rfl, rfl⟩)
    refine HFM.out.mono ?_
    rintro e w' ⟨rfl, k, v', dk, rfl, hF⟩
    have hcv : (convert 22 9 (.slice (some ⟨w.heap.size, 0, none⟩) (Lib.nDigits u) 24)).run Tryz.prog ((Sort.putRow (fun (b : UInt8) => Value.int .u8 (b.toNat : Int)) (w.alloc (.cells Lib.zeros24 117)) w.heap.size 0 dk).drewN k) = .ok (.string ⟨(Lib.decDigits u).toArray⟩) ((Sort.putRow (fun (b : UInt8) => Value.int .u8 (b.toNat : Int)) (w.alloc (.cells Lib.zeros24 117)) w.heap.size 0 dk).drewN k) := by
      have h := run_convert_bytes_back (P := Tryz.prog) ((Sort.putRow (fun (b : UInt8) => Value.int .u8 (b.toNat : Int)) (w.alloc (.cells Lib.zeros24 117)) w.heap.size 0 dk).drewN k) 22 9 5 ⟨w.heap.size, 0, none⟩ 24 (Lib.decDigits u) Tryz.underlying22 Tryz.underlying5 Tryz.underlying9 (fun j hj => by
        rw [Lib.row_is_numeral hF j hj, Lib.add_plain, World.cell?_drewN]
        exact Sort.cell?_putRow (fun (b : UInt8) => Value.int .u8 (b.toNat : Int)) _ w.heap.size 0 _ dk HH0.out (by rw [hF.size, Array.size_replicate]) j (by rw [hF.size]; rw [Lib.decDigits_length] at hj; exact hj))
      rw [Lib.decDigits_length] at h
      exact h
    go_wp2
    go_ret
    exact ⟨rfl, putRow_below w _ dk k⟩
theorem fmtu_pub (u : Nat) (hu : u < 18446744073709551616) (w : World) (ha : Amb w) :
    Calls Tryz.prog 77 #[.int .u64 (u : Int), .int .i64 10] w (StrPost (dec u) w) := by
  go_enter Tryz.func77, Tryz.ntmps77
  go_wp2_with (go_at_call 92; refine (fmtu_any u hu _ ha).mono ?_; rintro e w' ⟨rfl, hb⟩)
  go_ret
  exact ⟨rfl, hb⟩
/-- decimal.Of. -/
theorem of_any (u : Nat) (hu : u < 18446744073709551616) (w : World) (ha : Amb w) :
    Calls Tryz.prog 54 #[.int .u64 (u : Int)] w (StrPost (dec u) w) := by
  go_enter Tryz.func54, Tryz.ntmps54
  go_wp2_with (go_at_call 77; refine (fmtu_pub u hu _ ha).mono ?_; rintro e w' ⟨rfl, hb⟩)
  go_ret
  exact ⟨rfl, hb⟩

/-! ### Small -/
theorem parseU (l : List UInt8) (h : l.all isDig = true) : ∀ acc : Nat, acc < 18446744073709551616 →
    Lib.parseUintM 18446744073709551615 acc l = if acc * 10 ^ l.length + val l < 18446744073709551616 then .ok (acc * 10 ^ l.length + val l) else .range := by
  induction l with
  | nil => intro acc ha; simp only [Lib.parseUintM, List.length_nil, Nat.pow_zero, Nat.mul_one, val_nil, Nat.add_zero]; rw [if_pos ha]
  | cons c r ih =>
    intro acc ha
    rw [List.all_cons, Bool.and_eq_true, isDig_iff] at h
    have hp : 0 < 10 ^ r.length := Nat.pow_pos (by decide)
    have hv := val_cons c r
    have e : acc * 10 ^ (c :: r).length + val (c :: r) = (acc * 10 + (c.toNat - 48)) * 10 ^ r.length + val r := by
      rw [hv, List.length_cons, Nat.pow_succ, Nat.add_mul, Nat.mul_comm (10 ^ r.length) 10, Nat.mul_assoc]; omega
    rw [Lib.parseUintM, if_pos h.1, e]
    have hge : acc * 10 + (c.toNat - 48) ≤ (acc * 10 + (c.toNat - 48)) * 10 ^ r.length + val r := by
      have := Nat.le_mul_of_pos_right (acc * 10 + (c.toNat - 48)) hp
      omega
    by_cases h1 : 1844674407370955162 ≤ acc
    · rw [if_pos h1, if_neg (by omega)]
    · rw [if_neg h1]
      by_cases h2 : 18446744073709551615 < acc * 10 + (c.toNat - 48)
      · rw [if_pos h2, if_neg (by omega)]
      · rw [if_neg h2, ih h.2 _ (by omega)]
theorem parseU_dec (n : Nat) : Lib.parseUintB 64 (dec n).data.toList = if n < 18446744073709551616 then .ok n else .range := by
  have h := parseU (Lib.decDigits n) (all_dd n) 0 (by decide)
  rw [Nat.zero_mul, Nat.zero_add, val_dd] at h
  rw [dec_data]
  unfold Lib.parseUintB
  rw [if_neg (dd_ne_nil n)]
  exact h
def SmallRes (v : Value) (w : World) (e : Ending) (w' : World) : Prop := e = .returned v ∧ Below w.heap.size w w'
/-- decimal.Small of a number that fits. -/
theorem small_yes (n : Nat) (w : World) (hn : n < 18446744073709551616) :
    Calls Tryz.prog 76 #[.string (dec n)] w (SmallRes (.tuple #[.int .u64 (n : Int), .bool true]) w) := by
  have hp := parseU_dec n
  rw [if_pos hn] at hp
  have hsz : (dec n).size ≤ 9223372036854775806 := by rw [dec_size]; have := (nd_le_iff n 19).2 (by omega); omega
  have HP := Lib.hid hp
  have HSZ := Lib.hid hsz
  clear hp hsz
  go_enter Tryz.func76, Tryz.ntmps76
  go_wp2_with fail
  refine (Tryz.strconv_ParseUint_10_at64_ok (dec n) HSZ.out n HP.out _).mono ?_
  rintro e w' ⟨rfl, hw⟩
  have hb : Below w.heap.size w w' := by
    rcases hw with rfl | rfl
    · exact Below.refl _ _
    · exact bytes_below _ _ _
  clear hw
  go_wp2
  go_ret2
  exact ⟨rfl, hb⟩
/-- decimal.Small of a number that is too great. -/
theorem small_no (n : Nat) (w : World) (ha : Amb w) (hn : 18446744073709551616 ≤ n) (hs : Lib.nDigits n ≤ 1000000000) :
    Calls Tryz.prog 76 #[.string (dec n)] w (SmallRes (.tuple #[.int .u64 0, .bool false]) w) := by
  have hp := parseU_dec n
  rw [if_neg (by omega)] at hp
  have hsz : (dec n).size ≤ 281474976710656 := by rw [dec_size]; omega
  have HP := Lib.hid hp
  have HSZ := Lib.hid hsz
  obtain ⟨tp, p, hr⟩ := ha.range
  have HR := Lib.hid hr
  clear hp hsz hr
  go_enter Tryz.func76, Tryz.ntmps76
  go_wp2_with fail
  refine (Tryz.strconv_ParseUint_10_at64_range_var (dec n) HSZ.out HP.out tp p _ HR.out).mono ?_
  rintro e w' ⟨N, rfl, hN, hcell, hb⟩
  have HC := Lib.hid hcell
  clear hcell
  go_wp2
  go_ret2
  exact ⟨rfl, hb⟩
end Go.Proofs.YtebcmefbpfcgmaaGreatDoor
