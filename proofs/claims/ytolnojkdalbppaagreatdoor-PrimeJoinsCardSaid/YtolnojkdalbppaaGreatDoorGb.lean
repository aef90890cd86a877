/- Greater text, out of: Amb, Dec1, Can, Text, Dec2, Dec3, Dec4, Dec5. -/
import Derived.Test.YtolnojkdalbppaaGreatDoorGa
import Derived.Test.YtolnojkdalbppaaGreatDoorShelf
import Derived.Lib.ItoaMem
import Derived.Lib.AtoiAllCases
import Derived.WalkSmall
import Derived.Laws.IdiomStrings
import Derived.RegionCalls
namespace Go.Proofs.YtolnojkdalbppaaGreatDoor
section
open Go.RowKit

/-- What the package-level variables of the library hold that the code reads. -/
structure Amb (w : World) : Prop where
  tab : Lib.TabIs Tryz.prog w "internal/strconv.uint64pow10" .u64 Lib.pow10Tab
  range : ∃ tp p, w.var? Tryz.prog "strconv.ErrRange" = some #[.iface tp p]
  syn : ∃ tp p, w.var? Tryz.prog "strconv.ErrSyntax" = some #[.iface tp p]
theorem var_keep {w w' : World} (hb : Below w.heap.size w w') {n : String} {cs : Array Value} (h : w.var? Tryz.prog n = some cs) : w'.var? Tryz.prog n = some cs := by
  unfold World.var? at *
  cases hg : Tryz.prog.globalNamed n with
  | none => simp [hg] at h
  | some g =>
    simp only [hg, Option.bind_some] at h ⊢
    have hlt : g < w.heap.size := by
      rcases Nat.lt_or_ge g w.heap.size with h' | h'
      · exact h'
      · rw [Array.getElem?_eq_none h'] at h; simp at h
    rw [hb.block g hlt]; exact h
theorem Amb.below {w w' : World} (h : Amb w) (hb : Below w.heap.size w w') : Amb w' := by
  obtain ⟨tp, p, h1⟩ := h.range
  obtain ⟨tq, q, h2⟩ := h.syn
  exact ⟨var_keep hb h.tab, ⟨tp, p, var_keep hb h1⟩, ⟨tq, q, var_keep hb h2⟩⟩
theorem Amb.drewN {w : World} (h : Amb w) (k : Nat) : Amb (w.drewN k) := h.below (bel_drewN (Below.refl _ _) k)
theorem Amb.alloc {w : World} (h : Amb w) (o : Obj) : Amb (w.alloc o) := h.below ((Below.refl _ _).alloc (Nat.le_refl _) o)

theorem holds0 (w : World) (T : TypeId) (nd : Nat) (hs : nd ≤ 24) : Sort.Holds (fun (b : UInt8) => Value.int .u8 (b.toNat : Int)) (w.alloc (.cells Lib.zeros24 T)) w.heap.size 0 (Array.replicate nd (0 : UInt8)) := fun j hj => by
  have hj' : j < nd := by simpa using hj
  refine ⟨?_, World.frozen?_alloc_new _ _ _ _⟩
  rw [World.cell?_alloc_new, Lib.zeros24_at _ (by omega), getElem!_pos _ j hj]
  simp
theorem putRow_below (w : World) (o : Obj) (dk : Array UInt8) (k : Nat) : Below w.heap.size w ((Sort.putRow (fun (b : UInt8) => Value.int .u8 (b.toNat : Int)) (w.alloc o) w.heap.size 0 dk).drewN k) := by
  rw [Sort.alloc_eq_grow]
  obtain ⟨os', _, e⟩ := Sort.putRow_grow_new (fun (b : UInt8) => Value.int .u8 (b.toNat : Int)) w #[o] w.heap.size 0 dk (Nat.le_refl _)
  rw [e]
  have h : Below w.heap.size w (Sort.grow w os') := ⟨rfl, rfl, rfl, by simp [Sort.grow], fun i hi => by simp [Sort.grow, Array.getElem?_append, hi]⟩
  exact bel_drewN h k

def StrPost (s : ByteArray) (w : World) (e : Ending) (w' : World) : Prop := e = .returned (.string s) ∧ Below w.heap.size w w'

set_option maxRecDepth 100000 in
set_option maxHeartbeats 2000000 in
/-- internal/strconv.FormatUint at base 10. -/
theorem fmtu_any (u : Nat) (hu : u < 18446744073709551616) (w : World) (ha : Amb w) :
    Calls Tryz.prog 125 #[.int .u64 (u : Int), .int .i64 10] w (StrPost (dec u) w) := by
  by_cases hs : u < 100
  · go_enter Tryz.func125, Tryz.ntmps125
    go_wp2_with (go_at_call 126; refine (Tryz.internal_strconv_small u hs _).mono ?_; rintro e w' ⟨rfl, rfl⟩)
    go_ret
    exact ⟨rfl, Below.refl _ _⟩
  · have hu1 : 1 ≤ u := by omega
    have hnd20 : Lib.nDigits u ≤ 20 := by have := Lib.numDigits_eq u hu1 hu; split at this <;> omega
    have hal : Tryz.prog.arrayLen 172 = 24 := by simp [Program.arrayLen, Tryz.underlying172]
    have hsl1 : ∀ W, (Instr.sliceAt 172 (.pointer (some ⟨w.heap.size, 0, none⟩)) none (some (.int .i64 (Lib.nDigits u : Int))) none).run Tryz.prog W = .ok (.slice (some ⟨w.heap.size, 0, none⟩) (Lib.nDigits u) 24) W := fun W => by
      rw [run_sliceAt_array_h W 172 ⟨w.heap.size, 0, none⟩ (by simp [Program.arrayLen, Program.elem, Tryz.underlying172]) .i64 (Lib.nDigits u : Int) (by omega) (by rw [hal]; omega)]
      go_simp
    have hH0 := holds0 w 172 (Lib.nDigits u) (by omega)
    have hfmt := Tryz.internal_strconv_formatBase10 w.heap.size 0 24 u (Array.replicate (Lib.nDigits u) 0) (w.alloc (.cells Lib.zeros24 172)) hH0 (by rw [Array.size_replicate]; exact Lib.lt_pow_nDigits u) hu (by rw [Array.size_replicate]; omega)
    rw [Array.size_replicate] at hfmt
    have HH0 := Lib.hid hH0
    have HFM := Lib.hid hfmt
    have htab := ha.tab
    have HT := Lib.hid htab
    clear hH0 hal hfmt htab
    go_enter Tryz.func125, Tryz.ntmps125
    go_wp2_with (go_at_call 127; refine (Tryz.internal_strconv_numDigits u hu1 hu _ (Lib.tabIs_alloc HT.out _)).mono ?_; rintro e w' ⟨rfl, rfl⟩)
    refine HFM.out.mono ?_
    rintro e w' ⟨rfl, k, v', dk, rfl, hF⟩
    have hcv : (convert 121 9 (.slice (some ⟨w.heap.size, 0, none⟩) (Lib.nDigits u) 24)).run Tryz.prog ((Sort.putRow (fun (b : UInt8) => Value.int .u8 (b.toNat : Int)) (w.alloc (.cells Lib.zeros24 172)) w.heap.size 0 dk).drewN k) = .ok (.string ⟨(Lib.decDigits u).toArray⟩) ((Sort.putRow (fun (b : UInt8) => Value.int .u8 (b.toNat : Int)) (w.alloc (.cells Lib.zeros24 172)) w.heap.size 0 dk).drewN k) := by
      have h := run_convert_bytes_back (P := Tryz.prog) ((Sort.putRow (fun (b : UInt8) => Value.int .u8 (b.toNat : Int)) (w.alloc (.cells Lib.zeros24 172)) w.heap.size 0 dk).drewN k) 121 9 5 ⟨w.heap.size, 0, none⟩ 24 (Lib.decDigits u) Tryz.underlying121 Tryz.underlying5 Tryz.underlying9 (fun j hj => by
        rw [Lib.row_is_numeral hF j hj, Lib.add_plain, World.cell?_drewN]
        exact Sort.cell?_putRow (fun (b : UInt8) => Value.int .u8 (b.toNat : Int)) _ w.heap.size 0 _ dk HH0.out (by rw [hF.size, Array.size_replicate]) j (by rw [hF.size]; rw [Lib.decDigits_length] at hj; exact hj))
      rw [Lib.decDigits_length] at h
      exact h
    go_wp2
    go_ret
    exact ⟨rfl, putRow_below w _ dk k⟩
theorem fmtu_pub (u : Nat) (hu : u < 18446744073709551616) (w : World) (ha : Amb w) :
    Calls Tryz.prog 113 #[.int .u64 (u : Int), .int .i64 10] w (StrPost (dec u) w) := by
  go_enter Tryz.func113, Tryz.ntmps113
  go_wp2_with (go_at_call 125; refine (fmtu_any u hu _ ha).mono ?_; rintro e w' ⟨rfl, hb⟩)
  go_ret
  exact ⟨rfl, hb⟩
/-- decimal.Of. -/
theorem of_any (u : Nat) (hu : u < 18446744073709551616) (w : World) (ha : Amb w) :
    Calls Tryz.prog 92 #[.int .u64 (u : Int)] w (StrPost (dec u) w) := by
  go_enter Tryz.func92, Tryz.ntmps92
  go_wp2_with (go_at_call 113; refine (fmtu_pub u hu _ ha).mono ?_; rintro e w' ⟨rfl, hb⟩)
  go_ret
  exact ⟨rfl, hb⟩

/-! ### Small -/
theorem parseU (l : List UInt8) (h : l.all isDig = true) : ∀ acc : Nat, acc < 18446744073709551616 →
    Lib.parseUintM 18446744073709551615 acc l = if acc * 10 ^ l.length + val l < 18446744073709551616 then .ok (acc * 10 ^ l.length + val l) else .range := by
  induction l with
  | nil => intro acc ha; simp only [Lib.parseUintM, List.length_nil, Nat.pow_zero, Nat.mul_one, val_nil, Nat.add_zero]; rw [if_pos ha]
  | cons c r ih =>
    intro acc ha
    rw [List.all_cons, Bool.and_eq_true, isDig_iff] at h
    have hp : 0 < 10 ^ r.length := Nat.pow_pos (by decide)
    have hv := val_cons c r
    have e : acc * 10 ^ (c :: r).length + val (c :: r) = (acc * 10 + (c.toNat - 48)) * 10 ^ r.length + val r := by
      rw [hv, List.length_cons, Nat.pow_succ, Nat.add_mul, Nat.mul_comm (10 ^ r.length) 10, Nat.mul_assoc]; omega
    rw [Lib.parseUintM, if_pos h.1, e]
    have hge : acc * 10 + (c.toNat - 48) ≤ (acc * 10 + (c.toNat - 48)) * 10 ^ r.length + val r := by
      have := Nat.le_mul_of_pos_right (acc * 10 + (c.toNat - 48)) hp
      omega
    by_cases h1 : 1844674407370955162 ≤ acc
    · rw [if_pos h1, if_neg (by omega)]
    · rw [if_neg h1]
      by_cases h2 : 18446744073709551615 < acc * 10 + (c.toNat - 48)
      · rw [if_pos h2, if_neg (by omega)]
      · rw [if_neg h2, ih h.2 _ (by omega)]
theorem parseU_dec (n : Nat) : Lib.parseUintB 64 (dec n).data.toList = if n < 18446744073709551616 then .ok n else .range := by
  have h := parseU (Lib.decDigits n) (all_dd n) 0 (by decide)
  rw [Nat.zero_mul, Nat.zero_add, val_dd] at h
  rw [dec_data]
  unfold Lib.parseUintB
  rw [if_neg (dd_ne_nil n)]
  exact h
def SmallRes (v : Value) (w : World) (e : Ending) (w' : World) : Prop := e = .returned v ∧ Below w.heap.size w w'
/-- decimal.Small of a number that fits. -/
theorem small_yes (n : Nat) (w : World) (hn : n < 18446744073709551616) :
    Calls Tryz.prog 112 #[.string (dec n)] w (SmallRes (.tuple #[.int .u64 (n : Int), .bool true]) w) := by
  have hp := parseU_dec n
  rw [if_pos hn] at hp
  have hsz : (dec n).size ≤ 9223372036854775806 := by rw [dec_size]; have := (nd_le_iff n 19).2 (by omega); omega
  have HP := Lib.hid hp
  have HSZ := Lib.hid hsz
  clear hp hsz
  go_enter Tryz.func112, Tryz.ntmps112
  go_wp2_with fail
  refine (Tryz.strconv_ParseUint_10_at64_ok (dec n) HSZ.out n HP.out _).mono ?_
  rintro e w' ⟨rfl, hw⟩
  have hb : Below w.heap.size w w' := by
    rcases hw with rfl | rfl
    · exact Below.refl _ _
    · exact bytes_below _ _ _
  clear hw
  go_wp2
  go_ret2
  exact ⟨rfl, hb⟩
/-- decimal.Small of a number that is too great. -/
theorem small_no (n : Nat) (w : World) (ha : Amb w) (hn : 18446744073709551616 ≤ n) (hs : Lib.nDigits n ≤ 1000000000) :
    Calls Tryz.prog 112 #[.string (dec n)] w (SmallRes (.tuple #[.int .u64 0, .bool false]) w) := by
  have hp := parseU_dec n
  rw [if_neg (by omega)] at hp
  have hsz : (dec n).size ≤ 281474976710656 := by rw [dec_size]; omega
  have HP := Lib.hid hp
  have HSZ := Lib.hid hsz
  obtain ⟨tp, p, hr⟩ := ha.range
  have HR := Lib.hid hr
  clear hp hsz hr
  go_enter Tryz.func112, Tryz.ntmps112
  go_wp2_with fail
  refine (Tryz.strconv_ParseUint_10_at64_range_var (dec n) HSZ.out HP.out tp p _ HR.out).mono ?_
  rintro e w' ⟨N, rfl, hN, hcell, hb⟩
  have HC := Lib.hid hcell
  clear hcell
  go_wp2
  go_ret2
  exact ⟨rfl, hb⟩
end
section
open Go.RowKit

theorem both_yes (a b : Nat) (w : World) (ha : Lib.nDigits a ≤ 18) (hb : Lib.nDigits b ≤ 18) :
    Calls Tryz.prog 91 #[.string (dec a), .string (dec b)] w (SmallRes (.tuple #[.int .u64 (a : Int), .int .u64 (b : Int), .bool true]) w) := by
  have h1 : (dec a).size ≤ 18 := by rw [dec_size]; exact ha
  have h2 : (dec b).size ≤ 18 := by rw [dec_size]; exact hb
  have ha' : a < 18446744073709551616 := by have := (nd_le_iff a 17).1 ha; omega
  have hb' : b < 18446744073709551616 := by have := (nd_le_iff b 17).1 hb; omega
  go_enter Tryz.func91, Tryz.ntmps91
  go_wp2_with fail
  refine (small_yes a _ ha').mono ?_
  rintro e w1 ⟨rfl, hb1⟩
  go_wp2_with fail
  refine (small_yes b _ hb').mono ?_
  rintro e w2 ⟨rfl, hb2⟩
  go_wp2
  go_ret3
  exact ⟨rfl, hb1.trans (hb2.mono hb1.size)⟩
theorem both_no (a b : Nat) (w : World) (h : ¬ (Lib.nDigits a ≤ 18 ∧ Lib.nDigits b ≤ 18)) :
    Calls Tryz.prog 91 #[.string (dec a), .string (dec b)] w (SmallRes (.tuple #[.int .u64 0, .int .u64 0, .bool false]) w) := by
  have h' : ¬ ((dec a).size ≤ 18 ∧ (dec b).size ≤ 18) := by rw [dec_size, dec_size]; exact h
  have H := Lib.hid h'
  clear h h'
  by_cases h1 : (dec a).size ≤ 18
  · have h2 : 18 < (dec b).size := by
      rcases Nat.lt_or_ge 18 (dec b).size with h2 | h2
      · exact h2
      · exact absurd ⟨h1, h2⟩ H.out
    go_enter Tryz.func91, Tryz.ntmps91
    go_wp2_with fail
    go_ret3
    exact ⟨rfl, Below.refl _ _⟩
  · have h2 : 18 < (dec a).size := by omega
    go_enter Tryz.func91, Tryz.ntmps91
    go_wp2_with fail
    go_ret3
    exact ⟨rfl, Below.refl _ _⟩

/-- decimal.Compare. -/
theorem compare_any (a b : Nat) (w : World) (ha : Lib.nDigits a ≤ 1000000000) (hb : Lib.nDigits b ≤ 1000000000) :
    Calls Tryz.prog 110 #[.string (dec a), .string (dec b)] w fun e w' => e = .returned (.int .i64 (cmpI a b)) ∧ w = w' := by
  have h1 : (dec a).size ≤ 1000000000 := by rw [dec_size]; exact ha
  have h2 : (dec b).size ≤ 1000000000 := by rw [dec_size]; exact hb
  rcases Nat.lt_trichotomy (Lib.nDigits a) (Lib.nDigits b) with h | h | h
  · have HC := Lib.hid (cmpI_lt (nd_lt_of_lt h))
    have hlt : (dec a).size < (dec b).size := by rw [dec_size, dec_size]; exact h
    have hne : (((dec a).size : Int) != ((dec b).size : Int)) = true := by rw [bne_iff_ne]; omega
    clear h ha hb
    go_enter Tryz.func110, Tryz.ntmps110
    go_wp2
    all_goals go_ret
    all_goals exact ⟨ret_int (by (rw [HC.out]) <;> omega), rfl⟩
  · have hne : (((dec a).size : Int) != ((dec b).size : Int)) = false := by rw [dec_size, dec_size, h]; simp
    have hl : Op.bytesLess (dec a).toList (dec b).toList = decide (a < b) := by rw [dec_toList, dec_toList]; exact dd_less a b h
    have he : ((dec a).toList == (dec b).toList) = decide (a = b) := by rw [dec_toList, dec_toList, Bool.eq_iff_iff, beq_iff_eq, dd_eq_iff, decide_eq_true_eq]
    rcases Nat.lt_trichotomy a b with h3 | h3 | h3
    · have HC := Lib.hid (cmpI_lt h3)
      rw [decide_eq_true h3] at hl
      clear h ha hb he h3
      go_enter Tryz.func110, Tryz.ntmps110
      go_wp2
      go_ret
      exact ⟨ret_int (by (rw [HC.out]) <;> omega), rfl⟩
    · have HC := Lib.hid (show cmpI a b = 0 by rw [h3, cmpI_eq])
      rw [decide_eq_false (by omega)] at hl
      rw [decide_eq_true h3] at he
      have he2 : (!(dec a).toList == (dec b).toList) = false := by rw [he]; rfl
      clear h ha hb h3
      go_enter Tryz.func110, Tryz.ntmps110
      go_wp2
      go_ret
      exact ⟨ret_int (by (rw [HC.out]) <;> omega), rfl⟩
    · have HC := Lib.hid (cmpI_gt h3)
      rw [decide_eq_false (by omega)] at hl
      rw [decide_eq_false (by omega)] at he
      have he2 : (!(dec a).toList == (dec b).toList) = true := by rw [he]; rfl
      clear h ha hb h3
      go_enter Tryz.func110, Tryz.ntmps110
      go_wp2
      go_ret
      exact ⟨ret_int (by (rw [HC.out]) <;> omega), rfl⟩
  · have HC := Lib.hid (cmpI_gt (nd_lt_of_lt h))
    have hlt : (dec b).size < (dec a).size := by rw [dec_size, dec_size]; exact h
    have hne : (((dec a).size : Int) != ((dec b).size : Int)) = true := by rw [bne_iff_ne]; omega
    clear h ha hb
    go_enter Tryz.func110, Tryz.ntmps110
    go_wp2
    all_goals go_ret
    all_goals exact ⟨ret_int (by (rw [HC.out]) <;> omega), rfl⟩
end
section
open Go.RowKit

/-- decimal.Canonical. -/
theorem canonical_any (s : ByteArray) (w : World) (hs : s.size ≤ 1000000000) :
    Calls Tryz.prog 104 #[.string s] w (SmallRes (.bool (canon s.data.toList)) w) := by
  have hconv := Lib.run_convert_string_bytes (P := Tryz.prog) w 46 121 5 s Tryz.underlying46 Tryz.underlying121 Tryz.underlying5
  have HSZ := Lib.hid (show s.data.toList.length = s.size from by rw [Array.length_toList]; rfl)
  obtain ⟨l, hl⟩ : ∃ l, s.data.toList = l := ⟨_, rfl⟩
  have hcl : ∀ j, j < s.size → (Lib.bytesWorld w 5 s).cell? ⟨w.heap.size, j, none⟩ = some (.int .u8 ((l.getD j 0).toNat : Int)) := by
    intro j hj
    rw [Lib.bytesWorld_cell _ _ _ j hj, hl]
  have hbw := bytes_below w 5 s
  have h0 : 0 < s.size → ∀ h : 0 < s.size, s[0] = l.getD 0 0 := fun _ h => by
    rw [← hl, List.getD_eq_getElem?_getD, List.getElem?_eq_getElem (by rw [HSZ.out]; exact h)]; rfl
  have HCL := Lib.hid hcl
  have HBW := Lib.hid hbw
  have H0 := Lib.hid h0
  rw [hl] at HSZ ⊢
  clear hl hcl hbw h0
  go_enter Tryz.func104, Tryz.ntmps104
  go_wp2
  clear hconv
  obtain ⟨W, hW⟩ : ∃ W, Lib.bytesWorld w 5 s = W := ⟨_, rfl⟩
  rw [hW] at HCL HBW ⊢
  clear hW
  go_loop [8] (fun vj => ∃ j : Nat, j ≤ s.size ∧ vj = .int .i64 (j : Int) ∧ Hid ((l.take j).all isDig = true)) (fun vj => s.size - (intOf vj).toNat)
  case atStart => exact ⟨0, Nat.zero_le _, rfl, rfl⟩
  case round =>
    obtain ⟨j, hj, rfl, HI⟩ := hrel
    by_cases hjn : j = s.size
    · subst hjn
      have hall : l.all isDig = true := by have := HI.out; rwa [List.take_of_length_le (by rw [HSZ.out]; omega)] at this
      by_cases h1 : s.size = 1
      · have hb1 : ((s.size : Int) == 1) = true := by rw [h1]; rfl
        have HR := Lib.hid (show canon l = true by unfold canon; rw [hall, HSZ.out, h1]; rfl)
        clear hall h1
        go_wp2
        go_ret
        exact ⟨ret_bool HR.out.symm, HBW.out⟩
      · have hb1 : ((s.size : Int) == 1) = false := by simp; omega
        by_cases h2 : 1 < s.size
        · have hx := H0.out (by omega) (by omega)
          have HR := Lib.hid (show canon l = !(l.getD 0 0 == 48) by
            unfold canon; rw [hall, HSZ.out, show (s.size == 1) = false by simpa using h1, decide_eq_true h2]; rfl)
          have hx2 : ((s[0]'(by omega)).toNat : Int) = ((l.getD 0 0).toNat : Int) := by rw [hx]
          have hx3 : (l.getD 0 0 == 48) = decide ((l.getD 0 0).toNat = 48) := by
            rw [Bool.eq_iff_iff, beq_iff_eq, decide_eq_true_eq]
            exact ⟨fun h => by rw [h]; rfl, fun h => UInt8.toNat_inj.1 h⟩
          rw [hx3] at HR
          clear hall h1 hx hx3
          have hbd := (l.getD 0 0).toNat_lt
          generalize (l.getD 0 0).toNat = d at *
          by_cases h48 : d = 48
          · have hd1 : (((s[0]'(by omega)).toNat : Int) != 48) = false := by rw [hx2, h48]; rfl
            have HX := Lib.hid hx2
            have H48 := Lib.hid h48
            clear hx2 h48
            go_wp2
            go_ret
            exact ⟨ret_bool (by rw [HR.out, decide_eq_true H48.out]; rfl), HBW.out⟩
          · have hd1 : (((s[0]'(by omega)).toNat : Int) != 48) = true := by rw [hx2, bne_iff_ne]; omega
            have HX := Lib.hid hx2
            have H48 := Lib.hid h48
            clear hx2 h48
            go_wp2
            go_ret
            exact ⟨ret_bool (by rw [HR.out, decide_eq_false H48.out]; rfl), HBW.out⟩
        · have h0 : s.size = 0 := by omega
          have HR := Lib.hid (show canon l = false by unfold canon; rw [HSZ.out, h0]; simp)
          clear hall h1 h0
          go_wp2
          go_ret
          exact ⟨ret_bool HR.out.symm, HBW.out⟩
    · have hj' : j < s.size := by omega
      have hc := HCL.out j hj'
      have htk : (l.take (j + 1)).all isDig = isDig (l.getD j 0) := by
        rw [List.take_succ_eq_append_getElem (by rw [HSZ.out]; exact hj'), List.all_append, HI.out, List.getD_eq_getElem?_getD, List.getElem?_eq_getElem (by rw [HSZ.out]; exact hj')]
        simp
      have hno : isDig (l.getD j 0) = false → canon l = false := fun h => by
        have : l.all isDig = false := by
          rw [List.all_eq_false]
          exact ⟨l.getD j 0, by rw [List.getD_eq_getElem?_getD, List.getElem?_eq_getElem (by rw [HSZ.out]; exact hj')]; exact List.getElem_mem _, by rw [h]; decide⟩
        unfold canon; rw [this]; rfl
      have hb1 := (l.getD j 0).toNat_lt
      have hdg : isDig (l.getD j 0) = (decide (48 ≤ (l.getD j 0).toNat) && decide ((l.getD j 0).toNat ≤ 57)) := rfl
      have HTK := Lib.hid htk
      have HNO := Lib.hid hno
      have HDG := Lib.hid hdg
      clear htk hno hdg
      generalize (l.getD j 0) = b at *
      generalize hd : b.toNat = d at *
      by_cases h1 : 48 ≤ d
      · by_cases h2 : d ≤ 57
        · have HY := Lib.hid (show isDig b = true by rw [HDG.out]; simp [h1, h2])
          clear hd
          go_wp2
          go_round
          case rel => exact ⟨j + 1, by omega, by go_num, by rw [HTK.out]; exact HY.out⟩
          case measure => simp [intOf]; omega
        · have HY := Lib.hid (show isDig b = false by rw [HDG.out]; simp; omega)
          clear hd
          go_wp2
          go_ret
          exact ⟨ret_bool (HNO.out HY.out).symm, HBW.out⟩
      · have HY := Lib.hid (show isDig b = false by rw [HDG.out]; simp; omega)
        clear hd
        go_wp2
        go_ret
        exact ⟨ret_bool (HNO.out HY.out).symm, HBW.out⟩
/-- decimal.Check: 0 or ErrNumber. -/
theorem check_any (s : ByteArray) (w : World) (hs : s.size ≤ 1000000000) :
    Calls Tryz.prog 84 #[.string s] w (SmallRes (.int .i64 (if canon s.data.toList = true ∧ s.size ≤ 400 then 0 else 2)) w) := by
  have hc := canonical_any s w hs
  have HC := Lib.hid hc
  clear hc
  cases h : canon s.data.toList with
  | true =>
    rw [h] at HC
    by_cases h4 : s.size ≤ 400
    · rw [if_pos ⟨rfl, h4⟩]
      go_enter Tryz.func84, Tryz.ntmps84
      go_wp2_with (go_at_call 104; refine HC.out.mono ?_; rintro e w' ⟨rfl, hb⟩)
      go_ret
      exact ⟨rfl, hb⟩
    · rw [if_neg (fun h => h4 h.2)]
      have h5 : 400 < s.size := by omega
      go_enter Tryz.func84, Tryz.ntmps84
      go_wp2_with (go_at_call 104; refine HC.out.mono ?_; rintro e w' ⟨rfl, hb⟩)
      go_ret
      exact ⟨rfl, hb⟩
  | false =>
    rw [h] at HC
    rw [if_neg (fun h => by cases h.1)]
    go_enter Tryz.func84, Tryz.ntmps84
    go_wp2_with (go_at_call 104; refine HC.out.mono ?_; rintro e w' ⟨rfl, hb⟩)
    go_ret
    exact ⟨rfl, hb⟩
end
section
open Go.RowKit

/-! The digits, the last one first. -/
def ld (n : Nat) : List UInt8 := if h : n = 0 then [] else UInt8.ofNat (48 + n % 10) :: ld (n / 10)
  termination_by n
  decreasing_by omega
theorem ld_zero : ld 0 = [] := by rw [ld, dif_pos rfl]
theorem ld_pos {n : Nat} (h : n ≠ 0) : ld n = UInt8.ofNat (48 + n % 10) :: ld (n / 10) := by rw [ld, dif_neg h]
/-- The last k digits, with zeros. -/
def pd : Nat → Nat → List UInt8
  | 0, _ => []
  | k + 1, n => UInt8.ofNat (48 + n % 10) :: pd k (n / 10)
theorem ld_reverse (n : Nat) (h : n ≠ 0) : (ld n).reverse = Lib.decDigits n := by
  induction n using Nat.strongRecOn with
  | _ n ih =>
    rw [ld_pos h, List.reverse_cons]
    by_cases h10 : n < 10
    · rw [dd_small h10, show n / 10 = 0 by omega, ld_zero, show n % 10 = n by omega]; rfl
    · rw [dd_big h10, ih (n / 10) (by omega) (by omega)]
theorem pd_ld (k x m : Nat) (hm : m ≠ 0) (hx : x < 10 ^ k) : ld (x + 10 ^ k * m) = pd k x ++ ld m := by
  induction k generalizing x with
  | zero => rw [Nat.pow_zero] at hx; rw [show x = 0 by omega, Nat.pow_zero, pd, Nat.one_mul, Nat.zero_add]; rfl
  | succ k ih =>
    rw [Nat.pow_succ] at hx ⊢
    have hp : 0 < 10 ^ k := Nat.pow_pos (by decide)
    have hpm : 0 < 10 ^ k * m := Nat.mul_pos hp (by omega)
    have e : 10 ^ k * 10 * m = 10 * (10 ^ k * m) := by rw [Nat.mul_comm (10 ^ k) 10, Nat.mul_assoc]
    rw [e, ld_pos (by omega), show (x + 10 * (10 ^ k * m)) % 10 = x % 10 by omega, show (x + 10 * (10 ^ k * m)) / 10 = x / 10 + 10 ^ k * m by omega, ih (x / 10) (by omega)]
    rfl
theorem ld_len9 (x : Nat) (hx : x < 1000000000) : (ld x).length ≤ 9 := by
  have key : ∀ k x, x < 10 ^ k → (ld x).length ≤ k := by
    intro k
    induction k with
    | zero => intro x h; rw [show x = 0 by simpa using h, ld_zero]; simp
    | succ k ih =>
      intro x h
      by_cases h0 : x = 0
      · rw [h0, ld_zero]; simp
      · rw [ld_pos h0, List.length_cons]; have := ih (x / 10) (by rw [Nat.pow_succ] at h; omega); omega
  exact key 9 x (by have : (10 : Nat) ^ 9 = 1000000000 := by decide
                    omega)
/-- What is still to be written at digit k of a piece (n: what is left of it; more: whether pieces follow, with value m). -/
def tl (more : Bool) (m k n : Nat) : List UInt8 := if more then pd (9 - k) n ++ ld m else ld n
theorem tl_start (v i : Nat) (hi : i < (lims v).length) : tl (decide (i + 1 < (lims v).length)) (lv ((lims v).drop (i + 1))) 0 ((lims v).getD i 0) = ld (lv ((lims v).drop i)) := by
  have hx := Lims_getD (Lims_lims v) i
  rw [lv_drop_pred _ i hi]
  unfold tl
  by_cases h : i + 1 < (lims v).length
  · rw [decide_eq_true h, if_pos rfl, Nat.sub_zero]
    have hm : lv ((lims v).drop (i + 1)) ≠ 0 := by
      rw [lv_drop _ (Lims_lims v) _ (by omega), lv_lims]
      have hv : v ≠ 0 := by intro e; rw [e, lims_zero] at hi; simp at hi
      have h1 := pow_le_lims v hv
      have h2 : 1000000000 ^ (i + 1) ≤ 1000000000 ^ ((lims v).length - 1) := Nat.pow_le_pow_right (by decide) (by omega)
      intro e
      rw [Nat.div_eq_zero_iff] at e
      rcases e with e | e
      · simp at e
      · omega
    have := pd_ld 9 ((lims v).getD i 0) _ hm (by have : (10 : Nat) ^ 9 = 1000000000 := by decide
                                                 omega)
    rw [show (10 : Nat) ^ 9 = 1000000000 by decide] at this
    rw [this]
  · rw [decide_eq_false h, if_neg (by decide), List.drop_of_length_le (by omega)]; simp [lv]
theorem tl_step (more : Bool) (m k n : Nat) (hk : k < 9) (h : more = true ∨ 0 < n) : tl more m k n = UInt8.ofNat (48 + n % 10) :: tl more m (k + 1) (n / 10) := by
  unfold tl
  cases more with
  | true => rw [if_pos rfl, if_pos rfl, show 9 - k = (9 - (k + 1)) + 1 by omega, pd]; rfl
  | false =>
    rw [if_neg (by decide), if_neg (by decide), ld_pos (by rcases h with h | h; · cases h
                                                           · omega)]
theorem tl_stop (more : Bool) (m k n : Nat) (hn : n < 10 ^ (9 - k)) (h : ¬ (k < 9 ∧ (more = true ∨ 0 < n))) : tl more m k n = ld (if more then m else 0) := by
  unfold tl
  cases more with
  | true =>
    rw [if_pos rfl, if_pos rfl]
    rw [show 9 - k = 0 by (by_cases hk : k < 9
                           · exact absurd ⟨hk, .inl rfl⟩ h
                           · omega), pd]; rfl
  | false =>
    rw [if_neg (by decide), if_neg (by decide)]
    by_cases hk : k < 9
    · have h0 : n = 0 := by
        rcases Nat.eq_zero_or_pos n with h0 | h0
        · exact h0
        · exact absurd ⟨hk, .inr h0⟩ h
      rw [h0]
    · rw [show 9 - k = 0 by omega, Nat.pow_zero] at hn
      rw [show n = 0 by omega]
theorem dig_byte (n : Nat) : ((UInt8.ofNat (48 + n % 10)).toNat : Int) = 48 + (n : Int) % 10 := by
  rw [ofNat_toNat_dig (n % 10) (by omega)]; omega
theorem div10 {k n : Nat} (hk : k < 9) (h : n < 10 ^ (9 - k)) : n / 10 < 10 ^ (9 - (k + 1)) := by
  rw [show 9 - k = (9 - (k + 1)) + 1 by omega, Nat.pow_succ] at h; omega

theorem dec0 : dec 0 = ⟨#[48]⟩ := by unfold dec; rw [dd_small (by omega)]; rfl
/-- The digits that are still to come, at the beginning of piece i. -/
def TextRel (v i : Nat) (g n cap : Nat) (w wr : World) : Prop := Below w.heap.size w wr ∧ w.heap.size ≤ g ∧ ∃ out, Bc wr g n cap out ∧ out ++ ld (lv ((lims v).drop i)) = ld v
def TextIn (v : Nat) (more : Bool) (m k x : Nat) (g n cap : Nat) (w wr : World) : Prop := Below w.heap.size w wr ∧ w.heap.size ≤ g ∧ x < 10 ^ (9 - k) ∧ ∃ out, Bc wr g n cap out ∧ out ++ tl more m k x = ld v

set_option maxRecDepth 100000 in
set_option maxHeartbeats 1000000 in
/-- (decimal.pieces).text. -/
theorem text_any (g n cap v : Nat) (w : World) (hp : Pc w g n cap (lims v)) (hn : n ≤ 1000000000) :
    Calls Tryz.prog 95 #[.slice (some ⟨g, 0, none⟩) n cap] w (StrPost (dec v) w) := by
  have hcap := hp.cap_le
  have hle := hp.le
  have hg := hp.lt
  have HL := Lib.hid hp.len
  by_cases h0 : n = 0
  · subst h0
    have hv : v = 0 := lims_ne_nil.1 (List.eq_nil_of_length_eq_zero hp.len)
    have HV := Lib.hid hv
    clear hv
    go_enter Tryz.func95, Tryz.ntmps95
    go_wp2
    go_ret
    exact ⟨ret_str (by rw [HV.out, dec0]), Below.refl _ _⟩
  · have h0' : ((n : Int) == 0) = false := by simp; omega
    have hmk := make_Bc 121 Tryz.underlying121 0 (9 * n) (by omega) (by omega)
    simp only [Int.natCast_mul, Int.cast_ofNat_Int] at hmk
    have HM := Lib.hid (Bc.made w 0 (9 * n) (by omega) (by omega))
    go_enter Tryz.func95, Tryz.ntmps95
    go_wp2
    clear hmk
    go_loopw [3, 16] (fun vo vi wr => ∃ i g' n' cap' : Nat, i ≤ n ∧ n' ≤ 9 * i ∧ vi = .int .i64 (i : Int) ∧ vo = .slice (some ⟨g', 0, none⟩) n' cap' ∧ TextRel v i g' n' cap' w wr) (fun _ vi _ => n - (intOf vi).toNat)
    case atStart => exact ⟨0, w.heap.size, 0, 9 * n, by omega, by omega, rfl, rfl, (Below.refl _ _).alloc (Nat.le_refl _) _, Nat.le_refl _, [], HM.out, by rw [List.drop_zero, lv_lims]; rfl⟩
    case round =>
      obtain ⟨i, g', n', cap', hi, hn', rfl, rfl, hb, hg', out, ho, hd⟩ := hrel
      obtain ⟨wo, rfl⟩ : ∃ wo : World, wo = wr := ⟨_, rfl⟩
      by_cases hin : i = n
      · subst hin
        have hfin : out = ld v := by rw [List.drop_of_length_le (by rw [HL.out]; omega)] at hd; simpa [lv, ld_zero] using hd
        have hv : v ≠ 0 := by intro e; have := HL.out; rw [e, lims_zero] at this; simp at this; omega
        have HF := Lib.hid hfin
        have HV := Lib.hid hv
        clear hfin hd hv
        have hcon := fun w2 (h : Bc w2 g' n' cap' out.reverse) => str_of_Bc 121 46 Tryz.underlying121 Tryz.underlying46 h
        have HCON := Lib.hid hcon
        clear hcon
        go_wp2_with fail
        refine (rev_any _ _ _ out _ ho).mono ?_
        rintro e w' ⟨rfl, hon, hr⟩
        have hcv := HCON.out w' hr
        go_wp2
        go_ret
        refine ⟨ret_str ?_, bel_only hb hon hg' hb.size⟩
        rw [HF.out, ld_reverse v HV.out]; rfl
      · have hi' : i < n := by omega
        have hc := (hp.below hb hg).cell i hi'
        have hst := tl_start v i (by rw [HL.out]; exact hi')
        have hx := Lims_getD (Lims_lims v) i
        rw [← hst, HL.out] at hd
        have HD := Lib.hid hd
        have htl := HL.out
        have hend : ld (if decide (i + 1 < n) = true then lv ((lims v).drop (i + 1)) else 0) = ld (lv ((lims v).drop (i + 1))) := by
          by_cases h : i + 1 < n
          · rw [decide_eq_true h, if_pos rfl]
          · rw [decide_eq_false h, if_neg (by decide), List.drop_of_length_le (by omega)]; rfl
        have HE := Lib.hid hend
        clear hd hst htl hend
        generalize (lims v).getD i 0 = x0 at *
        have hx9 : x0 < 10 ^ (9 - 0) := by rw [Nat.sub_zero, show (10 : Nat) ^ 9 = 1000000000 by decide]; exact hx
        have HX := Lib.hid hx9
        clear hx9
        go_wp2
        go_loopw [3, 5, 6] (fun vo vx vk wr => ∃ k x g2 n2 cap2 : Nat, k ≤ 9 ∧ x < 1000000000 ∧ n2 ≤ 9 * i + k ∧ vk = .int .i64 (k : Int) ∧ vx = .int .u64 (x : Int) ∧ vo = .slice (some ⟨g2, 0, none⟩) n2 cap2 ∧ TextIn v (decide (i + 1 < n)) (lv ((lims v).drop (i + 1))) k x g2 n2 cap2 w wr) (fun _ _ vk _ => 9 - (intOf vk).toNat)
        case atStart => exact ⟨0, x0, g', n', cap', by omega, hx, by omega, rfl, rfl, rfl, hb, hg', HX.out, out, ho, HD.out⟩
        case round =>
          obtain ⟨k, x, g2, n2, cap2, hk, hx1, hn2, rfl, rfl, rfl, hb2, hg2, hx2, out2, ho2, hd2⟩ := hrel
          by_cases hgo : k < 9 ∧ (i + 1 < n ∨ 0 < x)
          · obtain ⟨hk9, hor⟩ := hgo
            have hstp := tl_step (decide (i + 1 < n)) (lv ((lims v).drop (i + 1))) k x hk9 (hor.imp (fun h => decide_eq_true h) id)
            obtain ⟨b, hbv⟩ : ∃ b, UInt8.ofNat (48 + x % 10) = b := ⟨_, rfl⟩
            have hbi : ((b.toNat : Nat) : Int) = 48 + (x : Int) % 10 := by rw [← hbv]; exact dig_byte x
            have hd3 : (out2 ++ [b]) ++ tl (decide (i + 1 < n)) (lv ((lims v).drop (i + 1))) (k + 1) (x / 10) = ld v := by
              rw [← hd2, hstp, hbv, List.append_assoc]; rfl
            have HD3 := Lib.hid hd3
            have HX3 := Lib.hid (div10 hk9 hx2)
            have hone := Bc.one wr b
            rw [hbi] at hone
            have hal := ho2.alloc (.cells #[.int .u8 (48 + (x : Int) % 10)] 5)
            clear hstp hbv hbi hd3 hx2 hd2
            have key : ∀ (P : Prop), (i + 1 < n → P) → (¬ i + 1 < n → 0 < x → P) → P := fun P h1 h2 => by
              by_cases h : i + 1 < n
              · exact h1 h
              · exact h2 h (hor.resolve_left h)
            clear hor
            refine key _ (fun hmore => ?_) (fun hmore hxp => ?_)
            all_goals
              clear key
              go_wp2_with (at_builtin; refine append_Bc rfl _ _ 121 rfl Tryz.underlying121 g2 n2 cap2 out2 rfl hal wr.heap.size 1 1 [b] rfl hone (by omega) ?_; intro g3 cap3 w3 hq hon hat)
              go_roundw
              case rel =>
                refine ⟨k + 1, x / 10, g3, n2 + 1, cap3, by omega, by omega, by omega, by go_num, by go_num, rfl, ?_, ?_, HX3.out, _, hq, HD3.out⟩
                · exact bel_only (hb2.alloc hb2.size _) hon hg2 (by have := hb2.size; simp; omega)
                · have h1 := hb2.size
                  have h2 : (wr.alloc (.cells #[.int .u8 (48 + (x : Int) % 10)] 5)).heap.size = wr.heap.size + 1 := by simp
                  rcases hat with h3 | h3 <;> omega
              case measure => simp [intOf]; omega
          · have hstp := tl_stop (decide (i + 1 < n)) (lv ((lims v).drop (i + 1))) k x hx2 (by intro ⟨h1, h2⟩; exact hgo ⟨h1, h2.imp (fun h => of_decide_eq_true h) id⟩)
            have hd3 : out2 ++ ld (lv ((lims v).drop (i + 1))) = ld v := by rw [← hd2, hstp, HE.out]
            have HD3 := Lib.hid hd3
            clear hstp hd3 hd2 hx2
            have key : ∀ (P : Prop), (¬ k < 9 → P) → (k < 9 → ¬ i + 1 < n → x = 0 → P) → P := fun P h1 h2 => by
              by_cases h : k < 9
              · exact h2 h (fun h3 => hgo ⟨h, .inl h3⟩) (by rcases Nat.eq_zero_or_pos x with h4 | h4
                                                            · exact h4
                                                            · exact absurd ⟨h, .inr h4⟩ hgo)
              · exact h1 h
            clear hgo
            refine key _ (fun hk9 => ?_) (fun hk9 hmore hx0 => ?_)
            · clear key
              go_wp2
              go_roundw
              case rel => exact ⟨i + 1, g2, n2, cap2, by omega, by omega, by go_num, rfl, hb2, hg2, out2, ho2, HD3.out⟩
              case measure => simp [intOf]; omega
            · clear key
              subst hx0
              go_wp2
              go_roundw
              case rel => exact ⟨i + 1, g2, n2, cap2, by omega, by omega, by go_num, rfl, hb2, hg2, out2, ho2, HD3.out⟩
              case measure => simp [intOf]; omega
end
section
open Go.RowKit

theorem lims_len_nd (n k : Nat) (h : Lib.nDigits n ≤ k) (hk : 0 < k) : (lims n).length ≤ k := by
  rw [lims_len_le]
  have h1 := (nd_le_iff n (k - 1)).1 (by omega)
  rw [show k - 1 + 1 = k by omega] at h1
  exact Nat.lt_of_lt_of_le h1 (Nat.pow_le_pow_left (by decide) k)
theorem cut_dec (n : Nat) (w : World) (h : Lib.nDigits n ≤ 10000000) :
    Calls Tryz.prog 93 #[.string (dec n)] w (NewPc (lims n) w) := by
  have := cut_any (dec n) w (by rw [dec_size]; omega) (by rw [dec_data]; exact all_dd n)
  rw [dec_data, val_dd] at this
  exact this
theorem add_plain {p q : Nat} (h : (lims q).length ≤ (lims p).length) (c : Nat) (zs : List Nat) (hb : BackAt (lims p ++ [0]) (lims q ++ List.replicate ((lims p).length - (lims q).length) 0) 0 ((lims q ++ List.replicate ((lims p).length - (lims q).length) 0).length + 1) c zs) :
    trimL zs = lims (p + q) := by
  have hf := hb.finish
  have hl : (lims q ++ List.replicate ((lims p).length - (lims q).length) 0).length = (lims p).length := by rw [List.length_append, List.length_replicate]; omega
  have hz := hb.len
  rw [List.length_append, List.length_singleton] at hz
  rw [hl, Nat.zero_add, List.take_of_length_le (by omega), List.take_of_length_le (by simp), lv_snoc, lv_append, lv_zeros, lv_lims, lv_lims] at hf
  simp only [Nat.mul_zero, Nat.add_zero, Nat.pow_zero, Nat.mul_one] at hf
  have h1 := lv_lt (lims p) (Lims_lims p)
  have h2 := lv_lt (lims q) (Lims_lims q)
  rw [lv_lims] at h1 h2
  have h3 : 1000000000 ^ (lims q).length ≤ 1000000000 ^ (lims p).length := Nat.pow_le_pow_right (by decide) h
  rw [pow_step] at hf
  have hc : c = 0 := by
    rcases Nat.eq_zero_or_pos c with h | h
    · exact h
    · have : 1000000000 * 1000000000 ^ (lims p).length ≤ c * (1000000000 * 1000000000 ^ (lims p).length) := Nat.le_mul_of_pos_left _ h
      omega
  rw [hc] at hf
  rw [trimL_eq zs hb.lims]
  congr 1
  omega

/-- What stands behind a call that hands back a number. -/
theorem base_str {s : ByteArray} {w W w' : World} {e : Ending} (h : StrPost s W e w') (hb : Below w.heap.size w W) : StrPost s w e w' := ⟨h.1, hb.trans (h.2.mono hb.size)⟩

set_option maxRecDepth 100000 in
set_option maxHeartbeats 1000000 in
/-- decimal.Add. -/
theorem add_any (a b : Nat) (w : World) (hamb : Amb w) (ha : Lib.nDigits a ≤ 1000000) (hb : Lib.nDigits b ≤ 1000000) :
    Calls Tryz.prog 89 #[.string (dec a), .string (dec b)] w (StrPost (dec (a + b)) w) := by
  by_cases h18 : Lib.nDigits a ≤ 18 ∧ Lib.nDigits b ≤ 18
  · have h1 := (nd_le_iff a 17).1 h18.1
    have h2 := (nd_le_iff b 17).1 h18.2
    have hsum : (a : Int) + (b : Int) ≤ 18446744073709551615 := by omega
    go_enter Tryz.func89, Tryz.ntmps89
    go_wp2_with fail
    refine (both_yes a b _ h18.1 h18.2).mono ?_
    rintro e w1 ⟨rfl, hb1⟩
    have hof := of_any (a + b) (by omega) w1 (hamb.below hb1)
    rw [Int.natCast_add] at hof
    go_wp2_with fail
    refine hof.mono ?_
    rintro e w2 ⟨rfl, hb2⟩
    go_wp2
    go_ret
    exact ⟨rfl, hb1.trans (hb2.mono hb1.size)⟩
  · -- p, q: the greater and the lesser of the two
    go_enter Tryz.func89, Tryz.ntmps89
    go_wp2_with fail
    refine (both_no a b _ h18).mono ?_
    rintro e w1 ⟨rfl, hb1⟩
    go_wp2_with fail
    refine (cut_dec a _ (by omega)).mono ?_
    rintro e w2 ⟨g1, cap1, rfl, hg1, hp1, hb2⟩
    go_wp2_with fail
    refine (cut_dec b _ (by omega)).mono ?_
    rintro e w3 ⟨g2, cap2, rfl, hg2, hp2, hb3⟩
    have hs1 := hb1.size
    have hB2 := hb1.trans (hb2.mono hs1)
    have hs2 := hB2.size
    have hB3 := hB2.trans (hb3.mono hs2)
    have hs3 := hB3.size
    have hlt1 := hp1.lt
    have hp1 := hp1.below hb3 hlt1
    have hne : g1 ≠ g2 := by omega
    have hg1' : w.heap.size ≤ g1 := by omega
    have hg2' : w.heap.size ≤ g2 := by omega
    clear hb1 hb2 hb3 hB2 hs1 hs2 hlt1 hg1 hg2
    have hla := lims_len_nd a 1000000 ha (by omega)
    have hlb := lims_len_nd b 1000000 hb (by omega)
    have hz32 : (lims a).length + (lims b).length ≤ 2000000 := by omega
    -- the two orders
    by_cases hlt : (lims a).length < (lims b).length
    · have hpl := add_plain (p := b) (q := a) (by omega)
      obtain ⟨d, hd⟩ : ∃ d, (lims b).length - (lims a).length = d := ⟨_, rfl⟩
      have hd2 : ((lims b).length : Int) - ((lims a).length : Int) = (d : Int) := by omega
      rw [hd] at hpl
      have HPL := Lib.hid hpl
      clear hpl
      have HD := Lib.hid hd
      have hx0 : Lims (lims b ++ [0]) := Lims_append.2 ⟨Lims_lims b, by intro x hx; rw [List.mem_singleton.1 hx]; omega⟩
      have hy0 : Lims (lims a ++ List.replicate d 0) := Lims_append.2 ⟨Lims_lims a, by intro x hx; rw [List.eq_of_mem_replicate hx]; omega⟩
      have HX := Lib.hid hx0
      have HY := Lib.hid hy0
      clear hd hx0 hy0
      have hone := Pc.one w3 0
      have hal := hp2.alloc (.cells #[.int .u64 (0 : Int)] 84)
      have hal1 := hp1.alloc (.cells #[.int .u64 (0 : Int)] 84)
      have hplt := hp2.lt
      have hqlt := hp1.lt
      generalize hnq : (lims a).length = nq at *
      generalize hnp : (lims b).length = np at *
      have HNQ := Lib.hid hnq
      have HNP := Lib.hid hnp
      clear hnq hnp
      go_wp2_with (first
        | (at_builtin; refine append_Pc rfl _ _ 135 rfl Tryz.underlying135 g2 np cap2 (lims b) rfl hal w3.heap.size 1 1 [0] rfl hone (by omega) ?_; intro g4 cap4 w4 hq4 hon4 hat4; have hq5 := hon4.Pc hal1 hne)
        | (at_builtin; refine append_zeros rfl _ _ 135 3 .i64 rfl Tryz.underlying135 Tryz.underlying3 g1 nq cap1 (lims a) rfl hq5 .i64 d rfl (by omega) ?_; intro g6 cap6 w6 hq6 hon6 hat6))
      have hs3' : (w3.alloc (.cells #[.int .u64 (0 : Int)] 84)).heap.size = w3.heap.size + 1 := by simp
      have hB4 : Below w.heap.size w w4 := bel_only (hB3.alloc hs3 _) hon4 hg2' (by omega)
      have hs4 := hB4.size
      have hg4 : w.heap.size ≤ g4 := by rcases hat4 with h | h <;> omega
      have hne4 : g4 ≠ g1 := by rcases hat4 with h | h <;> omega
      have hg4lt := hq4.lt
      have hlt5 := hq5.lt
      have hB6 : Below w.heap.size w w6 := bel_only hB4 hon6 hg1' hs4
      have hs6 := hB6.size
      have hq7 := hon6.Pc hq4 hne4
      have hne6 : g6 ≠ g4 := by rcases hat6 with h | h <;> omega
      clear hal hal1 hone hat4 hon4 hB3 hs3 hp1 hp2 hq5 hat6 hon6 hB4 hs4 hq4
      refine (back_any g4 (np + 1) cap4 (lims b ++ [0]) g6 (nq + d) cap6 (lims a ++ List.replicate d 0) 0 _ hq7 hq6 hne6 (by have := HD.out; omega) HX.out HY.out).mono ?_
      rintro e w7 ⟨rfl, hon7, c7, zs, hBk, hPz⟩
      have hB7 : Below w.heap.size w w7 := bel_only hB6 hon7 hg4 hs6
      have htr := HPL.out c7 zs hBk
      have HTR := Lib.hid htr
      clear htr hBk
      go_wp2_with fail
      refine (trim_any _ _ _ zs _ hPz).mono ?_
      rintro e w' ⟨rfl, rfl⟩
      have hPt := hPz.take (trimL zs).length (by rw [trimL_take zs, List.length_take, hPz.len]; omega)
      rw [← trimL_take zs] at hPt
      have htl : (trimL zs).length ≤ np + 1 := by rw [trimL_take zs, List.length_take, hPz.len]; omega
      rw [HTR.out] at hPt htl ⊢
      generalize hnr : (lims (b + a)).length = nr at *
      clear hnr
      go_wp2_with fail
      refine (text_any _ _ _ (b + a) _ hPt (by omega)).mono ?_
      rintro e w8 ⟨rfl, hB8⟩
      go_wp2
      go_ret
      exact ⟨ret_str (by first | rfl | rw [Nat.add_comm]), hB7.trans (hB8.mono hB7.size)⟩
    · have hpl := add_plain (p := a) (q := b) (by omega)
      obtain ⟨d, hd⟩ : ∃ d, (lims a).length - (lims b).length = d := ⟨_, rfl⟩
      have hd2 : ((lims a).length : Int) - ((lims b).length : Int) = (d : Int) := by omega
      rw [hd] at hpl
      have HPL := Lib.hid hpl
      clear hpl
      have HD := Lib.hid hd
      have hx0 : Lims (lims a ++ [0]) := Lims_append.2 ⟨Lims_lims a, by intro x hx; rw [List.mem_singleton.1 hx]; omega⟩
      have hy0 : Lims (lims b ++ List.replicate d 0) := Lims_append.2 ⟨Lims_lims b, by intro x hx; rw [List.eq_of_mem_replicate hx]; omega⟩
      have HX := Lib.hid hx0
      have HY := Lib.hid hy0
      clear hd hx0 hy0
      have hone := Pc.one w3 0
      have hal := hp1.alloc (.cells #[.int .u64 (0 : Int)] 84)
      have hal1 := hp2.alloc (.cells #[.int .u64 (0 : Int)] 84)
      have hplt := hp1.lt
      have hqlt := hp2.lt
      generalize hnq : (lims b).length = nq at *
      generalize hnp : (lims a).length = np at *
      have HNQ := Lib.hid hnq
      have HNP := Lib.hid hnp
      clear hnq hnp
      go_wp2_with (first
        | (at_builtin; refine append_Pc rfl _ _ 135 rfl Tryz.underlying135 g1 np cap1 (lims a) rfl hal w3.heap.size 1 1 [0] rfl hone (by omega) ?_; intro g4 cap4 w4 hq4 hon4 hat4; have hq5 := hon4.Pc hal1 hne.symm)
        | (at_builtin; refine append_zeros rfl _ _ 135 3 .i64 rfl Tryz.underlying135 Tryz.underlying3 g2 nq cap2 (lims b) rfl hq5 .i64 d rfl (by omega) ?_; intro g6 cap6 w6 hq6 hon6 hat6))
      have hs3' : (w3.alloc (.cells #[.int .u64 (0 : Int)] 84)).heap.size = w3.heap.size + 1 := by simp
      have hB4 : Below w.heap.size w w4 := bel_only (hB3.alloc hs3 _) hon4 hg1' (by omega)
      have hs4 := hB4.size
      have hg4 : w.heap.size ≤ g4 := by rcases hat4 with h | h <;> omega
      have hne4 : g4 ≠ g2 := by rcases hat4 with h | h <;> omega
      have hg4lt := hq4.lt
      have hlt5 := hq5.lt
      have hB6 : Below w.heap.size w w6 := bel_only hB4 hon6 hg2' hs4
      have hs6 := hB6.size
      have hq7 := hon6.Pc hq4 hne4
      have hne6 : g6 ≠ g4 := by rcases hat6 with h | h <;> omega
      clear hal hal1 hone hat4 hon4 hB3 hs3 hp1 hp2 hq5 hat6 hon6 hB4 hs4 hq4
      refine (back_any g4 (np + 1) cap4 (lims a ++ [0]) g6 (nq + d) cap6 (lims b ++ List.replicate d 0) 0 _ hq7 hq6 hne6 (by have := HD.out; omega) HX.out HY.out).mono ?_
      rintro e w7 ⟨rfl, hon7, c7, zs, hBk, hPz⟩
      have hB7 : Below w.heap.size w w7 := bel_only hB6 hon7 hg4 hs6
      have htr := HPL.out c7 zs hBk
      have HTR := Lib.hid htr
      clear htr hBk
      go_wp2_with fail
      refine (trim_any _ _ _ zs _ hPz).mono ?_
      rintro e w' ⟨rfl, rfl⟩
      have hPt := hPz.take (trimL zs).length (by rw [trimL_take zs, List.length_take, hPz.len]; omega)
      rw [← trimL_take zs] at hPt
      have htl : (trimL zs).length ≤ np + 1 := by rw [trimL_take zs, List.length_take, hPz.len]; omega
      rw [HTR.out] at hPt htl ⊢
      generalize hnr : (lims (a + b)).length = nr at *
      clear hnr
      go_wp2_with fail
      refine (text_any _ _ _ (a + b) _ hPt (by omega)).mono ?_
      rintro e w8 ⟨rfl, hB8⟩
      go_wp2
      go_ret
      exact ⟨ret_str (by first | rfl | rw [Nat.add_comm]), hB7.trans (hB8.mono hB7.size)⟩
end
section
open Go.RowKit

theorem sub_plain {a b : Nat} (h : b ≤ a) {c bo : Nat} {zs : List Nat} (hb : TakeAt (lims a ++ [0]) (lims b ++ List.replicate ((lims a).length - (lims b).length) 0) 1 0 ((lims b ++ List.replicate ((lims a).length - (lims b).length) 0).length + 1) c bo zs) (hc : c = 0) :
    trimL zs = lims (a - b) := by
  have hf := hb.finish hc
  have hbl := hb.borrow
  have hll := lims_len_mono h
  have hl : (lims b ++ List.replicate ((lims a).length - (lims b).length) 0).length = (lims a).length := by rw [List.length_append, List.length_replicate]; omega
  have hz := hb.len
  rw [List.length_append, List.length_singleton] at hz
  have hzl := lv_lt zs hb.lims
  rw [hz] at hzl
  rw [hl, Nat.zero_add, List.take_of_length_le (by omega), List.take_of_length_le (by simp), lv_snoc, lv_append, lv_zeros, lv_lims, lv_lims] at hf
  simp only [Nat.mul_zero, Nat.add_zero, Nat.pow_zero, Nat.mul_one, Nat.one_mul] at hf
  have hc : bo = 0 := by
    rcases Nat.eq_zero_or_pos bo with h | h
    · exact h
    · have : bo = 1 := by omega
      subst this
      omega
  rw [hc] at hf
  rw [trimL_eq zs hb.lims]
  congr 1
  omega

theorem lims_mul_le (a b : Nat) : (lims (a * b)).length ≤ (lims a).length + (lims b).length := by
  rw [lims_len_le, Nat.pow_add]
  exact Nat.mul_lt_mul'' ((lims_len_le a _).1 (Nat.le_refl _)) ((lims_len_le b _).1 (Nat.le_refl _))
set_option maxRecDepth 100000 in
set_option maxHeartbeats 1000000 in
/-- decimal.Sub: a lesser minuend. -/
theorem sub_less (a b : Nat) (w : World) (hlt : a < b) (ha : Lib.nDigits a ≤ 1000000) (hb : Lib.nDigits b ≤ 1000000) :
    Calls Tryz.prog 90 #[.string (dec a), .string (dec b)] w (SmallRes (.tuple #[.string ⟨#[]⟩, .int .i64 3]) w) := by
  have HC := Lib.hid (cmpI_lt hlt)
  go_enter Tryz.func90, Tryz.ntmps90
  go_wp2_with fail
  refine (compare_any a b _ (by omega) (by omega)).mono ?_
  rintro e w1 ⟨rfl, rfl⟩
  rw [HC.out]
  go_wp2_with fail
  go_ret2
  exact ⟨rfl, Below.refl _ _⟩
set_option maxRecDepth 100000 in
set_option maxHeartbeats 1000000 in
theorem sub_any (a b : Nat) (w : World) (hamb : Amb w) (hge : b ≤ a) (ha : Lib.nDigits a ≤ 1000000) (hb : Lib.nDigits b ≤ 1000000) :
    Calls Tryz.prog 90 #[.string (dec a), .string (dec b)] w (SmallRes (.tuple #[.string (dec (a - b)), .int .i64 0]) w) := by
  have hcm : cmpI a b = 1 ∨ cmpI a b = 0 := by
    rcases Nat.lt_or_eq_of_le hge with h | h
    · exact .inl (cmpI_gt h)
    · exact .inr (by rw [h, cmpI_eq])
  have HCM := Lib.hid hcm
  clear hcm
  by_cases h18 : Lib.nDigits a ≤ 18 ∧ Lib.nDigits b ≤ 18
  · have h1 := (nd_le_iff a 17).1 h18.1
    have h2 := (nd_le_iff b 17).1 h18.2
    go_enter Tryz.func90, Tryz.ntmps90
    go_wp2_with fail
    refine (compare_any a b _ (by omega) (by omega)).mono ?_
    rintro e w1 ⟨rfl, rfl⟩
    rcases HCM.out with hc | hc
    all_goals
      rw [hc]
      clear hc
      go_wp2_with fail
      refine (both_yes a b _ h18.1 h18.2).mono ?_
      rintro e w1 ⟨rfl, hb1⟩
      have hof := of_any (a - b) (by omega) w1 (hamb.below hb1)
      rw [show ((a - b : Nat) : Int) = (a : Int) - (b : Int) by omega] at hof
      go_wp2_with fail
      refine hof.mono ?_
      rintro e w2 ⟨rfl, hb2⟩
      go_wp2
      go_ret2
      exact ⟨rfl, hb1.trans (hb2.mono hb1.size)⟩
  · have hll := lims_len_mono hge
    have hla := lims_len_nd a 1000000 ha (by omega)
    have hlb := lims_len_nd b 1000000 hb (by omega)
    obtain ⟨d, hd⟩ : ∃ d, (lims a).length - (lims b).length = d := ⟨_, rfl⟩
    have hd2 : ((lims a).length : Int) - ((lims b).length : Int) = (d : Int) := by omega
    have hpl : ∀ c bo zs, TakeAt (lims a ++ [0]) (lims b ++ List.replicate d 0) 1 0 ((lims b ++ List.replicate d 0).length + 1) c bo zs → c = 0 → trimL zs = lims (a - b) := by
      rw [← hd]; exact fun c bo zs h hc => sub_plain hge h hc
    have HPL := Lib.hid hpl
    have HD := Lib.hid hd
    have hx0 : Lims (lims a ++ [0]) := Lims_append.2 ⟨Lims_lims a, by intro x hx; rw [List.mem_singleton.1 hx]; omega⟩
    have hy0 : Lims (lims b ++ List.replicate d 0) := Lims_append.2 ⟨Lims_lims b, by intro x hx; rw [List.eq_of_mem_replicate hx]; omega⟩
    have HX := Lib.hid hx0
    have HY := Lib.hid hy0
    clear hd hx0 hy0 hpl
    go_enter Tryz.func90, Tryz.ntmps90
    go_wp2_with fail
    refine (compare_any a b _ (by omega) (by omega)).mono ?_
    rintro e w1 ⟨rfl, rfl⟩
    rcases HCM.out with hc | hc
    all_goals
      rw [hc]
      clear hc
      go_wp2_with fail
      refine (both_no a b _ h18).mono ?_
      rintro e w1 ⟨rfl, hb1⟩
      go_wp2_with fail
      refine (cut_dec a _ (by omega)).mono ?_
      rintro e w2 ⟨g1, cap1, rfl, hg1, hp1, hb2⟩
      have hs1 := hb1.size
      have hB2 := hb1.trans (hb2.mono hs1)
      have hs2 := hB2.size
      have hone := Pc.one w2 0
      have hal := hp1.alloc (.cells #[.int .u64 (0 : Int)] 84)
      go_wp2_with (at_builtin; refine append_Pc rfl _ _ 135 rfl Tryz.underlying135 g1 (lims a).length cap1 (lims a) rfl hal w2.heap.size 1 1 [0] rfl hone (by omega) ?_; intro g4 cap4 w4 hq4 hon4 hat4)
      have hs3' : (w2.alloc (.cells #[.int .u64 (0 : Int)] 84)).heap.size = w2.heap.size + 1 := by simp
      have hB4 : Below w.heap.size w w4 := bel_only (hB2.alloc hs2 _) hon4 (by omega) (by omega)
      have hs4 := hB4.size
      have hg4 : w.heap.size ≤ g4 := by rcases hat4 with h | h <;> omega
      clear hal hone hat4 hon4 hB2 hs2 hp1 hb1 hb2
      refine (cut_dec b _ (by omega)).mono ?_
      rintro e w5 ⟨g2, cap2, rfl, hg2, hp2, hb5⟩
      have hB5 := hB4.trans (hb5.mono hs4)
      have hs5 := hB5.size
      have hq5 := hq4.below hb5 hq4.lt
      have hne5 : g4 ≠ g2 := by have := hq4.lt; omega
      clear hq4 hb5
      go_wp2_with fail
      refine (cut_dec b _ (by omega)).mono ?_
      rintro e w6 ⟨g3, cap3, rfl, hg3, hp3, hb6⟩
      have hB6 := hB5.trans (hb6.mono hs5)
      have hs6 := hB6.size
      have hq6 := hq5.below hb6 hq5.lt
      have hp6 := hp2.below hb6 hp2.lt
      have hg2' : w.heap.size ≤ g2 := by omega
      clear hq5 hp2 hb6 hp3 hB5 hB4
      go_wp2_with (at_builtin; refine append_zeros rfl _ _ 135 3 .i64 rfl Tryz.underlying135 Tryz.underlying3 g2 (lims b).length cap2 (lims b) rfl hp6 .i64 d rfl (by omega) ?_; intro g7 cap7 w7 hq7 hon7 hat7)
      have hB7 : Below w.heap.size w w7 := bel_only hB6 hon7 hg2' hs6
      have hs7 := hB7.size
      have hr7 := hon7.Pc hq6 hne5
      have hlt4 := hq6.lt
      have hne7 : g7 ≠ g4 := by rcases hat7 with h | h <;> omega
      have hal2 : (lims a).length = (lims b).length + d := by have := HD.out; omega
      have HAL := Lib.hid hal2
      clear hq6 hp6 hon7 hat7 hB6 hal2
      refine (take_any g4 ((lims a).length + 1) cap4 (lims a ++ [0]) g7 ((lims b).length + d) cap7 (lims b ++ List.replicate d 0) 1 0 _ hr7 hq7 hne7 (by have := HAL.out; omega) HX.out HY.out (by omega)).mono ?_
      rintro e w8 ⟨hon8, c8, bo, zs, rfl, hTk, hc8, hPz⟩
      have hB8 : Below w.heap.size w w8 := bel_only hB7 hon8 hg4 hs7
      have htr := HPL.out c8 bo zs hTk hc8
      have HTR := Lib.hid htr
      clear htr hTk hc8
      go_wp2_with fail
      refine (trim_any _ _ _ zs _ hPz).mono ?_
      rintro e w' ⟨rfl, rfl⟩
      have hPt := hPz.take (trimL zs).length (by rw [trimL_take zs, List.length_take, hPz.len]; omega)
      rw [← trimL_take zs] at hPt
      have htl : (trimL zs).length ≤ (lims a).length + 1 := by rw [trimL_take zs, List.length_take, hPz.len]; omega
      rw [HTR.out] at hPt htl ⊢
      generalize hnr : (lims (a - b)).length = nr at *
      clear hnr
      go_wp2_with fail
      refine (text_any _ _ _ (a - b) _ hPt (by omega)).mono ?_
      rintro e w9 ⟨rfl, hB9⟩
      go_wp2
      go_ret2
      exact ⟨rfl, hB8.trans (hB9.mono hB8.size)⟩

set_option maxRecDepth 100000 in
set_option maxHeartbeats 1000000 in
/-- decimal.Mul. -/
theorem mul_any (a b : Nat) (w : World) (hamb : Amb w) (ha : Lib.nDigits a ≤ 1000000) (hb : Lib.nDigits b ≤ 1000000) :
    Calls Tryz.prog 73 #[.string (dec a), .string (dec b)] w (StrPost (dec (a * b)) w) := by
  have hsa : (dec a).size = Lib.nDigits a := dec_size a
  have hsb : (dec b).size = Lib.nDigits b := dec_size b
  have HSA := Lib.hid hsa
  have HSB := Lib.hid hsb
  by_cases h18 : (dec a).size + (dec b).size ≤ 18
  · have hpa := Lib.nDigits_pos a
    have hpb := Lib.nDigits_pos b
    have h1 := Lib.lt_pow_nDigits a
    have h2 := Lib.lt_pow_nDigits b
    have h3 : 10 ^ Lib.nDigits a * 10 ^ Lib.nDigits b ≤ 10 ^ 18 := by rw [← Nat.pow_add]; exact Nat.pow_le_pow_right (by decide) (by omega)
    have h4 : a * b < 10 ^ Lib.nDigits a * 10 ^ Lib.nDigits b := Nat.mul_lt_mul'' h1 h2
    have h5 : a * b < 1000000000000000000 := by have : (10 : Nat) ^ 18 = 1000000000000000000 := by decide
                                                omega
    have hnn : (0 : Int) ≤ (a : Int) * (b : Int) := Int.mul_nonneg (by omega) (by omega)
    have h6 : (a : Int) * (b : Int) ≤ 999999999999999999 := by
      have h2 : ((a * b : Nat) : Int) ≤ 999999999999999999 := by omega
      rwa [Int.natCast_mul] at h2
    have HOF := Lib.hid (fun w1 (h : Amb w1) => of_any (a * b) (by omega) w1 h)
    have h7 : Lib.nDigits a ≤ 18 := by omega
    have h8 : Lib.nDigits b ≤ 18 := by omega
    clear h1 h2 h3 h4 h5 hsa hsb
    go_enter Tryz.func73, Tryz.ntmps73
    go_wp2_with fail
    refine (both_yes a b _ h7 h8).mono ?_
    rintro e w1 ⟨rfl, hb1⟩
    have hof := HOF.out w1 (hamb.below hb1)
    rw [Int.natCast_mul] at hof
    go_wp2_with fail
    refine hof.mono ?_
    rintro e w2 ⟨rfl, hb2⟩
    go_wp2
    go_ret
    exact ⟨rfl, hb1.trans (hb2.mono hb1.size)⟩
  · have hla := lims_len_nd a 1000000 ha (by omega)
    have hlb := lims_len_nd b 1000000 hb (by omega)
    have hs1 : (dec a).size ≤ 1000000 := by omega
    have hs2 : (dec b).size ≤ 1000000 := by omega
    have hlr : (lims (a * b)).length ≤ 2000000 := by have := lims_mul_le a b; omega
    clear hsa hsb
    go_enter Tryz.func73, Tryz.ntmps73
    go_wp2_with fail
    refine (cut_dec a _ (by omega)).mono ?_
    rintro e w2 ⟨g1, cap1, rfl, hg1, hp1, hb2⟩
    go_wp2_with fail
    refine (cut_dec b _ (by omega)).mono ?_
    rintro e w3 ⟨g2, cap2, rfl, hg2, hp2, hb3⟩
    have hB3 := hb2.trans (hb3.mono hb2.size)
    have hp3 := hp1.below hb3 hp1.lt
    go_wp2_with fail
    refine (times_any _ _ _ _ _ _ _ _ _ hp3 hp2 (Lims_lims a) (Lims_lims b) (by omega)).mono ?_
    rintro e w4 ⟨g4, cap4, rfl, hg4, hp4, hb4⟩
    rw [lv_lims, lv_lims] at hp4 ⊢
    have hB4 := hB3.trans (hb4.mono hB3.size)
    generalize hnr : (lims (a * b)).length = nr at *
    clear hnr
    go_wp2_with fail
    refine (text_any _ _ _ (a * b) _ hp4 (by omega)).mono ?_
    rintro e w9 ⟨rfl, hB9⟩
    go_wp2
    go_ret
    exact ⟨rfl, hB4.trans (hB9.mono hB4.size)⟩
end
section
open Go.RowKit

theorem bel_chain {w a b : World} (h : Below w.heap.size w a) (k : Below a.heap.size a b) : Below w.heap.size w b := h.trans (k.mono h.size)
theorem dec_zero_test {b : Nat} (h : b ≠ 0) : ((dec b).toList == [48]) = false := by
  rw [dec_toList]
  rw [beq_eq_false_iff_ne]
  intro e
  have : Lib.decDigits b = Lib.decDigits 0 := by rw [e, dd_small (by omega)]; rfl
  exact h (dd_inj this)
theorem dec_zero_same : ((dec 0).toList == [48]) = true := by rw [dec_toList, dd_small (by omega)]; rfl

set_option maxRecDepth 100000 in
set_option maxHeartbeats 1000000 in
theorem divmod_zero (a : Nat) (w : World) :
    Calls Tryz.prog 88 #[.string (dec a), .string (dec 0)] w (SmallRes (.tuple #[.string ⟨#[]⟩, .string ⟨#[]⟩, .int .i64 17]) w) := by
  have h0 := dec_zero_same
  go_enter Tryz.func88, Tryz.ntmps88
  go_wp2_with fail
  go_ret3
  exact ⟨rfl, Below.refl _ _⟩
set_option maxRecDepth 100000 in
set_option maxHeartbeats 1000000 in
theorem divmod_any (a b : Nat) (w : World) (hamb : Amb w) (hb0 : b ≠ 0) (ha : Lib.nDigits a ≤ 1000000) (hb : Lib.nDigits b ≤ 1000000) :
    Calls Tryz.prog 88 #[.string (dec a), .string (dec b)] w (SmallRes (.tuple #[.string (dec (a / b)), .string (dec (a % b)), .int .i64 0]) w) := by
  have h0 := dec_zero_test hb0
  by_cases h18 : Lib.nDigits a ≤ 18 ∧ Lib.nDigits b ≤ 18
  · have h1 := (nd_le_iff a 17).1 h18.1
    have h2 := (nd_le_iff b 17).1 h18.2
    have hq1 : a / b ≤ a := Nat.div_le_self a b
    have hr1 : a % b ≤ a := Nat.mod_le a b
    obtain ⟨q, hq⟩ : ∃ q, a / b = q := ⟨_, rfl⟩
    obtain ⟨r, hr⟩ : ∃ r, a % b = r := ⟨_, rfl⟩
    rw [hq] at hq1
    rw [hr] at hr1
    have hw1 : IntKind.u64.wrap ((a : Int) / (b : Int)) = (q : Int) := by
      rw [IntKind.wrap_u64, ← Int.natCast_ediv, hq]; omega
    have hw2 : (a : Int).tmod (b : Int) = (r : Int) := by
      rw [Int.tmod_eq_emod_of_nonneg (by omega), ← Int.natCast_emod, hr]
    have HQ := Lib.hid (fun w1 (h : Amb w1) => of_any q (by omega) w1 h)
    have HR := Lib.hid (fun w1 (h : Amb w1) => of_any r (by omega) w1 h)
    have hbp : (1 : Int) ≤ (b : Int) := by omega
    rw [hq, hr]
    clear hq1 hr1 hq hr
    have HW1 := Lib.hid hw1
    have HW2 := Lib.hid hw2
    clear hw1 hw2
    go_enter Tryz.func88, Tryz.ntmps88
    go_wp2_with fail
    refine (both_yes a b _ h18.1 h18.2).mono ?_
    rintro e w1 ⟨rfl, hb1⟩
    have hA1 := hamb.below hb1
    go_wp2_with fail
    have hw1 := HW1.out
    have hw2 := HW2.out
    go_region_with (first
      | ((with_reducible refine Calls.mono (HQ.out _ ?_) ?_); (focus (first | exact hA1.drewN 1 | exact (hA1.drewN 1).below hb3)); rintro e w2 ⟨rfl, hb2⟩)
      | ((with_reducible refine Calls.mono (HR.out _ ?_) ?_); (focus (first | exact hA1.drewN 1 | exact (hA1.drewN 1).below hb2)); rintro e w3 ⟨rfl, hb3⟩))
    go_wp2
    go_ret3
    exact ⟨rfl, bel_chain (bel_chain (bel_drewN hb1 1) hb2) hb3⟩
  · have hla := lims_len_nd a 1000000 ha (by omega)
    have hlb := lims_len_nd b 1000000 hb (by omega)
    have hlb0 : 0 < (lims b).length := by
      rcases Nat.eq_zero_or_pos (lims b).length with h | h
      · exact absurd (lims_ne_nil.1 (List.eq_nil_of_length_eq_zero h)) hb0
      · exact h
    go_enter Tryz.func88, Tryz.ntmps88
    go_wp2_with fail
    refine (both_no a b _ h18).mono ?_
    rintro e w1 ⟨rfl, hb1⟩
    go_wp2_with fail
    refine (cut_dec a _ (by omega)).mono ?_
    rintro e w2 ⟨g1, cap1, rfl, hg1, hp1, hb2⟩
    go_wp2_with fail
    refine (cut_dec b _ (by omega)).mono ?_
    rintro e w3 ⟨g2, cap2, rfl, hg2, hp2, hb3⟩
    have hp3 := hp1.below hb3 hp1.lt
    have hB3 := bel_chain (bel_chain hb1 hb2) hb3
    have hA3 := hamb.below hB3
    clear hb1 hb2 hb3 hg1 hg2 hp1
    go_wp2_with fail
    refine (pcmp_any _ _ _ _ _ _ a b _ hp3 hp2).mono ?_
    rintro e w4 ⟨rfl, hb4⟩
    have hp4 := hp3.below hb4 hp3.lt
    have hq4 := hp2.below hb4 hp2.lt
    have hB4 := bel_chain hB3 hb4
    have hA4 := hA3.below hb4
    clear hp3 hp2 hb4 hB3 hA3
    by_cases hlt : a < b
    · have hq : a / b = 0 := Nat.div_eq_of_lt hlt
      have hr : a % b = a := Nat.mod_eq_of_lt hlt
      rw [cmpI_lt hlt]
      have HQ := Lib.hid hq
      have HR := Lib.hid hr
      clear hq hr hlt
      go_wp2
      go_ret3
      refine ⟨?_, hB4⟩
      rw [HQ.out, HR.out, dec0]; rfl
    · have hcm : cmpI a b = 1 ∨ cmpI a b = 0 := by
        rcases Nat.lt_or_eq_of_le (Nat.le_of_not_lt hlt) with h | h
        · exact .inl (cmpI_gt h)
        · exact .inr (by rw [h, cmpI_eq])
      have hll := lims_len_mono (Nat.le_of_not_lt hlt)
      have hlq : (lims (a / b)).length ≤ 1000000 := Nat.le_trans (lims_len_mono (Nat.div_le_self a b)) hla
      have hlr : (lims (a % b)).length ≤ 1000000 := Nat.le_trans (lims_len_mono (Nat.mod_le a b)) hla
      have hnn : (cmpI a b < 0) = False := by rcases hcm with h | h <;> rw [h] <;> simp
      have hnn2 : ¬ cmpI a b < 0 := by rw [hnn]; exact id
      have hnd : decide (cmpI a b < 0) = false := decide_eq_false hnn2
      clear hcm hlt hnn
      generalize cmpI a b = cm at *
      by_cases h1 : (lims b).length = 1
      · have hc := hq4.cell 0 (by omega)
        have hbv : (lims b).getD 0 0 = b := by
          have h2 := lv_lims b
          obtain ⟨y, hy⟩ := List.length_eq_one_iff.1 h1
          rw [hy, lv_one] at h2
          rw [hy]; exact h2
        rw [hbv] at hc
        have hb9 : b < 1000000000 := by have := (lims_len_le b 1).1 (by omega); omega
        have hr9 : a % b < 18446744073709551616 := Nat.lt_of_lt_of_le (Nat.mod_lt a (Nat.pos_of_ne_zero hb0)) (by omega)
        have HR9 := Lib.hid hr9
        have hone : (((lims b).length : Int) == 1) = true := by rw [h1]; rfl
        have H1 := Lib.hid h1
        clear h1 hbv hr9
        go_wp2_with fail
        refine (small_any _ _ _ (lims a) b _ hp4 (Lims_lims a) (by omega) (Nat.pos_of_ne_zero hb0) (by omega)).mono ?_
        rintro e w5 ⟨g5, cap5, rfl, hg5, hp5, hb5⟩
        rw [lv_lims] at hp5 ⊢
        have hB5 := bel_chain hB4 hb5
        have hA5 := hA4.below hb5
        obtain ⟨q, hq⟩ : ∃ q, a / b = q := ⟨_, rfl⟩
        obtain ⟨r, hr⟩ : ∃ r, a % b = r := ⟨_, rfl⟩
        rw [hq] at hp5 hlq ⊢
        rw [hr] at HR9 ⊢
        have HQ := Lib.hid hq
        have HR := Lib.hid hr
        clear hq hr
        generalize hnq : (lims q).length = nq at *
        clear hnq
        go_wp2_with fail
        refine (text_any _ _ _ q _ hp5 (by omega)).mono ?_
        rintro e w6 ⟨rfl, hb6⟩
        have hB6 := bel_chain hB5 hb6
        have hA6 := hA5.below hb6
        go_wp2_with fail
        refine (of_any r HR9.out _ hA6).mono ?_
        rintro e w7 ⟨rfl, hb7⟩
        go_wp2
        go_ret3
        refine ⟨?_, bel_chain hB6 hb7⟩
        rw [HQ.out, HR.out]; rfl
      · have hone : (((lims b).length : Int) == 1) = false := by simp; omega
        go_wp2_with fail
        refine (divide_any _ _ _ _ _ _ a b _ hp4 hq4 (by omega) hll (by omega)).mono ?_
        rintro e w5 ⟨g5, cap5, g6, cap6, rfl, hp5, hp6, hb5, hg5, hg6⟩
        have hB5 := bel_chain hB4 hb5
        obtain ⟨q, hq⟩ : ∃ q, a / b = q := ⟨_, rfl⟩
        obtain ⟨r, hr⟩ : ∃ r, a % b = r := ⟨_, rfl⟩
        rw [hq] at hp5 hlq ⊢
        rw [hr] at hp6 hlr ⊢
        have HQ := Lib.hid hq
        have HR := Lib.hid hr
        clear hq hr
        generalize hnq : (lims q).length = nq at *
        generalize hnr : (lims r).length = nr at *
        clear hnq hnr
        go_wp2_with fail
        refine (text_any _ _ _ q _ hp5 (by omega)).mono ?_
        rintro e w6 ⟨rfl, hb6⟩
        have hp7 := hp6.below hb6 hp6.lt
        go_wp2_with fail
        refine (text_any _ _ _ r _ hp7 (by omega)).mono ?_
        rintro e w7 ⟨rfl, hb7⟩
        go_wp2
        go_ret3
        refine ⟨?_, bel_chain (bel_chain hB5 hb6) hb7⟩
        rw [HQ.out, HR.out]; rfl
end
section
open Go.RowKit

/-- The value of a slot that holds digits. -/
def strVal : Value → Nat | .string s => val s.data.toList | _ => 0
theorem strVal_dec (n : Nat) : strVal (.string (dec n)) = n := by show val (dec n).data.toList = n; rw [dec_data, val_dd]
def GcdRel (a b x y : Nat) (w wr : World) : Prop := Nat.gcd x y = Nat.gcd a b ∧ Lib.nDigits x ≤ 1000000 ∧ Lib.nDigits y ≤ 1000000 ∧ Below w.heap.size w wr

set_option maxRecDepth 100000 in
/-- decimal.Gcd. -/
theorem gcd_any (a b : Nat) (w : World) (hamb : Amb w) (ha : Lib.nDigits a ≤ 1000000) (hb : Lib.nDigits b ≤ 1000000) :
    Calls Tryz.prog 87 #[.string (dec a), .string (dec b)] w (StrPost (dec (Nat.gcd a b)) w) := by
  go_enter Tryz.func87, Tryz.ntmps87
  go_wp2_with fail
  go_loopw [0, 1] (fun vx vy wr => ∃ x y : Nat, vx = .string (dec x) ∧ vy = .string (dec y) ∧ GcdRel a b x y w wr) (fun _ vy _ => strVal vy)
  case atStart => exact ⟨a, b, rfl, rfl, rfl, ha, hb, Below.refl _ _⟩
  case round =>
    obtain ⟨x, y, rfl, rfl, hg, hx, hy, hB⟩ := hrel
    have HG := Lib.hid hg
    clear hg
    by_cases hy0 : y = 0
    · subst hy0
      have h0 := dec_zero_same
      have h1 : (!(dec 0).toList == [48]) = false := by rw [h0]; rfl
      go_wp2_with fail
      go_ret
      have := HG.out
      rw [Nat.gcd_zero_right] at this
      exact ⟨ret_str (by (rw [← this]) <;> rfl), hB⟩
    · have h0 := dec_zero_test hy0
      have h1 : (!(dec y).toList == [48]) = true := by rw [h0]; rfl
      have hA := hamb.below hB
      have hm := Nat.mod_lt x (Nat.pos_of_ne_zero hy0)
      have hg2 : Nat.gcd y (x % y) = Nat.gcd a b := by rw [← HG.out, Nat.gcd_comm x y, Nat.gcd_rec y x, Nat.gcd_comm]
      have hr : Lib.nDigits (x % y) ≤ 1000000 := Nat.le_trans (nd_mono (Nat.le_of_lt hm)) hy
      have H1 := Lib.hid hm
      have H2 := Lib.hid hg2
      have H3 := Lib.hid hr
      clear hm hg2 hr
      go_wp2_with fail
      refine (divmod_any x y _ hA hy0 hx hy).mono ?_
      rintro e w2 ⟨rfl, hb2⟩
      go_wp2_with fail
      go_roundw
      case rel => exact ⟨y, x % y, rfl, rfl, H2.out, hy, H3.out, bel_chain hB hb2⟩
      case measure =>
        show strVal (.string (dec (x % y))) < strVal (.string (dec y))
        rw [strVal_dec, strVal_dec]; exact H1.out

end
end Go.Proofs.YtolnojkdalbppaaGreatDoor
