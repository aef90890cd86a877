/- Greater text, out of: V10. -/
import Derived.Test.YtdjhngbpfdopnaaGreatDoorGn
import Derived.Test.YtdjhngbpfdopnaaGreatDoorT22
namespace Go.Proofs.YtdjhngbpfdopnaaGreatDoor
open Go.RowKit Go.PlainAid
attribute [local go_sem] field_rat0 field_rat1

theorem parseQ_shape (l : List UInt8) : ∃ (a b : ByteArray) (e : Int), ParseQ l = .tuple #[.agg #[.string a, .string b], .int .i64 e] := by
  unfold ParseQ
  split
  · exact ⟨_, _, _, rfl⟩
  · split
    · exact ⟨_, _, _, rfl⟩
    · split
      · exact ⟨_, _, _, rfl⟩
      · exact ⟨_, _, _, rfl⟩
theorem fparse_any (s : ByteArray) (w : World) (hamb : Amb w) (hs : s.size ≤ 1000000) :
    Calls Tryz.prog 14 #[.string s] w (SmallRes (ParseQ s.data.toList) w) :=
  fparse_gen s w hamb hs fun t w ht => by
    have hsz : t.size ≤ s.size := by rw [← str_size, ht, ← str_size]; exact mag_len _
    have := indexAny_any t w (by omega)
    rw [ht] at this
    exact this
set_option maxRecDepth 100000 in
set_option maxHeartbeats 4000000 in
/-- schismalaw03.FractionParses. -/
theorem lawParses_long (s : ByteArray) (z : Int) (w : World) (hamb : Amb w) (h : 60 < s.size) :
    Calls Tryz.prog 3 #[.string s, .int .u16 z] w (SmallRes (.bool true) w) := by
  have k1 : (60 : Int) < (s.size : Int) := by omega
  clear h
  have HAMB := Lib.hid hamb
  clear hamb
  go_enter Tryz.func3, Tryz.ntmps3
  go_wp2_with fail
  refine (known3_any _ HAMB.out).mono ?_
  rintro e w1 ⟨rfl, hb1⟩
  go_wp2_with fail
  refine (known3_any _ (HAMB.out.below hb1)).mono ?_
  rintro e w2 ⟨rfl, hb2⟩
  go_wp2_with fail
  go_ret
  exact ⟨rfl, bel_chain hb1 hb2⟩

set_option maxRecDepth 100000 in
set_option maxHeartbeats 4000000 in
/-- schismalaw03.FractionParses. -/
theorem lawParses_yes (s : ByteArray) (z : Int) (w : World) (hamb : Amb w) (hs : ¬ 60 < s.size) (hz : 0 ≤ z ∧ z ≤ 65535) :
    Calls Tryz.prog 3 #[.string s, .int .u16 z] w (SmallRes (.bool true) w) := by
  have k1 : ¬ (60 : Int) < (s.size : Int) := by omega
  obtain ⟨n, hn⟩ : ∃ n : Nat, z % 401 = (n : Int) := ⟨(z % 401).toNat, by omega⟩
  have hn4 : n ≤ 400 := by omega
  have hzt : z.tmod 401 = z % 401 := Int.tmod_eq_emod_of_nonneg hz.1
  have hrp := fun w => Tryz.strings_Repeat ⟨#[48]⟩ n w (by omega) (by show 1 * n ≤ _; omega)
  have hrl : (⟨(Lib.repeatL [48] n).toArray⟩ : ByteArray).size = n := by
    rw [← str_size]
    simp [Lib.repeatL_length]
  obtain ⟨Z, hZ⟩ : ∃ Z : ByteArray, ⟨(Lib.repeatL [48] n).toArray⟩ = Z := ⟨_, rfl⟩
  rw [hZ] at hrl
  have HRP := Lib.hid (fun w => show Calls Tryz.prog 13 #[.string ⟨#[48]⟩, .int .i64 (n : Int)] w (SmallRes (.string Z) w) from hZ ▸ hrp w)
  have hcat : (s.size : Int) + (Z.size : Int) ≤ 1000 := by omega
  obtain ⟨T, hT⟩ : ∃ T, s ++ Z = T := ⟨_, rfl⟩
  have hTs : T.size ≤ 1000 := by rw [← hT, append_size]; omega
  have hss : s.size ≤ 1000 := by omega
  obtain ⟨a1, b1, e1, hq1⟩ := parseQ_shape T.data.toList
  obtain ⟨a2, b2, e2, hq2⟩ := parseQ_shape s.data.toList
  have HF1 := Lib.hid (fun w h => show Calls Tryz.prog 14 #[.string T] w (SmallRes (.tuple #[.agg #[.string a1, .string b1], .int .i64 e1]) w) from hq1 ▸ fparse_any T w h (by omega))
  have HF2 := Lib.hid (fun w h => show Calls Tryz.prog 14 #[.string s] w (SmallRes (.tuple #[.agg #[.string a2, .string b2], .int .i64 e2]) w) from hq2 ▸ fparse_any s w h (by omega))
  have HR1 := Lib.hid (fun w h => show Calls Tryz.prog 15 #[.string T] w (SmallRes (.tuple #[.agg #[.string a1, .string b1], .int .i64 e1]) w) from hq1 ▸ t3parse_any T w h (by omega))
  have HR2 := Lib.hid (fun w h => show Calls Tryz.prog 15 #[.string s] w (SmallRes (.tuple #[.agg #[.string a2, .string b2], .int .i64 e2]) w) from hq2 ▸ t3parse_any s w h (by omega))
  clear hq1 hq2 hrp hZ hrl hTs hss hn4 hs
  obtain ⟨hz1, hz2⟩ := hz
  have HAMB := Lib.hid hamb
  clear hamb
  go_enter Tryz.func3, Tryz.ntmps3
  go_wp2_with fail
  refine (known3_any _ HAMB.out).mono ?_
  rintro e w1 ⟨rfl, hb1⟩
  go_wp2_with fail
  refine (HRP.out _).mono ?_
  rintro e w2 ⟨rfl, hb2⟩
  have hz2' := bel_chain hb1 hb2
  go_wp2_with fail
  refine (HF1.out _ (HAMB.out.below hz2')).mono ?_
  rintro e w3 ⟨rfl, hb3⟩
  have HZ3 := Lib.hid (bel_chain hz2' hb3)
  clear hb1 hb2 hb3 hz2'
  go_upto_region 5 with fail
  obtain ⟨W, hW⟩ : ∃ W, (w3.alloc (.cells #[.string a1, .string b1] 27)) = W := ⟨_, rfl⟩
  rw [hW]
  obtain ⟨hX, hBW⟩ := B1.of hW
  clear hW
  have HX := Lib.hid (fun wz (hb : Below W.heap.size W wz) => hX.later hb)
  have HB := Lib.hid (bel_chain HZ3.out hBW)
  have HA := Lib.hid (fun wz (hb : Below W.heap.size W wz) => HAMB.out.below (bel_chain HB.out hb))
  have hz0 : Below W.heap.size W W := Below.refl _ _
  clear hX hBW
  obtain ⟨_, c000, c001, f000, f001⟩ := HX.out _ hz0
  have hz3 := hz0
  clear hz0
  go_wp2_with fail
  refine (HF2.out _ (HA.out _ hz3)).mono ?_
  rintro e w4 ⟨rfl, hb4⟩
  have hz4 := bel_chain hz3 hb4
  obtain ⟨_, c400, c401, f400, f401⟩ := HX.out _ hz4
  go_upto_region 6 with fail
  obtain ⟨w5, hW5⟩ : ∃ W, (w4.alloc (.cells #[.string a2, .string b2] 27)) = W := ⟨_, rfl⟩
  rw [hW5]
  obtain ⟨hY5, hb5⟩ := B1.of hW5
  clear hW5
  have HX5 := Lib.hid (fun wz (hb : Below w5.heap.size w5 wz) => And.intro (HX.out wz (bel_chain (bel_chain hz4 hb5) hb)) (hY5.later hb))
  have HB5 := Lib.hid (bel_chain HB.out (bel_chain hz4 hb5))
  have HA5 := Lib.hid (fun wz (hb : Below w5.heap.size w5 wz) => HA.out _ (bel_chain (bel_chain hz4 hb5) hb))
  have hz5 : Below w5.heap.size w5 w5 := Below.refl _ _
  clear hY5 hb5
  obtain ⟨⟨_, c500, c501, f500, f501⟩, ⟨_, c510, c511, f510, f511⟩⟩ := HX5.out _ hz5
  go_wp2_with fail
  refine (HR1.out _ (HA5.out _ hz5)).mono ?_
  rintro e w6 ⟨rfl, hb6⟩
  have hz6 := bel_chain hz5 hb6
  obtain ⟨⟨_, c600, c601, f600, f601⟩, ⟨_, c610, c611, f610, f611⟩⟩ := HX5.out _ hz6
  go_upto_region 7 with fail
  obtain ⟨w7, hW7⟩ : ∃ W, (w6.alloc (.cells #[.string a1, .string b1] 27)) = W := ⟨_, rfl⟩
  rw [hW7]
  obtain ⟨hY7, hb7⟩ := B1.of hW7
  clear hW7
  have HX7 := Lib.hid (fun wz (hb : Below w7.heap.size w7 wz) => And.intro (HX5.out wz (bel_chain (bel_chain hz6 hb7) hb)) (hY7.later hb))
  have HB7 := Lib.hid (bel_chain HB5.out (bel_chain hz6 hb7))
  have HA7 := Lib.hid (fun wz (hb : Below w7.heap.size w7 wz) => HA5.out _ (bel_chain (bel_chain hz6 hb7) hb))
  have hz7 : Below w7.heap.size w7 w7 := Below.refl _ _
  clear hY7 hb7
  obtain ⟨⟨⟨_, c700, c701, f700, f701⟩, ⟨_, c710, c711, f710, f711⟩⟩, ⟨_, c720, c721, f720, f721⟩⟩ := HX7.out _ hz7
  go_wp2_with fail
  refine (HR2.out _ (HA7.out _ hz7)).mono ?_
  rintro e w8 ⟨rfl, hb8⟩
  have hz8 := bel_chain hz7 hb8
  obtain ⟨⟨⟨_, c800, c801, f800, f801⟩, ⟨_, c810, c811, f810, f811⟩⟩, ⟨_, c820, c821, f820, f821⟩⟩ := HX7.out _ hz8
  go_upto_region 8 with fail
  obtain ⟨w9, hW9⟩ : ∃ W, (w8.alloc (.cells #[.string a2, .string b2] 27)) = W := ⟨_, rfl⟩
  rw [hW9]
  obtain ⟨hY9, hb9⟩ := B1.of hW9
  clear hW9
  have HX9 := Lib.hid (fun wz (hb : Below w9.heap.size w9 wz) => And.intro (HX7.out wz (bel_chain (bel_chain hz8 hb9) hb)) (hY9.later hb))
  have HB9 := Lib.hid (bel_chain HB7.out (bel_chain hz8 hb9))
  have HA9 := Lib.hid (fun wz (hb : Below w9.heap.size w9 wz) => HA7.out _ (bel_chain (bel_chain hz8 hb9) hb))
  have hz9 : Below w9.heap.size w9 w9 := Below.refl _ _
  clear hY9 hb9
  obtain ⟨⟨⟨⟨_, c900, c901, f900, f901⟩, ⟨_, c910, c911, f910, f911⟩⟩, ⟨_, c920, c921, f920, f921⟩⟩, ⟨_, c930, c931, f930, f931⟩⟩ := HX9.out _ hz9
  go_wp2_with fail
  go_ret
  exact ⟨rfl, bel_chain HB9.out hz9⟩

theorem lawParses_walk (s : ByteArray) (z : Int) (hz : 0 ≤ z ∧ z ≤ 65535) (w : World) (hamb : Amb w) :
    Calls Tryz.prog 3 #[.string s, .int .u16 z] w (SmallRes (.bool true) w) := by
  by_cases h : 60 < s.size
  · exact lawParses_long s z w hamb h
  · exact lawParses_yes s z w hamb h hz
end Go.Proofs.YtdjhngbpfdopnaaGreatDoor
