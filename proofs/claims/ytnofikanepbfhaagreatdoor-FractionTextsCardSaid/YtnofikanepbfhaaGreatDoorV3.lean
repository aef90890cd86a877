/- Greater text, out of: V3. -/
import Derived.Test.YtnofikanepbfhaaGreatDoorGn
import Derived.Test.YtnofikanepbfhaaGreatDoorGm
namespace Go.Proofs.YtnofikanepbfhaaGreatDoor
open Go.RowKit Go.PlainAid
attribute [local go_sem] field_rat0 field_rat1

theorem fparse_rtext (p : Rat) (w : World) (hamb : Amb w) (h1 : (itx p.num).size ≤ 60) (h2 : (itx (p.den : Int)).size ≤ 60) :
    Calls Tryz.prog 21 #[.string (rtext p)] w (SmallRes (.tuple #[rv p, .int .i64 0]) w) := by
  have hs : (rtext p).size ≤ 1000000 := by
    unfold rtext
    split
    · omega
    · rw [ByteArray.size_append, ByteArray.size_append]
      have : (⟨#[47]⟩ : ByteArray).size = 1 := rfl
      omega
  have h := fparse_ascii (rtext p) w hamb hs (rtext_ascii p)
  rw [parse_rtext p h1 h2] at h
  exact h
set_option maxRecDepth 100000 in
set_option maxHeartbeats 4000000 in
/-- schismalaw03.FractionTexts, of texts that are not right. -/
theorem lawTexts_no (n0 d0 : ByteArray) (w : World) (hamb : Amb w) (hf : [(n0, d0)].all fitB = false) :
    Calls Tryz.prog 4 #[.agg #[.string n0, .string d0]] w (SmallRes (.bool true) w) := by
  have HFB := Lib.hid hf
  clear hf
  have HAMB := Lib.hid hamb
  clear hamb
  go_enter Tryz.func4, Tryz.ntmps4
  go_wp2_with fail
  obtain ⟨W, hW⟩ : ∃ W, (w.alloc (.cells #[.string n0, .string d0] 27)) = W := ⟨_, rfl⟩
  rw [hW]
  obtain ⟨hX, hBW⟩ := B1.of hW
  clear hW
  have HX := Lib.hid (fun wz (hb : Below W.heap.size W wz) => hX.later hb)
  have HB := Lib.hid hBW
  have HA := Lib.hid (fun wz (hb : Below W.heap.size W wz) => HAMB.out.below (bel_chain HB.out hb))
  have hz0 : Below W.heap.size W W := Below.refl _ _
  clear hBW
  obtain ⟨_, c000, c001, f000, f001⟩ := hX
  go_wp2_with fail
  refine (known3_any _ (HA.out _ hz0)).mono ?_
  rintro e w1 ⟨rfl, hb1⟩
  have hz1 := bel_chain hz0 hb1
  obtain ⟨_, c100, c101, f100, f101⟩ := HX.out _ hz1
  go_wp2_with fail
  refine (tfits_any _ 1 1 [(n0, d0)] _ ((HA.out _ hz1).below (al1 _ _)) (InQ.made1 w1 n0 d0 27) rfl).mono ?_
  rw [HFB.out]
  rintro e w2 ⟨rfl, hbx2⟩
  have hb2 := bel_chain (al1 _ _) hbx2
  have hz2 := bel_chain hz1 hb2
  clear hbx2
  obtain ⟨_, c200, c201, f200, f201⟩ := HX.out _ hz2
  go_wp2_with fail
  refine (known3_any _ (HA.out _ hz2)).mono ?_
  rintro e w3 ⟨rfl, hb3⟩
  have hz3 := bel_chain hz2 hb3
  obtain ⟨_, c300, c301, f300, f301⟩ := HX.out _ hz3
  go_wp2_with fail
  go_ret
  exact ⟨rfl, bel_chain HB.out hz3⟩

set_option maxRecDepth 100000 in
set_option maxHeartbeats 4000000 in
/-- schismalaw03.FractionTexts, of right fractions. -/
theorem lawTexts_yes (p : Rat) (w : World) (hamb : Amb w) (hp : NQ p 400) (hf : [(itx p.num, itx (p.den : Int))].all fitB = true) :
    Calls Tryz.prog 4 #[rv p] w (SmallRes (.bool true) w) := by
  have HFB := Lib.hid hf
  clear hf
  have np := hp.mono (show 400 ≤ 20000 by omega)
  have HSZ := Lib.hid (fitB_size (by simpa using HFB.out))
  have HAMB := Lib.hid hamb
  clear hamb
  go_enter Tryz.func4, Tryz.ntmps4
  go_wp2_with fail
  obtain ⟨W, hW⟩ : ∃ W, (w.alloc (.cells #[.string (itx p.num), .string (itx (p.den : Int))] 27)) = W := ⟨_, rfl⟩
  rw [hW]
  obtain ⟨hX, hBW⟩ := B1.of hW
  clear hW
  have HX := Lib.hid (fun wz (hb : Below W.heap.size W wz) => hX.later hb)
  have HB := Lib.hid hBW
  have HA := Lib.hid (fun wz (hb : Below W.heap.size W wz) => HAMB.out.below (bel_chain HB.out hb))
  have hz0 : Below W.heap.size W W := Below.refl _ _
  clear hBW
  obtain ⟨_, c000, c001, f000, f001⟩ := hX
  go_wp2_with fail
  refine (known3_any _ (HA.out _ hz0)).mono ?_
  rintro e w1 ⟨rfl, hb1⟩
  have hz1 := bel_chain hz0 hb1
  obtain ⟨_, c100, c101, f100, f101⟩ := HX.out _ hz1
  go_wp2_with fail
  refine (tfits_any _ 1 1 [(itx p.num, itx (p.den : Int))] _ ((HA.out _ hz1).below (al1 _ _)) (InQ.made1 w1 (itx p.num) (itx (p.den : Int)) 27) rfl).mono ?_
  rw [HFB.out]
  rintro e w2 ⟨rfl, hbx2⟩
  have hb2 := bel_chain (al1 _ _) hbx2
  have hz2 := bel_chain hz1 hb2
  clear hbx2
  obtain ⟨_, c200, c201, f200, f201⟩ := HX.out _ hz2
  go_wp2_with fail
  refine (ftext_any p _ np).mono ?_
  rintro e w3 ⟨rfl, hb3⟩
  have hz3 := bel_chain hz2 hb3
  obtain ⟨_, c300, c301, f300, f301⟩ := HX.out _ hz3
  go_wp2_with fail
  refine (fparse_rtext p _ (HA.out _ hz3) HSZ.out.1 HSZ.out.2).mono ?_
  rintro e w4 ⟨rfl, hb4⟩
  have hz4 := bel_chain hz3 hb4
  obtain ⟨_, c400, c401, f400, f401⟩ := HX.out _ hz4
  go_upto_region 4 with fail
  obtain ⟨w5, hW5⟩ : ∃ W, (w4.alloc (.cells #[.string (itx p.num), .string (itx (p.den : Int))] 27)) = W := ⟨_, rfl⟩
  rw [hW5]
  obtain ⟨hY5, hb5⟩ := B1.of hW5
  clear hW5
  have HX5 := Lib.hid (fun wz (hb : Below w5.heap.size w5 wz) => And.intro (HX.out wz (bel_chain (bel_chain hz4 hb5) hb)) (hY5.later hb))
  have HB5 := Lib.hid (bel_chain HB.out (bel_chain hz4 hb5))
  have HA5 := Lib.hid (fun wz (hb : Below w5.heap.size w5 wz) => HA.out _ (bel_chain (bel_chain hz4 hb5) hb))
  have hz5 : Below w5.heap.size w5 w5 := Below.refl _ _
  clear hY5 hb5
  obtain ⟨⟨_, c500, c501, f500, f501⟩, ⟨_, c510, c511, f510, f511⟩⟩ := HX5.out _ hz5
  have hzd := hz5.drew
  have HC1 := Lib.hid (ftext_any p w5.drew np)
  go_region_held3 (fun w' => w'.cell? ⟨w.heap.size, 0, none⟩ = some (.string (itx p.num)) ∧ w'.cell? ⟨w.heap.size, 1, none⟩ = some (.string (itx (p.den : Int))) ∧ w'.cell? ⟨w4.heap.size, 0, none⟩ = some (.string (itx p.num)) ∧ w'.cell? ⟨w4.heap.size, 1, none⟩ = some (.string (itx (p.den : Int)))) (go_keep)
    (first
      | ((with_reducible refine HC2.out.mono ?_); rintro e w7 ⟨rfl, hb7⟩; have hz7 := bel_chain hz6 hb7; obtain ⟨⟨_, c700, c701, f700, f701⟩, ⟨_, c710, c711, f710, f711⟩⟩ := HX5.out _ hz7; have HXL := Lib.hid (HX5.out _ hz7))
      | ((with_reducible refine HC1.out.mono ?_); rintro e w6 ⟨rfl, hb6⟩; have hz6 := bel_chain hzd hb6; obtain ⟨⟨_, c600, c601, f600, f601⟩, ⟨_, c610, c611, f610, f611⟩⟩ := HX5.out _ hz6; have HC2 := Lib.hid (t3text_any p w6 np)))
  go_wp2_with fail
  go_ret
  exact ⟨rfl, bel_chain HB5.out hz7⟩

theorem lawTexts_walk (n0 d0 : ByteArray) (w : World) (hamb : Amb w) :
    Calls Tryz.prog 4 #[.agg #[.string n0, .string d0]] w (SmallRes (.bool true) w) := by
  cases hf : [(n0, d0)].all fitB with
  | false => exact lawTexts_no n0 d0 w hamb hf
  | true =>
    have hf2 := hf
    simp only [List.all_cons, List.all_nil, Bool.and_true] at hf2
    obtain ⟨p, rfl, rfl, hp⟩ := fitB_rat hf2
    exact lawTexts_yes p w hamb hp hf
end Go.Proofs.YtnofikanepbfhaaGreatDoor
