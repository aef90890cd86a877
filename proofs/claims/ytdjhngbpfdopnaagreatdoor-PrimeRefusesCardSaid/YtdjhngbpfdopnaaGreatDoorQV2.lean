/- Greater text, out of: QV2. -/
import Derived.Test.YtdjhngbpfdopnaaGreatDoorQ12
namespace Go.Proofs.YtdjhngbpfdopnaaGreatDoor
open Go.RowKit Go.PlainAid

theorem opn_bad {ps : List Int} {c : Int} (h : chk ps = c) (h0 : c ≠ 0) (a b : ByteArray) : opn ps a b = c := by unfold opn; rw [if_neg (by rw [h]; exact h0), h]
set_option maxRecDepth 100000 in
set_option maxHeartbeats 4000000 in
theorem lawRefuses_long (A A2 : Option Addr) (n cap n2 cap2 : Nat) (ps qs : List Int) (w : World) (hamb : Amb11 w) (h : InZ w A n cap ps) (h2 : InZ w A2 n2 cap2 qs) (h9 : 9 < n) :
    Calls Tryz.prog 5 #[.slice A n cap, .slice A2 n2 cap2] w (SmallRes (.bool true) w) := by
  have HAMB := Lib.hid (fun wz (hb : Below w.heap.size w wz) => hamb.below hb)
  have HIN := Lib.hid (fun wz (hb : Below w.heap.size w wz) => h.below hb)
  have HIN2 := Lib.hid (fun wz (hb : Below w.heap.size w wz) => h2.below hb)
  clear hamb h h2
  have h9' : 9 < (n : Int) := by omega
  go_enter Tryz.func5, Tryz.ntmps5
  go_wp2_with fail
  refine (known11_any _ (HAMB.out _ (Below.refl _ _))).mono ?_
  rintro e w1 ⟨rfl, hz1⟩
  go_wp2_with fail
  refine (known11_any _ (HAMB.out _ hz1)).mono ?_
  rintro e w2 ⟨rfl, hb2⟩
  have hz2 := bel_chain hz1 hb2
  go_wp2_with fail
  go_ret
  exact ⟨rfl, hz2⟩
set_option maxRecDepth 100000 in
set_option maxHeartbeats 4000000 in
theorem lawRefuses_long2 (A A2 : Option Addr) (n cap n2 cap2 : Nat) (ps qs : List Int) (w : World) (hamb : Amb11 w) (h : InZ w A n cap ps) (h2 : InZ w A2 n2 cap2 qs) (h9 : ¬ 9 < n) (h92 : 9 < n2) :
    Calls Tryz.prog 5 #[.slice A n cap, .slice A2 n2 cap2] w (SmallRes (.bool true) w) := by
  have HAMB := Lib.hid (fun wz (hb : Below w.heap.size w wz) => hamb.below hb)
  have HIN := Lib.hid (fun wz (hb : Below w.heap.size w wz) => h.below hb)
  have HIN2 := Lib.hid (fun wz (hb : Below w.heap.size w wz) => h2.below hb)
  clear hamb h h2
  have h9' : ¬ 9 < (n : Int) := by omega
  have h92' : 9 < (n2 : Int) := by omega
  go_enter Tryz.func5, Tryz.ntmps5
  go_wp2_with fail
  refine (known11_any _ (HAMB.out _ (Below.refl _ _))).mono ?_
  rintro e w1 ⟨rfl, hz1⟩
  go_wp2_with fail
  refine (known11_any _ (HAMB.out _ hz1)).mono ?_
  rintro e w2 ⟨rfl, hb2⟩
  have hz2 := bel_chain hz1 hb2
  go_wp2_with fail
  go_ret
  exact ⟨rfl, hz2⟩
set_option maxRecDepth 100000 in
set_option maxHeartbeats 4000000 in
theorem lawRefuses_right (A A2 : Option Addr) (n cap n2 cap2 : Nat) (ps qs : List Int) (w : World) (hamb : Amb11 w) (h : InZ w A n cap ps) (h2 : InZ w A2 n2 cap2 qs) (h9 : ¬ 9 < n) (h92 : ¬ 9 < n2) (hp : chk ps = 0) (hq : chk qs = 0) :
    Calls Tryz.prog 5 #[.slice A n cap, .slice A2 n2 cap2] w (SmallRes (.bool true) w) := by
  have HAMB := Lib.hid (fun wz (hb : Below w.heap.size w wz) => hamb.below hb)
  have HIN := Lib.hid (fun wz (hb : Below w.heap.size w wz) => h.below hb)
  have HIN2 := Lib.hid (fun wz (hb : Below w.heap.size w wz) => h2.below hb)
  clear hamb h h2
  have h9' : ¬ 9 < (n : Int) := by omega
  have h92' : ¬ 9 < (n2 : Int) := by omega
  clear h9 h92
  have KP := Lib.hid (fun wz (hz : Below w.heap.size w wz) => show Calls Tryz.prog 26 #[.slice A n cap] wz (SmallRes (.int .i64 0) wz) from hp ▸ lcheck_any A n cap ps wz (HIN.out _ hz))
  have KQ := Lib.hid (fun wz (hz : Below w.heap.size w wz) => show Calls Tryz.prog 26 #[.slice A2 n2 cap2] wz (SmallRes (.int .i64 0) wz) from hq ▸ lcheck_any A2 n2 cap2 qs wz (HIN2.out _ hz))
  clear hp hq
  go_enter Tryz.func5, Tryz.ntmps5
  go_wp2_with fail
  refine (known11_any _ (HAMB.out _ (Below.refl _ _))).mono ?_
  rintro e w1 ⟨rfl, hz1⟩
  go_wp2_with fail
  refine (KP.out _ hz1).mono ?_
  rintro e w2 ⟨rfl, hb2⟩
  have hz2 := bel_chain hz1 hb2
  clear hz1 hb2
  go_wp2_with fail
  refine (KP.out _ hz2).mono ?_
  rintro e w3 ⟨rfl, hb3⟩
  have hz3 := bel_chain hz2 hb3
  clear hz2 hb3
  go_wp2_with fail
  refine (KQ.out _ hz3).mono ?_
  rintro e w4 ⟨rfl, hb4⟩
  have hz4 := bel_chain hz3 hb4
  clear hz3 hb4
  go_wp2_with fail
  go_ret
  exact ⟨rfl, hz4⟩
set_option maxRecDepth 100000 in
set_option maxHeartbeats 4000000 in
theorem lawRefuses_second (A A2 : Option Addr) (n cap n2 cap2 : Nat) (ps qs : List Int) (c : Int) (w : World) (hamb : Amb11 w) (h : InZ w A n cap ps) (h2 : InZ w A2 n2 cap2 qs) (h9 : ¬ 9 < n) (h92 : ¬ 9 < n2) (hp : chk ps = 0) (hq : chk qs = c) (h0 : c ≠ 0) :
    Calls Tryz.prog 5 #[.slice A n cap, .slice A2 n2 cap2] w (SmallRes (.bool true) w) := by
  have HAMB := Lib.hid (fun wz (hb : Below w.heap.size w wz) => hamb.below hb)
  have HIN := Lib.hid (fun wz (hb : Below w.heap.size w wz) => h.below hb)
  have HIN2 := Lib.hid (fun wz (hb : Below w.heap.size w wz) => h2.below hb)
  clear hamb h h2
  have h9' : ¬ 9 < (n : Int) := by omega
  have h92' : ¬ 9 < (n2 : Int) := by omega
  clear h9 h92
  have KP := Lib.hid (fun wz (hz : Below w.heap.size w wz) => show Calls Tryz.prog 26 #[.slice A n cap] wz (SmallRes (.int .i64 0) wz) from hp ▸ lcheck_any A n cap ps wz (HIN.out _ hz))
  have KQ := Lib.hid (fun wz (hz : Below w.heap.size w wz) => show Calls Tryz.prog 26 #[.slice A2 n2 cap2] wz (SmallRes (.int .i64 c) wz) from hq ▸ lcheck_any A2 n2 cap2 qs wz (HIN2.out _ hz))
  have HT := Lib.hid (show twoE ps qs = c by rw [twoE_snd qs hp, hq])
  clear hp hq
  go_enter Tryz.func5, Tryz.ntmps5
  go_wp2_with fail
  refine (known11_any _ (HAMB.out _ (Below.refl _ _))).mono ?_
  rintro e w1 ⟨rfl, hz1⟩
  go_wp2_with fail
  refine (KP.out _ hz1).mono ?_
  rintro e w2 ⟨rfl, hb2⟩
  have hz2 := bel_chain hz1 hb2
  clear hz1 hb2
  go_wp2_with fail
  refine (KP.out _ hz2).mono ?_
  rintro e w3 ⟨rfl, hb3⟩
  have hz3 := bel_chain hz2 hb3
  clear hz2 hb3
  go_wp2_with fail
  refine (KQ.out _ hz3).mono ?_
  rintro e w4 ⟨rfl, hb4⟩
  have hz4 := bel_chain hz3 hb4
  clear hz3 hb4
  go_wp2_with fail
  refine (within_bad A A2 n cap n2 cap2 ps qs c _ (HIN.out _ hz4) (HIN2.out _ hz4) HT.out h0).mono ?_
  rintro e w5 ⟨rfl, hb5⟩
  have hz5 := bel_chain hz4 hb5
  clear hz4 hb5
  go_wp2_with fail
  refine (join_bad A A2 n cap n2 cap2 ps qs c _ (HIN.out _ hz5) (HIN2.out _ hz5) HT.out h0).mono ?_
  rintro e w6 ⟨rfl, hb6⟩
  have hz6 := bel_chain hz5 hb6
  clear hz5 hb6
  go_wp2_with fail
  refine (embed_bad A A2 n cap n2 cap2 ps qs (.slice none 0 0) c _ (HIN.out _ hz6) (HIN2.out _ hz6) HT.out h0).mono ?_
  rintro e w7 ⟨rfl, hb7⟩
  have hz7 := bel_chain hz6 hb7
  clear hz6 hb7
  go_wp2_with fail
  refine (restrict_bad A A2 n cap n2 cap2 ps qs (.slice none 0 0) c _ (HIN.out _ hz7) (HIN2.out _ hz7) HT.out h0).mono ?_
  rintro e w8 ⟨rfl, hb8⟩
  have hz8 := bel_chain hz7 hb8
  clear hz7 hb8
  go_wp2_with fail
  go_ret
  exact ⟨rfl, hz8⟩
set_option maxRecDepth 100000 in
set_option maxHeartbeats 4000000 in
theorem lawRefuses_first (A A2 : Option Addr) (n cap n2 cap2 : Nat) (ps qs : List Int) (c : Int) (w : World) (hamb : Amb11 w) (h : InZ w A n cap ps) (h2 : InZ w A2 n2 cap2 qs) (h9 : ¬ 9 < n) (h92 : ¬ 9 < n2) (hp : chk ps = c) (h0 : c ≠ 0) :
    Calls Tryz.prog 5 #[.slice A n cap, .slice A2 n2 cap2] w (SmallRes (.bool true) w) := by
  have HAMB := Lib.hid (fun wz (hb : Below w.heap.size w wz) => hamb.below hb)
  have HIN := Lib.hid (fun wz (hb : Below w.heap.size w wz) => h.below hb)
  have HIN2 := Lib.hid (fun wz (hb : Below w.heap.size w wz) => h2.below hb)
  clear hamb h h2
  have h9' : ¬ 9 < (n : Int) := by omega
  have h92' : ¬ 9 < (n2 : Int) := by omega
  clear h9 h92
  have KP := Lib.hid (fun wz (hz : Below w.heap.size w wz) => show Calls Tryz.prog 26 #[.slice A n cap] wz (SmallRes (.int .i64 c) wz) from hp ▸ lcheck_any A n cap ps wz (HIN.out _ hz))
  have HT := Lib.hid (show twoE ps qs = c by rw [twoE_fst qs (by rw [hp]; exact h0), hp])
  have HO := Lib.hid (opn_bad hp h0 ⟨#[49]⟩ ⟨#[49]⟩)
  have HC := Lib.hid hp
  clear hp
  go_enter Tryz.func5, Tryz.ntmps5
  go_wp2_with fail
  refine (known11_any _ (HAMB.out _ (Below.refl _ _))).mono ?_
  rintro e w1 ⟨rfl, hz1⟩
  go_wp2_with fail
  refine (KP.out _ hz1).mono ?_
  rintro e w2 ⟨rfl, hb2⟩
  have hz2 := bel_chain hz1 hb2
  clear hz1 hb2
  go_wp2_with fail
  refine (factor_bad A n cap ps ⟨#[49]⟩ ⟨#[49]⟩ c _ (HAMB.out _ hz2).a (HIN.out _ hz2) (by decide) (by decide) HO.out h0).mono ?_
  rintro e w3 ⟨rfl, hb3⟩
  have hz3 := bel_chain hz2 hb3
  clear hz2 hb3
  go_wp2_with fail
  refine (value_bad A n cap ps (.slice none 0 0) c _ (HIN.out _ hz3) HC.out h0).mono ?_
  rintro e w4 ⟨rfl, hb4⟩
  have hz4 := bel_chain hz3 hb4
  clear hz3 hb4
  go_wp2_with fail
  obtain ⟨wx, hwx⟩ : ∃ W, w4.alloc (.cells #[.string ⟨#[]⟩, .string ⟨#[]⟩] 27) = W := ⟨_, rfl⟩
  rw [hwx]
  have hxx : Box2 wx w4.heap.size (.string ⟨#[]⟩) (.string ⟨#[]⟩) := hwx ▸ Box2.new w4 _ _ _
  have hbx : Below w4.heap.size w4 wx := hwx ▸ (Below.refl _ _).alloc (Nat.le_refl _) _
  have hzx := bel_chain hz4 hbx
  clear hwx hbx hz4
  refine (smooth_bad A n cap ps ⟨#[49]⟩ ⟨#[49]⟩ c _ (HAMB.out _ hzx).a (HIN.out _ hzx) (by decide) (by decide) HO.out h0).mono ?_
  rintro e w5 ⟨rfl, hb5⟩
  have hz5 := bel_chain hzx hb5
  have hx5 := hxx.later hb5
  clear hzx hb5 hxx
  go_wp2_with fail
  refine (text_bad A n cap ps c _ (HIN.out _ hz5) HC.out h0).mono ?_
  rintro e w6 ⟨rfl, hb6⟩
  have hz6 := bel_chain hz5 hb6
  obtain ⟨_, c60, c61, f60, f61⟩ := hx5.later hb6
  clear hz5 hb6 hx5
  go_wp2_with fail
  refine (KP.out _ hz6).mono ?_
  rintro e w7 ⟨rfl, hb7⟩
  have hz7 := bel_chain hz6 hb7
  clear hz6 hb7 c60 c61 f60 f61
  go_wp2_with fail
  refine (within_bad A A2 n cap n2 cap2 ps qs c _ (HIN.out _ hz7) (HIN2.out _ hz7) HT.out h0).mono ?_
  rintro e w8 ⟨rfl, hb8⟩
  have hz8 := bel_chain hz7 hb8
  clear hz7 hb8
  go_wp2_with fail
  refine (join_bad A A2 n cap n2 cap2 ps qs c _ (HIN.out _ hz8) (HIN2.out _ hz8) HT.out h0).mono ?_
  rintro e w9 ⟨rfl, hb9⟩
  have hz9 := bel_chain hz8 hb9
  clear hz8 hb9
  go_wp2_with fail
  refine (embed_bad A A2 n cap n2 cap2 ps qs (.slice none 0 0) c _ (HIN.out _ hz9) (HIN2.out _ hz9) HT.out h0).mono ?_
  rintro e w10 ⟨rfl, hb10⟩
  have hz10 := bel_chain hz9 hb10
  clear hz9 hb10
  go_wp2_with fail
  refine (restrict_bad A A2 n cap n2 cap2 ps qs (.slice none 0 0) c _ (HIN.out _ hz10) (HIN2.out _ hz10) HT.out h0).mono ?_
  rintro e w11 ⟨rfl, hb11⟩
  have hz11 := bel_chain hz10 hb11
  clear hz10 hb11
  go_wp2_with fail
  go_ret
  exact ⟨rfl, hz11⟩
/-- The walk. -/
theorem lawRefuses_walk (A : Option Addr) (n cap : Nat) (ps : List Int) (A2 : Option Addr) (n2 cap2 : Nat) (qs : List Int) (w : World) (hamb : Amb11 w) (h : InZ w A n cap ps) (h2 : InZ w A2 n2 cap2 qs) :
    Calls Tryz.prog 5 #[.slice A n cap, .slice A2 n2 cap2] w (SmallRes (.bool true) w) := by
  by_cases h9 : 9 < n
  · exact lawRefuses_long A A2 n cap n2 cap2 ps qs w hamb h h2 h9
  by_cases h92 : 9 < n2
  · exact lawRefuses_long2 A A2 n cap n2 cap2 ps qs w hamb h h2 h9 h92
  by_cases hp : chk ps = 0
  · by_cases hq : chk qs = 0
    · exact lawRefuses_right A A2 n cap n2 cap2 ps qs w hamb h h2 h9 h92 hp hq
    · exact lawRefuses_second A A2 n cap n2 cap2 ps qs _ w hamb h h2 h9 h92 hp rfl hq
  · exact lawRefuses_first A A2 n cap n2 cap2 ps qs _ w hamb h h2 h9 h92 rfl hp
end Go.Proofs.YtdjhngbpfdopnaaGreatDoor
