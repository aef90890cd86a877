/- Greater text, out of: Q27. -/
import Derived.Test.YtolnojkdalbppaaGreatDoorQ26
namespace Go.Proofs.YtolnojkdalbppaaGreatDoor
open Go.RowKit Go.PlainAid

/-- The closure of Within. -/
theorem within_gives (B : Nat) (A : Option Addr) (n cap : Nat) (qs : List Int) (x : Int) (W : World) (hc : W.cell? ⟨B, 0, none⟩ = some (.slice A n cap)) (h : InZ W A n cap qs) (h0 : 0 < n) :
    FnGives Tryz.prog 22 #[.pointer (some ⟨B, 0, none⟩)] #[.int .i64 x] (.bool (!(qs.contains x))) W := by
  obtain ⟨b, off, rfl, hcell⟩ := h.cellsD h0
  have b1 : n ≤ 9223372036854775807 := by have := h.2.1; have := h.2.2.1; omega
  have HC := Lib.hid (show Calls Tryz.prog 23 #[.slice (some ⟨b, off, none⟩) n cap, .int .i64 x] W (fun e w' => e = .returned (.bool (qs.contains x)) ∧ w' = W) from by
    have hh := Tryz.slices_Contains_int b off n cap qs x W (by rw [h.1]; exact Nat.le_refl _) b1 hcell
    rw [take_len h.1] at hh
    exact hh)
  obtain ⟨r, hr⟩ : ∃ r, (qs.contains x) = r := ⟨_, rfl⟩
  rw [hr] at HC ⊢
  clear h hcell hr
  show Calls Tryz.prog 22 #[.int .i64 x, .pointer (some ⟨B, 0, none⟩)] W _
  go_enter Tryz.func22, Tryz.ntmps22
  go_wp2_with fail
  refine HC.out.mono ?_
  rintro e w1 ⟨rfl, rfl⟩
  go_wp2_with fail
  go_ret
  exact ⟨rfl, 0, rfl⟩
theorem notin_any (B : Nat) (A A2 : Option Addr) (n cap n2 cap2 : Nat) (ps qs : List Int) (w : World) (hB : B < w.heap.size) (hc : w.cell? ⟨B, 0, none⟩ = some (.slice A2 n2 cap2)) (h : InZ w A n cap ps) (h2 : InZ w A2 n2 cap2 qs) (h0 : 0 < n) (h02 : 0 < n2) :
    Calls Tryz.prog 21 #[.slice A n cap, .func (.func 22) #[] #[.pointer (some ⟨B, 0, none⟩)]] w (SmallRes (.bool (ps.any fun x => !(qs.contains x))) w) := by
  have e1 := h.1
  have b1 : n ≤ 9223372036854775807 := by have := h.2.1; have := h.2.2.1; omega
  obtain ⟨b, off, rfl, hb, hcell⟩ := h.cells h0
  have eg : ∀ args w, (callFunc 22 args).run Tryz.prog w = .ok (.enter 22 args) w := enters_of Tryz.func22 (by kernel_rfl) rfl
  have hp : ∀ (W : World) (x : Int), Below w.heap.size w W → FnGives Tryz.prog 22 #[.pointer (some ⟨B, 0, none⟩)] #[.int .i64 x] (.bool (!(qs.contains x))) W := fun W x hW => within_gives B A2 n2 cap2 qs x W ((hW.cell (p := ⟨B, 0, none⟩) hB).trans hc) (h2.below hW) h02
  first | (refine (Tryz.slices_ContainsFunc_f21 (Value.int .i64) (fun x => !(qs.contains x)) 22 #[.pointer (some ⟨B, 0, none⟩)] eg b off n cap ps w hp (by omega) b1 hcell).mono fun e w' ⟨he, q, hw⟩ => ⟨?_, by rw [hw]; exact below_drewN w q⟩) | (refine (Tryz.slices_ContainsFunc (Value.int .i64) (fun x => !(qs.contains x)) 22 #[.pointer (some ⟨B, 0, none⟩)] eg b off n cap ps w hp (by omega) b1 hcell).mono fun e w' ⟨he, q, hw⟩ => ⟨?_, by rw [hw]; exact below_drewN w q⟩)
  rw [he, take_len e1]
/-- prime.Within. -/
theorem within_ok (A A2 : Option Addr) (n cap n2 cap2 : Nat) (ps qs : List Int) (r : Bool) (w : World) (h : InZ w A n cap ps) (h2 : InZ w A2 n2 cap2 qs) (h0 : 0 < n) (h02 : 0 < n2) (hc : twoE ps qs = 0) (hr : inn ps qs = r) :
    Calls Tryz.prog 8 #[.slice A n cap, .slice A2 n2 cap2] w (SmallRes (.tuple #[.bool r, .int .i64 0]) w) := by
  have HC := Lib.hid (fun wz (hz : Below w.heap.size w wz) => show Calls Tryz.prog 20 #[.slice A n cap, .slice A2 n2 cap2] wz (SmallRes (.int .i64 0) wz) from hc ▸ two_any A A2 n cap n2 cap2 ps qs wz (h.below hz) (h2.below hz))
  have hal : Below w.heap.size w (w.alloc (.cells #[.slice A2 n2 cap2] 27)) := (Below.refl _ _).alloc (Nat.le_refl _) _
  have hsz : (w.alloc (.cells #[.slice A2 n2 cap2] 27)).heap.size = w.heap.size + 1 := World.size_alloc _ _
  have hcell0 : (w.alloc (.cells #[.slice A2 n2 cap2] 27)).cell? ⟨w.heap.size, 0, none⟩ = some (.slice A2 n2 cap2) := by simp [World.cell?_alloc_new]
  obtain ⟨a, ha⟩ : ∃ a, (ps.any fun x => !(qs.contains x)) = a := ⟨_, rfl⟩
  have hra : (!a) = r := by rw [← ha]; exact hr
  subst hra
  have HN := Lib.hid (fun wz (hb : Below (w.alloc (.cells #[.slice A2 n2 cap2] 27)).heap.size (w.alloc (.cells #[.slice A2 n2 cap2] 27)) wz) => ha ▸ notin_any w.heap.size A A2 n cap n2 cap2 ps qs wz (by have := hb.size; omega) ((hb.cell (p := ⟨w.heap.size, 0, none⟩) (by show w.heap.size < _; omega)).trans hcell0) (h.below (bel_chain hal hb)) (h2.below (bel_chain hal hb)) h0 h02)
  clear h h2 hc hr ha hsz hcell0
  go_enter Tryz.func8, Tryz.ntmps8
  go_wp2_with fail
  refine (HC.out _ hal).mono ?_
  rintro e w1 ⟨rfl, hb1⟩
  go_wp2_with fail
  refine (HN.out _ hb1).mono ?_
  rintro e w2 ⟨rfl, hb2⟩
  have hz2 := bel_chain hal (bel_chain hb1 hb2)
  clear hb1 hb2 hal
  go_wp2_with fail
  go_ret2
  exact ⟨rfl, hz2⟩

/-- Both lists in a new block, as '...' lays them. -/
theorem pair_cells (w : World) (u v : Value) : (w.alloc (.cells #[u, v] 27)).cell? ⟨w.heap.size, 0, none⟩ = some u ∧ (w.alloc (.cells #[u, v] 27)).cell? ⟨w.heap.size, 1, none⟩ = some v := by
  constructor <;> simp [World.cell?_alloc_new]
/-- Concat, of two lists that lie in a new block. -/
theorem concat_new (A1 A2 : Option Addr) (n1 n2 cap1 cap2 : Nat) (ps qs : List Int) (w0 w : World) (hw : w = w0.alloc (.cells #[.slice A1 n1 cap1, .slice A2 n2 cap2] 27)) (h1 : InZ w0 A1 n1 cap1 ps) (h2 : InZ w0 A2 n2 cap2 qs) (h01 : 0 < n1) (h02 : 0 < n2) (hn1 : n1 ≤ 100) (hn2 : n2 ≤ 100) :
    Calls Tryz.prog 10 #[.slice (some ⟨w0.heap.size, 0, none⟩) 2 2] w (NewRow (ps ++ qs) w0) := by
  subst hw
  have hal : Below w0.heap.size w0 (w0.alloc (.cells #[.slice A1 n1 cap1, .slice A2 n2 cap2] 27)) := (Below.refl _ _).alloc (Nat.le_refl _) _
  have hsz : (w0.alloc (.cells #[.slice A1 n1 cap1, .slice A2 n2 cap2] 27)).heap.size = w0.heap.size + 1 := World.size_alloc _ _
  obtain ⟨c0, c1⟩ := pair_cells w0 (.slice A1 n1 cap1) (.slice A2 n2 cap2)
  refine (concat_any w0.heap.size A1 A2 n1 n2 cap1 cap2 ps qs _ (by omega) c0 c1 (h1.below hal) (h2.below hal) h01 h02 hn1 hn2).mono ?_
  rintro e w1 ⟨g, cap, rfl, hz, hg, hb⟩
  exact ⟨g, cap, rfl, hz, by omega, bel_chain hal hb⟩
/-- What Sort makes of both. -/
theorem sort_both (g cap n : Nat) (ps qs : List Int) (w : World) (h : Zc w g n cap (ps ++ qs)) (hn : n ≤ 1000) :
    Calls Tryz.prog 11 #[.slice (some ⟨g, 0, none⟩) n cap] w (fun e w' => e = .returned (.tuple #[]) ∧ Zc w' g n cap (sj ps qs) ∧ Only g w w') := sort_any g n cap (ps ++ qs) w h hn
/-- What Compact makes of what Sort has made. -/
theorem compact_both (g cap n m : Nat) (ps qs : List Int) (w : World) (h : Zc w g n cap (sj ps qs)) (hn : n ≤ 1000) (hm : (jn ps qs).length = m) :
    Calls Tryz.prog 12 #[.slice (some ⟨g, 0, none⟩) n cap] w (fun e w' => e = .returned (.slice (some ⟨g, 0, none⟩) m cap) ∧ Zc w' g m cap (jn ps qs) ∧ Only g w w') := by
  subst hm
  exact compact_any g n cap (sj ps qs) w h hn
set_option maxRecDepth 100000 in
/-- prime.Join, of too many. -/
theorem join_many (A A2 : Option Addr) (n cap n2 cap2 m : Nat) (ps qs : List Int) (w : World) (h : InZ w A n cap ps) (h2 : InZ w A2 n2 cap2 qs) (h0 : 0 < n) (h02 : 0 < n2) (hn : n ≤ 100) (hn2 : n2 ≤ 100) (hc : twoE ps qs = 0) (hm : (jn ps qs).length = m) (h6 : 6 < m) :
    Calls Tryz.prog 9 #[.slice A n cap, .slice A2 n2 cap2] w (SmallRes (.tuple #[.slice none 0 0, .int .i64 4]) w) := by
  have HC := Lib.hid (fun wz (hz : Below w.heap.size w wz) => show Calls Tryz.prog 20 #[.slice A n cap, .slice A2 n2 cap2] wz (SmallRes (.int .i64 0) wz) from hc ▸ two_any A A2 n cap n2 cap2 ps qs wz (h.below hz) (h2.below hz))
  have HK := Lib.hid (fun w0 wz (hz : Below w.heap.size w w0) (hw : wz = w0.alloc (.cells #[.slice A n cap, .slice A2 n2 cap2] 27)) => concat_new A A2 n n2 cap cap2 ps qs w0 wz hw (h.below hz) (h2.below hz) h0 h02 hn hn2)
  have hle : n + n2 ≤ 1000 := by omega
  have HL := Lib.hid (show (ps ++ qs).length = n + n2 by rw [List.length_append, h.1, h2.1])
  have HM := Lib.hid hm
  have h6' : 6 < (m : Int) := by omega
  have hmb : m ≤ 1000 := by have := jn_len_le ps qs; rw [hm, h.1, h2.1] at this; omega
  clear h h2 hc hm hn hn2 h0 h02
  go_enter Tryz.func9, Tryz.ntmps9
  go_wp2_with fail
  refine (HC.out _ (Below.refl _ _)).mono ?_
  rintro e w1 ⟨rfl, hz1⟩
  go_wp2_with fail
  refine (HK.out w1 _ hz1 rfl).mono ?_
  rintro e w2 ⟨g, c, rfl, hz, hg, hb2⟩
  rw [HL.out] at hz ⊢
  have hz2 := bel_chain hz1 hb2
  have hwg : w.heap.size ≤ g := by have := hz1.size; omega
  have HZ := Lib.hid hz
  clear hz hb2 hz1 hg
  go_wp2_with fail
  refine (sort_both g c _ ps qs _ HZ.out hle).mono ?_
  rintro e w3 ⟨rfl, hzs, hon3⟩
  have hz3 := bel_only hz2 hon3 hwg hz2.size
  have HZS := Lib.hid hzs
  clear hzs hon3 hz2
  go_wp2_with fail
  refine (compact_both g c _ m ps qs _ HZS.out hle HM.out).mono ?_
  rintro e w4 ⟨rfl, hzc, hon4⟩
  have hz4 := bel_only hz3 hon4 hwg hz3.size
  clear hzc hon4 hz3
  go_wp2_with fail
  go_ret2
  exact ⟨rfl, hz4⟩
/-- A new row is returned, and no error. -/
def JoinPost (m : Nat) (xs : List Int) (w : World) (e : Ending) (w' : World) : Prop := ∃ g cap, e = .returned (.tuple #[.slice (some ⟨g, 0, none⟩) m cap, .int .i64 0]) ∧ Zc w' g m cap xs ∧ Below w.heap.size w w'
set_option maxRecDepth 100000 in
/-- prime.Join. -/
theorem join_few (A A2 : Option Addr) (n cap n2 cap2 m : Nat) (ps qs : List Int) (w : World) (h : InZ w A n cap ps) (h2 : InZ w A2 n2 cap2 qs) (h0 : 0 < n) (h02 : 0 < n2) (hn : n ≤ 100) (hn2 : n2 ≤ 100) (hc : twoE ps qs = 0) (hm : (jn ps qs).length = m) (h6 : ¬ 6 < m) :
    Calls Tryz.prog 9 #[.slice A n cap, .slice A2 n2 cap2] w (JoinPost m (jn ps qs) w) := by
  have HC := Lib.hid (fun wz (hz : Below w.heap.size w wz) => show Calls Tryz.prog 20 #[.slice A n cap, .slice A2 n2 cap2] wz (SmallRes (.int .i64 0) wz) from hc ▸ two_any A A2 n cap n2 cap2 ps qs wz (h.below hz) (h2.below hz))
  have HK := Lib.hid (fun w0 wz (hz : Below w.heap.size w w0) (hw : wz = w0.alloc (.cells #[.slice A n cap, .slice A2 n2 cap2] 27)) => concat_new A A2 n n2 cap cap2 ps qs w0 wz hw (h.below hz) (h2.below hz) h0 h02 hn hn2)
  have hle : n + n2 ≤ 1000 := by omega
  have HL := Lib.hid (show (ps ++ qs).length = n + n2 by rw [List.length_append, h.1, h2.1])
  have HM := Lib.hid hm
  have h6' : ¬ 6 < (m : Int) := by omega
  have hmb : m ≤ 1000 := by have := jn_len_le ps qs; rw [hm, h.1, h2.1] at this; omega
  clear h h2 hc hm hn hn2 h0 h02
  go_enter Tryz.func9, Tryz.ntmps9
  go_wp2_with fail
  refine (HC.out _ (Below.refl _ _)).mono ?_
  rintro e w1 ⟨rfl, hz1⟩
  go_wp2_with fail
  refine (HK.out w1 _ hz1 rfl).mono ?_
  rintro e w2 ⟨g, c, rfl, hz, hg, hb2⟩
  rw [HL.out] at hz ⊢
  have hz2 := bel_chain hz1 hb2
  have hwg : w.heap.size ≤ g := by have := hz1.size; omega
  have HZ := Lib.hid hz
  clear hz hb2 hz1 hg
  go_wp2_with fail
  refine (sort_both g c _ ps qs _ HZ.out hle).mono ?_
  rintro e w3 ⟨rfl, hzs, hon3⟩
  have hz3 := bel_only hz2 hon3 hwg hz2.size
  have HZS := Lib.hid hzs
  clear hzs hon3 hz2
  go_wp2_with fail
  refine (compact_both g c _ m ps qs _ HZS.out hle HM.out).mono ?_
  rintro e w4 ⟨rfl, hzc, hon4⟩
  have hz4 := bel_only hz3 hon4 hwg hz3.size
  have HZC := Lib.hid hzc
  clear hzc hon4 hz3
  go_wp2_with fail
  go_ret2
  exact ⟨g, c, rfl, HZC.out, hz4⟩
end Go.Proofs.YtolnojkdalbppaaGreatDoor
