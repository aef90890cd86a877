/- Greater text, out of: Q18. -/
import Derived.Test.YtdjhngbpfdopnaaGreatDoorQ17
namespace Go.Proofs.YtdjhngbpfdopnaaGreatDoor
open Go.RowKit Go.PlainAid

/-- What move returns. -/
def MvPost (m : Nat) (r : List Int × Bool) (w : World) (e : Ending) (w' : World) : Prop := ∃ g cap, e = .returned (.tuple #[.slice (some ⟨g, 0, none⟩) m cap, .bool r.2]) ∧ Zc w' g m cap r.1 ∧ w.heap.size ≤ g ∧ Below w.heap.size w w'
set_option maxRecDepth 100000 in
set_option maxHeartbeats 2000000 in
/-- prime.move. -/
theorem move_any (A A2 A3 : Option Addr) (n cap m cap2 cap3 : Nat) (ps qs xs : List Int) (w : World) (h : InZ w A n cap ps) (h2 : InZ w A2 m cap2 qs) (h3 : InZ w A3 n cap3 xs) (hm0 : 0 < m) (hm6 : m ≤ 6) :
    Calls Tryz.prog 88 #[.slice A n cap, .slice A2 m cap2, .slice A3 n cap3] w (MvPost m (mv qs ps xs n) w) := by
  have HL2 := Lib.hid h2.1
  have hle := h.2.1
  have hcap := h.2.2.1
  have hle2 := h2.2.1
  have hcap2 := h2.2.2.1
  have hle3 := h3.2.1
  have hcap3 := h3.2.2.1
  have HIN := Lib.hid (fun wz (hb : Below w.heap.size w wz) => (h.below hb).2.2.2)
  have HIN3 := Lib.hid (fun wz (hb : Below w.heap.size w wz) => (h3.below hb).2.2.2)
  have HIQ := Lib.hid (fun wz (hb : Below w.heap.size w wz) => h2.below hb)
  have hmk := make_Zc 50 Tryz.underlying50 m m (Nat.le_refl _) (by omega)
  have HM := Lib.hid (Zc.made w m m (Nat.le_refl _) (by omega))
  have hbm : Below w.heap.size w (w.alloc (.cells (ZZ m) 3)) := (Below.refl _ _).alloc (Nat.le_refl _) _
  have HST := Lib.hid (show Zc (w.alloc (.cells (ZZ m) 3)) w.heap.size m m (mv qs ps xs 0).1 ∧ Below w.heap.size w (w.alloc (.cells (ZZ m) 3)) from ⟨by rw [mv_zero, h2.1]; exact HM.out, hbm⟩)
  clear h h2 h3 hbm
  go_enter Tryz.func88, Tryz.ntmps88
  go_wp2_with fail
  clear hmk
  go_loopw [7, 17] (fun vl vi wr => ∃ i : Nat, i ≤ n ∧ vi = .int .i64 (i : Int) ∧ vl = .bool (mv qs ps xs i).2 ∧ Hid (Zc wr w.heap.size m m (mv qs ps xs i).1) ∧ Below w.heap.size w wr) (fun _ vi _ => n - (intOf vi).toNat)
  case atStart => exact ⟨0, Nat.zero_le _, rfl, rfl, Lib.hid HST.out.1, HST.out.2⟩
  case round =>
    obtain ⟨i, hi, rfl, rfl, HZ, hB⟩ := hrel
    by_cases hin : i = n
    · have hlt : ¬ (i : Int) < (n : Int) := by omega
      obtain ⟨r, hr⟩ : ∃ r, mv qs ps xs i = r := ⟨_, rfl⟩
      have HR := Lib.hid (hin ▸ hr)
      rw [hr] at HZ ⊢
      have HB := Lib.hid hB
      subst hin
      clear hr hB
      go_wp2_with fail
      go_ret2
      exact ⟨_, m, by rw [HR.out]; rfl, by rw [HR.out]; exact HZ.out, Nat.le_refl _, HB.out⟩
    · have hlt : (i : Int) < (n : Int) := by omega
      obtain ⟨b, off, rfl, hbl, hc⟩ := HIN.out _ hB (by omega)
      obtain ⟨b3, off3, rfl, hbl3, hc3⟩ := HIN3.out _ hB (by omega)
      have hcell := hc i (by omega)
      have hcell3 := hc3 i (by omega)
      have hic := idx_cases qs (ps.getD i 0)
      have HIT := Lib.hid (fun k => @mv_hit qs ps xs i k)
      have HMI := Lib.hid (@mv_miss qs ps xs i)
      obtain ⟨p, hp⟩ : ∃ p, ps.getD i 0 = p := ⟨_, rfl⟩
      obtain ⟨x, hx⟩ : ∃ x, xs.getD i 0 = x := ⟨_, rfl⟩
      obtain ⟨⟨row, bl⟩, hr⟩ : ∃ r, mv qs ps xs i = r := ⟨_, rfl⟩
      rw [hp] at hcell hic HIT HMI
      rw [hx] at hcell3 HIT HMI
      rw [hr] at HIT HMI HZ ⊢
      have HB := Lib.hid hB
      have HQ := Lib.hid (HIQ.out _ hB)
      clear hc hc3 hp hx hr hB hbl hbl3
      rcases hic with ⟨h1, _⟩ | ⟨k, hk, h1, _⟩
      · have HC := Lib.hid (fun wz (hz : InZ wz A2 m cap2 qs) => pindex_miss A2 m cap2 qs p wz hz hm0 h1)
        have HE := Lib.hid (HMI.out h1)
        clear h1
        have HZQ := Lib.hid HZ.out
        cases bl with
        | true =>
          go_wp2_with fail
          refine (HC.out _ HQ.out).mono ?_
          rintro e w1 ⟨rfl, hb1⟩
          have HZ1 := Lib.hid (HZQ.out.below hb1 HZQ.out.lt)
          have HB1 := Lib.hid (bel_chain HB.out hb1)
          clear hb1
          go_wp2_with fail
          go_roundw
          case rel => exact ⟨i + 1, by omega, by go_num, by rw [HE.out]; rfl, Lib.hid (by rw [HE.out]; exact HZ1.out), HB1.out⟩
          case measure => simp [intOf]; omega
        | false =>
          by_cases hx0 : x = 0
          · have HE2 := Lib.hid (show mv qs ps xs (i + 1) = (row, false) by rw [HE.out, hx0]; rfl)
            clear HE HIT HMI
            subst hx0
            go_wp2_with fail
            refine (HC.out _ HQ.out).mono ?_
            rintro e w1 ⟨rfl, hb1⟩
            have HZ1 := Lib.hid (HZQ.out.below hb1 HZQ.out.lt)
            have HB1 := Lib.hid (bel_chain HB.out hb1)
            clear hb1
            go_wp2_with fail
            go_roundw
            case rel => exact ⟨i + 1, by omega, by go_num, by rw [HE2.out], Lib.hid (by rw [HE2.out]; exact HZ1.out), HB1.out⟩
            case measure => simp [intOf]; omega
          · have HE2 := Lib.hid (show mv qs ps xs (i + 1) = (row, true) by rw [HE.out]; simp [hx0])
            clear HE HIT HMI
            go_wp2_with fail
            refine (HC.out _ HQ.out).mono ?_
            rintro e w1 ⟨rfl, hb1⟩
            have HZ1 := Lib.hid (HZQ.out.below hb1 HZQ.out.lt)
            have HB1 := Lib.hid (bel_chain HB.out hb1)
            clear hb1
            go_wp2_with fail
            go_roundw
            case rel => exact ⟨i + 1, by omega, by go_num, by rw [HE2.out]; simp [hx0], Lib.hid (by rw [HE2.out]; exact HZ1.out), HB1.out⟩
            case measure => simp [intOf]; omega
      · have HC := Lib.hid (fun wz (hz : InZ wz A2 m cap2 qs) => pindex_hit A2 m cap2 qs p k wz hz hm0 h1)
        have HE := Lib.hid (HIT.out k h1)
        have hkm : k < m := by rw [← HL2.out]; exact hk
        have HZQ := Lib.hid HZ.out
        clear h1 hk
        go_wp2_with fail
        refine (HC.out _ HQ.out).mono ?_
        rintro e w1 ⟨rfl, hb1⟩
        have HZ1 := Lib.hid (HZQ.out.below hb1 HZQ.out.lt)
        have HB1 := Lib.hid (bel_chain HB.out hb1)
        have hcs := HZ1.out.cell k hkm
        have hfs := HZ1.out.free k
        have hkm' : (k : Int) < (m : Int) := by omega
        clear hb1 hcell hcell3
        go_wp2_with fail
        go_roundw
        case rel => exact ⟨i + 1, by omega, by go_num, by rw [HE.out], Lib.hid (by rw [HE.out]; exact HZ1.out.set k x), HB1.out.setCell (Nat.le_refl _) _⟩
        case measure => simp [intOf]; omega
/-- A new row is returned, and an error. -/
def RowPost (m : Nat) (r : List Int) (w : World) (e : Ending) (w' : World) : Prop := ∃ g cap, e = .returned (.tuple #[.slice (some ⟨g, 0, none⟩) m cap, .int .i64 0]) ∧ Zc w' g m cap r ∧ Below w.heap.size w w'
section
variable (A A2 A3 : Option Addr) (n cap m cap2 n3 cap3 : Nat) (ps qs xs : List Int) (w : World)
theorem twoE_ok {ps qs : List Int} (h1 : chk ps = 0) (h2 : chk qs = 0) : twoE ps qs = 0 := by rw [twoE_snd qs h1, h2]
theorem embed_fit (h : InZ w A n cap ps) (h2 : InZ w A2 m cap2 qs) (h3 : InZ w A3 n3 cap3 xs) (hp : chk ps = 0) (hq : chk qs = 0) (c : Int) (hf : fit ps xs = c) (h0 : c ≠ 0) :
    Calls Tryz.prog 31 #[.slice A n cap, .slice A2 m cap2, .slice A3 n3 cap3] w (SmallRes (.tuple #[.slice none 0 0, .int .i64 c]) w) := by
  have HT := Lib.hid (twoE_ok hp hq ▸ two_any A A2 n cap m cap2 ps qs w h h2)
  have HF := Lib.hid (fun wz (hb : Below w.heap.size w wz) => hf ▸ fits_any A A3 n cap n3 cap3 ps xs wz (h.below hb) (h3.below hb))
  clear h h2 h3 hp hq hf
  go_enter Tryz.func31, Tryz.ntmps31
  go_wp2_with fail
  refine HT.out.mono ?_
  rintro e w1 ⟨rfl, hb1⟩
  go_wp2_with fail
  refine (HF.out _ hb1).mono ?_
  rintro e w2 ⟨rfl, hb2⟩
  have hz2 := bel_chain hb1 hb2
  go_wp2_with fail
  go_ret2
  exact ⟨rfl, hz2⟩
theorem restrict_fit (h : InZ w A n cap ps) (h2 : InZ w A2 m cap2 qs) (h3 : InZ w A3 n3 cap3 xs) (hp : chk ps = 0) (hq : chk qs = 0) (c : Int) (hf : fit ps xs = c) (h0 : c ≠ 0) :
    Calls Tryz.prog 32 #[.slice A n cap, .slice A2 m cap2, .slice A3 n3 cap3] w (SmallRes (.tuple #[.slice none 0 0, .int .i64 c]) w) := by
  have HT := Lib.hid (twoE_ok hp hq ▸ two_any A A2 n cap m cap2 ps qs w h h2)
  have HF := Lib.hid (fun wz (hb : Below w.heap.size w wz) => hf ▸ fits_any A A3 n cap n3 cap3 ps xs wz (h.below hb) (h3.below hb))
  clear h h2 h3 hp hq hf
  go_enter Tryz.func32, Tryz.ntmps32
  go_wp2_with fail
  refine HT.out.mono ?_
  rintro e w1 ⟨rfl, hb1⟩
  go_wp2_with fail
  refine (HF.out _ hb1).mono ?_
  rintro e w2 ⟨rfl, hb2⟩
  have hz2 := bel_chain hb1 hb2
  go_wp2_with fail
  go_ret2
  exact ⟨rfl, hz2⟩
theorem restrict_ok (h : InZ w A n cap ps) (h2 : InZ w A2 m cap2 qs) (h3 : InZ w A3 n cap3 xs) (hp : chk ps = 0) (hq : chk qs = 0) (hf : fit ps xs = 0) :
    Calls Tryz.prog 32 #[.slice A n cap, .slice A2 m cap2, .slice A3 n cap3] w (RowPost m (mv qs ps xs n).1 w) := by
  have hqo := chk_ok hq
  have HT := Lib.hid (twoE_ok hp hq ▸ two_any A A2 n cap m cap2 ps qs w h h2)
  have HF := Lib.hid (fun wz (hb : Below w.heap.size w wz) => hf ▸ fits_any A A3 n cap n cap3 ps xs wz (h.below hb) (h3.below hb))
  have HMV := Lib.hid (fun wz (hb : Below w.heap.size w wz) => move_any A A2 A3 n cap m cap2 cap3 ps qs xs wz (h.below hb) (h2.below hb) (h3.below hb) (by have := hqo.pos; have := h2.1; omega) (by have := hqo.le; have := h2.1; omega))
  clear h h2 h3 hp hq hf hqo
  obtain ⟨⟨row, bl⟩, hr⟩ : ∃ r, mv qs ps xs n = r := ⟨_, rfl⟩
  rw [hr] at HMV ⊢
  clear hr
  go_enter Tryz.func32, Tryz.ntmps32
  go_wp2_with fail
  refine HT.out.mono ?_
  rintro e w1 ⟨rfl, hb1⟩
  go_wp2_with fail
  refine (HF.out _ hb1).mono ?_
  rintro e w2 ⟨rfl, hb2⟩
  have hz2 := bel_chain hb1 hb2
  go_wp2_with fail
  refine (HMV.out _ hz2).mono ?_
  rintro e w3 ⟨g, c3, rfl, hz, _, hb3⟩
  have HZ3 := Lib.hid hz
  have HB3 := Lib.hid (bel_chain hz2 hb3)
  clear hz hb3 hz2 hb2 hb1
  go_wp2_with fail
  go_ret2
  exact ⟨g, c3, rfl, HZ3.out, HB3.out⟩
theorem embed_ok (h : InZ w A n cap ps) (h2 : InZ w A2 m cap2 qs) (h3 : InZ w A3 n cap3 xs) (hp : chk ps = 0) (hq : chk qs = 0) (hf : fit ps xs = 0) (hl : (mv qs ps xs n).2 = false) :
    Calls Tryz.prog 31 #[.slice A n cap, .slice A2 m cap2, .slice A3 n cap3] w (RowPost m (mv qs ps xs n).1 w) := by
  have hqo := chk_ok hq
  have HT := Lib.hid (twoE_ok hp hq ▸ two_any A A2 n cap m cap2 ps qs w h h2)
  have HF := Lib.hid (fun wz (hb : Below w.heap.size w wz) => hf ▸ fits_any A A3 n cap n cap3 ps xs wz (h.below hb) (h3.below hb))
  have HMV := Lib.hid (fun wz (hb : Below w.heap.size w wz) => move_any A A2 A3 n cap m cap2 cap3 ps qs xs wz (h.below hb) (h2.below hb) (h3.below hb) (by have := hqo.pos; have := h2.1; omega) (by have := hqo.le; have := h2.1; omega))
  clear h h2 h3 hp hq hf hqo
  obtain ⟨⟨row, bl⟩, hr⟩ : ∃ r, mv qs ps xs n = r := ⟨_, rfl⟩
  rw [hr] at HMV hl ⊢
  clear hr
  go_enter Tryz.func31, Tryz.ntmps31
  go_wp2_with fail
  refine HT.out.mono ?_
  rintro e w1 ⟨rfl, hb1⟩
  go_wp2_with fail
  refine (HF.out _ hb1).mono ?_
  rintro e w2 ⟨rfl, hb2⟩
  have hz2 := bel_chain hb1 hb2
  go_wp2_with fail
  refine (HMV.out _ hz2).mono ?_
  rintro e w3 ⟨g, c3, rfl, hz, _, hb3⟩
  have HZ3 := Lib.hid hz
  have HB3 := Lib.hid (bel_chain hz2 hb3)
  clear hz hb3 hz2 hb2 hb1
  have hl' : bl = false := hl
  subst hl'
  go_wp2_with fail
  go_ret2
  exact ⟨g, c3, rfl, HZ3.out, HB3.out⟩
theorem embed_lost (h : InZ w A n cap ps) (h2 : InZ w A2 m cap2 qs) (h3 : InZ w A3 n cap3 xs) (hp : chk ps = 0) (hq : chk qs = 0) (hf : fit ps xs = 0) (hl : (mv qs ps xs n).2 = true) :
    Calls Tryz.prog 31 #[.slice A n cap, .slice A2 m cap2, .slice A3 n cap3] w (SmallRes (.tuple #[.slice none 0 0, .int .i64 25]) w) := by
  have hqo := chk_ok hq
  have HT := Lib.hid (twoE_ok hp hq ▸ two_any A A2 n cap m cap2 ps qs w h h2)
  have HF := Lib.hid (fun wz (hb : Below w.heap.size w wz) => hf ▸ fits_any A A3 n cap n cap3 ps xs wz (h.below hb) (h3.below hb))
  have HMV := Lib.hid (fun wz (hb : Below w.heap.size w wz) => move_any A A2 A3 n cap m cap2 cap3 ps qs xs wz (h.below hb) (h2.below hb) (h3.below hb) (by have := hqo.pos; have := h2.1; omega) (by have := hqo.le; have := h2.1; omega))
  clear h h2 h3 hp hq hf hqo
  obtain ⟨⟨row, bl⟩, hr⟩ : ∃ r, mv qs ps xs n = r := ⟨_, rfl⟩
  rw [hr] at HMV hl
  clear hr
  go_enter Tryz.func31, Tryz.ntmps31
  go_wp2_with fail
  refine HT.out.mono ?_
  rintro e w1 ⟨rfl, hb1⟩
  go_wp2_with fail
  refine (HF.out _ hb1).mono ?_
  rintro e w2 ⟨rfl, hb2⟩
  have hz2 := bel_chain hb1 hb2
  go_wp2_with fail
  refine (HMV.out _ hz2).mono ?_
  rintro e w3 ⟨g, c3, rfl, hz, _, hb3⟩
  have HZ3 := Lib.hid hz
  have HB3 := Lib.hid (bel_chain hz2 hb3)
  clear hz hb3 hz2 hb2 hb1
  have hl' : bl = true := hl
  subst hl'
  go_wp2_with fail
  go_ret2
  exact ⟨rfl, HB3.out⟩
end
end Go.Proofs.YtdjhngbpfdopnaaGreatDoor
