/- The walk of DecimalSmall: it returns true, for any number of 64 bits and any slice. -/
import Derived.Test.YtojgfpoinbblhaaDoorLawBase1
import Derived.Test.YtojgfpoinbblhaaDoorRefA
import Derived.Test.YtojgfpoinbblhaaDoorRefOf
namespace Go.Proofs.YtojgfpoinbblhaaDoor
open Go.RowKit
set_option maxRecDepth 100000 in
set_option maxHeartbeats 4000000 in
theorem lawSmall_walk (m : Int) (A0 : Option Addr) (n0 c0 : Nat) (l0 : List UInt8) (w : World) (hamb : Amb w) (h0 : InB w A0 n0 c0 l0) (hm0 : 0 ≤ m) (hm1 : m < 18446744073709551616) :
    Calls Tryd.prog 3 #[.int .u64 m, .slice A0 n0 c0] w (SmallRes (.bool true) w) := by
  obtain ⟨n, rfl⟩ : ∃ n : Nat, m = (n : Int) := ⟨m.toNat, by omega⟩
  have hn : n < 18446744073709551616 := by omega
  clear hm0 hm1
  by_cases hf : n0 ≤ 120
  · have hnd := mk_nd l0
    obtain ⟨y, hy⟩ : ∃ y, mk l0 = y := ⟨_, rfl⟩
    rw [hy] at hnd
    have HY := Lib.hid hy
    have hrs := fun w1 => rsmall_any y w1 (by omega)
    clear hy
    by_cases hbig : y < 18446744073709551616
    · simp only [if_pos hbig] at hrs
      have HRS := Lib.hid hrs
      clear hrs
      go_enter Tryd.func3, Tryd.ntmps3
      have hB0 : Below w.heap.size w w := Below.refl _ _
      have hA0 := hamb
      go_wp2_with fail
      refine (known1_any _ hA0).mono ?_
      rintro e w1 ⟨rfl, hb1⟩
      have hB1 := bel_chain hB0 hb1
      have hA1 := hA0.below hb1
      clear hB0 hA0 hb1
      go_wp2_with fail
      refine (of_any n hn _ hA1).mono ?_
      rintro e w2 ⟨rfl, hb2⟩
      have hB2 := bel_chain hB1 hb2
      have hA2 := hA1.below hb2
      clear hB1 hA1 hb2
      go_wp2_with fail
      refine (small_yes n _ hn).mono ?_
      rintro e w3 ⟨rfl, hb3⟩
      have hB3 := bel_chain hB2 hb3
      have hA3 := hA2.below hb3
      clear hB2 hA2 hb3
      go_wp2_with fail
      refine (make_any A0 n0 c0 l0 _ (h0.below hB3)).mono ?_
      rintro e w4 ⟨rfl, hb4⟩
      have hB4 := bel_chain hB3 hb4
      have hA4 := hA3.below hb4
      clear hB3 hA3 hb4
      rw [HY.out]
      go_wp2_with fail
      refine (small_yes y _ hbig).mono ?_
      rintro e w5 ⟨rfl, hb5⟩
      have hB5 := bel_chain hB4 hb5
      have hA5 := hA4.below hb5
      clear hB4 hA4 hb5
      go_wp2_with fail
      refine (HRS.out _).mono ?_
      rintro e w5' ⟨rfl, rfl⟩
      go_wp2_with fail
      refine (rof_any n _ hn).mono ?_
      rintro e w6 ⟨rfl, hb6⟩
      have hB6 := bel_chain hB5 hb6
      have hA6 := hA5.below hb6
      clear hB5 hA5 hb6
      go_wp2_with fail
      go_ret
      exact ⟨rfl, hB6⟩
    · simp only [if_neg hbig] at hrs
      have HRS := Lib.hid hrs
      clear hrs
      go_enter Tryd.func3, Tryd.ntmps3
      have hB0 : Below w.heap.size w w := Below.refl _ _
      have hA0 := hamb
      go_wp2_with fail
      refine (known1_any _ hA0).mono ?_
      rintro e w1 ⟨rfl, hb1⟩
      have hB1 := bel_chain hB0 hb1
      have hA1 := hA0.below hb1
      clear hB0 hA0 hb1
      go_wp2_with fail
      refine (of_any n hn _ hA1).mono ?_
      rintro e w2 ⟨rfl, hb2⟩
      have hB2 := bel_chain hB1 hb2
      have hA2 := hA1.below hb2
      clear hB1 hA1 hb2
      go_wp2_with fail
      refine (small_yes n _ hn).mono ?_
      rintro e w3 ⟨rfl, hb3⟩
      have hB3 := bel_chain hB2 hb3
      have hA3 := hA2.below hb3
      clear hB2 hA2 hb3
      go_wp2_with fail
      refine (make_any A0 n0 c0 l0 _ (h0.below hB3)).mono ?_
      rintro e w4 ⟨rfl, hb4⟩
      have hB4 := bel_chain hB3 hb4
      have hA4 := hA3.below hb4
      clear hB3 hA3 hb4
      rw [HY.out]
      go_wp2_with fail
      refine (small_no y _ hA4 (by omega) (by omega)).mono ?_
      rintro e w5 ⟨rfl, hb5⟩
      have hB5 := bel_chain hB4 hb5
      have hA5 := hA4.below hb5
      clear hB4 hA4 hb5
      go_wp2_with fail
      refine (HRS.out _).mono ?_
      rintro e w5' ⟨rfl, rfl⟩
      go_wp2_with fail
      refine (rof_any n _ hn).mono ?_
      rintro e w6 ⟨rfl, hb6⟩
      have hB6 := bel_chain hB5 hb6
      have hA6 := hA5.below hb6
      clear hB5 hA5 hb6
      go_wp2_with fail
      go_ret
      exact ⟨rfl, hB6⟩
  · go_enter Tryd.func3, Tryd.ntmps3
    have hB0 : Below w.heap.size w w := Below.refl _ _
    have hA0 := hamb
    go_wp2_with fail
    refine (known1_any _ hA0).mono ?_
    rintro e w1 ⟨rfl, hb1⟩
    have hB1 := bel_chain hB0 hb1
    have hA1 := hA0.below hb1
    clear hB0 hA0 hb1
    go_wp2_with fail
    refine (known1_any _ hA1).mono ?_
    rintro e w2 ⟨rfl, hb2⟩
    have hB2 := bel_chain hB1 hb2
    have hA2 := hA1.below hb2
    clear hB1 hA1 hb2
    go_wp2_with fail
    go_ret
    exact ⟨rfl, hB2⟩
end Go.Proofs.YtojgfpoinbblhaaDoor
