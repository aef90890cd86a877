/- Greater text, out of: T17. -/
import Derived.Test.YtdpcmhdmdompnaaGreatDoorGh
namespace Go.Proofs.YtdpcmhdmdompnaaGreatDoor
open Go.RowKit Go.PlainAid
attribute [local go_sem] field_whole0 field_whole1 field_rat0 field_rat1
theorem beq_den_yes {p q : Rat} (h : p.den = q.den) : ((itx (p.den : Int)).toList == (itx (q.den : Int)).toList) = true := by rw [itx_beq, h]; simp
theorem beq_den_no {p q : Rat} (h : ¬ p.den = q.den) : ((itx (p.den : Int)).toList == (itx (q.den : Int)).toList) = false := by
  rw [itx_beq]; simp; omega
set_option maxRecDepth 100000 in
set_option maxHeartbeats 4000000 in
/-- schismaref03.Sign. -/
theorem t3rsign_any (p : Rat) (w : World) (hp : NQ p 20000) :
    Calls Tryz.prog 9 #[rv p] w (SmallRes (.int .i64 p.num.sign) w) := by
  obtain ⟨hp1, hp2⟩ := hp
  go_enter Tryz.func9, Tryz.ntmps9
  go_wp2_with fail
  obtain ⟨W, hW⟩ : ∃ W, (w.alloc (.cells #[.string (itx p.num), .string (itx (p.den : Int))] 27)) = W := ⟨_, rfl⟩
  rw [hW]
  obtain ⟨hX, hBW⟩ := B1.of hW
  clear hW
  have HX := Lib.hid (fun wz (hb : Below W.heap.size W wz) => hX.later hb)
  have HB := Lib.hid hBW
  have hz0 : Below W.heap.size W W := Below.refl _ _
  clear hBW
  obtain ⟨_, c000, c001, f000, f001⟩ := hX
  go_wp2_with fail
  refine (t3to_any p.num _ (by omega)).mono ?_
  rintro e w1 ⟨v1, rfl, hv1_1, hb1⟩
  have hz1 := bel_chain hz0 hb1
  obtain ⟨_, c100, c101, f100, f101⟩ := HX.out _ hz1
  go_wp2_with fail
  refine (t3sign_any _ p.num _ hv1_1).mono ?_
  rintro e w2 ⟨rfl, hb2⟩
  have hz2 := bel_chain hz1 hb2
  have hv1_2 := (hv1_1).below hb2
  obtain ⟨_, c200, c201, f200, f201⟩ := HX.out _ hz2
  go_wp2_with fail
  go_ret
  exact ⟨rfl, bel_chain HB.out hz2⟩

end Go.Proofs.YtdpcmhdmdompnaaGreatDoor
