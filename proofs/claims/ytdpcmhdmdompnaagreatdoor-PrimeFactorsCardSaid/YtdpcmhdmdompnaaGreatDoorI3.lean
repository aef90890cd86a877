/- Greater text, out of: I3. -/
import Derived.Test.YtdpcmhdmdompnaaGreatDoorGx
import Derived.Deep.LoopGhost
namespace Go.Proofs.YtdpcmhdmdompnaaGreatDoor
open Go.RowKit Go.PlainAid

theorem iter_le (w wx : World) (s : ByteArray) (hb : Below w.heap.size w wx) (q : Nat) : Below w.heap.size w (wx.iterAt w.heap.size s q) := Lib.below_iterAt hb (Nat.le_refl _) s q
theorem iter_keep {w wx w2 : World} {s : ByteArray} {p : Nat} (hs : w.heap.size < wx.heap.size) (hb : Below wx.heap.size wx w2) (hk : wx.heap[w.heap.size]? = some (.stringIter s p)) : w2.heap[w.heap.size]? = some (.stringIter s p) := by
  rw [hb.block _ hs]; exact hk
theorem lt_of_iter {wx : World} {k : Nat} {o : Obj} (h : wx.heap[k]? = some o) : k < wx.heap.size := by
  rcases Nat.lt_or_ge k wx.heap.size with h' | h'
  · exact h'
  · rw [Array.getElem?_eq_none h'] at h; simp at h
theorem isTwo (x : UInt8) : ([47, 46] : List UInt8).contains x = decide (0 ≤ Lib.indexByte [47, 46] x) := Lib.contains_iff_indexByte _ _
end Go.Proofs.YtdpcmhdmdompnaaGreatDoor
