/- Words for memory: a slice of uint64 whose cells are known ('Pc'), and small lemmas for the walks' ends. -/
import Derived.Test.YtebcmefbpfcgmaaGreatDoorWords
import Derived.Test.YtebcmefbpfcgmaaGreatDoorNum
import Derived.Test.YtebcmefbpfcgmaaGreatDoorLimbOps
import Derived.WalkKit
import Derived.Below
import Derived.Outline
import Derived.WalkSpells
import Derived.WalkLawsBesides
import Derived.Lib.Hide
import Derived.Handy
import Derived.ShutString
import Derived.RegionTactic
import Derived.BigQuiet
import Derived.Deep.QuietTactic
import Derived.Deep.Draws
import Derived.Deep.DeepFit
import Derived.OwnWalk
import Derived.Lib.ConvBytes
import Derived.Laws.MakeOwn
namespace Go.Proofs.YtebcmefbpfcgmaaGreatDoor
open Go.RowKit

theorem ret_int {k : IntKind} {a b : Int} (h : a = b) : Ending.returned (.int k a) = .returned (.int k b) := by rw [h]
theorem vint {k : IntKind} {a b : Int} (h : a = b) : Value.int k a = .int k b := by rw [h]
theorem ret_bool {a b : Bool} (h : a = b) : Ending.returned (.bool a) = .returned (.bool b) := by rw [h]
theorem ret_str {a b : ByteArray} (h : a = b) : Ending.returned (.string a) = .returned (.string b) := by rw [h]
theorem toList_data (s : ByteArray) : s.toList = s.data.toList := ByteArray.toList_eq s
theorem dec_toList (n : Nat) : (dec n).toList = Lib.decDigits n := by rw [toList_data, dec_data]

theorem bytes_below (w : World) (e : TypeId) (s : ByteArray) : Below w.heap.size w (Lib.bytesWorld w e s) :=
  ⟨rfl, rfl, rfl, by rw [Lib.bytesWorld_size]; omega, fun k hk => Lib.bytesWorld_at_old w e s k hk⟩
/-- What a function leaves that hands back new pieces r. -/
def NewPc (r : List Nat) (w : World) (e : Ending) (w' : World) : Prop :=
  ∃ g cap, e = .returned (.slice (some ⟨g, 0, none⟩) r.length cap) ∧ w.heap.size ≤ g ∧ Pc w' g r.length cap r ∧ Below w.heap.size w w'
def lenOf : Value → Nat | .slice _ n _ => n | _ => 0
/-- A comparison's answer. -/
def cmpI (a b : Nat) : Int := if a < b then -1 else if b < a then 1 else 0
theorem cmpI_lt {a b : Nat} (h : a < b) : cmpI a b = -1 := by rw [cmpI, if_pos h]
theorem cmpI_gt {a b : Nat} (h : b < a) : cmpI a b = 1 := by rw [cmpI, if_neg (by omega), if_pos h]
theorem cmpI_eq (a : Nat) : cmpI a a = 0 := by rw [cmpI, if_neg (by omega), if_neg (by omega)]
theorem trimL_take (xs : List Nat) : trimL xs = xs.take (trimL xs).length := by
  have h : trimL xs <+: xs := by
    unfold trimL
    have := List.dropWhile_suffix (l := xs.reverse) (· == 0)
    simpa using List.reverse_prefix.2 this
  exact (List.prefix_iff_eq_take.1 h)
end Go.Proofs.YtebcmefbpfcgmaaGreatDoor
