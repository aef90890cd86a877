/- Greater text, out of: K33. -/
import Derived.Test.YtpafocfpofnkpaaGreatDoorK32
import Derived.Test.YtpafocfpofnkpaaGreatDoorK20
namespace Go.Proofs.YtpafocfpofnkpaaGreatDoor
open Go.RowKit Go.PlainAid
attribute [local go_sem] field_rat0 field_rat1
/-- What semi returns: its three variables lie in boxes. -/
def SemiPost (v0 v1 v2 : Value) (w : World) (e : Ending) (w' : World) : Prop :=
  e = .returned (.func (.func 66) #[] #[.pointer (some ⟨w.heap.size, 0, none⟩), .pointer (some ⟨w.heap.size + 1, 0, none⟩), .pointer (some ⟨w.heap.size + 1 + 1, 0, none⟩)]) ∧
  Boxed w' w.heap.size 55 v0 ∧ Boxed w' (w.heap.size + 1) 3 v1 ∧ Boxed w' (w.heap.size + 1 + 1) 65 v2 ∧ Below w.heap.size w w'
theorem semi_any (A : Option Addr) (n cap : Nat) (b : Int) (g : Nat) (w : World) :
    Calls Tryz.prog 35 #[.slice A n cap, .int .i64 b, .func (.func g) #[] #[]] w (SemiPost (.slice A n cap) (.int .i64 b) (.func (.func g) #[] #[]) w) := by
  go_enter Tryz.func35, Tryz.ntmps35
  go_wp2_with fail
  go_ret
  refine ⟨rfl, ?_, ?_, ?_, ?_⟩
  · exact (((Boxed.new w _ _).alloc _).alloc _)
  · have := (Boxed.new (w.alloc (.cells #[.slice A n cap] 55)) 3 (.int .i64 b)).alloc (.cells #[.func (.func g) #[] #[]] 65)
    rw [World.size_alloc] at this
    exact this
  · have := Boxed.new ((w.alloc (.cells #[.slice A n cap] 55)).alloc (.cells #[.int .i64 b] 3)) 65 (.func (.func g) #[] #[])
    rw [World.size_alloc, World.size_alloc] at this
    exact this
  · exact (((Below.refl _ _).alloc (Nat.le_refl _) _).alloc (by simp) _).alloc (by simp; omega) _
/-- The closures. -/
theorem fromOne_any (k : Int) (a l : Int) (w : World) : Calls Tryz.prog 50 #[.int .i64 k, .string (itx a), .string (itx l)] w (SmallRes (.string (itx (oneF a l))) w) := by
  go_enter Tryz.func50, Tryz.ntmps50
  go_wp2_with fail
  go_ret
  exact ⟨by rw [show oneF a l = 1 from rfl, itx_lit_one]; rfl, Below.refl _ _⟩
theorem fromLast_any (k : Int) (a l : Int) (w : World) : Calls Tryz.prog 78 #[.int .i64 k, .string (itx a), .string (itx l)] w (SmallRes (.string (itx (lastF a l))) w) := by
  go_enter Tryz.func78, Tryz.ntmps78
  go_wp2_with fail
  go_ret
  exact ⟨rfl, Below.refl _ _⟩
end Go.Proofs.YtpafocfpofnkpaaGreatDoor
