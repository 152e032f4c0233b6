/-
  The walks of layer 9: in which way an actual fits a formal; of the program and of the document's answer.
-/
import Derived.Test.YtdmdfokkibijjaaGreatDoorSW1
namespace Go.Proofs.YtdmdfokkibijjaaGreatDoor
open Go.RowKit
open Sgn
set_option linter.unusedVariables false
set_option linter.unusedSimpArgs false

/-- what fits hands back -/
def FitsEnd (k : ByteArray) (n : Int) (k' : ByteArray) (n' : Int) (e : Ending) : Prop :=
  e = .returned (.tuple #[.int .i64 (if fitsOf k.toList n k'.toList n' < 0 then 0 else fitsOf k.toList n k'.toList n'), .bool (decide (0 ≤ fitsOf k.toList n k'.toList n'))])
def WayEnd (k : ByteArray) (n : Int) (k' : ByteArray) (n' : Int) (e : Ending) : Prop := e = .returned (.int .i64 (wayOf k.toList n k'.toList n'))

set_option maxHeartbeats 4000000 in
theorem fits_any (k k' : ByteArray) (n n' : Int) (w : World) :
    Calls Tryz.prog 46 #[.agg #[.string k, .int .i64 n], .agg #[.string k', .int .i64 n']] w fun e w' => FitsEnd k n k' n' e ∧ Below w.heap.size w w' := by
  go_enter Tryz.func46, Tryz.ntmps46
  go_wp2_with fail
  all_goals go_ret2
  all_goals refine ⟨?_, ((Below.refl _ _).alloc (Nat.le_refl _) _).alloc (by simp) _⟩
  all_goals unfold FitsEnd
  all_goals generalize hx : fitsOf _ _ _ _ = x
  all_goals first
    | (obtain rfl : x = 0 := by rw [← hx]; clear hx; unfold fitsOf; simp_all); rfl
    | (obtain rfl : x = 1 := by rw [← hx]; clear hx; unfold fitsOf; simp_all); rfl
    | (obtain rfl : x = 2 := by rw [← hx]; clear hx; unfold fitsOf; simp_all); rfl
    | (obtain rfl : x = 3 := by rw [← hx]; clear hx; unfold fitsOf; simp_all); rfl
    | (obtain rfl : x = 4 := by rw [← hx]; clear hx; unfold fitsOf; simp_all); rfl
    | (obtain rfl : x = -1 := by rw [← hx]; clear hx; unfold fitsOf; simp_all); rfl

theorem box2_below {w w1 : World} {o o2 : Obj} (h : Below ((w.alloc o).alloc o2).heap.size ((w.alloc o).alloc o2) w1) : Below w.heap.size w w1 :=
  Below.trans (((Below.refl _ _).alloc (Nat.le_refl _) _).alloc (by simp) _) (h.mono (by simp; omega))

end Go.Proofs.YtdmdfokkibijjaaGreatDoor
