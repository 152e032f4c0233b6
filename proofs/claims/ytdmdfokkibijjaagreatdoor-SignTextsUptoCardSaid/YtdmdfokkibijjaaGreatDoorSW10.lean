/-
  The walks of Fits of layer 9, of the program and of the document's answer.
-/
import Derived.Test.YtdmdfokkibijjaaGreatDoorSW9
import Derived.OwnWalk
namespace Go.Proofs.YtdmdfokkibijjaaGreatDoor
open Go.RowKit
open Sgn
set_option linter.unusedVariables false
set_option linter.unusedSimpArgs false

/-- what Fits hands back -/
def FitE (k : ByteArray) (n : Int) (k' : ByteArray) (n' : Int) (z : Int) (e : Ending) : Prop :=
  ((isFormal k n && isActual k' n') = false ∧ e = .returned (.tuple #[.int .i64 0, .bool false, .int .i64 2])) ∨
  ((isFormal k n && isActual k' n') = true ∧ e = .returned (.tuple #[.int .i64 (if z < 0 then 0 else z), .bool (decide (0 ≤ z)), .int .i64 0]))
theorem fitE_no {k k' : ByteArray} {n n' z : Int} (h : (isFormal k n && isActual k' n') = false) : FitE k n k' n' z (.returned (.tuple #[.int .i64 0, .bool false, .int .i64 2])) := .inl ⟨h, rfl⟩
theorem fitE_neg {k k' : ByteArray} {n n' z : Int} (h : (isFormal k n && isActual k' n') = true) (hz : z < 0) : FitE k n k' n' z (.returned (.tuple #[.int .i64 0, .bool false, .int .i64 0])) := .inr ⟨h, by rw [if_pos hz, decide_eq_false (by omega)]⟩
theorem fitE_pos {k k' : ByteArray} {n n' z : Int} (h : (isFormal k n && isActual k' n') = true) (hz : ¬ z < 0) : FitE k n k' n' z (.returned (.tuple #[.int .i64 z, .bool true, .int .i64 0])) := .inr ⟨h, by rw [if_neg hz, decide_eq_true (by omega)]⟩

end Go.Proofs.YtdmdfokkibijjaaGreatDoor
