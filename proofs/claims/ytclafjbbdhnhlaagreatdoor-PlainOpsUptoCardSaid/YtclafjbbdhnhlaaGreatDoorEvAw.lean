/-
  The sanity check of the layer returns true: the small machine finds it.
-/
import Derived.Test.YtclafjbbdhnhlaaGreatDoorEvP
namespace Go.Proofs.YtclafjbbdhnhlaaGreatDoor
open Go.RowKit
namespace Ev
set_option maxRecDepth 100000 in
theorem awake_true : isTrue (callA Tryz.prog (evC Tryz.prog 100000) 9 [] 0 .leaf []) = true := by kernel_rfl
theorem awake_calls (w : World) : Calls Tryz.prog 9 #[] w fun e w' => e = .returned (.bool true) ∧ Below w.heap.size w w' :=
  awake_of (by kernel_rfl) awake_true w
end Ev
end Go.Proofs.YtclafjbbdhnhlaaGreatDoor
