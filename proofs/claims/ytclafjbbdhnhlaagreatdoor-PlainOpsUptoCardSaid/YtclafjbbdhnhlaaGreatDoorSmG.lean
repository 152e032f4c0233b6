/-
  Closed facts of the translated program.
-/
import Derived.Test.YtclafjbbdhnhlaaGreatDoorSmF
namespace Go.Proofs.YtclafjbbdhnhlaaGreatDoor
open Go.ChangeShapes Go.WideShapes Go.ChangeAt Go.Deep Go.RowKit
namespace Sm
theorem fRowed : mapsRowed Tryz.prog = true := by kernel_rfl
theorem fHeard : Tryz.prog.stopsHeard = true := by kernel_rfl
theorem fEnter : Tryz.prog.mayEnter = true := by kernel_rfl
theorem fLooks : Tryz.prog.looks [] = false := by kernel_rfl
end Sm
end Go.Proofs.YtclafjbbdhnhlaaGreatDoor
