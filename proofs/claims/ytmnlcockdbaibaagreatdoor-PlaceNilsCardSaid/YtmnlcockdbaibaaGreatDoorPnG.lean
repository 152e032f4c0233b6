/-
  Closed facts of the translated program.
-/
import Derived.Test.YtmnlcockdbaibaaGreatDoorPnF
namespace Go.Proofs.YtmnlcockdbaibaaGreatDoor
open Go.ChangeShapes Go.WideShapes Go.ChangeAt Go.Deep Go.RowKit
namespace Pn
theorem fRowed : mapsRowed Tryz.prog = true := by kernel_rfl
theorem fHeard : Tryz.prog.stopsHeard = true := by kernel_rfl
theorem fEnter : Tryz.prog.mayEnter = true := by kernel_rfl
theorem fLooks : Tryz.prog.looks [] = false := by kernel_rfl
end Pn
end Go.Proofs.YtmnlcockdbaibaaGreatDoor
