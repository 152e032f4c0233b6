/-
  The run of the machine: the other rounds, and what it returns.
-/
import Derived.Test.YtmnlcockdbaibaaGreatDoorPnSd
namespace Go.Proofs.YtmnlcockdbaibaaGreatDoor
open Go.RowKit
namespace Ev
set_option maxRecDepth 100000 in
theorem ru2 : landV (fin1 Tryz.prog 100000 (restK 3 fnR.2) fnR.1.results.toList ⟨tmsR.length, fromL tmsR 0⟩ 2875 memR []) retR memV = true := by kernel_rfl
end Ev
end Go.Proofs.YtmnlcockdbaibaaGreatDoor
