/-
  The run of the machine: its first rounds.
-/
import Derived.Test.YtmnlcockdbaibaaGreatDoorPnSd
namespace Go.Proofs.YtmnlcockdbaibaaGreatDoor
open Go.RowKit
namespace Ev
set_option maxRecDepth 100000 in
theorem ru1 : landB (cut1 (evC Tryz.prog 100000) 3 10 fnR.2 ⟨max fnR.1.ntmps ([.ptr 2093 0, .nils, .int .i64 500] : List AV).length, fromL [.ptr 2093 0, .nils, .int .i64 500] 0⟩ 2094 mem2 []) tmsR 2875 memR = true := by kernel_rfl
end Ev
end Go.Proofs.YtmnlcockdbaibaaGreatDoor
