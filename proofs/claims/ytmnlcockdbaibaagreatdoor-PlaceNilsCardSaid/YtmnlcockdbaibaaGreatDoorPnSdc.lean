/-
  First behind the run.
-/
import Derived.Test.YtmnlcockdbaibaaGreatDoorPnSd
namespace Go.Proofs.YtmnlcockdbaibaaGreatDoor
open Go.RowKit
namespace Ev
noncomputable def cR : Code := restK 3 (restK 2 (fnF.2))
theorem cR_sh : cR = .seq (.region (idOf cR) (opsOf cR) false) (restOf cR) := by kernel_rfl
set_option maxRecDepth 100000 in
theorem ch3 : landB (preM Tryz.prog (evC Tryz.prog 100000) 1 cR ⟨tms2.length, fromL tms2 0⟩ 2094 mem2 []) tmsP 2094 mem2 = true := by kernel_rfl
theorem ch3a : argsB 1 5 cR ⟨tmsP.length, fromL tmsP 0⟩ [.ptr 2093 0, .nils, .int .i64 500] = true := by kernel_rfl
set_option maxRecDepth 100000 in
theorem ch3b : postB Tryz.prog (evC Tryz.prog 100000) 1 fnF.1.results.toList cR ⟨tmsP.length, fromL tmsP 0⟩ retR 3386 memV = true := by kernel_rfl
end Ev
end Go.Proofs.YtmnlcockdbaibaaGreatDoor
