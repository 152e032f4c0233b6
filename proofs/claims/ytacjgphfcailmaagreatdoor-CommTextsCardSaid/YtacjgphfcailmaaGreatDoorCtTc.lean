/-
  What the listed variables read as behind the initialisers.
-/
import Derived.Test.YtacjgphfcailmaaGreatDoorCtTb
import Derived.Test.YtacjgphfcailmaaGreatDoorRows
namespace Go.Proofs.YtacjgphfcailmaaGreatDoor
open Go
namespace Ti
theorem a8 : ∀ os tape, (DataW.laidRun Tryz.prog (varsWorld Tryz.prog 400 (varsId Tryz.prog) os tape).memory 8 (L.map (·.1))).map (·.1) = some L := fun _ _ => by kernel_rfl
end Ti
end Go.Proofs.YtacjgphfcailmaaGreatDoor
