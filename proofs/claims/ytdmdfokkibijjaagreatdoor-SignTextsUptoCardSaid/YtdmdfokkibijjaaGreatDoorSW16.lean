/-
  The walks of the small functions of the statements of layer 9: Long.
-/
import Derived.Test.YtdmdfokkibijjaaGreatDoorSW14
namespace Go.Proofs.YtdmdfokkibijjaaGreatDoor
open Go.RowKit
open Sgn
set_option linter.unusedVariables false
set_option linter.unusedSimpArgs false

theorem Long_any (g : G) (v : Value) (w : World) (hv : GV w v g) :
    Calls Tryz.prog 9 #[v] w fun e w' => e = .returned (.bool (decide (50 < g.fs.length))) ∧ Below w.heap.size w w' := by
  obtain ⟨x, rfl, A, cap, rfl, hca, hma, hA⟩ := hv
  obtain ⟨name, fs, res⟩ := g
  simp only at hca hma ⊢
  have hmax : maxLen = 9223372036854775807 := rfl
  rw [hmax] at hma
  clear hA hmax
  go_enter Tryz.func9, Tryz.ntmps9
  go_wp2_with fail
  go_ret
  refine ⟨?_, (Below.refl _ _).alloc (Nat.le_refl _) _⟩
  show Ending.returned (.bool (decide (50 < (fs.length : Int)))) = _
  congr 2
  rw [decide_eq_decide]
  omega

def manyG (l : List G) : Bool := !(l.all fun g => !(decide (50 < g.fs.length))) || decide (40 < l.length)

end Go.Proofs.YtdmdfokkibijjaaGreatDoor
