/-
  The walk of Resolve of the document's answer of layer 9.
-/
import Derived.Test.YtdmdfokkibijjaaGreatDoorSW19
namespace Go.Proofs.YtdmdfokkibijjaaGreatDoor
open Go.RowKit
open Sgn
set_option linter.unusedVariables false
set_option linter.unusedSimpArgs false

theorem cands_lt (φ : F → F → Int) (l : List G) (nm : ByteArray) (ac : List F) (k : Nat) : (cands φ l nm ac k).Pairwise (· < ·) := by
  unfold cands
  rw [List.pairwise_map]
  refine List.Pairwise.filter _ ?_
  exact (List.pairwise_lt_range).imp fun h => by omega
theorem cands_inj {φ : F → F → Int} {l : List G} {nm : ByteArray} {ac : List F} {is : List Int} (h : cands φ l nm ac l.length = is) (i k : Nat) (hi : i < is.length) (hk : k < is.length) (e : is[i] = is[k]) : i = k := by
  have hp := cands_lt φ l nm ac l.length
  rw [h, List.pairwise_iff_getElem] at hp
  by_cases h1 : i < k
  · have := hp i k hi hk h1; omega
  · by_cases h2 : k < i
    · have := hp k i hk hi h2; omega
    · omega
theorem best_step (l : List G) (ac : List F) (is : List Int) (z : Int) (m : Nat) (hm : m < is.length) : (is.take (m + 1)).all (fun y => decide (y = z) || betterL (wlAt φW l ac z) (wlAt φW l ac y)) = ((is.take m).all (fun y => decide (y = z) || betterL (wlAt φW l ac z) (wlAt φW l ac y)) && (decide (is[m] = z) || betterL (wlAt φW l ac z) (wlAt φW l ac is[m]))) := by
  rw [List.take_succ_eq_append_getElem hm, List.all_append]
  simp
theorem best_done (l : List G) (ac : List F) (is : List Int) (z : Int) (m : Nat) (hm : is.length ≤ m) : (is.take m).all (fun y => decide (y = z) || betterL (wlAt φW l ac z) (wlAt φW l ac y)) = isBest φW l ac is z := by
  rw [List.take_of_length_le hm]
  rfl

end Go.Proofs.YtdmdfokkibijjaaGreatDoor
