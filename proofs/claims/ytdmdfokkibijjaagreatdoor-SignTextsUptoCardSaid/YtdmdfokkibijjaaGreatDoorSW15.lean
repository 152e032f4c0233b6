/-
  The walks of Better of layer 9, of the program and of the document's answer.
-/
import Derived.Test.YtdmdfokkibijjaaGreatDoorSW14
namespace Go.Proofs.YtdmdfokkibijjaaGreatDoor
open Go.RowKit
open Sgn
set_option linter.unusedVariables false
set_option linter.unusedSimpArgs false

def betterOk (s t : G) (ac : List F) : Bool := validG s && (validG t && ac.all fun f => isActual f.k f.n)
def betterV (φ : F → F → Int) (s t : G) (ac : List F) : Bool := waysOk φ s.fs ac && (waysOk φ t.fs ac && betterL (wl φ s.fs ac) (wl φ t.fs ac))
/-- what Better hands back -/
def BetterE (φ : F → F → Int) (s t : G) (ac : List F) (e : Ending) : Prop :=
  (betterOk s t ac = false ∧ e = .returned (.tuple #[.bool false, .int .i64 2])) ∨
  (betterOk s t ac = true ∧ e = .returned (.tuple #[.bool (betterV φ s t ac), .int .i64 0]))
theorem betterE_no {φ : F → F → Int} {s t : G} {ac : List F} (h : betterOk s t ac = false) : BetterE φ s t ac (.returned (.tuple #[.bool false, .int .i64 2])) := .inl ⟨h, rfl⟩
theorem betterE_at {φ : F → F → Int} {s t : G} {ac : List F} {q : Bool} (h : betterOk s t ac = true) (hq : betterV φ s t ac = q) : BetterE φ s t ac (.returned (.tuple #[.bool q, .int .i64 0])) := .inr ⟨h, by rw [hq]⟩
theorem wl_lens {φ : F → F → Int} {fs fs' ac : List F} (h : waysOk φ fs ac = true) (h' : waysOk φ fs' ac = true) : (wl φ fs ac).length = (wl φ fs' ac).length := by
  unfold waysOk at h h'
  simp only [Bool.and_eq_true, decide_eq_true_eq] at h h'
  rw [wl_length h.1, wl_length h'.1]
  omega

end Go.Proofs.YtdmdfokkibijjaaGreatDoor
