/-
  The walks of Ways of layer 9, of the program and of the document's answer; the plain law that the ways of both are the same.
-/
import Derived.Test.YtdmdfokkibijjaaGreatDoorSW10
import Derived.Test.YtdmdfokkibijjaaGreatDoorSW13
namespace Go.Proofs.YtdmdfokkibijjaaGreatDoor
open Go.RowKit
open Sgn
set_option linter.unusedVariables false
set_option linter.unusedSimpArgs false

theorem wl_same : ∀ (fs ac : List F), (∀ f ∈ fs, isFormal f.k f.n = true) → (∀ a ∈ ac, isActual a.k a.n = true) → wl φF fs ac = wl φW fs ac
  | [], _, _, _ => by simp [wl]
  | _ :: _, [], _, _ => by simp [wl]
  | f :: fs, a :: ac, hf, ha => by
    have h1 := fits_way f a (hf f (by simp)) (ha a (by simp))
    have h2 := wl_same fs ac (fun x hx => hf x (by simp [hx])) (fun x hx => ha x (by simp [hx]))
    unfold wl at h2 ⊢
    rw [List.zipWith_cons_cons, List.zipWith_cons_cons, h1, h2]
theorem waysOk_same (fs ac : List F) (hf : ∀ f ∈ fs, isFormal f.k f.n = true) (ha : ∀ a ∈ ac, isActual a.k a.n = true) : waysOk φF fs ac = waysOk φW fs ac := by
  unfold waysOk; rw [wl_same fs ac hf ha]
theorem validG_formals {g : G} (h : validG g = true) : ∀ f ∈ g.fs, isFormal f.k f.n = true := by
  unfold validG at h
  rw [Bool.and_eq_true, List.all_eq_true] at h
  exact h.1
theorem validG_len {g : G} (h : validG g = true) : g.fs.length ≤ 1000 := by
  unfold validG at h
  simp only [Bool.and_eq_true, decide_eq_true_eq] at h
  omega

/-- what Ways hands back -/
def WaysE (φ : F → F → Int) (g : G) (ac : List F) (w' : World) (e : Ending) : Prop :=
  ((validG g && ac.all fun f => isActual f.k f.n) = false ∧ e = .returned (.tuple #[.slice none 0 0, .bool false, .int .i64 2])) ∨
  ((validG g && ac.all fun f => isActual f.k f.n) = true ∧ waysOk φ g.fs ac = false ∧ e = .returned (.tuple #[.slice none 0 0, .bool false, .int .i64 0])) ∨
  ((validG g && ac.all fun f => isActual f.k f.n) = true ∧ waysOk φ g.fs ac = true ∧ ∃ v, e = .returned (.tuple #[v, .bool true, .int .i64 0]) ∧ ISl w' v (wl φ g.fs ac))

end Go.Proofs.YtdmdfokkibijjaaGreatDoor
