/-
  Layer 9: the walk of signs: in which ways actuals for two formals may be compared.
-/
import Derived.Lib.Small
import Derived.Test.YtdmdfokkibijjaaGreatDoorSW29
namespace Go.Proofs.YtdmdfokkibijjaaGreatDoor
open Go.RowKit
open Sgn
set_option linter.unusedVariables false
set_option linter.unusedSimpArgs false

def bothOk (φ : F → F → Int) (f g t : F) : Bool := decide (0 ≤ φ f t) && decide (0 ≤ φ g t)
def likeT (φ : F → F → Int) (f g t : F) : Bool := bothOk φ f g t && decide (φ f t = φ g t)
def lessT (φ : F → F → Int) (f g t : F) : Bool := bothOk φ f g t && decide (φ f t < φ g t)
def moreT (φ : F → F → Int) (f g t : F) : Bool := bothOk φ f g t && decide (φ g t < φ f t)
theorem any_step {α : Type} (p : α → Bool) (l : List α) (k : Nat) (hk : k < l.length) : (l.take (k + 1)).any p = ((l.take k).any p || p l[k]) := by
  rw [List.take_succ_eq_append_getElem hk, List.any_append]
  simp
theorem any_done {α : Type} (p : α → Bool) (l : List α) (k : Nat) (hk : l.length ≤ k) : (l.take k).any p = l.any p := by
  rw [List.take_of_length_le hk]
/-- what one actual says -/
theorem way_cases (φ : F → F → Int) (f g t : F) :
    (decide (0 ≤ φ f t) = false ∧ likeT φ f g t = false ∧ lessT φ f g t = false ∧ moreT φ f g t = false) ∨
    (decide (0 ≤ φ f t) = true ∧ decide (0 ≤ φ g t) = false ∧ likeT φ f g t = false ∧ lessT φ f g t = false ∧ moreT φ f g t = false) ∨
    (decide (0 ≤ φ f t) = true ∧ decide (0 ≤ φ g t) = true ∧ φ f t = φ g t ∧ likeT φ f g t = true ∧ lessT φ f g t = false ∧ moreT φ f g t = false) ∨
    (decide (0 ≤ φ f t) = true ∧ decide (0 ≤ φ g t) = true ∧ φ f t < φ g t ∧ likeT φ f g t = false ∧ lessT φ f g t = true ∧ moreT φ f g t = false) ∨
    (decide (0 ≤ φ f t) = true ∧ decide (0 ≤ φ g t) = true ∧ φ g t < φ f t ∧ likeT φ f g t = false ∧ lessT φ f g t = false ∧ moreT φ f g t = true) := by
  unfold likeT lessT moreT bothOk
  by_cases h1 : 0 ≤ φ f t
  · by_cases h2 : 0 ≤ φ g t
    · have d1 : decide (0 ≤ φ f t) = true := decide_eq_true h1
      have d2 : decide (0 ≤ φ g t) = true := decide_eq_true h2
      rw [d1, d2]
      by_cases h3 : φ f t = φ g t
      · exact .inr (.inr (.inl ⟨rfl, rfl, h3, by simp [h3], by simp [h3], by simp [h3]⟩))
      · by_cases h4 : φ f t < φ g t
        · exact .inr (.inr (.inr (.inl ⟨rfl, rfl, h4, by simp [h3], by simp [h4], by simp; omega⟩)))
        · exact .inr (.inr (.inr (.inr ⟨rfl, rfl, by omega, by simp [h3], by simp; omega, by simp; omega⟩)))
    · have d1 : decide (0 ≤ φ f t) = true := decide_eq_true h1
      have d2 : decide (0 ≤ φ g t) = false := decide_eq_false h2
      rw [d1, d2]
      exact .inr (.inl ⟨rfl, rfl, rfl, rfl, rfl⟩)
  · have d1 : decide (0 ≤ φ f t) = false := decide_eq_false h1
    rw [d1]
    exact .inl ⟨rfl, rfl, rfl, rfl⟩
theorem cmp_eq {x y : Int} (h : x = y) : Lib.compareInt x y = 0 := by
  subst h; unfold Lib.compareInt; simp
theorem cmp_lt {x y : Int} (h : x < y) : Lib.compareInt x y = -1 := by
  unfold Lib.compareInt; simp [h]
theorem cmp_gt {x y : Int} (h : y < x) : Lib.compareInt x y = 1 := by
  unfold Lib.compareInt
  have h1 : ¬ x < y := by omega
  have h2 : ¬ x = y := by omega
  simp [h1, h]
def SignsEnd (f g : F) (e : Ending) : Prop := e = .returned (.tuple #[.bool (allT.any (likeT φF f g)), .bool (allT.any (lessT φF f g)), .bool (allT.any (moreT φF f g))])

end Go.Proofs.YtdmdfokkibijjaaGreatDoor
