/-
  The walks of the document's answer of layer 9: are all of a list actuals, are all of a list signatures and actuals; Fits of both; the plain law that the ways of both are the same.
-/
import Derived.Test.YtdmdfokkibijjaaGreatDoorSW8
namespace Go.Proofs.YtdmdfokkibijjaaGreatDoor
open Go.RowKit
open Sgn
set_option linter.unusedVariables false
set_option linter.unusedSimpArgs false

theorem list_of_formal {k : ByteArray} {n : Int} (h : isFormal k n = true) : k.toList = [105, 110, 116] ∨ k.toList = [98, 111, 111, 108] ∨ k.toList = [100, 111, 109, 97, 105, 110] ∨ k.toList = [97, 114, 114, 97, 121] ∨ k.toList = [97, 110, 121] := by
  rcases kinds k with rfl | rfl | rfl | rfl | rfl | rfl | ho
  · exact .inl (by simp [Lib.toList_data])
  · exact .inr (.inl (by simp [Lib.toList_data]))
  · rw [isFormal_3] at h; cases h
  · exact .inr (.inr (.inl (by simp [Lib.toList_data])))
  · exact .inr (.inr (.inr (.inl (by simp [Lib.toList_data]))))
  · exact .inr (.inr (.inr (.inr (by simp [Lib.toList_data]))))
  · rw [isFormal_7 n ho, isType_7 n ho] at h; cases h
theorem rank_of_plain {k : ByteArray} {n : Int} (h : isActual k n = true) (hk : k.toList = [105, 110, 116] ∨ k.toList = [98, 111, 111, 108]) : n = 0 := by
  have ht : isType k n = true := by unfold isActual at h; simp at h; exact h.1
  rcases hk with hk | hk
  all_goals
    unfold isType at ht
    rw [hk] at ht
    simpa using ht
theorem not_any_actual {k : ByteArray} {n : Int} (h : isActual k n = true) : ¬ k.toList = [97, 110, 121] := by
  intro hk
  have ht : isType k n = true := by unfold isActual at h; simp at h; exact h.1
  unfold isType at ht
  rw [hk] at ht
  revert ht; simp
/-- THE PLAIN LAW: where the former is a formal, and the latter an actual, both switches go the same way. -/
theorem fits_way (f a : F) (hf : isFormal f.k f.n = true) (ha : isActual a.k a.n = true) : φF f a = φW f a := by
  unfold φF φW fitsOf wayOf
  by_cases h0 : f.k.toList = a.k.toList ∧ f.n = a.n
  · rw [if_pos h0, if_pos h0]
  · rw [if_neg h0, if_neg h0]
    by_cases h1 : f.k.toList = [105, 110, 116] ∧ a.k.toList = [98, 111, 111, 108]
    · rw [if_pos h1, if_pos h1]
    · rw [if_neg h1, if_neg h1]
      by_cases h2 : f.n = 0 ∧ f.k.toList = a.k.toList
      · rw [if_pos h2]
        obtain ⟨hn, he⟩ := h2
        rcases list_of_formal hf with h | h | h | h | h
        · exact absurd ⟨he, by rw [hn, rank_of_plain ha (.inl (he ▸ h))]⟩ h0
        · exact absurd ⟨he, by rw [hn, rank_of_plain ha (.inr (he ▸ h))]⟩ h0
        · rw [if_pos ⟨.inl h, hn, he⟩]
        · rw [if_pos ⟨.inr h, hn, he⟩]
        · exact absurd (he ▸ h) (not_any_actual ha)
      · have h3 : ¬ ((f.k.toList = [100, 111, 109, 97, 105, 110] ∨ f.k.toList = [97, 114, 114, 97, 121]) ∧ f.n = 0 ∧ f.k.toList = a.k.toList) := fun h => h2 h.2
        rw [if_neg h2, if_neg h3]

end Go.Proofs.YtdmdfokkibijjaaGreatDoor
