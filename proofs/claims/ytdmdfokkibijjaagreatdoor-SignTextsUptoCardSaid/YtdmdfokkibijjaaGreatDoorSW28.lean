/-
  Layer 9: the walk of SignFits.
-/
import Derived.Test.YtdmdfokkibijjaaGreatDoorSW27
namespace Go.Proofs.YtdmdfokkibijjaaGreatDoor
open Go.RowKit
open Sgn
set_option linter.unusedVariables false
set_option linter.unusedSimpArgs false

def fV (f a : F) : Int × Bool × Int := if (isFormal f.k f.n && isActual a.k a.n) = true then (if φF f a < 0 then 0 else φF f a, decide (0 ≤ φF f a), 0) else (0, false, 2)
theorem fV_of {f a : F} {e : Ending} (h : FitE f.k f.n a.k a.n (φF f a) e) : e = .returned (.tuple #[.int .i64 (fV f a).1, .bool (fV f a).2.1, .int .i64 (fV f a).2.2]) := by
  unfold fV
  rcases h with ⟨h, rfl⟩ | ⟨h, rfl⟩
  · rw [h]; rfl
  · rw [h]; rfl
theorem fitE_same {f a : F} {e : Ending} (h : FitE f.k f.n a.k a.n (φW f a) e) : FitE f.k f.n a.k a.n (φF f a) e := by
  rcases h with h | ⟨h, he⟩
  · exact .inl h
  · have h1 := h
    rw [Bool.and_eq_true] at h1
    exact .inr ⟨h, by rw [fits_way f a h1.1 h1.2]; exact he⟩
theorem box22 {w w1 : World} {a b a' b' : Value} {T : TypeId} (hb : Below ((w.alloc (.cells #[a, b] T)).alloc (.cells #[a', b'] T)).heap.size ((w.alloc (.cells #[a, b] T)).alloc (.cells #[a', b'] T)) w1) :
    w1.cell? ⟨w.heap.size, 0, none⟩ = some a ∧ w1.cell? ⟨w.heap.size, 1, none⟩ = some b ∧ w1.cell? ⟨w.heap.size + 1, 0, none⟩ = some a' ∧ w1.cell? ⟨w.heap.size + 1, 1, none⟩ = some b' := by
  have hb0 : Below (w.alloc (.cells #[a, b] T)).heap.size (w.alloc (.cells #[a, b] T)) w1 := box_below hb
  exact ⟨(hb0.cell (by simp)).trans (cells_new' w #[a, b] T 0 _ rfl rfl), (hb0.cell (by simp)).trans (cells_new' w #[a, b] T 1 _ rfl rfl),
    (hb.cell (by simp)).trans (cells_new' _ #[a', b'] T 0 _ rfl (by simp)), (hb.cell (by simp)).trans (cells_new' _ #[a', b'] T 1 _ rfl (by simp))⟩

end Go.Proofs.YtdmdfokkibijjaaGreatDoor
