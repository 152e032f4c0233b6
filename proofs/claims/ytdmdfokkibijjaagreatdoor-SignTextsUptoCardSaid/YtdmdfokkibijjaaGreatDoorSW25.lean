/-
  Layer 9: the walk of SignOrder.
-/
import Derived.Test.YtdmdfokkibijjaaGreatDoorSW24
namespace Go.Proofs.YtdmdfokkibijjaaGreatDoor
open Go.RowKit
open Sgn
set_option linter.unusedVariables false
set_option linter.unusedSimpArgs false

/-- the cells of a list of signatures, in a row -/
def GRow (w : World) (xs : List Value) (gs : List G) : Prop :=
  xs.length = 3 * gs.length ∧ ∀ i (h : i < gs.length), ∃ x, xs[i * 3]? = some (.string gs[i].name) ∧ xs[i * 3 + 1]? = some x ∧ xs[i * 3 + 2]? = some (.string gs[i].res) ∧ FSl w x gs[i].fs
theorem GRow.nil (w : World) : GRow w [] [] := ⟨rfl, fun i h => by cases h⟩
theorem GRow.snoc {w : World} {xs : List Value} {gs : List G} (h : GRow w xs gs) {g : G} {x : Value} (hx : FSl w x g.fs) : GRow w (xs ++ [.string g.name, x, .string g.res]) (gs ++ [g]) := by
  refine ⟨by simp [h.1]; omega, fun i hi => ?_⟩
  by_cases hin : i < gs.length
  · obtain ⟨y, h1, h2, h3, h4⟩ := h.2 i hin
    have hl := h.1
    refine ⟨y, ?_, ?_, ?_, ?_⟩
    · rw [List.getElem_append_left hin, List.getElem?_append_left (by omega)]; exact h1
    · rw [List.getElem?_append_left (by omega)]; exact h2
    · rw [List.getElem_append_left hin, List.getElem?_append_left (by omega)]; exact h3
    · rw [List.getElem_append_left hin]; exact h4
  · have he : i = gs.length := by simp at hi; omega
    subst he
    have hl := h.1
    refine ⟨x, ?_, ?_, ?_, ?_⟩
    · rw [List.getElem?_append_right (by omega), List.getElem_append_right (Nat.le_refl _)]
      simp [hl, show gs.length * 3 - 3 * gs.length = 0 by omega]
    · rw [List.getElem?_append_right (by omega)]
      simp [hl, show gs.length * 3 + 1 - 3 * gs.length = 1 by omega]
    · rw [List.getElem?_append_right (by omega), List.getElem_append_right (Nat.le_refl _)]
      simp [hl, show gs.length * 3 + 2 - 3 * gs.length = 2 by omega]
    · rw [List.getElem_append_right (Nat.le_refl _)]
      simpa using hx
theorem signInfo : (Tryz.prog.info? 25).map (fun i => (i.zero, i.size, i.bytes)) = some (some (.agg #[.string ⟨#[]⟩, .slice none 0 0, .string ⟨#[]⟩]), 3, 56) := by kernel_rfl
theorem GSl.own {w w0 : World} {base : Nat} {v : Value} {xs : List Value} {gs : List G} (h : w.ownsRow base 25 3 v gs.length xs) (hg : GRow w0 xs gs) (hb : Below w0.heap.size w0 w) : GSl w v gs := by
  rcases h.2 with ⟨rfl, h0⟩ | ⟨g, cap, cur, rfl, _, hh, hnc, hm, hsz, htk⟩
  · have : gs = [] := by
      have h1 := hg.1
      cases gs with
      | nil => rfl
      | cons a b => simp at h0
    subst this
    exact ⟨none, 0, rfl, Nat.le_refl _, Nat.zero_le _, fun h => by cases h⟩
  · refine ⟨_, cap, rfl, hnc, hm, fun _ => ⟨g, 0, rfl, fun i hi => ?_⟩⟩
    obtain ⟨x, h1, h2, h3, h4⟩ := hg.2 i hi
    have hl := hg.1
    refine ⟨x, ?_, ?_, ?_, h4.on hb⟩
    · rw [Nat.zero_add, h.cellAt (i * 3) (by omega), h1]
    · rw [Nat.zero_add, h.cellAt (i * 3 + 1) (by omega), h2]
    · rw [Nat.zero_add, h.cellAt (i * 3 + 2) (by omega), h3]

theorem turned_at (l : List G) (k : Nat) (hk : k < l.length) : l.reverse.take (k + 1) = l.reverse.take k ++ [l[l.length - 1 - k]] := by
  rw [List.take_succ_eq_append_getElem (by simpa using hk), List.getElem_reverse]

end Go.Proofs.YtdmdfokkibijjaaGreatDoor
