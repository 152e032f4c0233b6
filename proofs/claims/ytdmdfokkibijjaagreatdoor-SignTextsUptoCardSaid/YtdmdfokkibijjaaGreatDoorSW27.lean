/-
  Layer 9: what Ways, Better and Fits hand back, as values; the walks of SignBetter, SignWays and SignFits.
-/
import Derived.Test.YtdmdfokkibijjaaGreatDoorSW25
namespace Go.Proofs.YtdmdfokkibijjaaGreatDoor
open Go.RowKit
open Sgn
set_option linter.unusedVariables false
set_option linter.unusedSimpArgs false

def bV (s t : G) (ac : List F) : Bool × Int := if betterOk s t ac = true then (betterV φF s t ac, 0) else (false, 2)
theorem bV_of {s t : G} {ac : List F} {e : Ending} (h : BetterE φF s t ac e) : e = .returned (.tuple #[.bool (bV s t ac).1, .int .i64 (bV s t ac).2]) := by
  unfold bV
  rcases h with ⟨h, rfl⟩ | ⟨h, rfl⟩ <;> simp [h]
theorem betterE_same {s t : G} {ac : List F} {e : Ending} (h : BetterE φW s t ac e) : BetterE φF s t ac e := by
  cases hc : betterOk s t ac
  · rcases h with h | h
    · exact .inl h
    · rw [hc] at h; cases h.1
  · have h1 := hc
    unfold betterOk at h1
    simp only [Bool.and_eq_true] at h1
    have ha : ∀ a ∈ ac, isActual a.k a.n = true := List.all_eq_true.1 h1.2.2
    unfold BetterE betterV at h ⊢
    rw [wl_same s.fs ac (validG_formals h1.1) ha, wl_same t.fs ac (validG_formals h1.2.1) ha, waysOk_same s.fs ac (validG_formals h1.1) ha, waysOk_same t.fs ac (validG_formals h1.2.1) ha]
    exact h
def wV (g : G) (ac : List F) : List Int × Bool × Int :=
  if (validG g && ac.all fun f => isActual f.k f.n) = true then (if waysOk φF g.fs ac = true then (wl φF g.fs ac, true, 0) else ([], false, 0)) else ([], false, 2)
theorem wV_of {g : G} {ac : List F} {w' : World} {e : Ending} (h : WaysE φF g ac w' e) : ∃ v, e = .returned (.tuple #[v, .bool (wV g ac).2.1, .int .i64 (wV g ac).2.2]) ∧ ISl w' v (wV g ac).1 := by
  unfold wV
  rcases h with ⟨h, rfl⟩ | ⟨h, h2, rfl⟩ | ⟨h, h2, v, rfl, hI⟩
  · exact ⟨.slice none 0 0, by rw [h]; rfl, by rw [h]; exact ISl.nil _⟩
  · exact ⟨.slice none 0 0, by rw [h, h2]; rfl, by rw [h, h2]; exact ISl.nil _⟩
  · exact ⟨v, by rw [h, h2]; rfl, by rw [h, h2]; exact hI⟩
theorem waysE_same {g : G} {ac : List F} {w' : World} {e : Ending} (h : WaysE φW g ac w' e) : WaysE φF g ac w' e := by
  cases hc : (validG g && ac.all fun f => isActual f.k f.n)
  · rcases h with h | h | h
    · exact .inl h
    · rw [hc] at h; cases h.1
    · rw [hc] at h; cases h.1
  · have h1 := hc
    simp only [Bool.and_eq_true] at h1
    have ha : ∀ a ∈ ac, isActual a.k a.n = true := List.all_eq_true.1 h1.2
    unfold WaysE at h ⊢
    rw [wl_same g.fs ac (validG_formals h1.1) ha, waysOk_same g.fs ac (validG_formals h1.1) ha]
    exact h

def WaysW (g : G) (ac : List F) (w w' : World) (e : Ending) : Prop := ∃ v, e = .returned (.tuple #[v, .bool (wV g ac).2.1, .int .i64 (wV g ac).2.2]) ∧ Hid (ISl w' v (wV g ac).1) ∧ Below w.heap.size w w'
theorem box3 {w w1 : World} {a b c : Value} {T : TypeId} (hb : Below (w.alloc (.cells #[a, b, c] T)).heap.size (w.alloc (.cells #[a, b, c] T)) w1) : w1.cell? ⟨w.heap.size, 0, none⟩ = some a ∧ w1.cell? ⟨w.heap.size, 1, none⟩ = some b ∧ w1.cell? ⟨w.heap.size, 2, none⟩ = some c :=
  ⟨(hb.cell (by simp)).trans (cells_new' w #[a, b, c] T 0 _ rfl rfl), (hb.cell (by simp)).trans (cells_new' w #[a, b, c] T 1 _ rfl rfl), (hb.cell (by simp)).trans (cells_new' w #[a, b, c] T 2 _ rfl rfl)⟩
theorem held_last3 {S1 S2 S3 : Prop} {wr w2 : World} (h : S1 ∧ S2 ∧ S3 ∧ Below wr.heap.size wr w2) : Below wr.heap.size wr w2 := h.2.2.2
theorem box33 {w w1 : World} {a b c a' b' c' : Value} {T : TypeId} (hb : Below ((w.alloc (.cells #[a, b, c] T)).alloc (.cells #[a', b', c'] T)).heap.size ((w.alloc (.cells #[a, b, c] T)).alloc (.cells #[a', b', c'] T)) w1) :
    w1.cell? ⟨w.heap.size, 0, none⟩ = some a ∧ w1.cell? ⟨w.heap.size, 1, none⟩ = some b ∧ w1.cell? ⟨w.heap.size, 2, none⟩ = some c ∧ w1.cell? ⟨w.heap.size + 1, 0, none⟩ = some a' ∧ w1.cell? ⟨w.heap.size + 1, 1, none⟩ = some b' ∧ w1.cell? ⟨w.heap.size + 1, 2, none⟩ = some c' := by
  have h1 := box3 (box_below hb)
  have e : (w.alloc (.cells #[a, b, c] T)).heap.size = w.heap.size + 1 := by simp
  have h2 := box3 hb
  rw [e] at h2
  have hb0 : Below (w.alloc (.cells #[a, b, c] T)).heap.size (w.alloc (.cells #[a, b, c] T)) w1 := box_below hb
  exact ⟨(box3 hb0).1, (box3 hb0).2.1, (box3 hb0).2.2, h2.1, h2.2.1, h2.2.2⟩

end Go.Proofs.YtdmdfokkibijjaaGreatDoor
