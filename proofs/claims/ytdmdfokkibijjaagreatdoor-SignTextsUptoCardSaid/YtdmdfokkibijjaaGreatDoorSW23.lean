/-
  Layer 9: what Candidates and Resolve hand back, as values; the walk of SignResolves.
-/
import Derived.Test.YtdmdfokkibijjaaGreatDoorSW22
namespace Go.Proofs.YtdmdfokkibijjaaGreatDoor
open Go.RowKit
open Sgn
set_option linter.unusedVariables false
set_option linter.unusedSimpArgs false

def candV (l : List G) (nm : ByteArray) (ac : List F) : List Int × Int := if callOk l ac = true then (cands φF l nm ac l.length, 0) else ([], 2)
def resV (l : List G) (nm : ByteArray) (ac : List F) : Int × List Bool × Int :=
  if callOk l ac = true then
    if cands φF l nm ac l.length = [] then (0, [], 90)
    else match (cands φF l nm ac l.length).find? (isBest φF l ac (cands φF l nm ac l.length)) with
      | none => (0, [], 91)
      | some z => (z, promo (wlAt φF l ac z), 0)
  else (0, [], 2)
theorem ISl.nil (w : World) : ISl w (.slice none 0 0) [] := ⟨none, 0, rfl, Nat.le_refl _, Nat.zero_le _, fun h => by cases h⟩
theorem BSl.nil (w : World) : BSl w (.slice none 0 0) [] := ⟨none, 0, rfl, Nat.le_refl _, Nat.zero_le _, fun h => by cases h⟩

section
variable {l : List G} {nm : ByteArray} {ac : List F} {w' : World} {e : Ending}
theorem candV_of (h : CandEnd φF l nm ac w' e) : ∃ v, e = .returned (.tuple #[v, .int .i64 (candV l nm ac).2]) ∧ ISl w' v (candV l nm ac).1 := by
  unfold candV
  rcases h with ⟨h, rfl⟩ | ⟨h, v, rfl, hI⟩
  · exact ⟨.slice none 0 0, by simp [h], by simp [h]; exact ISl.nil _⟩
  · exact ⟨v, by simp [h], by simpa [h] using hI⟩
theorem resV_of (h : ResE φF l nm ac w' e) : ∃ v, e = .returned (.tuple #[.int .i64 (resV l nm ac).1, v, .int .i64 (resV l nm ac).2.2]) ∧ BSl w' v (resV l nm ac).2.1 := by
  unfold resV
  rcases h with ⟨h, rfl⟩ | ⟨h, h0, rfl⟩ | ⟨h, h0, hf, rfl⟩ | ⟨h, h0, z, v, hf, rfl, hB⟩
  · exact ⟨.slice none 0 0, by simp [h], by simp [h]; exact BSl.nil _⟩
  · exact ⟨.slice none 0 0, by simp [h, h0], by simp [h, h0]; exact BSl.nil _⟩
  · exact ⟨.slice none 0 0, by simp [h, h0, hf], by simp [h, h0, hf]; exact BSl.nil _⟩
  · exact ⟨v, by simp [h, h0, hf], by simpa [h, h0, hf] using hB⟩
end

def CandW (l : List G) (nm : ByteArray) (ac : List F) (w w' : World) (e : Ending) : Prop := ∃ v, e = .returned (.tuple #[v, .int .i64 (candV l nm ac).2]) ∧ Hid (ISl w' v (candV l nm ac).1) ∧ Below w.heap.size w w'
def ResW (l : List G) (nm : ByteArray) (ac : List F) (w w' : World) (e : Ending) : Prop := ∃ v, e = .returned (.tuple #[.int .i64 (resV l nm ac).1, v, .int .i64 (resV l nm ac).2.2]) ∧ Hid (BSl w' v (resV l nm ac).2.1) ∧ Below w.heap.size w w'

section
variable (l : List G) (nm : ByteArray) (ac : List F) (v u : Value) (w : World) (HT : Hid (Tab w)) (HS : Hid (∀ g ∈ l, g.name.size ≤ 4611686018427387904)) (hv : GSl w v l) (hu : FSl w u ac) (hl : l.length ≤ 1000)
include HT HS hv hu hl
theorem Candidates_v : Calls Tryz.prog 26 #[v, .string nm, u] w fun e w' => CandW l nm ac w w' e :=
  (Candidates_any l nm ac v u w HT HS hv hu hl).mono fun e w' ⟨h, hb⟩ => let ⟨v, he, hI⟩ := candV_of h; ⟨v, he, hI, hb⟩
theorem Resolve_v : Calls Tryz.prog 13 #[v, .string nm, u] w fun e w' => ResW l nm ac w w' e :=
  (Resolve_any l nm ac v u w HT HS hv hu hl).mono fun e w' ⟨h, hb⟩ => let ⟨v, he, hI⟩ := resV_of h; ⟨v, he, hI, hb⟩
end
theorem manyG_len {l : List G} (h : manyG l = false) : l.length ≤ 1000 := by
  unfold manyG at h
  rw [Bool.or_eq_false_iff] at h
  have := h.2
  simp at this
  omega

end Go.Proofs.YtdmdfokkibijjaaGreatDoor
