/-
  Layer 9: are two signatures ambiguous: the plain words; the walk of Ambiguous.
-/
import Derived.Test.YtdmdfokkibijjaaDoorSW31
import Derived.Maps.AppendAt
namespace Go.Proofs.YtdmdfokkibijjaaDoor
open Go.RowKit
open Sgn
set_option linter.unusedVariables false
set_option linter.unusedSimpArgs false

/-- the indexes below k at which p holds -/
def idxs {α : Type} (p : α → Bool) (ps : List α) (k : Nat) : List Int :=
  ((List.range k).filter fun i => match ps[i]? with
    | some x => p x
    | none => false).map fun i : Nat => (i : Int)
theorem idxs_yes {α : Type} {p : α → Bool} {ps : List α} {k : Nat} (hk : k < ps.length) (h : p ps[k] = true) : idxs p ps (k + 1) = idxs p ps k ++ [(k : Int)] := by
  unfold idxs; rw [List.range_succ, List.filter_append]; simp [hk, h]
theorem idxs_no {α : Type} {p : α → Bool} {ps : List α} {k : Nat} (hk : k < ps.length) (h : p ps[k] = false) : idxs p ps (k + 1) = idxs p ps k := by
  unfold idxs; rw [List.range_succ, List.filter_append]; simp [hk, h]
theorem idxs_le {α : Type} (p : α → Bool) (ps : List α) (k : Nat) : (idxs p ps k).length ≤ k := by
  unfold idxs
  rw [List.length_map]
  exact Nat.le_trans (List.length_filter_le _ _) (by rw [List.length_range]; exact Nat.le_refl _)
theorem idxs_lt {α : Type} (p : α → Bool) (ps : List α) (k : Nat) : (idxs p ps k).Pairwise (· < ·) := by
  unfold idxs
  rw [List.pairwise_map]
  refine List.Pairwise.filter _ ?_
  exact (List.pairwise_lt_range).imp fun h => by omega
def crossL (a b : List Int) : Bool := decide (0 < a.length) && (decide (0 < b.length) && (decide (1 < a.length) || (decide (1 < b.length) || (a.headD 0 != b.headD 0))))
theorem two_of {a : List Int} (h : 1 < a.length) (hp : a.Pairwise (· < ·)) (y : Int) : ∃ x ∈ a, x ≠ y := by
  match a, h with
  | x1 :: x2 :: r, _ =>
    have hlt : x1 < x2 := by
      rw [List.pairwise_cons] at hp
      exact hp.1 x2 (by simp)
    by_cases e : x1 = y
    · exact ⟨x2, by simp, by omega⟩
    · exact ⟨x1, by simp, e⟩
theorem cross_iff {a b : List Int} (ha : a.Pairwise (· < ·)) (hb : b.Pairwise (· < ·)) : crossL a b = true ↔ ∃ x ∈ a, ∃ y ∈ b, x ≠ y := by
  match a, b with
  | [], b => simp [crossL]
  | x :: r, [] => simp [crossL]
  | x :: r, y :: t =>
    by_cases h1 : 1 < (x :: r).length
    · obtain ⟨z, hz, hne⟩ := two_of h1 ha y
      have e : crossL (x :: r) (y :: t) = true := by unfold crossL; rw [decide_eq_true h1]; simp
      exact ⟨fun _ => ⟨z, hz, y, by simp, hne⟩, fun _ => e⟩
    · by_cases h2 : 1 < (y :: t).length
      · obtain ⟨z, hz, hne⟩ := two_of h2 hb x
        have e : crossL (x :: r) (y :: t) = true := by unfold crossL; rw [decide_eq_true h2]; simp
        exact ⟨fun _ => ⟨x, by simp, z, hz, fun h => hne h.symm⟩, fun _ => e⟩
      · have hr : r = [] := by cases r <;> simp_all
        have ht : t = [] := by cases t <;> simp_all
        subst hr ht
        simp [crossL]

def lkP (p : F × F) : Bool := allT.any (likeT φF p.1 p.2)
def lsP (p : F × F) : Bool := allT.any (lessT φF p.1 p.2)
def mrP (p : F × F) : Bool := allT.any (moreT φF p.1 p.2)
def someP (p : F × F) : Bool := lkP p || (lsP p || mrP p)
def ambV (s t : G) : Bool × Int :=
  if (validG s && validG t) = true then
    if (s.name.toList == t.name.toList) = true ∧ s.fs.length = t.fs.length then
      if (List.zip s.fs t.fs).all someP = true then ((List.zip s.fs t.fs).all lkP || crossL (idxs lsP (List.zip s.fs t.fs) s.fs.length) (idxs mrP (List.zip s.fs t.fs) s.fs.length), 0)
      else (false, 0)
    else (false, 0)
  else (false, 2)
def AmbE (s t : G) (e : Ending) : Prop := e = .returned (.tuple #[.bool (ambV s t).1, .int .i64 (ambV s t).2])
section
variable {s t : G} {e : Ending}
theorem ambE_arg (h : (validG s && validG t) = false) : AmbE s t (.returned (.tuple #[.bool false, .int .i64 2])) := by unfold AmbE ambV; rw [h]; rfl
theorem ambE_name (h : (validG s && validG t) = true) (hn : (s.name.toList == t.name.toList) = false) : AmbE s t (.returned (.tuple #[.bool false, .int .i64 0])) := by
  unfold AmbE ambV; rw [if_pos h, if_neg (by rw [hn]; simp)]
theorem ambE_len (h : (validG s && validG t) = true) (hl : ¬ s.fs.length = t.fs.length) : AmbE s t (.returned (.tuple #[.bool false, .int .i64 0])) := by
  unfold AmbE ambV; rw [if_pos h, if_neg (fun h => hl h.2)]
theorem ambE_none (h : (validG s && validG t) = true) (ha : (List.zip s.fs t.fs).all someP = false) : AmbE s t (.returned (.tuple #[.bool false, .int .i64 0])) := by
  unfold AmbE ambV
  rw [if_pos h, ha]
  split <;> rfl
theorem ambE_end (h : (validG s && validG t) = true) (hn : (s.name.toList == t.name.toList) = true) (hl : s.fs.length = t.fs.length) (ha : (List.zip s.fs t.fs).all someP = true) (q c : Bool) (hq : q = (List.zip s.fs t.fs).all lkP) (hc : c = crossL (idxs lsP (List.zip s.fs t.fs) s.fs.length) (idxs mrP (List.zip s.fs t.fs) s.fs.length)) : AmbE s t (.returned (.tuple #[.bool (q || c), .int .i64 0])) := by
  unfold AmbE ambV
  rw [if_pos h, if_pos ⟨hn, hl⟩, if_pos ha, ← hq, ← hc]
end
theorem allb_step {α : Type} (p : α → Bool) (l : List α) (k : Nat) (hk : k < l.length) : (l.take (k + 1)).all p = ((l.take k).all p && p l[k]) := by
  rw [List.take_succ_eq_append_getElem hk, List.all_append]
  simp
theorem headD_at {a : List Int} (h : 0 < a.length) : a.headD 0 = a[0] := by
  match a, h with
  | x :: r, _ => rfl

end Go.Proofs.YtdmdfokkibijjaaDoor
