/-
  Layer 9: the walks of types and of all: the eight actuals.
-/
import Derived.Test.YtdmdfokkibijjaaGreatDoorSW28
namespace Go.Proofs.YtdmdfokkibijjaaGreatDoor
open Go.RowKit
open Sgn
set_option linter.unusedVariables false
set_option linter.unusedSimpArgs false

def allT : List F := [⟨cInt, 0⟩, ⟨cBool, 0⟩, ⟨cDom, 1⟩, ⟨cArr, 1⟩, ⟨cDom, 2⟩, ⟨cArr, 2⟩, ⟨cDom, 3⟩, ⟨cArr, 3⟩]
def fcells (fs : List F) : List Value := fs.flatMap fun f => [.string f.k, .int .i64 f.n]
theorem fcells_len (fs : List F) : (fcells fs).length = fs.length * 2 := by
  unfold fcells
  induction fs with
  | nil => rfl
  | cons a r ih => rw [List.flatMap_cons, List.length_append, ih, List.length_cons]; simp; omega
theorem fcells_at : ∀ (fs : List F) (i : Nat) (h : i < fs.length), (fcells fs)[i * 2]? = some (.string fs[i].k) ∧ (fcells fs)[i * 2 + 1]? = some (.int .i64 fs[i].n)
  | a :: r, 0, _ => ⟨rfl, rfl⟩
  | a :: r, i + 1, h => by
    have ih := fcells_at r i (by simpa using h)
    have e : fcells (a :: r) = .string a.k :: .int .i64 a.n :: fcells r := rfl
    have e1 : (i + 1) * 2 = i * 2 + 1 + 1 := by omega
    rw [e, e1]
    simpa using ih
theorem formalInfo : (Tryz.prog.info? 35).map (fun i => (i.zero, i.size, i.bytes)) = some (some (.agg #[.string ⟨#[]⟩, .int .i64 0]), 2, 24) := by kernel_rfl
theorem FSl.own {w : World} {base : Nat} {v : Value} {fs : List F} (h : w.ownsRow base 35 2 v fs.length (fcells fs)) : FSl w v fs := by
  rcases h.2 with ⟨rfl, h0⟩ | ⟨g, cap, cur, rfl, _, hh, hnc, hm, hsz, htk⟩
  · have : fs = [] := by
      cases fs with
      | nil => rfl
      | cons a b => cases h0
    subst this
    exact ⟨none, 0, rfl, Nat.le_refl _, Nat.zero_le _, fun h => by cases h⟩
  · refine ⟨_, cap, rfl, hnc, hm, fun _ => ⟨g, 0, rfl, fun i hi => ?_⟩⟩
    obtain ⟨h1, h2⟩ := fcells_at fs i hi
    refine ⟨?_, ?_⟩
    · rw [Nat.zero_add, h.cellAt (i * 2) (by omega), h1]
    · rw [Nat.zero_add, h.cellAt (i * 2 + 1) (by omega), h2]
theorem all_step (r : Nat) (h1 : 1 ≤ r) (h3 : r ≤ 3) : fcells (allT.take (2 * r)) ++ [.string cDom, .int .i64 r, .string cArr, .int .i64 r] = fcells (allT.take (2 * r + 2)) := by
  obtain rfl | rfl | rfl : r = 1 ∨ r = 2 ∨ r = 3 := by omega
  all_goals rfl
def FsEnd (w w' : World) (e : Ending) : Prop := ∃ b off cap, e = .returned (.slice (some ⟨b, off, none⟩) 8 cap) ∧ 8 ≤ cap ∧ cap ≤ maxLen ∧ w.heap.size ≤ b ∧ FCells w' b off allT ∧ Below w.heap.size w w'
theorem fsEnd_of {w w' : World} {v : Value} (h : w'.ownsRow w.heap.size 35 2 v 8 (fcells allT)) (hb : Below w.heap.size w w') : FsEnd w w' (.returned v) := by
  have h2 := FSl.own (fs := allT) h
  rcases h.2 with ⟨rfl, h0⟩ | ⟨g, cap, cur, rfl, hbg, hh, hnc, hm, hsz, htk⟩
  · cases h0
  · obtain ⟨A, cap', e, hc, hm', hF⟩ := h2
    obtain ⟨b, off, rfl, hC⟩ := hF (by decide)
    simp only [Value.slice.injEq, Option.some.injEq, Addr.mk.injEq, and_true] at e
    obtain ⟨⟨rfl, rfl⟩, -, rfl⟩ := e
    exact ⟨g, 0, cap, rfl, hnc, hm, hbg, hC, hb⟩

end Go.Proofs.YtdmdfokkibijjaaGreatDoor
