/-
  Layer 9: lists of formals and of signatures in memory.
-/
import Derived.Test.YtdmdfokkibijjaaGreatDoorSW3
import Derived.Test.YtdmdfokkibijjaaGreatDoorSW2
namespace Go.Proofs.YtdmdfokkibijjaaGreatDoor
open Go.RowKit
open Sgn
set_option linter.unusedVariables false

structure F where
  k : ByteArray
  n : Int
structure G where
  name : ByteArray
  fs : List F
  res : ByteArray

theorem cell_lt {w : World} {a : Addr} {u : Value} (h : w.cell? a = some u) : a.block < w.heap.size := by
  unfold World.cell? at h
  cases hh : w.heap[a.block]? with
  | none => simp [hh] at h
  | some o => exact (Array.getElem?_eq_some_iff.1 hh).1

def FCells (w : World) (b off : Nat) (fs : List F) : Prop :=
  ∀ i (h : i < fs.length), w.cell? ⟨b, off + i * 2, none⟩ = some (.string fs[i].k) ∧ w.cell? ⟨b, off + i * 2 + 1, none⟩ = some (.int .i64 fs[i].n)
def FSl (w : World) (v : Value) (fs : List F) : Prop :=
  ∃ A cap, v = .slice A fs.length cap ∧ fs.length ≤ cap ∧ cap ≤ maxLen ∧ (0 < fs.length → ∃ b off, A = some ⟨b, off, none⟩ ∧ FCells w b off fs)
theorem FCells.on {w w' : World} {b off : Nat} {fs : List F} (h : FCells w b off fs) (hb : Below w.heap.size w w') : FCells w' b off fs := fun i hi => by
  obtain ⟨h1, h2⟩ := h i hi
  exact ⟨(hb.cell (cell_lt h1)).trans h1, (hb.cell (cell_lt h2)).trans h2⟩
theorem FSl.on {w w' : World} {v : Value} {fs : List F} (h : FSl w v fs) (hb : Below w.heap.size w w') : FSl w' v fs := by
  obtain ⟨A, cap, h1, h2, h3, h4⟩ := h
  exact ⟨A, cap, h1, h2, h3, fun h => let ⟨b, off, e, hc⟩ := h4 h; ⟨b, off, e, hc.on hb⟩⟩
/-- a signature by value -/
def GV (w : World) (v : Value) (g : G) : Prop := ∃ x, v = .agg #[.string g.name, x, .string g.res] ∧ FSl w x g.fs
theorem GV.on {w w' : World} {v : Value} {g : G} (h : GV w v g) (hb : Below w.heap.size w w') : GV w' v g := by
  obtain ⟨x, h1, h2⟩ := h
  exact ⟨x, h1, h2.on hb⟩
def GCells (w : World) (b off : Nat) (gs : List G) : Prop :=
  ∀ i (h : i < gs.length), ∃ x, w.cell? ⟨b, off + i * 3, none⟩ = some (.string gs[i].name) ∧ w.cell? ⟨b, off + i * 3 + 1, none⟩ = some x ∧ w.cell? ⟨b, off + i * 3 + 2, none⟩ = some (.string gs[i].res) ∧ FSl w x gs[i].fs
def GSl (w : World) (v : Value) (gs : List G) : Prop :=
  ∃ A cap, v = .slice A gs.length cap ∧ gs.length ≤ cap ∧ cap ≤ maxLen ∧ (0 < gs.length → ∃ b off, A = some ⟨b, off, none⟩ ∧ GCells w b off gs)
theorem GCells.on {w w' : World} {b off : Nat} {gs : List G} (h : GCells w b off gs) (hb : Below w.heap.size w w') : GCells w' b off gs := fun i hi => by
  obtain ⟨x, h1, h2, h3, h4⟩ := h i hi
  exact ⟨x, (hb.cell (cell_lt h1)).trans h1, (hb.cell (cell_lt h2)).trans h2, (hb.cell (cell_lt h3)).trans h3, h4.on hb⟩
theorem GSl.on {w w' : World} {v : Value} {gs : List G} (h : GSl w v gs) (hb : Below w.heap.size w w') : GSl w' v gs := by
  obtain ⟨A, cap, h1, h2, h3, h4⟩ := h
  exact ⟨A, cap, h1, h2, h3, fun h => let ⟨b, off, e, hc⟩ := h4 h; ⟨b, off, e, hc.on hb⟩⟩
/-- a list of numbers -/
def ICells (w : World) (b off : Nat) (zs : List Int) : Prop := ∀ i (h : i < zs.length), w.cell? ⟨b, off + i, none⟩ = some (.int .i64 zs[i])
def ISl (w : World) (v : Value) (zs : List Int) : Prop :=
  ∃ A cap, v = .slice A zs.length cap ∧ zs.length ≤ cap ∧ cap ≤ maxLen ∧ (0 < zs.length → ∃ b off, A = some ⟨b, off, none⟩ ∧ ICells w b off zs)
theorem ISl.on {w w' : World} {v : Value} {zs : List Int} (h : ISl w v zs) (hb : Below w.heap.size w w') : ISl w' v zs := by
  obtain ⟨A, cap, h1, h2, h3, h4⟩ := h
  exact ⟨A, cap, h1, h2, h3, fun h => let ⟨b, off, e, hc⟩ := h4 h; ⟨b, off, e, fun i hi => (hb.cell (cell_lt (hc i hi))).trans (hc i hi)⟩⟩

def okRes (r : ByteArray) : Bool := (r.toList == [105, 110, 116]) || (r.toList == [98, 111, 111, 108]) || (r.toList == [110, 111, 110, 101])
/-- is it a signature -/
def validG (g : G) : Bool := g.fs.all (fun f => isFormal f.k f.n) && (okRes g.res && Tok.isName g.name.data.toList && decide (g.fs.length ≤ 6))

theorem all_upto {α : Type} (p : α → Bool) (l : List α) (k : Nat) (hk : k < l.length) (h : ∀ x ∈ l.take k, p x = true) (hp : p l[k] = true) : ∀ x ∈ l.take (k + 1), p x = true := by
  intro x hx
  rw [List.take_succ_eq_append_getElem hk] at hx
  rcases List.mem_append.1 hx with h1 | h1
  · exact h x h1
  · obtain rfl : x = l[k] := by simpa using h1
    exact hp
theorem all_done {α : Type} (p : α → Bool) (l : List α) (k : Nat) (hk : l.length ≤ k) (h : ∀ x ∈ l.take k, p x = true) : l.all p = true := by
  rw [List.take_of_length_le hk] at h
  rwa [List.all_eq_true]
theorem all_fail {α : Type} (p : α → Bool) (l : List α) (k : Nat) (hk : k < l.length) (hp : p l[k] = false) : l.all p = false := by
  rw [Bool.eq_false_iff]
  intro h
  rw [List.all_eq_true] at h
  rw [h _ (List.getElem_mem hk)] at hp
  cases hp

end Go.Proofs.YtdmdfokkibijjaaGreatDoor
