/-
  Layer 16: how a net lies in memory, and what of it stays.
-/
import Derived.Test.YtimmmbjdaibplaaP1
import Derived.Test.YtimmmbjdaibplaaProg
import Derived.WalkKit
import Derived.ProofKit
import Derived.WalkSpells
import Derived.WalkLawsBesides
import Derived.Lib.Hide
import Derived.Maps.AppendAt
namespace Go.Proofs.Ytimmmbjdaibplaa
open Go.RowKit
open Nt
set_option linter.unusedVariables false
set_option linter.unusedSimpArgs false

def msgV (m : Msg) : List Value := [.int .i64 m.frm, .int .i64 m.to, .int .i64 m.kind, .int .i64 m.cell, .int .i64 m.val, .int .i64 m.hnd]
def hdV (h : Hd) : List Value := [.int .i64 h.frm, .int .i64 h.val, .bool h.dn]
def cntV (c : Cnt) : List Value := [.int .i64 c.frm, .int .i64 c.to, .string c.kind, .int .i64 c.many]
def intsV (l : List Int) : Array Value := (l.map (Value.int .i64)).toArray
def ownL (v : Value) : List Nat := match v.ownBlock with
  | some g => [g]
  | none => []

/-- a row of ints in a block, with spare cells behind it -/
def RowAt (w : World) (r : Nat) (l : List Int) : Prop := ∃ ex : Array Value, w.heap[r]? = some (.cells (intsV l ++ ex) 3 (0, 0))
theorem RowAt.lt {w : World} {r : Nat} {l : List Int} (h : RowAt w r l) : r < w.heap.size := by
  obtain ⟨_, h⟩ := h
  exact (Array.getElem?_eq_some_iff.1 h).1
theorem RowAt.keep {w w' : World} {r : Nat} {l : List Int} (h : RowAt w r l) (e : w'.heap[r]? = w.heap[r]?) : RowAt w' r l := by
  obtain ⟨ex, h⟩ := h
  exact ⟨ex, e.trans h⟩
theorem RowAt.blk {w : World} {r : Nat} {l : List Int} (h : RowAt w r l) : ∃ cs, w.heap[r]? = some (.cells cs 3 (0, 0)) := by
  obtain ⟨ex, h⟩ := h
  exact ⟨_, h⟩
theorem RowAt.of {w : World} {r : Nat} {l : List Int} (h : w.heap[r]? = some (.cells (intsV l) 3 (0, 0))) : RowAt w r l := ⟨#[], by simpa using h⟩
structure NetAt (w : World) (a C bc kc : Nat) (cur : Array Value) (rs : List Nat) (vf vh vs : Value) (N : Nt.Net) : Prop where
  hd : w.heap[a]? = some (.cells #[.slice (some ⟨bc, 0, none⟩) N.cs.length kc, vf, vh, vs] 67 (0, 0))
  tb : w.heap[bc]? = some (.cells cur 22 (0, 0))
  k0 : N.cs.length ≤ kc
  k1 : kc ≤ 9223372036854775807
  rl : rs.length = N.cs.length
  cr : ∀ (p : Nat) (h : p < rs.length), ∃ k, cur[p]? = some (.slice (some ⟨rs[p], 0, none⟩) C k)
  nd : rs.Nodup
  row : ∀ (p : Nat) (h : p < rs.length) (h' : p < N.cs.length), RowAt w rs[p] N.cs[p]
  fo : w.ownsRow 0 74 6 vf N.fl.length (N.fl.flatMap msgV)
  ho : w.ownsRow 0 81 3 vh N.hs.length (N.hs.flatMap hdV)
  so : w.ownsRow 0 48 4 vs N.sent.length (N.sent.flatMap cntV)
/-- the blocks of a net -/
def netL (a bc : Nat) (rs : List Nat) (vf vh vs : Value) : List Nat := a :: bc :: (rs ++ (ownL vf ++ (ownL vh ++ ownL vs)))
def NetX (w : World) (a C : Nat) (T : List Nat) (N : Nt.Net) : Prop := ∃ bc kc cur rs vf vh vs, T = netL a bc rs vf vh vs ∧ NetAt w a C bc kc cur rs vf vh vs N

/-- outside of T the memory is as it was -/
structure Keeps (T : List Nat) (w w' : World) : Prop where
  os : w'.os = w.os
  tape : w'.tape = w.tape
  output : w'.output = w.output
  size : w.heap.size ≤ w'.heap.size
  block : ∀ k, k < w.heap.size → k ∉ T → w'.heap[k]? = w.heap[k]?
theorem Keeps.refl (T : List Nat) (w : World) : Keeps T w w := ⟨rfl, rfl, rfl, Nat.le_refl _, fun _ _ _ => rfl⟩
theorem Keeps.of_below {T : List Nat} {w w' : World} (h : Below w.heap.size w w') : Keeps T w w' := ⟨h.os, h.tape, h.output, h.size, fun k hk _ => h.block k hk⟩
/-- the blocks of T' are of T, or new -/
def Grows (T T' : List Nat) (w : World) : Prop := ∀ k ∈ T', k ∈ T ∨ w.heap.size ≤ k
theorem Grows.refl (T : List Nat) (w : World) : Grows T T w := fun _ h => .inl h
theorem Keeps.trans {T T' : List Nat} {w w1 w2 : World} (h : Keeps T w w1) (k : Keeps T' w1 w2) (hg : Grows T T' w) : Keeps T w w2 :=
  ⟨k.os.trans h.os, k.tape.trans h.tape, k.output.trans h.output, Nat.le_trans h.size k.size, fun i hi hT => (k.block i (Nat.lt_of_lt_of_le hi h.size) (fun hm => by
    rcases hg i hm with h' | h'
    · exact hT h'
    · omega)).trans (h.block i hi hT)⟩
theorem Grows.trans {T T' T'' : List Nat} {w w1 : World} (h : Grows T T' w) (k : Grows T' T'' w1) (hs : w.heap.size ≤ w1.heap.size) : Grows T T'' w := fun x hx => by
  rcases k x hx with h' | h'
  · exact h x h'
  · exact .inr (by omega)
theorem Keeps.below {T : List Nat} {w w' : World} {B : Nat} (h : Keeps T w w') (hB : B ≤ w.heap.size) (hT : ∀ k ∈ T, B ≤ k) : Below B w w' :=
  ⟨h.os, h.tape, h.output, h.size, fun k hk => h.block k (by omega) (fun hm => by have := hT k hm; omega)⟩
theorem Keeps.setCell {T : List Nat} {w w' : World} (h : Keeps T w w') {p : Addr} (hp : p.block ∈ T ∨ w.heap.size ≤ p.block) (u : Value) : Keeps T w (w'.setCell p u) :=
  ⟨h.os, h.tape, h.output, by simpa [World.setCell] using h.size, fun k hk hT => (Below.heap_setCell _ _ _ _ (fun e => by
    subst e
    rcases hp with h' | h'
    · exact hT h'
    · omega)).trans (h.block k hk hT)⟩
theorem Keeps.alloc {T : List Nat} {w w' : World} (h : Keeps T w w') (o : Obj) : Keeps T w (w'.alloc o) :=
  ⟨h.os, h.tape, h.output, Nat.le_trans h.size (by simp), fun k hk hT => (Below.heap_alloc _ _ _ (Nat.lt_of_lt_of_le hk h.size)).trans (h.block k hk hT)⟩
theorem Keeps.grown {T : List Nat} {w w1 w' : World} {row : Option Nat} (h : Keeps T w w1) (hg : w1.grownBy w' row) (hr : ∀ k, row = some k → k ∈ T ∨ w.heap.size ≤ k) : Keeps T w w' :=
  ⟨hg.os.trans h.os, hg.tape.trans h.tape, hg.output.trans h.output, Nat.le_trans h.size hg.size, fun k hk hT => (hg.block k (Nat.lt_of_lt_of_le hk h.size) (fun e => by
    rcases hr k e.symm with h' | h'
    · exact hT h'
    · omega)).trans (h.block k hk hT)⟩

theorem blk_lt {w : World} {b : Nat} {o : Obj} (h : w.heap[b]? = some o) : b < w.heap.size := (Array.getElem?_eq_some_iff.1 h).1
theorem blk_cell {w : World} {b : Nat} {cs : Array Value} {t : TypeId} (h : w.heap[b]? = some (.cells cs t (0, 0))) (i : Nat) : w.cell? ⟨b, i, none⟩ = cs[i]? := by simp [World.cell?, h]
theorem blk_free {w : World} {b : Nat} {cs : Array Value} {t : TypeId} (h : w.heap[b]? = some (.cells cs t (0, 0))) (i : Nat) : w.frozen? ⟨b, i, none⟩ = false := by simp [World.frozen?, h]
theorem blk_type {w : World} {b : Nat} {c c' : Array Value} {t t' : TypeId} (h : w.heap[b]? = some (.cells c t (0, 0))) (h' : w.heap[b]? = some (.cells c' t' (0, 0))) : t = t' := by
  rw [h] at h'
  injection h' with h'
  injection h'
theorem own_lt {w : World} {e : TypeId} {size : Nat} {v : Value} {n : Nat} {xs : List Value} (h : w.ownsRow 0 e size v n xs) : ∀ k ∈ ownL v, k < w.heap.size := fun k hk => by
  unfold ownL at hk
  split at hk
  · rename_i g hg
    obtain rfl : k = g := by simpa using hk
    exact (h.lt k hg).2
  · cases hk
theorem own_type {w : World} {e : TypeId} {size : Nat} {v : Value} {n : Nat} {xs : List Value} (h : w.ownsRow 0 e size v n xs) {g : Nat} (hg : v.ownBlock = some g) : ∃ cur, w.heap[g]? = some (.cells cur e (0, 0)) := by
  rcases h.2 with ⟨rfl, _⟩ | ⟨g', cap, cur, rfl, _, hb, _⟩
  · simp [Value.ownBlock] at hg
  · simp only [Value.ownBlock, Option.some.injEq] at hg
    subst hg
    exact ⟨cur, hb⟩
theorem own_keep {w w' : World} {e : TypeId} {size : Nat} {v : Value} {n : Nat} {xs : List Value} (h : w.ownsRow 0 e size v n xs) (hb : ∀ g, v.ownBlock = some g → w'.heap[g]? = w.heap[g]?) : w'.ownsRow 0 e size v n xs := by
  refine ⟨h.1, ?_⟩
  rcases h.2 with hn | ⟨g, cap, cur, rfl, h0, hg, rest⟩
  · exact .inl hn
  · exact .inr ⟨g, cap, cur, rfl, h0, (hb g rfl).trans hg, rest⟩
theorem mem_ownL {v : Value} {g : Nat} (h : v.ownBlock = some g) : g ∈ ownL v := by simp [ownL, h]
theorem ownL_mem {v : Value} {g : Nat} (h : g ∈ ownL v) : v.ownBlock = some g := by
  unfold ownL at h
  split at h
  · rename_i g' hg
    have e : g = g' := by simpa using h
    rw [hg, e]
  · cases h

section
variable {w w' : World} {a C bc kc : Nat} {cur : Array Value} {rs : List Nat} {vf vh vs : Value} {N : Nt.Net}
theorem NetAt.lt (h : NetAt w a C bc kc cur rs vf vh vs N) : ∀ k ∈ netL a bc rs vf vh vs, k < w.heap.size := by
  intro k hk
  simp only [netL, List.mem_cons, List.mem_append] at hk
  rcases hk with rfl | rfl | hk | hk | hk | hk
  · exact blk_lt h.hd
  · exact blk_lt h.tb
  · obtain ⟨p, hp, rfl⟩ := List.getElem_of_mem hk
    exact (h.row p hp (h.rl ▸ hp)).lt
  · exact own_lt h.fo k hk
  · exact own_lt h.ho k hk
  · exact own_lt h.so k hk
theorem NetAt.keep (h : NetAt w a C bc kc cur rs vf vh vs N) (hb : ∀ k ∈ netL a bc rs vf vh vs, w'.heap[k]? = w.heap[k]?) : NetAt w' a C bc kc cur rs vf vh vs N := by
  have hm : ∀ k, k = a ∨ k = bc ∨ k ∈ rs ∨ k ∈ ownL vf ∨ k ∈ ownL vh ∨ k ∈ ownL vs → w'.heap[k]? = w.heap[k]? := fun k hk => hb k (by simpa only [netL, List.mem_cons, List.mem_append] using hk)
  exact ⟨(hm a (by simp)).trans h.hd, (hm bc (by simp)).trans h.tb, h.k0, h.k1, h.rl, h.cr, h.nd, fun p hp hp' => (h.row p hp hp').keep (hm _ (.inr (.inr (.inl (List.getElem_mem hp))))),
    own_keep h.fo fun g hg => hm g (by simp [mem_ownL hg]), own_keep h.ho fun g hg => hm g (by simp [mem_ownL hg]), own_keep h.so fun g hg => hm g (by simp [mem_ownL hg])⟩
theorem NetAt.below (h : NetAt w a C bc kc cur rs vf vh vs N) (hb : Below w.heap.size w w') : NetAt w' a C bc kc cur rs vf vh vs N := h.keep fun k hk => hb.block k (h.lt k hk)
/-- the struct's own block is none of the others -/
theorem NetAt.ne_tb (h : NetAt w a C bc kc cur rs vf vh vs N) : bc ≠ a := fun e => by
  have h1 := h.hd; have h2 := h.tb
  rw [e] at h2; rw [h1] at h2; cases h2
theorem NetAt.ne_row (h : NetAt w a C bc kc cur rs vf vh vs N) {p : Nat} (hp : p < rs.length) : rs[p] ≠ a ∧ rs[p] ≠ bc := by
  have h1 := h.hd; have h2 := h.tb; obtain ⟨_, h3⟩ := (h.row p hp (h.rl ▸ hp)).blk
  constructor
  · intro e; rw [e] at h3; exact absurd (blk_type h1 h3) (by decide)
  · intro e; rw [e] at h3; exact absurd (blk_type h2 h3) (by decide)
theorem NetAt.f_ne (h : NetAt w a C bc kc cur rs vf vh vs N) {g : Nat} (hg : vf.ownBlock = some g) : g ≠ a ∧ g ≠ bc ∧ g ∉ rs ∧ vh.ownBlock ≠ some g ∧ vs.ownBlock ≠ some g := by
  obtain ⟨c, hc⟩ := own_type h.fo hg
  refine ⟨?_, ?_, ?_, ?_, ?_⟩
  · rintro rfl; have := h.hd; rw [hc] at this; cases this
  · rintro rfl; have := h.tb; rw [hc] at this; cases this
  · intro hm
    obtain ⟨p, hp, rfl⟩ := List.getElem_of_mem hm
    obtain ⟨_, this⟩ := (h.row p hp (h.rl ▸ hp)).blk; rw [hc] at this; cases this
  · intro e; obtain ⟨c2, h2⟩ := own_type h.ho e; rw [hc] at h2; cases h2
  · intro e; obtain ⟨c2, h2⟩ := own_type h.so e; rw [hc] at h2; cases h2
theorem NetAt.h_ne (h : NetAt w a C bc kc cur rs vf vh vs N) {g : Nat} (hg : vh.ownBlock = some g) : g ≠ a ∧ g ≠ bc ∧ g ∉ rs ∧ vf.ownBlock ≠ some g ∧ vs.ownBlock ≠ some g := by
  obtain ⟨c, hc⟩ := own_type h.ho hg
  refine ⟨?_, ?_, ?_, ?_, ?_⟩
  · rintro rfl; have := h.hd; rw [hc] at this; cases this
  · rintro rfl; have := h.tb; rw [hc] at this; cases this
  · intro hm
    obtain ⟨p, hp, rfl⟩ := List.getElem_of_mem hm
    obtain ⟨_, this⟩ := (h.row p hp (h.rl ▸ hp)).blk; rw [hc] at this; cases this
  · intro e; obtain ⟨c2, h2⟩ := own_type h.fo e; rw [hc] at h2; cases h2
  · intro e; obtain ⟨c2, h2⟩ := own_type h.so e; rw [hc] at h2; cases h2
theorem NetAt.s_ne (h : NetAt w a C bc kc cur rs vf vh vs N) {g : Nat} (hg : vs.ownBlock = some g) : g ≠ a ∧ g ≠ bc ∧ g ∉ rs ∧ vf.ownBlock ≠ some g ∧ vh.ownBlock ≠ some g := by
  obtain ⟨c, hc⟩ := own_type h.so hg
  refine ⟨?_, ?_, ?_, ?_, ?_⟩
  · rintro rfl; have := h.hd; rw [hc] at this; cases this
  · rintro rfl; have := h.tb; rw [hc] at this; cases this
  · intro hm
    obtain ⟨p, hp, rfl⟩ := List.getElem_of_mem hm
    obtain ⟨_, this⟩ := (h.row p hp (h.rl ▸ hp)).blk; rw [hc] at this; cases this
  · intro e; obtain ⟨c2, h2⟩ := own_type h.fo e; rw [hc] at h2; cases h2
  · intro e; obtain ⟨c2, h2⟩ := own_type h.ho e; rw [hc] at h2; cases h2
/-- the cells of the struct -/
theorem NetAt.cells (h : NetAt w a C bc kc cur rs vf vh vs N) : w.cell? ⟨a, 0, none⟩ = some (.slice (some ⟨bc, 0, none⟩) N.cs.length kc) ∧ w.cell? ⟨a, 1, none⟩ = some vf ∧ w.cell? ⟨a, 2, none⟩ = some vh ∧ w.cell? ⟨a, 3, none⟩ = some vs :=
  ⟨blk_cell h.hd 0, blk_cell h.hd 1, blk_cell h.hd 2, blk_cell h.hd 3⟩
theorem NetAt.frees (h : NetAt w a C bc kc cur rs vf vh vs N) : w.frozen? ⟨a, 0, none⟩ = false ∧ w.frozen? ⟨a, 1, none⟩ = false ∧ w.frozen? ⟨a, 2, none⟩ = false ∧ w.frozen? ⟨a, 3, none⟩ = false :=
  ⟨blk_free h.hd 0, blk_free h.hd 1, blk_free h.hd 2, blk_free h.hd 3⟩
end
theorem NetX.lt {w : World} {a C : Nat} {T : List Nat} {N : Nt.Net} (h : NetX w a C T N) : ∀ k ∈ T, k < w.heap.size := by
  obtain ⟨_, _, _, _, _, _, _, rfl, h⟩ := h
  exact h.lt
theorem NetX.below {w w' : World} {a C : Nat} {T : List Nat} {N : Nt.Net} (h : NetX w a C T N) (hb : Below w.heap.size w w') : NetX w' a C T N := by
  obtain ⟨bc, kc, cur, rs, vf, vh, vs, e, h⟩ := h
  exact ⟨bc, kc, cur, rs, vf, vh, vs, e, h.below hb⟩
end Go.Proofs.Ytimmmbjdaibplaa
