/-
  Layer 16: the walks of do and done.
-/
import Derived.Test.YtimmmbjdaibplaaW2
namespace Go.Proofs.Ytimmmbjdaibplaa
open Go.RowKit
open Nt
set_option linter.unusedVariables false
set_option linter.unusedSimpArgs false

theorem ints_at {l : List Int} {c : Nat} (h : c < l.length) : (intsV l)[c]? = some (.int .i64 l[c]) := by
  unfold intsV
  simp [h]
theorem ints_set (l : List Int) (c : Nat) (v : Int) : (intsV l).setIfInBounds c (.int .i64 v) = intsV (l.set c v) := by
  unfold intsV
  simp
theorem ints_at_ex {l : List Int} {c : Nat} (h : c < l.length) (ex : Array Value) : (intsV l ++ ex)[c]? = some (.int .i64 l[c]) := by
  rw [Array.getElem?_append_left (by simpa [intsV] using h)]
  exact ints_at h
theorem ints_set_ex {l : List Int} {c : Nat} (h : c < l.length) (ex : Array Value) (v : Int) : (intsV l ++ ex).setIfInBounds c (.int .i64 v) = intsV (l.set c v) ++ ex := by
  rw [Array.setIfInBounds_append_left (by simpa [intsV] using h), ints_set]
theorem RowAt.cell {w : World} {r : Nat} {l : List Int} (h : RowAt w r l) {c : Nat} (hc : c < l.length) : w.cell? ⟨r, c, none⟩ = some (.int .i64 l[c]) := by
  obtain ⟨ex, h⟩ := h
  exact (blk_cell h c).trans (ints_at_ex hc ex)
theorem RowAt.free {w : World} {r : Nat} {l : List Int} (h : RowAt w r l) (c : Nat) : w.frozen? ⟨r, c, none⟩ = false := by
  obtain ⟨ex, h⟩ := h
  exact blk_free h c
theorem heap_alloc_old' (w : World) (o : Obj) (k : Nat) (h : k < w.heap.size) : (w.alloc o).heap[k]? = w.heap[k]? := Below.heap_alloc w o k h
theorem cell_alloc {w : World} {a : Addr} {v : Value} {o : Obj} (h : w.cell? a = some v) : (w.alloc o).cell? a = some v := (World.cell?_of_block (heap_alloc_old' w o _ (World.block_lt_of_cell? w a h))).trans h
theorem free_alloc {w : World} {a : Addr} {v : Value} {o : Obj} (h : w.cell? a = some v) (h2 : w.frozen? a = false) : (w.alloc o).frozen? a = false := (World.frozen?_of_block (heap_alloc_old' w o _ (World.block_lt_of_cell? w a h))).trans h2
theorem Below.of_drewN {B : Nat} {a w : World} (n : Nat) (h : Below B a w) : Below B a (w.drewN n) := ⟨h.os, h.tape, h.output, h.size, h.block⟩
theorem i64_w (n : Int) : IntKind.i64.wrap n = wrap64 n := by
  simp [wrap64, IntKind.wrap, IntKind.min, IntKind.max, IntKind.signed, IntKind.bits]
  split <;> omega
def DoE (r c : Nat) (l : List Int) (m : Msg) (was : Int) (w : World) (e : Ending) (w' : World) : Prop :=
  e = .returned (.int .i64 (ansV m was)) ∧ Keeps [r] w w' ∧ RowAt w' r (l.set c (newV m was))
theorem set_was (l : List Int) (c : Nat) (h : c < l.length) : l.set c l[c] = l := by simp
theorem doE_get {r c : Nat} {l : List Int} {m : Msg} {w w' : World} (hc : c < l.length) (h1 : m.kind ≠ 1) (h3 : m.kind ≠ 3) (hr : RowAt w r l) (hb : Below w.heap.size w w') :
    DoE r c l m l[c] w (.returned (.int .i64 l[c])) w' := by
  refine ⟨by simp [ansV, h1], Keeps.of_below hb, ?_⟩
  unfold newV
  rw [if_neg h1, if_neg h3, set_was]
  exact hr.keep (hb.block r hr.lt)
theorem doE_set {r c : Nat} {l : List Int} {m : Msg} {was : Int} {w w' : World} {e : Ending} (hc : c < l.length) (he : e = .returned (.int .i64 (ansV m was))) (hr : RowAt w r l) (hb : Below w.heap.size w w') :
    DoE r c l m was w e (w'.setCell ⟨r, c, none⟩ (.int .i64 (newV m was))) := by
  refine ⟨he, (Keeps.of_below hb).setCell (.inl (by simp)) _, ?_⟩
  obtain ⟨ex, h1⟩ := hr.keep (hb.block r hr.lt)
  refine ⟨ex, ?_⟩
  rw [heap_setCell_same _ _ _ _ _ _ h1, ints_set_ex hc]

set_option maxHeartbeats 4000000 in
set_option maxRecDepth 100000 in
theorem do_at (a bc r P kc C kr p c : Nat) (l : List Int) (f k v h : Int) (w : World) (h0 : w.cell? ⟨a, 0, none⟩ = some (.slice (some ⟨bc, 0, none⟩) P kc)) (h1 : w.cell? ⟨bc, p, none⟩ = some (.slice (some ⟨r, 0, none⟩) C kr)) (hr : RowAt w r l)
    (hl : l.length = C) (hp : p < P) (hc : c < C) (hk : 1 ≤ k ∧ k ≤ 3) :
    Calls Try.prog 36 #[.pointer (some ⟨a, 0, none⟩), .agg #[.int .i64 f, .int .i64 p, .int .i64 k, .int .i64 c, .int .i64 v, .int .i64 h]] w (DoE r c l ⟨f, p, k, c, v, h⟩ (l[c]'(hl ▸ hc)) w) := by
  have hp0 : (0 : Int) ≤ (p : Int) := by omega
  have hp1 : (p : Int) < (P : Int) := by omega
  have hc0 : (0 : Int) ≤ (c : Int) := by omega
  have hc1 : (c : Int) < (C : Int) := by omega
  have h2 := hr.cell (l := l) (c := c) (hl ▸ hc)
  have h3 := hr.free c
  have hwas : ∃ x, l[c]'(hl ▸ hc) = x := ⟨_, rfl⟩
  obtain ⟨x, hx⟩ := hwas
  have HG := fun (w' : World) (hb : Below w.heap.size w w') (e1 : k ≠ 1) (e3 : k ≠ 3) => doE_get (r := r) (c := c) (l := l) (m := ⟨f, p, k, c, v, h⟩) (w := w) (w' := w') (hl ▸ hc) e1 e3 hr hb
  have HS := fun (w' : World) (hb : Below w.heap.size w w') (e : Ending) (he : e = .returned (.int .i64 (ansV ⟨f, p, k, c, v, h⟩ x))) => doE_set (r := r) (c := c) (l := l) (m := ⟨f, p, k, c, v, h⟩) (was := x) (w := w) (w' := w') (hl ▸ hc) he hr hb
  rw [hx] at h2 HG
  simp only [hx]
  have HG' := Lib.hid HG
  have HS' := Lib.hid HS
  clear hx hr hl HG HS
  have hk3 : k = 1 ∨ k = 2 ∨ k = 3 := by omega
  clear hk
  have g0 := fun o => cell_alloc (o := o) h0
  have g1 := fun o => cell_alloc (o := o) h1
  have g2 := fun o => cell_alloc (o := o) h2
  have g3 := fun o => free_alloc (o := o) h2 h3
  have n0 := fun cs t i => blk_cell (heap_alloc_new w (.cells cs t)) i
  rcases hk3 with rfl | rfl | rfl
  · have e1 : newV ⟨f, p, 1, c, v, h⟩ x = v := by simp [newV]
    have e2 : ansV ⟨f, p, 1, c, v, h⟩ x = 0 := by simp [ansV]
    have HS2 := HS'.out
    rw [e1, e2] at HS2
    have HS := Lib.hid HS2
    clear HS2 HS' HG' e1 e2
    go_enter Try.func36, Try.ntmps36
    go_wp2_with fail
    go_quiet (fail)
    go_wp2_with fail
    go_ret
    exact HS.out _ (Below.of_drewN _ (Below.refl _ _ |>.alloc (Nat.le_refl _) _)) _ rfl
  · have HG := Lib.hid (fun w' hb => HG'.out w' hb (by decide) (by decide))
    clear HS' HG'
    go_enter Try.func36, Try.ntmps36
    go_wp2_with fail
    go_quiet (fail)
    go_wp2_with fail
    go_ret
    exact HG.out _ (Below.of_drewN _ (Below.refl _ _ |>.alloc (Nat.le_refl _) _))
  · have e1 : newV ⟨f, p, 3, c, v, h⟩ x = wrap64 (x + v) := by rw [← i64_w]; simp [newV]
    have e2 : ansV ⟨f, p, 3, c, v, h⟩ x = x := by simp [ansV]
    have HS2 := HS'.out
    rw [e1, e2] at HS2
    have HS := Lib.hid HS2
    clear HS2 HS' HG' e1 e2
    go_enter Try.func36, Try.ntmps36
    go_wp2_with fail
    go_quiet (fail)
    go_wp2_with fail
    go_region
    all_goals
      go_wp2_with fail
      go_ret
      exact HS.out _ (Below.of_drewN _ (Below.refl _ _ |>.alloc (Nat.le_refl _) _)) _ rfl

/-- a handle is done -/
def DoneE (g i : Nat) (v : Int) (w : World) (e : Ending) (w' : World) : Prop :=
  e = .returned (.tuple #[]) ∧ w' = (w.setCell ⟨g, i * 3 + 1, none⟩ (.int .i64 v)).setCell ⟨g, i * 3 + 2, none⟩ (.bool true)
set_option maxHeartbeats 4000000 in
set_option maxRecDepth 100000 in
theorem done_at (a g n cap i : Nat) (x v : Int) (b : Bool) (w : World) (h0 : w.cell? ⟨a, 2, none⟩ = some (.slice (some ⟨g, 0, none⟩) n cap)) (hi : i < n)
    (h1 : w.cell? ⟨g, i * 3 + 1, none⟩ = some (.int .i64 x)) (h2 : w.cell? ⟨g, i * 3 + 2, none⟩ = some (.bool b)) (h3 : w.frozen? ⟨g, i * 3 + 1, none⟩ = false) (h4 : w.frozen? ⟨g, i * 3 + 2, none⟩ = false) (hn : n ≤ 1000) :
    Calls Try.prog 35 #[.pointer (some ⟨a, 0, none⟩), .int .i64 ((i : Int) + 1), .int .i64 v] w (DoneE g i v w) := by
  have hi0 : (0 : Int) ≤ (i : Int) := by omega
  have hi1 : (i : Int) < (n : Int) := by omega
  have hi2 : (i : Int) ≤ 1000 := by omega
  go_enter Try.func35, Try.ntmps35
  go_wp2
  exact bodyPost_ret (v := .tuple #[]) (by simp [results, Try.results35, go_sem]) rfl ⟨rfl, rfl⟩
end Go.Proofs.Ytimmmbjdaibplaa
