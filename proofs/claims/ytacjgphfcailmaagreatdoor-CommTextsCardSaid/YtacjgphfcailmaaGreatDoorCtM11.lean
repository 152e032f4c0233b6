/-
  Layer 20: a table of rows of ints in memory, and what the program's Text writes of it.
-/
import Derived.Test.YtacjgphfcailmaaGreatDoorCtM10
import Derived.Test.YtacjgphfcailmaaGreatDoorShelf
namespace Go.Proofs.YtacjgphfcailmaaGreatDoor
open Go.RowKit Go.Sort
open Ct
set_option linter.unusedVariables false
set_option linter.unusedSimpArgs false

/-- a row of the table, as the table has it -/
def slcV (R P i : Nat) : Value := .slice (some ⟨R + 1 + i, 0, none⟩) P P
/-- the table: its first k rows are there -/
def tabV (R P k : Nat) : Array Value := ((List.range P).map fun i => if i < k then slcV R P i else .slice none 0 0).toArray
theorem tabV_at (R P k i : Nat) (h : i < k) (hP : k ≤ P) : (tabV R P k)[i]? = some (slcV R P i) := by
  unfold tabV
  have : i < P := by omega
  simp [this, h]
theorem tabV_set (R P k : Nat) (h : k < P) : (tabV R P k).setIfInBounds k (slcV R P k) = tabV R P (k + 1) := by
  apply Array.ext_getElem?
  intro i
  rw [Array.getElem?_setIfInBounds]
  unfold tabV
  simp only [List.getElem?_toArray, List.getElem?_map, List.size_toArray, List.length_map, List.length_range]
  by_cases hi : i < P
  · rw [List.getElem?_range hi]
    by_cases e : k = i
    · subst e
      simp [hi]
    · rw [if_neg e]
      simp only [Option.map_some, Option.some.injEq]
      by_cases q : i < k
      · rw [if_pos q, if_pos (by omega)]
      · rw [if_neg q, if_neg (by omega)]
  · rw [List.getElem?_eq_none (by simpa using hi)]
    split
    · rename_i e
      omega
    · rfl
theorem infoInts : (Tryz.prog.info? 48).map (fun i => (i.zero, i.size, i.bytes)) = some (some (.slice none 0 0), 1, 24) := by kernel_rfl
theorem make_tab (R C : Nat) (hC : C ≤ 64) (u : World) : (Instr.makeSlice 47 (.int .i64 C) (.int .i64 C)).run Tryz.prog u = .ok (.slice (some ⟨u.heap.size, 0, none⟩) C C) (u.alloc (.cells (tabV R C 0) 48)) := by
  obtain ⟨i0, hi0, hz0, hz1, hz2⟩ := info_parts infoInts
  have h := run_make (P := Tryz.prog) u 47 48 i0 _ Tryz.underlying47 hi0 hz0 .i64 .i64 C C (by omega) (Int.le_refl _) (by rw [hz2]; omega) (by omega)
  rw [Int.toNat_natCast, hz1, Nat.mul_one] at h
  have e : madeCells (Value.slice none 0 0).cells C = tabV R C 0 := by
    apply Array.ext
    · simp [madeCells, tabV]
    · intro i h1 h2
      simp [madeCells, tabV, Value.cells, Nat.mod_one]
  rw [e] at h
  exact h
/-- while the rows are made -/
structure Tab0 (w wr : World) (R P k : Nat) : Prop where
  tb : wr.heap[R]? = some (.cells (tabV R P k) 48 (0, 0))
  rows : ∀ i, i < k → RowI wr (R + 1 + i) P (fun _ => 0)
  be : Below w.heap.size w wr
  rb : w.heap.size ≤ R
  sz : wr.heap.size = R + 1 + k
theorem Tab0.start (w : World) (P : Nat) : Tab0 w (w.alloc (.cells (tabV w.heap.size P 0) 48)) w.heap.size P 0 :=
  ⟨heap_alloc_new _ _, fun i hi => by omega, (Below.refl _ _).alloc (Nat.le_refl _) _, Nat.le_refl _, by simp⟩
theorem Tab0.alloc {w wr : World} {R P k : Nat} (h : Tab0 w wr R P k) : (wr.alloc (.cells (rowV P fun _ => 0) 3)).heap[R]? = some (.cells (tabV R P k) 48 (0, 0)) :=
  (Below.heap_alloc _ _ _ (by have := h.sz; omega)).trans h.tb
theorem Tab0.step {w wr : World} {R P k : Nat} (h : Tab0 w wr R P k) (hk : k < P) : Tab0 w ((wr.alloc (.cells (rowV P fun _ => 0) 3)).setCell ⟨R, k, none⟩ (.slice (some ⟨wr.heap.size, 0, none⟩) P P)) R P (k + 1) := by
  have hs := h.sz
  have hv : Value.slice (some ⟨wr.heap.size, 0, none⟩) P P = slcV R P k := by unfold slcV; rw [hs]
  rw [hv]
  refine ⟨?_, fun i hi => ?_, (h.be.alloc h.be.size _).setCell (p := ⟨R, k, none⟩) h.rb _, h.rb, ?_⟩
  · have := heap_setCell_same _ R k _ _ (slcV R P k) h.alloc
    rw [tabV_set R P k hk] at this
    exact this
  · unfold RowI
    have hne : R + 1 + i ≠ R := by omega
    refine (Below.heap_setCell _ _ _ _ hne).trans ?_
    by_cases e : i < k
    · exact (Below.heap_alloc _ _ _ (by omega)).trans (h.rows i e)
    · obtain rfl : i = k := by omega
      have := heap_alloc_new wr (.cells (rowV P fun _ => 0) 3)
      rw [hs] at this
      exact this
  · simp [World.setCell, hs]
    omega
/-- the table behind so many counts -/
structure TabV (w wr : World) (R P : Nat) (l : List Cnt) (k : Nat) : Prop where
  tb : wr.heap[R]? = some (.cells (tabV R P P) 48 (0, 0))
  rows : ∀ i, i < P → RowI wr (R + 1 + i) P (fun j => cellOf (l.take k) i j)
  be : Below w.heap.size w wr
  rb : w.heap.size ≤ R
  ok : ∀ (j : Nat) (hj : j < l.length), j < k → good P l[j] = true
theorem Tab0.done {w wr : World} {R P : Nat} (h : Tab0 w wr R P P) (l : List Cnt) : TabV w wr R P l 0 :=
  ⟨h.tb, fun i hi => h.rows i hi, h.be, h.rb, fun j hj h => by omega⟩
theorem TabV.cell {w wr : World} {R P k : Nat} {l : List Cnt} (h : TabV w wr R P l k) {i : Nat} (hi : i < P) : wr.cell? ⟨R, i, none⟩ = some (slcV R P i) := by
  rw [blk_cell h.tb, tabV_at R P P i hi (Nat.le_refl _)]
theorem TabV.lt {w wr : World} {R P k : Nat} {l : List Cnt} (h : TabV w wr R P l k) : R < wr.heap.size := (Array.getElem?_eq_some_iff.1 h.tb).1
theorem TabV.drew {w wr : World} {R P k : Nat} {l : List Cnt} (h : TabV w wr R P l k) : TabV w wr.drew R P l k := ⟨h.tb, h.rows, h.be.trans ((Below.refl _ _).drew.mono h.be.size), h.rb, h.ok⟩
theorem TabV.step {w wr : World} {R P k : Nat} {l : List Cnt} (h : TabV w wr R P l k) (hk : k < l.length) (hg : good P l[k] = true) (x : Int) {i j : Nat} (hi : l[k].frm = (i : Int)) (hj : l[k].to = (j : Int)) (hiP : i < P) (hjP : j < P) {w2 : World} (hw2 : Below wr.heap.size wr w2)
    (hx : x = cellOf (l.take k) i j + l[k].many) : TabV w (w2.setCell ⟨R + 1 + i, j, none⟩ (.int .i64 x)) R P l (k + 1) := by
  have hs : ∀ i' j', cellOf (l.take (k + 1)) i' j' = cellOf (l.take k) i' j' + if i' = i ∧ j' = j then l[k].many else 0 := fun i' j' => by
    rw [List.take_succ_eq_append_getElem hk, cellOf_snoc, hit_at l[k] P i j hi hj]
  refine ⟨?_, fun i' hi' => ?_, (h.be.trans (hw2.mono h.be.size)).setCell (p := ⟨R + 1 + i, j, none⟩) (by show w.heap.size ≤ R + 1 + i; have := h.rb; omega) _, h.rb, fun q hq hqk => ?_⟩
  · exact (Below.heap_setCell _ _ _ _ (show R ≠ R + 1 + i by omega)).trans ((hw2.block _ h.lt).trans h.tb)
  · have hr := (h.rows i' hi').below hw2
    by_cases e : i' = i
    · subst e
      exact hr.set j x (by rw [hs, if_pos ⟨rfl, rfl⟩, hx]) fun j' hj' => by rw [hs, if_neg (fun q => hj' q.2)]; omega
    · have hr' : RowI (w2.setCell ⟨R + 1 + i, j, none⟩ (.int .i64 x)) (R + 1 + i') P (fun j => cellOf (l.take k) i' j) := (Below.heap_setCell _ _ _ _ (show R + 1 + i' ≠ R + 1 + i by omega)).trans hr
      have : (fun j => cellOf (l.take (k + 1)) i' j) = fun j => cellOf (l.take k) i' j := by
        funext j'
        rw [hs, if_neg (fun q => e q.1)]
        omega
      rw [this]
      exact hr'
  · by_cases e : q = k
    · subst e; exact hg
    · exact h.ok q hq (by omega)
/-! what is written -/
theorem textTo_len {f : Int → List UInt8} {P : Nat} {l : List Cnt} (h : ∀ i j, (f (cellOf l i j)).length ≤ 21) : ∀ k, (textTo f P l k).length ≤ 22 * k
  | 0 => by simp [textTo]
  | k + 1 => by
    have h1 := textTo_len (P := P) h k
    have h2 := h (k / P) (k % P)
    rw [textTo, List.length_append, piece, List.length_append]
    simp
    omega
theorem rowTo_len {f : Int → List UInt8} {P : Nat} {l : List Cnt} (h : ∀ i j, (f (cellOf l i j)).length ≤ 21) (i : Nat) : ∀ j, (rowTo f P l i j).length ≤ 22 * (i * P + j)
  | 0 => by
    rw [Nat.add_zero]
    exact textTo_len h _
  | j + 1 => by
    have h1 := textTo_len (P := P) h (i * P + j)
    have h2 := h i j
    rw [rowTo, List.length_append]
    omega
theorem itoa_cell {l : List Cnt} (hn : ∀ c ∈ l, near c) (hl : l.length ≤ 400) (i j : Nat) : (Lib.itoa (cellOf l i j)).length ≤ 21 ∧ -9223372036854775808 ≤ cellOf l i j ∧ cellOf l i j ≤ 9223372036854775807 := by
  have := cellOf_abs l i j hn
  have h1 : -9223372036854775808 ≤ cellOf l i j := by omega
  have h2 : cellOf l i j ≤ 9223372036854775807 := by omega
  exact ⟨itoa_le _ h1 h2, h1, h2⟩
end Go.Proofs.YtacjgphfcailmaaGreatDoor
