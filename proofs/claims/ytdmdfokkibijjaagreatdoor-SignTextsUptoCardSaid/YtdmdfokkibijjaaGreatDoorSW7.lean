/-
  The walks of layer 9: the ways in which actuals fit a signature, of the document's answer.
-/
import Derived.Test.YtdmdfokkibijjaaGreatDoorSW6
namespace Go.Proofs.YtdmdfokkibijjaaGreatDoor
open Go.RowKit
open Sgn
set_option linter.unusedVariables false
set_option linter.unusedSimpArgs false

theorem held5 {wr wc w2 : World} {a1 a2 a3 a4 a5 : Addr} {v1 v2 v3 v4 v5 : Value} (h : wc.cell? a1 = some v1 ∧ wc.cell? a2 = some v2 ∧ wc.cell? a3 = some v3 ∧ wc.cell? a4 = some v4 ∧ wc.cell? a5 = some v5 ∧ Below wr.heap.size wr wc) (hb : Below wc.heap.size wc w2) :
    w2.cell? a1 = some v1 ∧ w2.cell? a2 = some v2 ∧ w2.cell? a3 = some v3 ∧ w2.cell? a4 = some v4 ∧ w2.cell? a5 = some v5 ∧ Below wr.heap.size wr w2 :=
  ⟨(hb.cell (cell_lt h.1)).trans h.1, (hb.cell (cell_lt h.2.1)).trans h.2.1, (hb.cell (cell_lt h.2.2.1)).trans h.2.2.1, (hb.cell (cell_lt h.2.2.2.1)).trans h.2.2.2.1, (hb.cell (cell_lt h.2.2.2.2.1)).trans h.2.2.2.2.1, h.2.2.2.2.2.trans (hb.mono h.2.2.2.2.2.size)⟩
theorem held_end5 {S1 S2 S3 S4 S5 : Prop} {w wr w2 : World} (h : S1 ∧ S2 ∧ S3 ∧ S4 ∧ S5 ∧ Below wr.heap.size wr w2) (h0 : Below w.heap.size w wr) : Below w.heap.size w w2 := h0.trans (h.2.2.2.2.2.mono h0.size)
theorem held_last5 {S1 S2 S3 S4 S5 : Prop} {wr w2 : World} (h : S1 ∧ S2 ∧ S3 ∧ S4 ∧ S5 ∧ Below wr.heap.size wr w2) : Below wr.heap.size wr w2 := h.2.2.2.2.2

end Go.Proofs.YtdmdfokkibijjaaGreatDoor
