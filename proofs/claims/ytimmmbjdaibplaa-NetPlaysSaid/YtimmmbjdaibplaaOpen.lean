/-
  What the frames of NetSums and NetPlays share: the list of calls and the list of ints opened; the witness's world.
-/
import Derived.Test.YtimmmbjdaibplaaW21
import Derived.Test.YtimmmbjdaibplaaW13
import Derived.Test.YtimmmbjdaibplaaRows
import Derived.OpenShut
import Derived.Deep.DeepHandedRow
import Derived.Deep.Slices
import Derived.Deep.Fields
import Derived.ChangeSame
import Derived.Carry
import Derived.SizedLaws
import Derived.Lay
namespace Go.Proofs.Ytimmmbjdaibplaa.netOpen
open Go.ChangeShapes Go.WideShapes Go.ChangeAt Go.RowKit Go.Deep
set_option linter.unusedVariables false

theorem own : ownKnob Try.prog.godebug = none := by kernel_rfl
theorem laidOut : laidOutB Try.prog = true := by kernel_rfl
theorem cellsInt : Try.prog.cellsOf 3 = 1 := by kernel_rfl
theorem cells8 : Try.prog.cellsOf 5 = 1 := by kernel_rfl
theorem cellsOp : Try.prog.cellsOf 41 = 6 := by kernel_rfl
theorem add_none (b off n : Nat) : (⟨b, off, none⟩ : Addr).add n = ⟨b, off + n, none⟩ := by
  simp only [Addr.add]
  split <;> simp_all
theorem gatherP {α : Type} {R : Nat → α → Prop} : ∀ (n : Nat), (∀ i, i < n → ∃ x, R i x) → ∃ xs : List α, xs.length = n ∧ ∀ i (h : i < xs.length), R i xs[i]
  | 0, _ => ⟨[], rfl, fun i h => by cases h⟩
  | n + 1, h => by
    obtain ⟨xs, hl, hx⟩ := gatherP n (fun i hi => h i (by omega))
    obtain ⟨x, hxn⟩ := h n (by omega)
    refine ⟨xs ++ [x], by simp [hl], fun i hi => ?_⟩
    by_cases hin : i < xs.length
    · rw [List.getElem_append_left hin]; exact hx i hin
    · have : i = xs.length := by simp at hi; omega
      subst this
      simpa [hl] using hxn
section
variable {H : Type} {enc : TypeId × Value → H} {w : World} {base : Nat} {spare : Nat → Bool} {held : Bool}
set_option maxRecDepth 100000 in
theorem open_ints_cells {fuel : Nat} {cs : List Value} {x : DataW H × List MemPlace} (hf : DataW.trod enc Try.prog w base spare held fuel 22 cs = some x) : ∃ (v : Value) (l : List Int), cs = [v] ∧ Ints w v l := by
  rcases open_slice Try.underlying22 hf with ⟨h0, hx⟩ | ⟨a, len', cap', m, n, D, Pl, hcs, hb, hl, hm, hmm, hx, hi⟩
  · exact ⟨_, [], h0, none, 0, rfl, Nat.le_refl _, by omega, fun h => by cases h⟩
  · have hlm : len' ≤ m := by rw [hmm]; split <;> omega
    have hone : ∀ i, i < len' → ∃ z : Int, w.cell? (a.add i) = some (.int .i64 z) := by
      intro i hil
      obtain ⟨cs', hc, ht'⟩ := hi i (by omega)
      rw [cellsInt] at hc
      obtain ⟨z, e1, g1, _⟩ := DataW.trod_int Try.underlying3 ht'
      obtain ⟨_, hcl, hat⟩ := World.cells?_some hc
      subst e1
      have a0 := hat 0 (by simp)
      rw [Go.Deep.add_add] at a0
      exact ⟨z, by simpa using a0⟩
    obtain ⟨l, hlen, hc⟩ := gatherP len' hone
    refine ⟨_, l, hcs, some a, cap', by rw [hlen], by omega, hm, fun hpos => ?_⟩
    obtain ⟨b, off, spot⟩ := a
    obtain rfl : spot = none := by
      have := World.cell?_spot (hc 0 hpos)
      simpa [Addr.add] using this
    exact ⟨b, off, rfl, fun i hi => by simpa only [add_none] using hc i hi⟩
set_option maxRecDepth 100000 in
theorem open_ints {b0 : Nat} {v : Value} {d : DataW H} {p : List MemPlace} (hv : Value.okWide Try.prog w .any b0 22 v) (h : DataW.Trod enc Try.prog w base spare held 22 v d p) : ∃ l : List Int, Ints w v l := by
  obtain ⟨A, len, cap, rfl⟩ := okWide_slice Try.underlying22 hv
  obtain ⟨fuel, hf⟩ := h
  obtain ⟨v', l, e, hi⟩ := open_ints_cells hf
  simp only [Value.cells, List.cons.injEq, and_true] at e
  subst e
  exact ⟨l, hi⟩
set_option maxRecDepth 100000 in
theorem open_num {b0 : Nat} {v : Value} {d : DataW H} {p : List MemPlace} (hv : Value.okWide Try.prog w .any b0 3 v) (h : DataW.Trod enc Try.prog w base spare held 3 v d p) : ∃ z : Int, v = .int .i64 z := by
  obtain ⟨z, rfl, _⟩ := open_int Try.underlying3 hv h
  exact ⟨z, rfl⟩
set_option maxRecDepth 100000 in
theorem open_ops {b0 : Nat} {v : Value} {d : DataW H} {p : List MemPlace} (hv : Value.okWide Try.prog w .any b0 39 v) (h : DataW.Trod enc Try.prog w base spare held 39 v d p) : ∃ l : List OpD, Ops w v l := by
  obtain ⟨A, len, cap, rfl⟩ := okWide_slice Try.underlying39 hv
  obtain ⟨fuel, hf⟩ := h
  rcases open_slice Try.underlying39 hf with ⟨h0, hx⟩ | ⟨a, len', cap', m, n, D, Pl, hcs, hb, hl, hm, hmm, hx, hi⟩
  · simp only [Value.cells, List.cons.injEq, Value.slice.injEq, and_true] at h0
    obtain ⟨rfl, rfl, rfl⟩ := h0
    exact ⟨[], none, 0, rfl, Nat.le_refl _, by omega, fun h => by cases h⟩
  · simp only [Value.cells, List.cons.injEq, Value.slice.injEq, and_true] at hcs
    obtain ⟨rfl, rfl, rfl⟩ := hcs
    have hlm : len ≤ m := by rw [hmm]; split <;> omega
    have hone : ∀ i, i < len → ∃ o : OpD, ∀ (j : Nat) (u : Value), (opV o)[j]? = some u → w.cell? (a.add (i * 6 + j)) = some u := by
      intro i hil
      obtain ⟨cs', hc, ht'⟩ := hi i (by omega)
      rw [cellsOp] at hc
      obtain ⟨ys, n', hn', hy, hlen, hyl, hfl⟩ := DataW.trod_struct Try.underlying41 ht'
      obtain ⟨_, hcl, hat⟩ := World.cells?_some hc
      match cs', hlen.trans cellsOp with
      | [c0, c1, c2, c3, c4, c5], _ =>
        match ys, hyl with
        | [y0, y1, y2, y3, y4, y5], _ =>
          have f0 : DataW.trod enc Try.prog w base spare held n' 5 [c0] = some y0 := by simpa [cells8] using hfl 0 _ rfl
          have f1 : DataW.trod enc Try.prog w base spare held n' 3 [c1] = some y1 := by simpa [cellsInt] using hfl 1 _ rfl
          have f2 : DataW.trod enc Try.prog w base spare held n' 3 [c2] = some y2 := by simpa [cellsInt] using hfl 2 _ rfl
          have f3 : DataW.trod enc Try.prog w base spare held n' 3 [c3] = some y3 := by simpa [cellsInt] using hfl 3 _ rfl
          have f4 : DataW.trod enc Try.prog w base spare held n' 3 [c4] = some y4 := by simpa [cellsInt] using hfl 4 _ rfl
          have f5 : DataW.trod enc Try.prog w base spare held n' 3 [c5] = some y5 := by simpa [cellsInt] using hfl 5 _ rfl
          obtain ⟨z0, e0, _, _⟩ := DataW.trod_int Try.underlying5 f0
          obtain ⟨z1, e1, _, _⟩ := DataW.trod_int Try.underlying3 f1
          obtain ⟨z2, e2, _, _⟩ := DataW.trod_int Try.underlying3 f2
          obtain ⟨z3, e3, _, _⟩ := DataW.trod_int Try.underlying3 f3
          obtain ⟨z4, e4, _, _⟩ := DataW.trod_int Try.underlying3 f4
          obtain ⟨z5, e5, _, _⟩ := DataW.trod_int Try.underlying3 f5
          simp only [List.cons.injEq, and_true] at e0 e1 e2 e3 e4 e5
          subst e0 e1 e2 e3 e4 e5
          refine ⟨⟨z0, z1, z2, z3, z4, z5⟩, fun j u hu => ?_⟩
          have hj : j < 6 := by
            have := (List.getElem?_eq_some_iff.1 hu).1
            simpa [opV] using this
          have aj := hat j (by simpa using hj)
          rw [Go.Deep.add_add] at aj
          rw [aj, ← hu]
          rfl
    obtain ⟨l, hlen, hc⟩ := gatherP len hone
    refine ⟨l, some a, cap, by rw [hlen], by omega, hm, fun hpos => ?_⟩
    obtain ⟨b, off, spot⟩ := a
    obtain rfl : spot = none := by
      have := World.cell?_spot (hc 0 hpos 0 _ rfl)
      simpa [Addr.add] using this
    exact ⟨b, off, rfl, fun j hj i u hu => by simpa only [add_none, Nat.add_assoc] using hc j hj i u hu⟩
end
/-- 'there is an input that fits', at a world whose shape is shown apart -/
theorem witness_row_sh {H : Type} {enc : TypeId × Value → H} {C : Checked} {os : Os} {f : FuncId} {fn : Func} {s : OpenSpec} {conds : List PathCond} {apart : Bool} {laid : List (String × DataW Unit)} (modest : Bool) (w0 : World) (args : Array Value) (hos : w0.os = os)
    (hsh : (w0.forCall (fun _ _ => 0) ⟨#[], args, []⟩).Shaped C.prog)
    (hok : Input.okWideB C.prog (w0.forCall (fun _ _ => 0) ⟨#[], args, []⟩) f ⟨#[], args, []⟩ = true)
    (hrow : s.preRow enc C.prog fn conds apart laid (w0.forCall (fun _ _ => 0) ⟨#[], args, []⟩).memory args) :
    ∃ (w : World) (tape : Tape) (i : Input), w.os = os ∧ (w.forCall tape i).Shaped C.prog ∧ i.vars = [] ∧ Input.okWide C.prog (w.forCall tape i) .any w.heap.size f i ∧
      s.preRow enc C.prog fn conds apart laid (w.forCall tape i).memory i.args ∧ ({ modest := modest } : Assume).holds C.prog (lone (Frame.enter C.prog f i.args .normal) [] (w.forCall tape i)) :=
  ⟨w0, fun _ _ => 0, ⟨#[], args, []⟩, hos, hsh, (Input.okWide_of_okWideB (base := 0) hok).1, (Input.okWide_of_okWideB hok).2, hrow, by
    simp only [Assume.holds]
    exact ⟨by simp, by simp, fun _ => Modest.zero, by simp, by simp⟩⟩

/-- a world for the witness -/
noncomputable def laidWorld (os : Os) : World := World.laidAll Try.prog os []
theorem laid_met (os : Os) (args : Array Value) : laidMet Try.prog [] ((laidWorld os).forCall (fun _ _ => 0) ⟨#[], args, []⟩).memory :=
  laidMet_laidAll _ (by kernel_rfl) (by kernel_rfl)
end Go.Proofs.Ytimmmbjdaibplaa.netOpen
