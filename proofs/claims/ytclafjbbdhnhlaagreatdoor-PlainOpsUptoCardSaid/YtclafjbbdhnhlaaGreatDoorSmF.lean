/-
  What the frames of the statements about layer 12 share: the five variables that the rows list, a world for the witnesses; lists of texts and tellings opened.
-/
import Derived.Test.YtclafjbbdhnhlaaGreatDoorSmB
import Derived.Test.YtclafjbbdhnhlaaGreatDoorRows
import Derived.Test.YtclafjbbdhnhlaaGreatDoorCards
import Derived.Test.YtclafjbbdhnhlaaGreatDoorTie
import Derived.OpenShut
import Derived.Deep.DeepHandedRow
import Derived.Deep.DeepWitnessRowRef
import Derived.Deep.Slices
import Derived.Deep.Fields
import Derived.ChangeSame
import Derived.Carry
import Derived.SizedLaws
import Derived.Lay
namespace Go.Proofs.YtclafjbbdhnhlaaGreatDoor
open Go.ChangeShapes Go.WideShapes Go.ChangeAt Go.Deep Go.RowKit
set_option linter.unusedVariables false
namespace Sm

theorem own : ownKnob Tryz.prog.godebug = none := by kernel_rfl
theorem laidOut : laidOutB Tryz.prog = true := by kernel_rfl

/-- the five variables that the rows list -/
def laid5 : List (String × DataW Unit) := [("math/bits.deBruijn32tab", Rows.laid_math_bits_deBruijn32tab), ("math/bits.deBruijn64tab", Rows.laid_math_bits_deBruijn64tab), ("internal/strconv.uint64pow10", Rows.laid_internal_strconv_uint64pow10), ("unicode.White_Space", Rows.laid_unicode_White_Space), ("strings.asciiSpace", Rows.laid_strings_asciiSpace)]

/-- 'there is an input that fits', at a world whose shape is shown apart -/
theorem witness_row_sh {H : Type} {enc : TypeId × Value → H} {C : Checked} {os : Os} {f : FuncId} {fn : Func} {s : OpenSpec} {conds : List PathCond} {apart : Bool} {laid : List (String × DataW Unit)} (modest : Bool) (w0 : World) (args : Array Value) (hos : w0.os = os)
    (hsh : (w0.forCall (fun _ _ => 0) ⟨#[], args, []⟩).Shaped C.prog)
    (hok : Input.okWideB C.prog (w0.forCall (fun _ _ => 0) ⟨#[], args, []⟩) f ⟨#[], args, []⟩ = true)
    (hrow : s.preRow enc C.prog fn conds apart laid (w0.forCall (fun _ _ => 0) ⟨#[], args, []⟩).memory args) :
    ∃ (w : World) (tape : Tape) (i : Input), w.os = os ∧ (w.forCall tape i).Shaped C.prog ∧ i.vars = [] ∧ Input.okWide C.prog (w.forCall tape i) .any w.heap.size f i ∧
      s.preRow enc C.prog fn conds apart laid (w.forCall tape i).memory i.args ∧ ({ modest := modest } : Assume).holds C.prog (lone (Frame.enter C.prog f i.args .normal) [] (w.forCall tape i)) :=
  ⟨w0, fun _ _ => 0, ⟨#[], args, []⟩, hos, hsh, (Input.okWide_of_okWideB (base := 0) hok).1, (Input.okWide_of_okWideB hok).2, hrow, by
    simp only [Assume.holds]
    exact ⟨by simp, by simp, fun _ => Modest.zero, by simp, by simp⟩⟩

/-- a world for the witness: the variables laid by the kit's function -/
noncomputable def laidWorld (os : Os) : World := World.laidAll Tryz.prog os laid5
theorem laid_met (os : Os) (args : Array Value) : laidMet Tryz.prog laid5 ((laidWorld os).forCall (fun _ _ => 0) ⟨#[], args, []⟩).memory :=
  laidMet_laidAll _ (by kernel_rfl) (by kernel_rfl)

theorem cellsTelling : Tryz.prog.cellsOf 24 = 4 := by kernel_rfl
theorem cellsStr : Tryz.prog.cellsOf 9 = 1 := by kernel_rfl
theorem cellsInt : Tryz.prog.cellsOf 3 = 1 := by kernel_rfl
theorem cellsTs : Tryz.prog.cellsOf 22 = 1 := by kernel_rfl
theorem add_none (b off n : Nat) : (⟨b, off, none⟩ : Addr).add n = ⟨b, off + n, none⟩ := by
  simp only [Addr.add]
  split <;> simp_all
theorem gatherP {α : Type} {R : Nat → α → Prop} : ∀ (n : Nat), (∀ i, i < n → ∃ x, R i x) → ∃ xs : List α, xs.length = n ∧ ∀ i (h : i < xs.length), R i xs[i]
  | 0, _ => ⟨[], rfl, fun i h => by cases h⟩
  | n + 1, h => by
    obtain ⟨xs, hl, hx⟩ := gatherP n (fun i hi => h i (by omega))
    obtain ⟨x, hxn⟩ := h n (by omega)
    refine ⟨xs ++ [x], by simp [hl], fun i hi => ?_⟩
    by_cases hin : i < xs.length
    · rw [List.getElem_append_left hin]; exact hx i hin
    · have : i = xs.length := by simp at hi; omega
      subst this
      simpa [hl] using hxn

section
variable {H : Type} {enc : TypeId × Value → H} {w : World} {base : Nat} {spare : Nat → Bool} {held : Bool}

set_option maxRecDepth 100000 in
theorem open_texts_cells {fuel : Nat} {cs : List Value} {x : DataW H × List MemPlace} (hf : DataW.trod enc Tryz.prog w base spare held fuel 22 cs = some x) : ∃ (A : Option Addr) (cap : Nat) (l : List ByteArray), cs = [.slice A l.length cap] ∧ SSl w (.slice A l.length cap) l := by
  rcases open_slice Tryz.underlying22 hf with ⟨h0, hx⟩ | ⟨a, len', cap', m, n, D, Pl, hcs, hb, hl, hm, hmm, hx, hi⟩
  · exact ⟨none, 0, [], h0, none, 0, rfl, Nat.le_refl _, Nat.zero_le _, fun h => by cases h⟩
  · have hlm : len' ≤ m := by rw [hmm]; split <;> omega
    have hone : ∀ i, i < len' → ∃ s : ByteArray, w.cell? (a.add i) = some (.string s) := by
      intro i hil
      obtain ⟨cs', hc, ht'⟩ := hi i (by omega)
      rw [cellsStr] at hc
      obtain ⟨_, hcl, hat⟩ := World.cells?_some hc
      obtain ⟨kb, e0, g0, _⟩ := DataW.trod_string Tryz.underlying9 ht'
      subst e0
      have a0 := hat 0 (by simp)
      rw [Go.Deep.add_add] at a0
      exact ⟨kb, by simpa using a0⟩
    obtain ⟨l, hlen, hc⟩ := gatherP len' hone
    subst hlen
    refine ⟨some a, cap', l, hcs, some a, cap', rfl, by omega, hm, fun hpos => ?_⟩
    obtain ⟨b, off, spot⟩ := a
    obtain rfl : spot = none := by
      have := World.cell?_spot (hc 0 hpos)
      simpa [Addr.add] using this
    exact ⟨b, off, rfl, fun i hi => by simpa only [add_none] using hc i hi⟩

set_option maxRecDepth 100000 in
/-- a telling by value -/
theorem open_telling {b0 : Nat} {v : Value} {d : DataW H} {p : List MemPlace} (hv : Value.okWide Tryz.prog w .any b0 24 v) (h : DataW.Trod enc Tryz.prog w base spare held 24 v d p) : ∃ t, TV w v t := by
  obtain ⟨cs, rfl, hsz⟩ := okWide_struct Tryz.underlying24 hv
  obtain ⟨fuel, hf⟩ := h
  obtain ⟨ys, n', hn', hy, hlen, hyl, hfl⟩ := DataW.trod_struct Tryz.underlying24 hf
  obtain ⟨c0, c1, c2, c3, rfl⟩ : ∃ c0 c1 c2 c3, cs = #[c0, c1, c2, c3] := by
    rw [cellsTelling] at hsz
    match cs, hsz with
    | ⟨[c0, c1, c2, c3]⟩, _ => exact ⟨c0, c1, c2, c3, rfl⟩
  match ys, hyl with
  | [y0, y1, y2, y3], _ =>
    have f0 : DataW.trod enc Tryz.prog w base spare held n' 22 [c0] = some y0 := by simpa [cellsTs, Value.cells] using hfl 0 _ rfl
    have f1 : DataW.trod enc Tryz.prog w base spare held n' 9 [c1] = some y1 := by simpa [cellsStr, Value.cells] using hfl 1 _ rfl
    have f2 : DataW.trod enc Tryz.prog w base spare held n' 9 [c2] = some y2 := by simpa [cellsStr, Value.cells] using hfl 2 _ rfl
    have f3 : DataW.trod enc Tryz.prog w base spare held n' 3 [c3] = some y3 := by simpa [cellsInt, Value.cells] using hfl 3 _ rfl
    obtain ⟨A, cap, l, e0, hS⟩ := open_texts_cells f0
    obtain ⟨nb, e1, g1, _⟩ := DataW.trod_string Tryz.underlying9 f1
    obtain ⟨rb, e2, g2, _⟩ := DataW.trod_string Tryz.underlying9 f2
    obtain ⟨z, e3, g3, _⟩ := DataW.trod_int Tryz.underlying3 f3
    simp only [List.cons.injEq, and_true] at e0 e1 e2 e3
    subst e0 e1 e2 e3
    exact ⟨⟨l, nb, rb, z⟩, A, cap, rfl, hS⟩
end
end Sm
end Go.Proofs.YtclafjbbdhnhlaaGreatDoor
