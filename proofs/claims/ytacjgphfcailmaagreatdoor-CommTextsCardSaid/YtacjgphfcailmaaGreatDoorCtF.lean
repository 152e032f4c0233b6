/-
  The frame of CommTexts: two lists of counts and a number opened; the tables; the witness's world; the contract.
-/
import Derived.Test.YtacjgphfcailmaaGreatDoorCtM20
import Derived.Test.YtacjgphfcailmaaGreatDoorRows
import Derived.Test.YtacjgphfcailmaaGreatDoorCards
import Derived.OpenShut
import Derived.Deep.DeepHandedRow
import Derived.Deep.Slices
import Derived.Deep.Fields
import Derived.ChangeSame
import Derived.Carry
import Derived.SizedLaws
import Derived.Lay
import Derived.Lib.LaidTab
import Derived.Lib.LaidU8
namespace Go.Proofs.YtacjgphfcailmaaGreatDoor
open Go.ChangeShapes Go.WideShapes Go.ChangeAt Go.Deep Go.RowKit
open Ct Mp
set_option linter.unusedVariables false
namespace CtF
theorem own : ownKnob Tryz.prog.godebug = none := by kernel_rfl
theorem laidOut : laidOutB Tryz.prog = true := by kernel_rfl
theorem cellsCnt : Tryz.prog.cellsOf 32 = 4 := by kernel_rfl
theorem cellsStr : Tryz.prog.cellsOf 9 = 1 := by kernel_rfl
theorem cellsInt : Tryz.prog.cellsOf 3 = 1 := by kernel_rfl
theorem cells64 : Tryz.prog.cellsOf 108 = 1 := by kernel_rfl
theorem cellsPow : Tryz.prog.cellsOf 168 = 20 := by kernel_rfl
theorem gPowType : (Tryz.prog.globals[0]?).map (·.type) = some 168 := by kernel_rfl
theorem pow_data : (Rows.laid_internal_strconv_uint64pow10 : DataW Unit) = Lib.tabData .u64 Lib.pow10Tab := by kernel_rfl
theorem pow_of_reads {W : World} (h : Lib.VarReads Tryz.prog W "internal/strconv.uint64pow10" Rows.laid_internal_strconv_uint64pow10) : PowTab W := by
  obtain ⟨g', t', cs, fuel, p, hg', ht', hvar, hd⟩ := h
  obtain rfl := Option.some.inj (gPow.symm.trans hg')
  obtain rfl := Option.some.inj (gPowType.symm.trans ht')
  rw [pow_data] at hd
  unfold PowTab Lib.TabIs
  rw [hvar, ← Lib.cells_of_tab Tryz.underlying168 Tryz.underlying108 cells64 cellsPow hd]
theorem pow_of {W : World} (h : laidMetH Tryz.prog Rows.commTextsRow.laid W) : PowTab W := by
  have h' : laidMet Tryz.prog Rows.commTextsRow.laid W := h
  exact pow_of_reads (Lib.laidMet.reads h' (by simp [Rows.commTextsRow]))
theorem add_none (b off n : Nat) : (⟨b, off, none⟩ : Addr).add n = ⟨b, off + n, none⟩ := by
  simp only [Addr.add]
  split <;> simp_all
theorem gatherP {α : Type} {R : Nat → α → Prop} : ∀ (n : Nat), (∀ i, i < n → ∃ x, R i x) → ∃ xs : List α, xs.length = n ∧ ∀ i (h : i < xs.length), R i xs[i]
  | 0, _ => ⟨[], rfl, fun i h => by cases h⟩
  | n + 1, h => by
    obtain ⟨xs, hl, hx⟩ := gatherP n (fun i hi => h i (by omega))
    obtain ⟨x, hxn⟩ := h n (by omega)
    refine ⟨xs ++ [x], by simp [hl], fun i hi => ?_⟩
    by_cases hin : i < xs.length
    · rw [List.getElem_append_left hin]; exact hx i hin
    · have : i = xs.length := by simp at hi; omega
      subst this
      simpa [hl] using hxn
section
variable {H : Type} {enc : TypeId × Value → H} {w : World} {base : Nat} {spare : Nat → Bool} {held : Bool}
set_option maxRecDepth 100000 in
theorem open_counts {b0 : Nat} {v : Value} {d : DataW H} {p : List MemPlace} (hv : Value.okWide Tryz.prog w .any b0 22 v) (h : DataW.Trod enc Tryz.prog w base spare held 22 v d p) : ∃ l : List Cnt, Cs w v l := by
  obtain ⟨A, len, cap, rfl⟩ := okWide_slice Tryz.underlying22 hv
  obtain ⟨fuel, hf⟩ := h
  rcases open_slice Tryz.underlying22 hf with ⟨h0, hx⟩ | ⟨a, len', cap', m, n, D, Pl, hcs, hb, hl, hm, hmm, hx, hi⟩
  · simp only [Value.cells, List.cons.injEq, Value.slice.injEq, and_true] at h0
    obtain ⟨rfl, rfl, rfl⟩ := h0
    exact ⟨[], none, 0, rfl, Nat.le_refl _, by omega, fun h => by cases h⟩
  · simp only [Value.cells, List.cons.injEq, Value.slice.injEq, and_true] at hcs
    obtain ⟨rfl, rfl, rfl⟩ := hcs
    have hlm : len ≤ m := by rw [hmm]; split <;> omega
    have hone : ∀ i, i < len → ∃ o : Cnt, ∀ (j : Nat) (u : Value), (cntV o)[j]? = some u → w.cell? (a.add (i * 4 + j)) = some u := by
      intro i hil
      obtain ⟨cs', hc, ht'⟩ := hi i (by omega)
      rw [cellsCnt] at hc
      obtain ⟨ys, n', hn', hy, hlen, hyl, hfl⟩ := DataW.trod_struct Tryz.underlying32 ht'
      obtain ⟨_, hcl, hat⟩ := World.cells?_some hc
      match cs', hlen.trans cellsCnt with
      | [c0, c1, c2, c3], _ =>
        match ys, hyl with
        | [y0, y1, y2, y3], _ =>
          have f0 : DataW.trod enc Tryz.prog w base spare held n' 3 [c0] = some y0 := by simpa [cellsInt] using hfl 0 _ rfl
          have f1 : DataW.trod enc Tryz.prog w base spare held n' 3 [c1] = some y1 := by simpa [cellsInt] using hfl 1 _ rfl
          have f2 : DataW.trod enc Tryz.prog w base spare held n' 9 [c2] = some y2 := by simpa [cellsStr] using hfl 2 _ rfl
          have f3 : DataW.trod enc Tryz.prog w base spare held n' 3 [c3] = some y3 := by simpa [cellsInt] using hfl 3 _ rfl
          obtain ⟨z0, e0, _, _⟩ := DataW.trod_int Tryz.underlying3 f0
          obtain ⟨z1, e1, _, _⟩ := DataW.trod_int Tryz.underlying3 f1
          obtain ⟨s2, e2, _, _⟩ := DataW.trod_string Tryz.underlying9 f2
          obtain ⟨z3, e3, _, _⟩ := DataW.trod_int Tryz.underlying3 f3
          simp only [List.cons.injEq, and_true] at e0 e1 e2 e3
          subst e0 e1 e2 e3
          refine ⟨⟨z0, z1, s2, z3⟩, fun j u hu => ?_⟩
          have hj : j < 4 := by
            have := (List.getElem?_eq_some_iff.1 hu).1
            simpa [cntV] using this
          have aj := hat j (by simpa using hj)
          rw [Go.Deep.add_add] at aj
          rw [aj, ← hu]
          rfl
    obtain ⟨l, hlen, hc⟩ := gatherP len hone
    refine ⟨l, some a, cap, by rw [hlen], by omega, hm, fun hpos => ?_⟩
    obtain ⟨b, off, spot⟩ := a
    obtain rfl : spot = none := by
      have := World.cell?_spot (hc 0 hpos 0 _ rfl)
      simpa [Addr.add] using this
    exact ⟨b, off, rfl, fun i hi j u hu => by simpa only [add_none, Nat.add_assoc] using hc i hi j u hu⟩
end
/-- 'there is an input that fits', at a world whose shape is shown apart -/
theorem witness_row_sh {H : Type} {enc : TypeId × Value → H} {C : Checked} {os : Os} {f : FuncId} {fn : Func} {s : OpenSpec} {conds : List PathCond} {apart : Bool} {laid : List (String × DataW Unit)} (modest : Bool) (w0 : World) (args : Array Value) (hos : w0.os = os)
    (hsh : (w0.forCall (fun _ _ => 0) ⟨#[], args, []⟩).Shaped C.prog)
    (hok : Input.okWideB C.prog (w0.forCall (fun _ _ => 0) ⟨#[], args, []⟩) f ⟨#[], args, []⟩ = true)
    (hrow : s.preRow enc C.prog fn conds apart laid (w0.forCall (fun _ _ => 0) ⟨#[], args, []⟩).memory args) :
    ∃ (w : World) (tape : Tape) (i : Input), w.os = os ∧ (w.forCall tape i).Shaped C.prog ∧ i.vars = [] ∧ Input.okWide C.prog (w.forCall tape i) .any w.heap.size f i ∧
      s.preRow enc C.prog fn conds apart laid (w.forCall tape i).memory i.args ∧ ({ modest := modest } : Assume).holds C.prog (lone (Frame.enter C.prog f i.args .normal) [] (w.forCall tape i)) :=
  ⟨w0, fun _ _ => 0, ⟨#[], args, []⟩, hos, hsh, (Input.okWide_of_okWideB (base := 0) hok).1, (Input.okWide_of_okWideB hok).2, hrow, by
    simp only [Assume.holds]
    exact ⟨by simp, by simp, fun _ => Modest.zero, by simp, by simp⟩⟩
/-- a world for the witness: the variables laid by the kit's function -/
noncomputable def laidWorld (os : Os) : World := World.laidAll Tryz.prog os Rows.commTextsRow.laid
theorem laid_met (os : Os) (args : Array Value) : laidMet Tryz.prog Rows.commTextsRow.laid ((laidWorld os).forCall (fun _ _ => 0) ⟨#[], args, []⟩).memory :=
  laidMet_laidAll _ (by kernel_rfl) (by kernel_rfl)
set_option maxRecDepth 100000 in
theorem contract (hA : ∀ W, laidMetH Tryz.prog Rows.commTextsRow.laid W → AwakeOK W) (H : Type) (enc : TypeId × Value → H) (W : World) (base : Nat) (args : Array Value) (ds gs : List (DataW H)) (before : List MemPlace)
    (hval : ∀ (j : Nat) t v, Tryz.f3.params[j]? = some t → args[j]? = some v → Value.okWide Tryz.prog W .any base t v)
    (hW : DataW.Whole enc Tryz.prog Tryz.f3.params.toList Rows.commTextsSpec.vars false W args.toList ds gs before) (hL : laidMetH Tryz.prog Rows.commTextsRow.laid W) :
    Calls Tryz.prog 3 args W fun e W' => ∃ v, e = .returned v ∧ Rows.commTextsSpec.post enc Tryz.prog Tryz.f3 false true false false W args v W' := by
  have hW' := hW
  have hlt := hW.lt
  obtain ⟨p, q, hA0, hV, rfl, hfz, hnd⟩ := hW
  have hA1 : DataW.TrodAll enc Tryz.prog W 0 (fun _ => true) true Tryz.f3.params.toList args.toList ds p := hA0
  rw [Tryz.params3] at hA1 hval
  obtain ⟨v0, vs0, d0, ds0, p0, q0, hargs, rfl, rfl, h0, r0⟩ := trodAll_cons hA1
  obtain ⟨v1, vs1, d1, ds1, p1, q1, rfl, rfl, rfl, h1, r1⟩ := trodAll_cons r0
  obtain ⟨v2, vs2, d2, ds2, p2, q2, rfl, rfl, rfl, h2, r2⟩ := trodAll_cons r1
  obtain ⟨rfl, rfl, rfl⟩ := trodAll_nil r2
  obtain rfl : args = #[v0, v1, v2] := by cases args; simp_all
  obtain ⟨rfl, rfl⟩ := trodVars_none hV
  simp only [List.append_nil] at hlt
  have hl0 : ∀ x ∈ p0, x.block < W.heap.size := fun x hx => hlt x (by simp [hx])
  have hl1 : ∀ x ∈ p1, x.block < W.heap.size := fun x hx => hlt x (by simp [hx])
  have hl2 : ∀ x ∈ p2, x.block < W.heap.size := fun x hx => hlt x (by simp [hx])
  have T0 := fun (W' : World) (hb : Below W.heap.size W W') => Below.trod laidOut (by kernel_rfl) (of_decide_eq_true (by kernel_rfl)) h0 hb hl0
  have T1 := fun (W' : World) (hb : Below W.heap.size W W') => Below.trod laidOut (by kernel_rfl) (of_decide_eq_true (by kernel_rfl)) h1 hb hl1
  have T2 := fun (W' : World) (hb : Below W.heap.size W W') => Below.trod laidOut (by kernel_rfl) (of_decide_eq_true (by kernel_rfl)) h2 hb hl2
  obtain ⟨l, hl⟩ := open_counts (hval 0 22 v0 rfl rfl) h0
  obtain ⟨m, hm⟩ := open_counts (hval 1 22 v1 rfl rfl) h1
  obtain ⟨a, rfl, -⟩ := open_int Tryz.underlying3 (hval 2 3 v2 rfl rfl) h2
  clear hA0
  simp only [List.append_nil] at hW'
  refine (main_at l m v0 v1 a W hl hm (pow_of hL) (hA W hL)).mono fun e W' ⟨he, hb⟩ => ?_
  subst he
  exact ⟨_, rfl, _, _, _, [], _, [], hW', trodAll_cons_mk (shut_bool Tryz.underlying4 _) trodAll_mk0, (trodAll_cons_mk (T0 W' hb) (trodAll_cons_mk (T1 W' hb) (trodAll_cons_mk (T2 W' hb) trodAll_mk0))), rfl, hb.frame _, fun h => by cases h⟩
end CtF
end Go.Proofs.YtacjgphfcailmaaGreatDoor
