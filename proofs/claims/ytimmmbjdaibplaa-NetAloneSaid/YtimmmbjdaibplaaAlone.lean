/-
  NetAlone: what nets that are none answer. For every input.
-/
import Derived.Test.YtimmmbjdaibplaaW16
import Derived.Test.YtimmmbjdaibplaaRows
import Derived.OpenShut
import Derived.Deep.DeepHandedRow
import Derived.Deep.Slices
import Derived.Deep.Fields
import Derived.ChangeSame
import Derived.Carry
import Derived.SizedLaws
import Derived.Lay
namespace Go.Proofs.Ytimmmbjdaibplaa.netAlone
open Go.ChangeShapes Go.WideShapes Go.ChangeAt Go.RowKit Go.Deep
set_option linter.unusedVariables false

theorem own : ownKnob Try.prog.godebug = none := by kernel_rfl
theorem laidOut : laidOutB Try.prog = true := by kernel_rfl
theorem cellsInt : Try.prog.cellsOf 3 = 1 := by kernel_rfl
theorem cellsInts : Try.prog.cellsOf 22 = 1 := by kernel_rfl
theorem cellsTickets : Try.prog.cellsOf 41 = 6 := by kernel_rfl
section
variable {H : Type} {enc : TypeId × Value → H} {w : World} {base : Nat} {spare : Nat → Bool} {held : Bool}
theorem cells8 : Try.prog.cellsOf 5 = 1 := by kernel_rfl
set_option maxRecDepth 100000 in
theorem open_op {b0 : Nat} {v : Value} {d : DataW H} {p : List MemPlace} (hv : Value.okWide Try.prog w .any b0 41 v) (h : DataW.Trod enc Try.prog w base spare held 41 v d p) :
    ∃ (x f t c z k : Int), v = .agg #[.int .u8 x, .int .i64 f, .int .i64 t, .int .i64 c, .int .i64 z, .int .i64 k] := by
  obtain ⟨cs, rfl, hsz⟩ := okWide_struct Try.underlying41 hv
  obtain ⟨fuel, hf⟩ := h
  obtain ⟨ys, n', hn', hy, hlen, hyl, hfl⟩ := DataW.trod_struct Try.underlying41 hf
  match cs, hlen.trans cellsTickets with
  | ⟨[c0, c1, c2, c3, c4, c5]⟩, _ =>
    match ys, hyl with
    | [y0, y1, y2, y3, y4, y5], _ =>
      have f0 : DataW.trod enc Try.prog w base spare held n' 5 [c0] = some y0 := by simpa [cells8, Value.cells] using hfl 0 _ rfl
      have f1 : DataW.trod enc Try.prog w base spare held n' 3 [c1] = some y1 := by simpa [cellsInt, Value.cells] using hfl 1 _ rfl
      have f2 : DataW.trod enc Try.prog w base spare held n' 3 [c2] = some y2 := by simpa [cellsInt, Value.cells] using hfl 2 _ rfl
      have f3 : DataW.trod enc Try.prog w base spare held n' 3 [c3] = some y3 := by simpa [cellsInt, Value.cells] using hfl 3 _ rfl
      have f4 : DataW.trod enc Try.prog w base spare held n' 3 [c4] = some y4 := by simpa [cellsInt, Value.cells] using hfl 4 _ rfl
      have f5 : DataW.trod enc Try.prog w base spare held n' 3 [c5] = some y5 := by simpa [cellsInt, Value.cells] using hfl 5 _ rfl
      obtain ⟨z0, e0, _, _⟩ := DataW.trod_int Try.underlying5 f0
      obtain ⟨z1, e1, _, _⟩ := DataW.trod_int Try.underlying3 f1
      obtain ⟨z2, e2, _, _⟩ := DataW.trod_int Try.underlying3 f2
      obtain ⟨z3, e3, _, _⟩ := DataW.trod_int Try.underlying3 f3
      obtain ⟨z4, e4, _, _⟩ := DataW.trod_int Try.underlying3 f4
      obtain ⟨z5, e5, _, _⟩ := DataW.trod_int Try.underlying3 f5
      simp only [List.cons.injEq, and_true] at e0 e1 e2 e3 e4 e5
      subst e0 e1 e2 e3 e4 e5
      exact ⟨z0, z1, z2, z3, z4, z5, rfl⟩
end
/-- 'there is an input that fits', at a world whose shape is shown apart -/
theorem witness_row_sh {H : Type} {enc : TypeId × Value → H} {C : Checked} {os : Os} {f : FuncId} {fn : Func} {s : OpenSpec} {conds : List PathCond} {apart : Bool} {laid : List (String × DataW Unit)} (modest : Bool) (w0 : World) (args : Array Value) (hos : w0.os = os)
    (hsh : (w0.forCall (fun _ _ => 0) ⟨#[], args, []⟩).Shaped C.prog)
    (hok : Input.okWideB C.prog (w0.forCall (fun _ _ => 0) ⟨#[], args, []⟩) f ⟨#[], args, []⟩ = true)
    (hrow : s.preRow enc C.prog fn conds apart laid (w0.forCall (fun _ _ => 0) ⟨#[], args, []⟩).memory args) :
    ∃ (w : World) (tape : Tape) (i : Input), w.os = os ∧ (w.forCall tape i).Shaped C.prog ∧ i.vars = [] ∧ Input.okWide C.prog (w.forCall tape i) .any w.heap.size f i ∧
      s.preRow enc C.prog fn conds apart laid (w.forCall tape i).memory i.args ∧ ({ modest := modest } : Assume).holds C.prog (lone (Frame.enter C.prog f i.args .normal) [] (w.forCall tape i)) :=
  ⟨w0, fun _ _ => 0, ⟨#[], args, []⟩, hos, hsh, (Input.okWide_of_okWideB (base := 0) hok).1, (Input.okWide_of_okWideB hok).2, hrow, by
    simp only [Assume.holds]
    exact ⟨by simp, by simp, fun _ => Modest.zero, by simp, by simp⟩⟩

/-- a world for the witness -/
noncomputable def laidWorld (os : Os) : World := World.laidAll Try.prog os []
theorem laid_met (os : Os) (args : Array Value) : laidMet Try.prog [] ((laidWorld os).forCall (fun _ _ => 0) ⟨#[], args, []⟩).memory :=
  laidMet_laidAll _ (by kernel_rfl) (by kernel_rfl)
theorem shaped0 (os : Os) : ((laidWorld os).forCall (fun _ _ => 0) ⟨#[], #[Value.agg #[.int .u8 0, .int .i64 0, .int .i64 0, .int .i64 0, .int .i64 0, .int .i64 0]], []⟩).Shaped Try.prog :=
  World.shaped_of_ZipB (by kernel_rfl) (by kernel_rfl)

set_option maxRecDepth 100000 in
theorem contract (H : Type) (enc : TypeId × Value → H) (W : World) (base : Nat) (args : Array Value) (ds gs : List (DataW H)) (before : List MemPlace)
    (hval : ∀ (j : Nat) t v, Try.f6.params[j]? = some t → args[j]? = some v → Value.okWide Try.prog W .any base t v)
    (hW : DataW.Whole enc Try.prog Try.f6.params.toList Rows.netAloneSpec.vars false W args.toList ds gs before) (hz : (DataW.weightsEach Try.prog (Try.f6.params.toList ++ Rows.netAloneSpec.plain.varTypes Try.prog) (ds ++ gs)).all (· ≤ reachBytes) = true) (hL : laidMetH Try.prog Rows.netAloneRow.laid W) :
    Calls Try.prog 6 args W fun e W' => ∃ v, e = .returned v ∧ Rows.netAloneSpec.post enc Try.prog Try.f6 false true false false W args v W' := by
  have hW' := hW
  have hlt := hW.lt
  obtain ⟨p, q, hA0, hV, rfl, hfz, hnd⟩ := hW
  have hA : DataW.TrodAll enc Try.prog W 0 (fun _ => true) true Try.f6.params.toList args.toList ds p := hA0
  rw [Try.params6] at hA hval hz
  obtain ⟨v0, vs0, d0, ds0, p0, q0, hargs, rfl, rfl, h0, r0⟩ := trodAll_cons hA
  obtain ⟨rfl, rfl, rfl⟩ := trodAll_nil r0
  obtain rfl : args = #[v0] := by cases args; simp_all
  obtain ⟨rfl, rfl⟩ := trodVars_none hV
  simp only [List.append_nil] at hlt
  have hl0 : ∀ x ∈ p0, x.block < W.heap.size := fun x hx => hlt x (by simp [hx])
  have T0 := fun (W' : World) (hb : Below W.heap.size W W') => Below.trod laidOut (by kernel_rfl) (of_decide_eq_true (by kernel_rfl)) h0 hb hl0
  obtain ⟨x, f, t, c, z, k, rfl⟩ := open_op (hval 0 41 v0 rfl rfl) h0
  clear hA0
  simp only [List.append_nil] at hW'
  refine (alone_walk x f t c z k W).mono fun e W' ⟨he, hb⟩ => ?_
  subst he
  exact ⟨_, rfl, _, _, _, [], _, [], hW', trodAll_cons_mk (shut_bool Try.underlying4 _) trodAll_mk0, (trodAll_cons_mk (T0 W' hb) trodAll_mk0), rfl, hb.frame _, fun h => by cases h⟩

theorem reads (os : Os) {H : Type} (enc : TypeId × Value → H) : ∃ places, DataW.whole enc Try.prog ((laidWorld os).forCall (fun _ _ => 0) ⟨#[], #[Value.agg #[.int .u8 0, .int .i64 0, .int .i64 0, .int .i64 0, .int .i64 0, .int .i64 0]], []⟩).memory Try.f6.params.toList Rows.netAloneSpec.vars false (#[Value.agg #[.int .u8 0, .int .i64 0, .int .i64 0, .int .i64 0, .int .i64 0, .int .i64 0]] : Array Value).toList 8 = some ([.agg [.lit (.int .u8 0), .lit (.int .i64 0), .lit (.int .i64 0), .lit (.int .i64 0), .lit (.int .i64 0), .lit (.int .i64 0)]], [], places) :=
  ⟨[], by kernel_rfl⟩

set_option maxRecDepth 100000 in
theorem lifted (os : Os) (started : os.Started) (H : Type) (enc : TypeId × Value → H) (F : Stop.Interp) :
    ReturnsInHanded {} Try.checked os 6 .any ((OpenSpec.ofChange Rows.netAloneSpec).preRow enc Try.prog Try.f6 Rows.netAloneRow.domain false Rows.netAloneRow.laid) (((OpenSpec.ofChange Rows.netAloneSpec).at F).post enc Try.prog Try.f6 false true false false) := by
  obtain ⟨places, hx⟩ := reads os enc
  refine returnsInHanded_of_row (C := Try.checked) (s := OpenSpec.ofChange Rows.netAloneSpec) own started (by kernel_rfl) Try.func6
    (witness_row_sh (enc := enc) (C := Try.checked) false (laidWorld os) #[Value.agg #[.int .u8 0, .int .i64 0, .int .i64 0, .int .i64 0, .int .i64 0, .int .i64 0]] (World.laidAll_os _ _ _) (shaped0 os) (by kernel_rfl)
      (OpenSpec.preRow_of_cond 8 hx (by kernel_rfl) (fun k hk => by cases hk) (by kernel_rfl) (laid_met os _))) ?_
  intro W base args ds gs before hval hW _ _ hz hL _ _
  exact contract H enc W base args ds gs before hval hW hz hL

theorem said : Rows.NetAloneSaid :=
  OpenClaim.holds_of_cond 6 Try.f6 rfl rfl rfl rfl rfl rfl rfl ⟨rfl, rfl, rfl, rfl, rfl⟩ rfl rfl rfl rfl rfl (by kernel_rfl) Try.func6 (by kernel_rfl)
    (of_decide_eq_true (by kernel_rfl)) (by unfold Func.isWrapper; first | (rw [if_pos (by decide +kernel)]; kernel_rfl) | (rw [if_neg (by decide +kernel)]; exact ⟨rfl, rfl⟩))
    (fun os started H enc _ F => by rw [OpenClaim.pre_eq_preRow]; exact lifted os started H enc F)

end Go.Proofs.Ytimmmbjdaibplaa.netAlone
