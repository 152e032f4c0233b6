/-
  NetPlays: what a net does, call by call, is what the document's net does, and a copy is independent. For every input.
-/
import Derived.Test.YtimmmbjdaibplaaU3
import Derived.Test.YtimmmbjdaibplaaOpen
namespace Go.Proofs.Ytimmmbjdaibplaa.netPlays
open Go.ChangeShapes Go.WideShapes Go.ChangeAt Go.RowKit Go.Deep netOpen
set_option linter.unusedVariables false

theorem plays_walk (places cells : Int) (l : List OpD) (vl : Value) (w : World) (hf : Ops w vl l) :
    Calls Try.prog 5 #[.int .i64 places, .int .i64 cells, vl] w fun e w' => e = .returned (.bool true) ∧ Below w.heap.size w w' := by
  by_cases hbad : places < 1 ∨ 8 < places ∨ cells < 1 ∨ 64 < cells
  · exact plays_bad places cells l vl w hf hbad
  · obtain ⟨P, rfl⟩ : ∃ P : Nat, places = P := ⟨places.toNat, by omega⟩
    obtain ⟨C, rfl⟩ : ∃ C : Nat, cells = C := ⟨cells.toNat, by omega⟩
    by_cases hlong : 60 < l.length
    · exact plays_long P C (by omega) (by omega) (by omega) (by omega) l vl w hf hlong
    · exact plays_main P C (by omega) (by omega) (by omega) (by omega) l vl w hf (by omega)
theorem shaped0 (os : Os) : ((laidWorld os).forCall (fun _ _ => 0) ⟨#[], #[Value.int .i64 0, .int .i64 0, .slice none 0 0], []⟩).Shaped Try.prog :=
  World.shaped_of_ZipB (by kernel_rfl) (by kernel_rfl)

set_option maxRecDepth 100000 in
theorem contract (H : Type) (enc : TypeId × Value → H) (W : World) (base : Nat) (args : Array Value) (ds gs : List (DataW H)) (before : List MemPlace)
    (hval : ∀ (j : Nat) t v, Try.f5.params[j]? = some t → args[j]? = some v → Value.okWide Try.prog W .any base t v)
    (hW : DataW.Whole enc Try.prog Try.f5.params.toList Rows.netPlaysSpec.vars false W args.toList ds gs before) (hz : (DataW.weightsEach Try.prog (Try.f5.params.toList ++ Rows.netPlaysSpec.plain.varTypes Try.prog) (ds ++ gs)).all (· ≤ reachBytes) = true) (hL : laidMetH Try.prog Rows.netPlaysRow.laid W) :
    Calls Try.prog 5 args W fun e W' => ∃ v, e = .returned v ∧ Rows.netPlaysSpec.post enc Try.prog Try.f5 false true false false W args v W' := by
  have hW' := hW
  have hlt := hW.lt
  obtain ⟨p, q, hA0, hV, rfl, hfz, hnd⟩ := hW
  have hA : DataW.TrodAll enc Try.prog W 0 (fun _ => true) true Try.f5.params.toList args.toList ds p := hA0
  rw [Try.params5] at hA hval hz
  obtain ⟨v0, vs0, d0, ds0, p0, q0, hargs, rfl, rfl, h0, r0⟩ := trodAll_cons hA
  obtain ⟨v1, vs1, d1, ds1, p1, q1, rfl, rfl, rfl, h1, r1⟩ := trodAll_cons r0
  obtain ⟨v2, vs2, d2, ds2, p2, q2, rfl, rfl, rfl, h2, r2⟩ := trodAll_cons r1
  obtain ⟨rfl, rfl, rfl⟩ := trodAll_nil r2
  obtain rfl : args = #[v0, v1, v2] := by cases args; simp_all
  obtain ⟨rfl, rfl⟩ := trodVars_none hV
  simp only [List.append_nil] at hlt
  have hl0 : ∀ x ∈ p0, x.block < W.heap.size := fun x hx => hlt x (by simp [hx])
  have hl1 : ∀ x ∈ p1, x.block < W.heap.size := fun x hx => hlt x (by simp [hx])
  have hl2 : ∀ x ∈ p2, x.block < W.heap.size := fun x hx => hlt x (by simp [hx])
  have T0 := fun (W' : World) (hb : Below W.heap.size W W') => Below.trod laidOut (by kernel_rfl) (of_decide_eq_true (by kernel_rfl)) h0 hb hl0
  have T1 := fun (W' : World) (hb : Below W.heap.size W W') => Below.trod laidOut (by kernel_rfl) (of_decide_eq_true (by kernel_rfl)) h1 hb hl1
  have T2 := fun (W' : World) (hb : Below W.heap.size W W') => Below.trod laidOut (by kernel_rfl) (of_decide_eq_true (by kernel_rfl)) h2 hb hl2
  obtain ⟨z, rfl⟩ := open_num (hval 0 3 v0 rfl rfl) h0
  obtain ⟨z1, rfl⟩ := open_num (hval 1 3 v1 rfl rfl) h1
  obtain ⟨l, hf⟩ := open_ops (hval 2 39 v2 rfl rfl) h2
  clear hA0
  simp only [List.append_nil] at hW'
  refine (plays_walk z z1 l v2 W hf).mono fun e W' ⟨he, hb⟩ => ?_
  subst he
  exact ⟨_, rfl, _, _, _, [], _, [], hW', trodAll_cons_mk (shut_bool Try.underlying4 _) trodAll_mk0, (trodAll_cons_mk (T0 W' hb) (trodAll_cons_mk (T1 W' hb) (trodAll_cons_mk (T2 W' hb) trodAll_mk0))), rfl, hb.frame _, fun h => by cases h⟩

theorem reads (os : Os) {H : Type} (enc : TypeId × Value → H) : ∃ places, DataW.whole enc Try.prog ((laidWorld os).forCall (fun _ _ => 0) ⟨#[], #[Value.int .i64 0, .int .i64 0, .slice none 0 0], []⟩).memory Try.f5.params.toList Rows.netPlaysSpec.vars false (#[Value.int .i64 0, .int .i64 0, .slice none 0 0] : Array Value).toList 8 = some ([.lit (.int .i64 0), .lit (.int .i64 0), .nil], [], places) :=
  ⟨[], by kernel_rfl⟩

set_option maxRecDepth 100000 in
theorem lifted (os : Os) (started : os.Started) (H : Type) (enc : TypeId × Value → H) (F : Stop.Interp) :
    ReturnsInHanded {} Try.checked os 5 .any ((OpenSpec.ofChange Rows.netPlaysSpec).preRow enc Try.prog Try.f5 Rows.netPlaysRow.domain false Rows.netPlaysRow.laid) (((OpenSpec.ofChange Rows.netPlaysSpec).at F).post enc Try.prog Try.f5 false true false false) := by
  obtain ⟨places, hx⟩ := reads os enc
  refine returnsInHanded_of_row (C := Try.checked) (s := OpenSpec.ofChange Rows.netPlaysSpec) own started (by kernel_rfl) Try.func5
    (witness_row_sh (enc := enc) (C := Try.checked) false (laidWorld os) #[Value.int .i64 0, .int .i64 0, .slice none 0 0] (World.laidAll_os _ _ _) (shaped0 os) (by kernel_rfl)
      (OpenSpec.preRow_of_cond 8 hx (by kernel_rfl) (fun k hk => by cases hk) (by kernel_rfl) (laid_met os _))) ?_
  intro W base args ds gs before hval hW _ _ hz hL _ _
  exact contract H enc W base args ds gs before hval hW hz hL

theorem said : Rows.NetPlaysSaid :=
  OpenClaim.holds_of_cond 5 Try.f5 rfl rfl rfl rfl rfl rfl rfl ⟨rfl, rfl, rfl, rfl, rfl⟩ rfl rfl rfl rfl rfl (by kernel_rfl) Try.func5 (by kernel_rfl)
    (of_decide_eq_true (by kernel_rfl)) (by unfold Func.isWrapper; first | (rw [if_pos (by decide +kernel)]; kernel_rfl) | (rw [if_neg (by decide +kernel)]; exact ⟨rfl, rfl⟩))
    (fun os started H enc _ F => by rw [OpenClaim.pre_eq_preRow]; exact lifted os started H enc F)

end Go.Proofs.Ytimmmbjdaibplaa.netPlays
