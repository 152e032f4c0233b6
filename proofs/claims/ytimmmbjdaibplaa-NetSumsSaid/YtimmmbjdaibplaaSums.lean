/-
  NetSums: cells to which is only added have the sum of all that was added, in whatever order the messages are delivered. For every input.
-/
import Derived.Test.YtimmmbjdaibplaaW22
import Derived.Test.YtimmmbjdaibplaaOpen
namespace Go.Proofs.Ytimmmbjdaibplaa.netSums
open Go.ChangeShapes Go.WideShapes Go.ChangeAt Go.RowKit Go.Deep netOpen
set_option linter.unusedVariables false

theorem sums_walk (places : Int) (l : List OpD) (ord : List Int) (vl vo : Value) (w : World) (hf : Ops w vl l) (ho : Ints w vo ord) :
    Calls Try.prog 4 #[.int .i64 places, vl, vo] w fun e w' => e = .returned (.bool true) ∧ Below w.heap.size w w' := by
  by_cases hbad : places < 1 ∨ 8 < places
  · exact sums_bad places l ord vl vo w hf ho hbad
  · obtain ⟨P, rfl⟩ : ∃ P : Nat, places = P := ⟨places.toNat, by omega⟩
    by_cases hlong : 40 < l.length
    · exact sums_long P (by omega) (by omega) l ord vl vo w hf ho hlong
    · exact sums_main P (by omega) (by omega) l ord vl vo w hf ho (by omega)
theorem shaped0 (os : Os) : ((laidWorld os).forCall (fun _ _ => 0) ⟨#[], #[Value.int .i64 0, .slice none 0 0, .slice none 0 0], []⟩).Shaped Try.prog :=
  World.shaped_of_ZipB (by kernel_rfl) (by kernel_rfl)

set_option maxRecDepth 100000 in
theorem contract (H : Type) (enc : TypeId × Value → H) (W : World) (base : Nat) (args : Array Value) (ds gs : List (DataW H)) (before : List MemPlace)
    (hval : ∀ (j : Nat) t v, Try.f4.params[j]? = some t → args[j]? = some v → Value.okWide Try.prog W .any base t v)
    (hW : DataW.Whole enc Try.prog Try.f4.params.toList Rows.netSumsSpec.vars false W args.toList ds gs before) (hz : (DataW.weightsEach Try.prog (Try.f4.params.toList ++ Rows.netSumsSpec.plain.varTypes Try.prog) (ds ++ gs)).all (· ≤ reachBytes) = true) (hL : laidMetH Try.prog Rows.netSumsRow.laid W) :
    Calls Try.prog 4 args W fun e W' => ∃ v, e = .returned v ∧ Rows.netSumsSpec.post enc Try.prog Try.f4 false true false false W args v W' := by
  have hW' := hW
  have hlt := hW.lt
  obtain ⟨p, q, hA0, hV, rfl, hfz, hnd⟩ := hW
  have hA : DataW.TrodAll enc Try.prog W 0 (fun _ => true) true Try.f4.params.toList args.toList ds p := hA0
  rw [Try.params4] at hA hval hz
  obtain ⟨v0, vs0, d0, ds0, p0, q0, hargs, rfl, rfl, h0, r0⟩ := trodAll_cons hA
  obtain ⟨v1, vs1, d1, ds1, p1, q1, rfl, rfl, rfl, h1, r1⟩ := trodAll_cons r0
  obtain ⟨v2, vs2, d2, ds2, p2, q2, rfl, rfl, rfl, h2, r2⟩ := trodAll_cons r1
  obtain ⟨rfl, rfl, rfl⟩ := trodAll_nil r2
  obtain rfl : args = #[v0, v1, v2] := by cases args; simp_all
  obtain ⟨rfl, rfl⟩ := trodVars_none hV
  simp only [List.append_nil] at hlt
  have hl0 : ∀ x ∈ p0, x.block < W.heap.size := fun x hx => hlt x (by simp [hx])
  have hl1 : ∀ x ∈ p1, x.block < W.heap.size := fun x hx => hlt x (by simp [hx])
  have hl2 : ∀ x ∈ p2, x.block < W.heap.size := fun x hx => hlt x (by simp [hx])
  have T0 := fun (W' : World) (hb : Below W.heap.size W W') => Below.trod laidOut (by kernel_rfl) (of_decide_eq_true (by kernel_rfl)) h0 hb hl0
  have T1 := fun (W' : World) (hb : Below W.heap.size W W') => Below.trod laidOut (by kernel_rfl) (of_decide_eq_true (by kernel_rfl)) h1 hb hl1
  have T2 := fun (W' : World) (hb : Below W.heap.size W W') => Below.trod laidOut (by kernel_rfl) (of_decide_eq_true (by kernel_rfl)) h2 hb hl2
  obtain ⟨z, rfl⟩ := open_num (hval 0 3 v0 rfl rfl) h0
  obtain ⟨l, hf⟩ := open_ops (hval 1 39 v1 rfl rfl) h1
  obtain ⟨ord, ho⟩ := open_ints (hval 2 22 v2 rfl rfl) h2
  clear hA0
  simp only [List.append_nil] at hW'
  refine (sums_walk z l ord v1 v2 W hf ho).mono fun e W' ⟨he, hb⟩ => ?_
  subst he
  exact ⟨_, rfl, _, _, _, [], _, [], hW', trodAll_cons_mk (shut_bool Try.underlying4 _) trodAll_mk0, (trodAll_cons_mk (T0 W' hb) (trodAll_cons_mk (T1 W' hb) (trodAll_cons_mk (T2 W' hb) trodAll_mk0))), rfl, hb.frame _, fun h => by cases h⟩

theorem reads (os : Os) {H : Type} (enc : TypeId × Value → H) : ∃ places, DataW.whole enc Try.prog ((laidWorld os).forCall (fun _ _ => 0) ⟨#[], #[Value.int .i64 0, .slice none 0 0, .slice none 0 0], []⟩).memory Try.f4.params.toList Rows.netSumsSpec.vars false (#[Value.int .i64 0, .slice none 0 0, .slice none 0 0] : Array Value).toList 8 = some ([.lit (.int .i64 0), .nil, .nil], [], places) :=
  ⟨[], by kernel_rfl⟩

set_option maxRecDepth 100000 in
theorem lifted (os : Os) (started : os.Started) (H : Type) (enc : TypeId × Value → H) (F : Stop.Interp) :
    ReturnsInHanded {} Try.checked os 4 .any ((OpenSpec.ofChange Rows.netSumsSpec).preRow enc Try.prog Try.f4 Rows.netSumsRow.domain false Rows.netSumsRow.laid) (((OpenSpec.ofChange Rows.netSumsSpec).at F).post enc Try.prog Try.f4 false true false false) := by
  obtain ⟨places, hx⟩ := reads os enc
  refine returnsInHanded_of_row (C := Try.checked) (s := OpenSpec.ofChange Rows.netSumsSpec) own started (by kernel_rfl) Try.func4
    (witness_row_sh (enc := enc) (C := Try.checked) false (laidWorld os) #[Value.int .i64 0, .slice none 0 0, .slice none 0 0] (World.laidAll_os _ _ _) (shaped0 os) (by kernel_rfl)
      (OpenSpec.preRow_of_cond 8 hx (by kernel_rfl) (fun k hk => by cases hk) (by kernel_rfl) (laid_met os _))) ?_
  intro W base args ds gs before hval hW _ _ hz hL _ _
  exact contract H enc W base args ds gs before hval hW hz hL

theorem said : Rows.NetSumsSaid :=
  OpenClaim.holds_of_cond 4 Try.f4 rfl rfl rfl rfl rfl rfl rfl ⟨rfl, rfl, rfl, rfl, rfl⟩ rfl rfl rfl rfl rfl (by kernel_rfl) Try.func4 (by kernel_rfl)
    (of_decide_eq_true (by kernel_rfl)) (by unfold Func.isWrapper; first | (rw [if_pos (by decide +kernel)]; kernel_rfl) | (rw [if_neg (by decide +kernel)]; exact ⟨rfl, rfl⟩))
    (fun os started H enc _ F => by rw [OpenClaim.pre_eq_preRow]; exact lifted os started H enc F)

end Go.Proofs.Ytimmmbjdaibplaa.netSums
