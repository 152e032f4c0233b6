/-
  PlainOps: what an operation of the engine gives for a list of numbers, where what it reads is of bulk at most 1048576 (its row lists the variables that the code reads: 'laid').
-/
import Derived.Test.YtclafjbbdhnhlaaGreatDoorSmM
import Derived.Test.YtclafjbbdhnhlaaGreatDoorSmF
import Derived.Test.YtclafjbbdhnhlaaGreatDoorSmGb
import Derived.ChangeMaps5
namespace Go.Proofs.YtclafjbbdhnhlaaGreatDoor.plainOps
open Go.ChangeShapes Go.WideShapes Go.ChangeAt Go.Deep Go.RowKit
open Sm
set_option linter.unusedVariables false

theorem bulk_each {H : Type} : ∀ (n : Nat) (D : Nat → DataW H), (∀ i, 1 ≤ Rows.uptoBulk (D i)) → n ≤ Rows.uptoBulkAll ((List.range n).map D)
  | 0, _, _ => Nat.zero_le _
  | n + 1, D, h => by
    have e : Rows.uptoBulkAll ((List.range (n + 1)).map D) = Rows.uptoBulk (D 0) + Rows.uptoBulkAll ((List.range n).map fun i => D (i + 1)) := by
      rw [List.range_succ_eq_map]
      simp only [List.map_cons, List.map_map, Rows.uptoBulkAll]
      rfl
    have := bulk_each n (fun i => D (i + 1)) fun i => h (i + 1)
    have := h 0
    omega
theorem bulk_pos {H : Type} (d : DataW H) : 1 ≤ Rows.uptoBulk d := by
  cases d with
  | lit x => cases x <;> simp [Rows.uptoBulk]
  | _ => simp [Rows.uptoBulk]

section
variable {H : Type} {enc : TypeId × Value → H} {w : World} {base : Nat} {spare : Nat → Bool} {held : Bool}
set_option maxRecDepth 100000 in
theorem open_ints {b0 : Nat} {v : Value} {d : DataW H} {p : List MemPlace} (hv : Value.okWide Tryz.prog w .any b0 27 v) (h : DataW.Trod enc Tryz.prog w base spare held 27 v d p) : ∃ l : List Int, ISl w v l ∧ l.length ≤ Rows.uptoBulk d := by
  obtain ⟨A, len, cap, rfl⟩ := okWide_slice Tryz.underlying27 hv
  obtain ⟨fuel, hf⟩ := h
  rcases open_slice Tryz.underlying27 hf with ⟨h0, hx⟩ | ⟨a, len', cap', m, n, D, Pl, hcs, hb, hl, hm, hmm, hx, hi⟩
  · simp only [Value.cells, List.cons.injEq, Value.slice.injEq, and_true] at h0
    obtain ⟨rfl, rfl, rfl⟩ := h0
    exact ⟨[], ⟨none, 0, rfl, Nat.le_refl _, Nat.zero_le _, fun h => by cases h⟩, Nat.zero_le _⟩
  · simp only [Value.cells, List.cons.injEq, Value.slice.injEq, and_true] at hcs
    obtain ⟨rfl, rfl, rfl⟩ := hcs
    simp only [Prod.mk.injEq] at hx
    obtain ⟨rfl, _⟩ := hx
    have hlm : len ≤ m := by rw [hmm]; split <;> omega
    have hone : ∀ i, i < len → ∃ z : Int, w.cell? (a.add i) = some (.int .i64 z) := by
      intro i hil
      obtain ⟨cs', hc, ht'⟩ := hi i (by omega)
      rw [cellsInt] at hc
      obtain ⟨z, e1, g1, _⟩ := DataW.trod_int Tryz.underlying3 ht'
      obtain ⟨_, hcl, hat⟩ := World.cells?_some hc
      subst e1
      have a0 := hat 0 (by simp)
      rw [Go.Deep.add_add] at a0
      exact ⟨z, by simpa using a0⟩
    obtain ⟨l, hlen, hc⟩ := gatherP len hone
    subst hlen
    refine ⟨l, ⟨some a, cap, rfl, by omega, hm, fun hpos => ?_⟩, ?_⟩
    · obtain ⟨b, off, spot⟩ := a
      obtain rfl : spot = none := by
        have := World.cell?_spot (hc 0 hpos)
        simpa [Addr.add] using this
      exact ⟨b, off, rfl, fun i hi => by simpa only [add_none] using hc i hi⟩
    · have := bulk_each l.length D fun i => bulk_pos _
      simp only [Rows.uptoBulk]
      omega
end

set_option maxRecDepth 100000 in
theorem contract (H : Type) (enc : TypeId × Value → H) (W : World) (base : Nat) (args : Array Value) (ds gs : List (DataW H)) (before : List MemPlace)
    (hval : ∀ (j : Nat) t v, Tryz.f4.params[j]? = some t → args[j]? = some v → Value.okWide Tryz.prog W .any base t v)
    (hW : DataW.Whole enc Tryz.prog Tryz.f4.params.toList Rows.plainOpsSpec.vars false W args.toList ds gs before) (hk : Rows.uptoSmall H (ds ++ gs) = true) (hL : laidMetH Tryz.prog Rows.plainOpsUptoRow.laid W) :
    Calls Tryz.prog 4 args W fun e W' => ∃ v, e = .returned v ∧ Rows.plainOpsSpec.post enc Tryz.prog Tryz.f4 false true false false W args v W' := by
  have hW' := hW
  have hlt := hW.lt
  obtain ⟨p, q, hA0, hV, rfl, hfz, hnd⟩ := hW
  have hA : DataW.TrodAll enc Tryz.prog W 0 (fun _ => true) true Tryz.f4.params.toList args.toList ds p := hA0
  rw [Tryz.params4] at hA hval
  obtain ⟨v0, vs0, d0, ds0, p0, q0, hargs, rfl, rfl, h0, r0⟩ := trodAll_cons hA
  obtain ⟨v1, vs1, d1, ds1, p1, q1, rfl, rfl, rfl, h1, r1⟩ := trodAll_cons r0
  obtain ⟨rfl, rfl, rfl⟩ := trodAll_nil r1
  obtain rfl : args = #[v0, v1] := by cases args; simp_all
  obtain ⟨rfl, rfl⟩ := trodVars_none hV
  simp only [List.append_nil] at hlt
  have hl0 : ∀ x ∈ p0, x.block < W.heap.size := fun x hx => hlt x (by simp [hx])
  have hl1 : ∀ x ∈ p1, x.block < W.heap.size := fun x hx => hlt x (by simp [hx])
  have T0 := fun (W' : World) (hb : Below W.heap.size W W') => Below.trod laidOut (by kernel_rfl) (of_decide_eq_true (by kernel_rfl)) h0 hb hl0
  obtain ⟨s, rfl, _⟩ := Go.ChangeMaps.open_string Tryz.underlying9 (hval 0 9 v0 rfl rfl) h0
  have T1 := fun (W' : World) (hb : Below W.heap.size W W') => Below.trod laidOut (by kernel_rfl) (of_decide_eq_true (by kernel_rfl)) h1 hb hl1
  obtain ⟨l, g1, hlen⟩ := open_ints (hval 1 27 v1 rfl rfl) h1
  clear hA0
  simp only [List.append_nil] at hW' hk
  have hbulk : Rows.uptoBulkAll [d0, d1] ≤ 1048576 := of_decide_eq_true hk
  simp only [Rows.uptoBulkAll] at hbulk
  refine (ops_walk s l (by omega) _ W g1).mono fun e W' ⟨he, hb⟩ => ?_
  subst he
  exact ⟨_, rfl, _, _, _, [], _, [], hW', trodAll_cons_mk (shut_bool Tryz.underlying4 _) trodAll_mk0, (trodAll_cons_mk (T0 W' hb) (trodAll_cons_mk (T1 W' hb) trodAll_mk0)), rfl, hb.frame _, fun h => by cases h⟩

theorem shaped0 (os : Os) : ((laidWorld os).forCall (fun _ _ => 0) ⟨#[], #[Value.string ⟨#[]⟩, .slice none 0 0], []⟩).Shaped Tryz.prog :=
  World.shaped_of_ZipB (by kernel_rfl) (by kernel_rfl)

theorem reads (os : Os) {H : Type} (enc : TypeId × Value → H) : ∃ places, DataW.whole enc Tryz.prog ((laidWorld os).forCall (fun _ _ => 0) ⟨#[], #[Value.string ⟨#[]⟩, .slice none 0 0], []⟩).memory Tryz.f4.params.toList Rows.plainOpsSpec.vars false (#[Value.string ⟨#[]⟩, .slice none 0 0] : Array Value).toList 8 = some ([.lit (.string []), .nil], [], places) :=
  ⟨[], by kernel_rfl⟩

set_option maxRecDepth 100000 in
theorem liftedUpto (os : Os) (started : os.Started) (H : Type) (enc : TypeId × Value → H) (F : Stop.Interp) :
    ReturnsInHanded {} Tryz.checked os 4 .any ((Rows.OpenSpec.upto Rows.plainOpsSpec).preRow enc Tryz.prog Tryz.f4 Rows.plainOpsUptoRow.domain false Rows.plainOpsUptoRow.laid) (((Rows.OpenSpec.upto Rows.plainOpsSpec).at F).post enc Tryz.prog Tryz.f4 false true false false) := by
  obtain ⟨places, hx⟩ := reads os enc
  refine returnsInHanded_of_row (C := Tryz.checked) (s := Rows.OpenSpec.upto Rows.plainOpsSpec) own started (by kernel_rfl) Tryz.func4
    (witness_row_sh (enc := enc) (C := Tryz.checked) false (laidWorld os) #[Value.string ⟨#[]⟩, .slice none 0 0] (World.laidAll_os _ _ _) (shaped0 os) (by kernel_rfl)
      (OpenSpec.preRow_of_cond 8 hx (by kernel_rfl) (fun k hk => by cases hk; kernel_rfl) (by kernel_rfl) (laid_met os _))) ?_
  intro W base args ds gs before hval hW _ hcond _ hL _ _
  exact contract H enc W base args ds gs before hval hW (hcond _ rfl) hL

theorem saidUpto : Rows.PlainOpsUptoSaid :=
  OpenClaim.holds_of_cond 4 Tryz.f4 rfl rfl rfl rfl rfl rfl rfl ⟨rfl, rfl, rfl, rfl, rfl⟩ rfl rfl rfl rfl rfl Fo.fNamed Tryz.func4 Fo.closed
    (of_decide_eq_true (by kernel_rfl)) (by unfold Func.isWrapper; first | (rw [if_pos (by decide +kernel)]; kernel_rfl) | (rw [if_neg (by decide +kernel)]; exact ⟨rfl, rfl⟩))
    (fun os started H enc _ F => by rw [OpenClaim.pre_eq_preRow]; exact liftedUpto os started H enc F)

theorem plain (f : FuncId) (fn : Func) (hf : Tryz.pinned.checked.prog.funcNamed "purlieu/purlieulaw12.PlainOps" = some f) (hfn : Tryz.pinned.checked.prog.funcs[f]? = some fn) :
    false = Tryz.pinned.checked.prog.looks [] ∧ ∀ (j : Nat) t, fn.params[j]? = some t → Tryz.pinned.checked.prog.wantsStandIn t = false := by
  obtain rfl : f = 4 := Option.some.inj (Fo.fNamed.symm.trans hf) |>.symm
  obtain rfl : fn = Tryz.f4 := (Option.some.inj (Tryz.func4.symm.trans hfn)).symm
  refine ⟨fLooks.symm, fun j t ht => ?_⟩
  rw [Tryz.params4] at ht
  have hm := Array.mem_of_getElem? ht
  have hm' : t = 9 ∨ t = 27 := by simpa using hm
  rcases hm' with rfl | rfl
  · exact (show Tryz.prog.wantsStandIn 9 = false by kernel_rfl)
  · exact (show Tryz.prog.wantsStandIn 27 = false by kernel_rfl)

theorem cardUpto : Rows.PlainOpsUptoCardSaid :=
  Claim7.holds_tied_plain_at .later [] _ _ _ _ saidUpto (fun _ h => by cases h) (by kernel_rfl) (fun _ h => by cases h) plainOpsUpto_row_tie rfl ⟨rfl, rfl⟩ (by kernel_rfl) rfl plain Fo.fGoes
end Go.Proofs.YtclafjbbdhnhlaaGreatDoor.plainOps
