/-
  SignTexts, where what it reads is of bulk at most 1048576.
-/
import Derived.Test.YtdmdfokkibijjaaGreatDoorSW44
import Derived.Test.YtdmdfokkibijjaaGreatDoorSOpen
import Derived.Test.YtdmdfokkibijjaaGreatDoorSFrame9
namespace Go.Proofs.YtdmdfokkibijjaaGreatDoor.signTexts
open Go.ChangeShapes Go.WideShapes Go.ChangeAt Go.RowKit
open Sgn
set_option linter.unusedVariables false

theorem shaped9b (os : Os) : ((laidWorld9 os).forCall (fun _ _ => 0) ⟨#[], #[Value.agg #[.string ⟨#[]⟩, .slice none 0 0, .string ⟨#[]⟩]], []⟩).Shaped Tryz.prog :=
  World.shaped_of_ZipB (by kernel_rfl) (by kernel_rfl)

theorem bulk_small {H : Type} {d : DataW H} (hk : Rows.uptoSmall H [d] = true) : Rows.uptoBulk d ≤ 1048576 := by
  have h : Rows.uptoBulkAll [d] ≤ 1048576 := of_decide_eq_true hk
  simp only [Rows.uptoBulkAll] at h
  omega

set_option maxRecDepth 100000 in
/-- a signature by value, its name no longer than the bulk -/
theorem open_sign_bulk {H : Type} {enc : TypeId × Value → H} {w : World} {base : Nat} {spare : Nat → Bool} {held : Bool} {b0 : Nat} {v : Value} {d : DataW H} {p : List MemPlace} (hv : Value.okWide Tryz.prog w .any b0 25 v) (h : DataW.Trod enc Tryz.prog w base spare held 25 v d p) :
    ∃ g, GV w v g ∧ g.name.size ≤ Rows.uptoBulk d := by
  obtain ⟨cs, rfl, hsz⟩ := okWide_struct Tryz.underlying25 hv
  obtain ⟨fuel, hf⟩ := h
  obtain ⟨ys, n', hn', hy, hlen, hyl, hfl⟩ := DataW.trod_struct Tryz.underlying25 hf
  match cs, hlen.trans cellsSign with
  | ⟨[c0, c1, c2]⟩, _ =>
    match ys, hyl with
    | [y0, y1, y2], _ =>
      have f0 : DataW.trod enc Tryz.prog w base spare held n' 9 [c0] = some y0 := by simpa [cellsStr, Value.cells] using hfl 0 _ rfl
      have f1 : DataW.trod enc Tryz.prog w base spare held n' 23 [c1] = some y1 := by simpa [cellsFs, Value.cells] using hfl 1 _ rfl
      have f2 : DataW.trod enc Tryz.prog w base spare held n' 9 [c2] = some y2 := by simpa [cellsStr, Value.cells] using hfl 2 _ rfl
      obtain ⟨nb, e0, g0, _⟩ := DataW.trod_string Tryz.underlying9 f0
      obtain ⟨v, fs, e1, hF⟩ := open_formals_cells f1
      obtain ⟨rb, e2, g2, _⟩ := DataW.trod_string Tryz.underlying9 f2
      simp only [List.cons.injEq, and_true] at e0 e1 e2
      subst e0 e1 e2
      refine ⟨⟨nb, fs, rb⟩, ⟨c1, rfl, hF⟩, ?_⟩
      have hd : d = .agg [y0.1, y1.1, y2.1] := by simpa using congrArg Prod.fst hy
      rw [hd, g0]
      have e : nb.size = nb.data.toList.length := by rw [Array.length_toList]; rfl
      simp only [Rows.uptoBulk, Rows.uptoBulkAll]
      omega

set_option maxRecDepth 100000 in
theorem contract (H : Type) (enc : TypeId × Value → H) (W : World) (base : Nat) (args : Array Value) (ds gs : List (DataW H)) (before : List MemPlace)
    (hval : ∀ (j : Nat) t v, Tryz.f4.params[j]? = some t → args[j]? = some v → Value.okWide Tryz.prog W .any base t v)
    (hW : DataW.Whole enc Tryz.prog Tryz.f4.params.toList Rows.signTextsSpec.vars false W args.toList ds gs before) (hk : Rows.uptoSmall H (ds ++ gs) = true) (hL : laidMetH Tryz.prog Rows.signTextsUptoRow.laid W) (hsh : W.ShapedOpen Tryz.prog) :
    Calls Tryz.prog 4 args W fun e W' => ∃ v, e = .returned v ∧ Rows.signTextsSpec.post enc Tryz.prog Tryz.f4 false true false false W args v W' := by
  have hW' := hW
  have hlt := hW.lt
  obtain ⟨p, q, hA0, hV, rfl, hfz, hnd⟩ := hW
  have hA : DataW.TrodAll enc Tryz.prog W 0 (fun _ => true) true Tryz.f4.params.toList args.toList ds p := hA0
  rw [Tryz.params4] at hA hval
  obtain ⟨v0, vs0, d0, ds0, p0, q0, hargs, rfl, rfl, h0, r0⟩ := trodAll_cons hA
  obtain ⟨rfl, rfl, rfl⟩ := trodAll_nil r0
  obtain rfl : args = #[v0] := by cases args; simp_all
  obtain ⟨rfl, rfl⟩ := trodVars_none hV
  obtain ⟨g, hg, hwt⟩ := open_sign_bulk (hval 0 25 v0 rfl rfl) h0
  clear hA0
  simp only [List.append_nil] at hW' hk hlt
  have hbulk := bulk_small hk
  refine (texts_walk g v0 W (hide' (tab_of9 hL)) (hide' (env_of hL hsh)) hg (by omega)).mono fun e W' ⟨he, hb⟩ => ?_
  subst he
  exact ⟨_, rfl, _, _, _, [], _, [], hW', trodAll_cons_mk (shut_bool Tryz.underlying4 _) trodAll_mk0, trodAll_cons_mk (Below.trod laidOut (by kernel_rfl) (of_decide_eq_true (by kernel_rfl)) h0 hb hlt) trodAll_mk0, rfl, hb.frame _, fun h => by cases h⟩

theorem reads (os : Os) {H : Type} (enc : TypeId × Value → H) : ∃ places, DataW.whole enc Tryz.prog ((laidWorld9 os).forCall (fun _ _ => 0) ⟨#[], #[Value.agg #[.string ⟨#[]⟩, .slice none 0 0, .string ⟨#[]⟩]], []⟩).memory Tryz.f4.params.toList Rows.signTextsSpec.vars false (#[Value.agg #[.string ⟨#[]⟩, .slice none 0 0, .string ⟨#[]⟩]] : Array Value).toList 8 = some ([.agg [.lit (.string []), .nil, .lit (.string [])]], [], places) :=
  ⟨[], by kernel_rfl⟩

set_option maxRecDepth 100000 in
theorem liftedUpto (os : Os) (started : os.Started) (H : Type) (enc : TypeId × Value → H) (F : Stop.Interp) :
    ReturnsInHanded {} Tryz.checked os 4 .any ((Rows.OpenSpec.upto Rows.signTextsSpec).preRow enc Tryz.prog Tryz.f4 Rows.signTextsUptoRow.domain false Rows.signTextsUptoRow.laid) (((Rows.OpenSpec.upto Rows.signTextsSpec).at F).post enc Tryz.prog Tryz.f4 false true false false) := by
  obtain ⟨places, hx⟩ := reads os enc
  refine returnsInHanded_of_row (C := Tryz.checked) (s := Rows.OpenSpec.upto Rows.signTextsSpec) own started (by kernel_rfl) Tryz.func4
    (witness_row_sh (enc := enc) (C := Tryz.checked) false (laidWorld9 os) #[Value.agg #[.string ⟨#[]⟩, .slice none 0 0, .string ⟨#[]⟩]] (World.laidAll_os _ _ _) (shaped9b os) (by kernel_rfl)
      (OpenSpec.preRow_of_cond 8 hx (by kernel_rfl) (fun k hk => by cases hk; kernel_rfl) (by kernel_rfl) (laid_met9 os _))) ?_
  intro W base args ds gs before hval hW _ hcond _ hL hsh _
  exact contract H enc W base args ds gs before hval hW (hcond _ rfl) hL hsh

theorem saidUpto : Rows.SignTextsUptoSaid :=
  OpenClaim.holds_of_cond 4 Tryz.f4 rfl rfl rfl rfl rfl rfl rfl ⟨rfl, rfl, rfl, rfl, rfl⟩ rfl rfl rfl rfl rfl (by kernel_rfl) Tryz.func4 (by kernel_rfl)
    (of_decide_eq_true (by kernel_rfl)) (by unfold Func.isWrapper; first | (rw [if_pos (by decide +kernel)]; kernel_rfl) | (rw [if_neg (by decide +kernel)]; exact ⟨rfl, rfl⟩))
    (fun os started H enc _ F => by rw [OpenClaim.pre_eq_preRow]; exact liftedUpto os started H enc F)

theorem plain (f : FuncId) (fn : Func) (hf : Tryz.pinned.checked.prog.funcNamed "purlieu/purlieulaw09.SignTexts" = some f) (hfn : Tryz.pinned.checked.prog.funcs[f]? = some fn) :
    true = Tryz.pinned.checked.prog.looks [] ∧ ∀ (j : Nat) t, fn.params[j]? = some t → Tryz.pinned.checked.prog.wantsStandIn t = false := by
  obtain rfl : f = 4 := Option.some.inj ((show Tryz.prog.funcNamed "purlieu/purlieulaw09.SignTexts" = some 4 by kernel_rfl).symm.trans hf) |>.symm
  obtain rfl : fn = Tryz.f4 := (Option.some.inj (Tryz.func4.symm.trans hfn)).symm
  refine ⟨by kernel_rfl, fun j t ht => ?_⟩
  rw [Tryz.params4] at ht
  obtain rfl : t = 25 := by simpa using Array.mem_of_getElem? ht
  exact (show Tryz.prog.wantsStandIn 25 = false by kernel_rfl)

theorem cardUpto : Rows.SignTextsUptoCardSaid :=
  Claim7.holds_tied_plain_at .later [] _ _ _ _ saidUpto (fun _ h => by cases h) (by kernel_rfl) (fun _ h => by cases h) signTextsUpto_row_tie rfl ⟨rfl, rfl⟩ (by kernel_rfl) rfl plain (by kernel_rfl)
end Go.Proofs.YtdmdfokkibijjaaGreatDoor.signTexts
