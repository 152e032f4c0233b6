/-
  What nil machines and zero machines answer: the small machine finds it, whatever the number and the name; the run of example 1 by parts.
-/
import Derived.Test.YtmnlcockdbaibaaGreatDoorPnC
import Derived.Test.YtmnlcockdbaibaaGreatDoorEvWb
import Derived.Test.YtmnlcockdbaibaaGreatDoorW12
import Derived.Test.YtmnlcockdbaibaaGreatDoorName
namespace Go.Proofs.YtmnlcockdbaibaaGreatDoor
open Go.RowKit
namespace Ev
theorem one_said {s : ByteArray} {a : Nat} {e : Ending} {w w' : World} (h : OneEnd s a e ∧ Below w.heap.size w w') :
    (∀ k t : List UInt8, Tok.first (s.data.toList.drop a) = some (k, t) → e = .returned (.tuple #[.agg #[.string ⟨k.toArray⟩, .string ⟨t.toArray⟩, .int .i64 a], .bool true])) ∧ Below w.heap.size w w' := by
  refine ⟨fun k t hf => ?_, h.2⟩
  rcases h.1 with ⟨k', t', h1, h2⟩ | ⟨h1, _⟩
  · rw [h1] at hf
    cases hf
    exact h2
  · rw [h1] at hf
    cases hf
theorem orc : OrcOK Tab Tryz.prog :=
  orc_of (F1 := 361) (F2 := 180) (F3 := 104) (by kernel_rfl) (by kernel_rfl) (by kernel_rfl)
    (fun s W w hs hE hb => isName_any s w (hE.on hb) (by omega))
    (fun s W w hs _ _ => rIsName_any s w (by omega))
    (fun s a W w hs ha _ _ => (one_any s a w hs ha).mono fun e w' h => one_said h)
/-- First, and PlaceNils: the function and its code -/
noncomputable def fnF : Func × Code := match fnOf Tryz.prog 15 with
  | some x => x
  | none => default
noncomputable def fnN : Func × Code := match fnOf Tryz.prog 3 with
  | some x => x
  | none => default
theorem fnF_eq : fnOf Tryz.prog 15 = some (fnF.1, fnF.2) := by kernel_rfl
theorem fnN_eq : fnOf Tryz.prog 3 = some (fnN.1, fnN.2) := by kernel_rfl
theorem fnF_n : max fnF.1.ntmps ([] : List AV).length ≤ 4000 := of_decide_eq_true (by kernel_rfl)
theorem fnN_n (x y : AV) : max fnN.1.ntmps [x, y].length ≤ 4000 := of_decide_eq_true (by kernel_rfl)
theorem snd : SoundR Tab Tryz.prog (evC Tryz.prog 100000) := evC_sound (by kernel_rfl) ⟨orc, cnt⟩ 100000
end Ev
end Go.Proofs.YtmnlcockdbaibaaGreatDoor
