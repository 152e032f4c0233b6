/-
  What nil views and zero views answer: the small machine finds it, whatever the number and the name.
-/
import Derived.Test.YtdajlkmagmmdiaaGreatDoorVnC
import Derived.Test.YtdajlkmagmmdiaaGreatDoorW12
import Derived.Test.YtdajlkmagmmdiaaGreatDoorName
namespace Go.Proofs.YtdajlkmagmmdiaaGreatDoor
open Go.RowKit
namespace Ev
theorem one_said {s : ByteArray} {a : Nat} {e : Ending} {w w' : World} (h : OneEnd s a e ∧ Below w.heap.size w w') :
    (∀ k t : List UInt8, Tok.first (s.data.toList.drop a) = some (k, t) → e = .returned (.tuple #[.agg #[.string ⟨k.toArray⟩, .string ⟨t.toArray⟩, .int .i64 a], .bool true])) ∧ Below w.heap.size w w' := by
  refine ⟨fun k t hf => ?_, h.2⟩
  rcases h.1 with ⟨k', t', h1, h2⟩ | ⟨h1, _⟩
  · rw [h1] at hf
    cases hf
    exact h2
  · rw [h1] at hf
    cases hf
theorem orc : OrcOK Tab Tryz.prog :=
  orc_of (F1 := 269) (F2 := 137) (F3 := 92) (by kernel_rfl) (by kernel_rfl) (by kernel_rfl)
    (fun s W w hs hE hb => isName_any s w (hE.on hb) (by omega))
    (fun s W w hs _ _ => rIsName_any s w (by omega))
    (fun s a W w hs ha _ _ => (one_any s a w hs ha).mono fun e w' h => one_said h)
set_option maxRecDepth 100000 in
theorem nils_true (a : Int) (n v : Nat) : isTrue (callA Tryz.prog (evC Tryz.prog 100000) 3 [.int .i64 a, .str n v] 64 (drops 64) []) = true := by kernel_rfl
theorem nils_calls (a : Int) (s : ByteArray) (w : World) (hT : Tab w) : Calls Tryz.prog 3 #[.int .i64 a, .string s] w fun e w' => e = .returned (.bool true) ∧ Below w.heap.size w w' :=
  law_of (by kernel_rfl) ⟨orc, cnt⟩ (xs := [.int .i64 a, .string s]) (.cons (vr_int .i64 a) (.cons (vr_str s) VRL.nil)) (nils_true a _ _) w hT (drops_start w)
end Ev
end Go.Proofs.YtdajlkmagmmdiaaGreatDoor
