/-
  First and PlaceNils: what they return.
-/
import Derived.Test.YtmnlcockdbaibaaGreatDoorPnSb
import Derived.Test.YtmnlcockdbaibaaGreatDoorPnSc
import Derived.Test.YtmnlcockdbaibaaGreatDoorPnSda
import Derived.Test.YtmnlcockdbaibaaGreatDoorPnSdb
import Derived.Test.YtmnlcockdbaibaaGreatDoorPnSdc
namespace Go.Proofs.YtmnlcockdbaibaaGreatDoor
open Go.RowKit
namespace Ev
theorem run_calls {W w : World} {ρ : Ren} {xs : List Value} (hT : Tab W) (mo : Mo W ρ mem2 w) (hx : VRL ρ [.ptr 2093 0, .nils, .int .i64 500] xs) : Calls Tryz.prog 5 xs.toArray w (GotE W ρ retR memV) :=
  calls_two (by kernel_rfl) ⟨orc, cnt⟩ 3 10 100000 hT fnR_eq fnR_n hx mo fnR_sh ru1 ru2
theorem first_calls (w : World) (hT : Tab w) : Calls Tryz.prog 15 #[] w fun e w' => e = .returned (.bool true) ∧ Below w.heap.size w w' := by
  refine law_chunks (W := w) (xs := []) fnF_eq fnF_n VRL.nil (drops_start w).mo fun Q a hQ ht hd => ?_
  refine chunk snd hT 2 ch1 (drops_start w).mo ht hd fun ρ1 a1 w1 t1 d1 m1 => ?_
  refine chunk snd hT 3 ch2 m1 t1 d1 fun ρ2 a2 w2 t2 d2 m2 => ?_
  exact mid_call (c := cR) ⟨orc, cnt⟩ snd 1 hT hQ fnR_eq cR_sh (fun ρ u xs mo hx => run_calls hT mo hx) ch3 ch3a ch3b m2 t2 d2
set_option maxRecDepth 100000 in
theorem nils_true (a : Int) (n v : Nat) : tailB Tryz.prog (evC Tryz.prog 100000) 15 4 fnN.1.results.toList fnN.2 ⟨max fnN.1.ntmps [AV.int .i64 a, AV.str n v].length, fromL [.int .i64 a, .str n v] 0⟩ 64 (drops 64) = true := by kernel_rfl
theorem nils_calls (a : Int) (s : ByteArray) (w : World) (hT : Tab w) : Calls Tryz.prog 3 #[.int .i64 a, .string s] w fun e w' => e = .returned (.bool true) ∧ Below w.heap.size w w' := by
  refine law_chunks (W := w) (xs := [.int .i64 a, .string s]) fnN_eq (fnN_n _ _) (.cons (vr_int .i64 a) (.cons (vr_str s) VRL.nil)) (drops_start w).mo fun Q b hQ ht hd => ?_
  exact tail_sound ⟨orc, cnt⟩ snd 4 hT hQ fnF_eq (fun u hu => first_calls u (hT.on hu)) (nils_true a _ _) (drops_start w).mo ht hd
end Ev
end Go.Proofs.YtmnlcockdbaibaaGreatDoor
