/-
  Layer 16: Same where a net is none.
-/
import Derived.Test.YtimmmbjdaibplaaW14
namespace Go.Proofs.Ytimmmbjdaibplaa
open Go.RowKit
open Nt
set_option linter.unusedVariables false
set_option linter.unusedSimpArgs false

/-- a net that is one, in every later world -/
def Yes (w : World) (v : Value) : Prop := ∀ u, Below w.heap.size w u → Calls Try.prog 32 #[v] u fun e w' => e = .returned (.bool false) ∧ u = w'
theorem yes_of {a C : Nat} {T : List Nat} {N : Nt.Net} {w : World} (h : NetX w a C T N) (hP0 : 0 < N.cs.length) (hP : N.cs.length ≤ 8) : Yes w (.pointer (some ⟨a, 0, none⟩)) := fun u hb => by
  obtain ⟨bc, kc, cur, rs, vf, vh, vs, rfl, hN⟩ := h.below hb
  exact none_at a (some ⟨bc, 0, none⟩) N.cs.length kc u hN.cells.1 hP0 hP
set_option maxHeartbeats 4000000 in
theorem same_nn (v u : Value) (w : World) (hv : Non w v) (hu : Non w u) : Calls Try.prog 21 #[v, u] w fun e w' => e = .returned (.bool true) ∧ w = w' := by
  have K1 := Lib.hid (hv w (Below.refl _ _))
  have K2 := Lib.hid (hu w (Below.refl _ _))
  clear hv hu
  go_enter Try.func21, Try.ntmps21
  go_wp2_with fail
  refine K1.out.mono ?_
  rintro e w1 ⟨rfl, rfl⟩
  go_wp2_with fail
  refine K1.out.mono ?_
  rintro e w1 ⟨rfl, rfl⟩
  go_wp2_with fail
  refine K2.out.mono ?_
  rintro e w1 ⟨rfl, rfl⟩
  go_wp2_with fail
  go_ret
  exact ⟨rfl, rfl⟩
set_option maxHeartbeats 4000000 in
theorem same_ny (v u : Value) (w : World) (hv : Non w v) (hu : Yes w u) : Calls Try.prog 21 #[v, u] w fun e w' => e = .returned (.bool false) ∧ w = w' := by
  have K1 := Lib.hid (hv w (Below.refl _ _))
  have K2 := Lib.hid (hu w (Below.refl _ _))
  clear hv hu
  go_enter Try.func21, Try.ntmps21
  go_wp2_with fail
  refine K1.out.mono ?_
  rintro e w1 ⟨rfl, rfl⟩
  go_wp2_with fail
  refine K1.out.mono ?_
  rintro e w1 ⟨rfl, rfl⟩
  go_wp2_with fail
  refine K2.out.mono ?_
  rintro e w1 ⟨rfl, rfl⟩
  go_wp2_with fail
  go_ret
  exact ⟨rfl, rfl⟩
set_option maxHeartbeats 4000000 in
theorem same_yn (v u : Value) (w : World) (hv : Yes w v) (hu : Non w u) : Calls Try.prog 21 #[v, u] w fun e w' => e = .returned (.bool false) ∧ w = w' := by
  have K1 := Lib.hid (hv w (Below.refl _ _))
  have K2 := Lib.hid (hu w (Below.refl _ _))
  clear hv hu
  go_enter Try.func21, Try.ntmps21
  go_wp2_with fail
  refine K1.out.mono ?_
  rintro e w1 ⟨rfl, rfl⟩
  go_wp2_with fail
  refine K2.out.mono ?_
  rintro e w1 ⟨rfl, rfl⟩
  go_wp2_with fail
  refine K1.out.mono ?_
  rintro e w1 ⟨rfl, rfl⟩
  go_wp2_with fail
  go_ret
  exact ⟨rfl, rfl⟩
end Go.Proofs.Ytimmmbjdaibplaa
