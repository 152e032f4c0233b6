/-
  The walk of SameInts of the document's answer, at two lists that read alike.
-/
import Derived.Test.YtdmdfokkibijjaaDoorSW16
import Derived.Test.YtdmdfokkibijjaaDoorSW15
namespace Go.Proofs.YtdmdfokkibijjaaDoor
open Go.RowKit
open Sgn
set_option linter.unusedVariables false
set_option linter.unusedSimpArgs false

set_option maxHeartbeats 4000000 in
set_option maxRecDepth 100000 in
theorem SameInts_eq (vs : List Int) (v u : Value) (w : World) (hv : ISl w v vs) (hu : ISl w u vs) :
    Calls Tryd.prog 14 #[v, u] w fun e w' => e = .returned (.bool true) ∧ Below w.heap.size w w' := by
  obtain ⟨A, cap, rfl, hca, hma, hA⟩ := hv
  obtain ⟨B, cap2, rfl, hcb, hmb, hB⟩ := hu
  have HA : Hid (0 < vs.length → ∃ b off, A = some ⟨b, off, none⟩ ∧ ICells w b off vs) := hA
  have HB : Hid (0 < vs.length → ∃ b off, B = some ⟨b, off, none⟩ ∧ ICells w b off vs) := hB
  have hmax : maxLen = 9223372036854775807 := rfl
  rw [hmax] at hma hmb
  clear hA hB hmax
  go_enter Tryd.func14, Tryd.ntmps14
  go_wp2_with fail
  go_loopw [5] (fun i wr => ∃ (k : Nat), k ≤ vs.length ∧ i = .int .i64 k ∧ Below w.heap.size w wr) (fun i _ => vs.length - (intOf i).toNat)
  case atStart => exact ⟨0, Nat.zero_le _, rfl, Below.refl _ _⟩
  case round =>
    obtain ⟨k, hk, rfl, hnx⟩ := hrel
    by_cases hlt : k < vs.length
    · obtain ⟨b, off, rfl, hCA⟩ := HA.out (by omega)
      obtain ⟨b2, off2, rfl, hCB⟩ := HB.out (by omega)
      have x1 : wr.cell? ⟨b, off + k, none⟩ = some (.int .i64 vs[k]) := (hnx.cell (cell_lt (hCA k hlt))).trans (hCA k hlt)
      have y1 : wr.cell? ⟨b2, off2 + k, none⟩ = some (.int .i64 vs[k]) := (hnx.cell (cell_lt (hCB k hlt))).trans (hCB k hlt)
      obtain ⟨x, hx⟩ : ∃ x, vs[k] = x := ⟨_, rfl⟩
      rw [hx] at x1 y1
      have hki : (0 : Int) ≤ (k : Int) := by omega
      have hk1 : (k : Int) < (vs.length : Int) := by omega
      clear hx hCA hCB HA HB
      go_wp2_with fail
      go_quiet (fail)
      go_wp2_with fail
      go_roundw
      case rel => exact ⟨k + 1, by omega, by go_num, below_draws hnx _⟩
      case measure => simp [intOf]; omega
    · clear HA HB
      go_wp2_with fail
      go_ret
      exact ⟨rfl, hnx⟩

end Go.Proofs.YtdmdfokkibijjaaDoor
