/-
  Layer 16: the walks of none, isPlace, isCell, name.
-/
import Derived.Test.YtimmmbjdaibplaaMem
import Derived.Test.YtimmmbjdaibplaaW1
import Derived.Deep.QuietTactic
import Derived.BigQuiet
import Derived.Deep.RegionHeld3
import Derived.Deep.AppendLies
import Derived.Deep.RegionLaw
import Derived.BigRegion
namespace Go.Proofs.Ytimmmbjdaibplaa
open Go.RowKit
open Nt
set_option linter.unusedVariables false
set_option linter.unusedSimpArgs false

theorem none_nil (w : World) :
    Calls Try.prog 32 #[.pointer none] w fun e w' => e = .returned (.bool true) ∧ w = w' := by
  go_enter Try.func32, Try.ntmps32
  go_wp2
  go_ret
  exact ⟨rfl, rfl⟩
theorem none_zero (a : Nat) (w : World) (h : w.cell? ⟨a, 0, none⟩ = some (.slice none 0 0)) :
    Calls Try.prog 32 #[.pointer (some ⟨a, 0, none⟩)] w fun e w' => e = .returned (.bool true) ∧ w = w' := by
  go_enter Try.func32, Try.ntmps32
  go_wp2
  go_ret
  exact ⟨rfl, rfl⟩
theorem none_at (a : Nat) (ao : Option Addr) (P k : Nat) (w : World) (h : w.cell? ⟨a, 0, none⟩ = some (.slice ao P k)) (hP : 0 < P) (h8 : P ≤ 8) :
    Calls Try.prog 32 #[.pointer (some ⟨a, 0, none⟩)] w fun e w' => e = .returned (.bool false) ∧ w = w' := by
  have h0 : ((P : Int) == 0) = false := beq_eq_false_iff_ne.2 (by omega)
  go_enter Try.func32, Try.ntmps32
  go_wp2
  go_ret
  exact ⟨rfl, rfl⟩
theorem isPlace_at (a : Nat) (ao : Option Addr) (P k : Nat) (w : World) (h : w.cell? ⟨a, 0, none⟩ = some (.slice ao P k)) (x : Int) (q : Bool) (hq : q = decide (0 ≤ x ∧ x < P)) :
    Calls Try.prog 39 #[.pointer (some ⟨a, 0, none⟩), .int .i64 x] w fun e w' => e = .returned (.bool q) ∧ w = w' := by
  cases q
  · have hq' : ¬ (0 ≤ x ∧ x < P) := of_decide_eq_false hq.symm
    clear hq
    by_cases hx : 0 ≤ x
    · have hx2 : ¬ x < P := by omega
      go_enter Try.func39, Try.ntmps39
      go_wp2
      go_ret
      exact ⟨rfl, rfl⟩
    · go_enter Try.func39, Try.ntmps39
      go_wp2
      go_ret
      exact ⟨rfl, rfl⟩
  · obtain ⟨h1, h2⟩ : 0 ≤ x ∧ x < P := of_decide_eq_true hq.symm
    clear hq
    go_enter Try.func39, Try.ntmps39
    go_wp2
    go_ret
    exact ⟨rfl, rfl⟩
theorem isCell_at (a bc r : Nat) (ro : Option Addr) (P k C k2 : Nat) (w : World) (h : w.cell? ⟨a, 0, none⟩ = some (.slice (some ⟨bc, 0, none⟩) P k)) (hP : 0 < P) (hc : w.cell? ⟨bc, 0, none⟩ = some (.slice ro C k2)) (x : Int) (q : Bool) (hq : q = decide (0 ≤ x ∧ x < C)) :
    Calls Try.prog 40 #[.pointer (some ⟨a, 0, none⟩), .int .i64 x] w fun e w' => e = .returned (.bool q) ∧ w = w' := by
  have hP' : (0 : Int) < (P : Int) := by omega
  cases q
  · have hq' : ¬ (0 ≤ x ∧ x < C) := of_decide_eq_false hq.symm
    clear hq
    by_cases hx : 0 ≤ x
    · have hx2 : ¬ x < C := by omega
      go_enter Try.func40, Try.ntmps40
      go_wp2
      go_ret
      exact ⟨rfl, rfl⟩
    · go_enter Try.func40, Try.ntmps40
      go_wp2
      go_ret
      exact ⟨rfl, rfl⟩
  · obtain ⟨h1, h2⟩ : 0 ≤ x ∧ x < C := of_decide_eq_true hq.symm
    clear hq
    go_enter Try.func40, Try.ntmps40
    go_wp2
    go_ret
    exact ⟨rfl, rfl⟩

def NameE (k : Int) (w : World) (e : Ending) (w' : World) : Prop := e = .returned (.string (kname k)) ∧ Below w.heap.size w w'
theorem name_any (k : Int) (w : World) (h0 : 1 ≤ k) (h1 : k ≤ 4) : Calls Try.prog 64 #[.int .i64 k] w (NameE k w) := by
  have hk : k = 1 ∨ k = 2 ∨ k = 3 ∨ k = 4 := by omega
  rcases hk with rfl | rfl | rfl | rfl
  all_goals
    go_enter Try.func64, Try.ntmps64
    go_wp2
    go_ret
    exact ⟨rfl, (Below.refl _ _).alloc (Nat.le_refl _) _⟩
end Go.Proofs.Ytimmmbjdaibplaa
