/-
  Layer 16: the walk of Mod.
-/
import Derived.Test.YtimmmbjdaibplaaRows
import Derived.WalkKit
import Derived.ProofKit
import Derived.WalkSpells
import Derived.WalkLawsBesides
import Derived.Lib.Hide
namespace Go.Proofs.Ytimmmbjdaibplaa
open Go.RowKit
set_option linter.unusedVariables false
set_option linter.unusedSimpArgs false

theorem mod_low (x n : Int) (w : World) (h : n < 1) :
    Calls Try.prog 9 #[.int .i64 x, .int .i64 n] w fun e w' => e = .returned (.int .i64 0) ∧ w = w' := by
  go_enter Try.func9, Try.ntmps9
  go_wp2
  go_ret
  exact ⟨rfl, rfl⟩

theorem tmod_bounds (x n : Int) (h : 1 ≤ n) : -n < x.tmod n ∧ x.tmod n < n := by
  have h1 := Int.tmod_lt_of_pos x (show 0 < n by omega)
  have h2 := Int.tmod_lt_of_pos (-x) (show 0 < n by omega)
  rw [Int.neg_tmod] at h2
  exact ⟨by omega, h1⟩
theorem tmod_emod (x n : Int) (h : 1 ≤ n) : (x.tmod n + n) % n = x % n := by
  rw [Int.add_emod_right]
  have e := Int.tmod_add_mul_tdiv x n
  conv => rhs; rw [← e]
  rw [Int.add_mul_emod_self_left]

theorem mod_up (x n : Int) (w : World) (h : 1 ≤ n) (hn : n ≤ 1000) :
    Calls Try.prog 9 #[.int .i64 x, .int .i64 n] w fun e w' => e = .returned (.int .i64 (x % n)) ∧ w = w' := by
  obtain ⟨h1, h2⟩ := tmod_bounds x n h
  have H := Lib.hid (tmod_emod x n h)
  go_enter Try.func9, Try.ntmps9
  go_wp2
  go_ret
  refine ⟨?_, rfl⟩
  show Ending.returned (.int .i64 ((x.tmod n + n) % n)) = _
  rw [H.out]
end Go.Proofs.Ytimmmbjdaibplaa
