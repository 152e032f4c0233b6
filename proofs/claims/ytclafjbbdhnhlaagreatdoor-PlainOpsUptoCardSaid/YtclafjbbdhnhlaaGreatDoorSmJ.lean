/-
  What an operation makes of ints: the document's.
-/
import Derived.Test.YtclafjbbdhnhlaaGreatDoorSmI
namespace Go.Proofs.YtclafjbbdhnhlaaGreatDoor
open Go.RowKit
set_option linter.unusedVariables false
set_option linter.unusedSimpArgs false

namespace Sm
theorem rtruth_at (b : Bool) (w : World) : Calls Tryz.prog 28 #[.bool b] w fun e w' => e = .returned (.agg #[.int .i64 (tr b), .bool true]) ∧ Below w.heap.size w w' := by
  have r := cells_pair w (.int .i64 (tr b)) (.bool true) 52
  go_enter Tryz.func28, Tryz.ntmps28
  cases b
  all_goals
    simp only [tr, if_true, Bool.false_eq_true, if_false] at r
    go_wp2_with fail
    exact bodyPost_ret (by simp [results, Tryz.results28, go_sem, r.1, r.2, tr]) rfl ⟨rfl, (Below.refl _ _).alloc (Nat.le_refl _) _⟩
set_option maxHeartbeats 4000000 in
set_option maxRecDepth 100000 in
theorem rnone_at (k : Nm) (s : ByteArray) (h : Is k s) (w : World) :
    Calls Tryz.prog 11 #[.string s] w fun e w' => e = .returned (.tuple #[.int .i64 ((noneV k).getD 0), .int .i64 (if (noneV k).isSome then 0 else 2)]) ∧ Below w.heap.size w w' := by
  have HN := hide' (rnone0_at k s h w)
  obtain ⟨x, hx⟩ : ∃ x, (noneV k).getD 0 = x := ⟨_, rfl⟩
  obtain ⟨y, hy⟩ : ∃ y, noneB k = y := ⟨_, rfl⟩
  have hz : (noneV k).isSome = false → x = 0 := by
    rw [← hx]
    cases k <;> simp [noneV]
  obtain ⟨z, hzz⟩ : ∃ z, (noneV k).isSome = z := ⟨_, rfl⟩
  rw [hx, hy, hzz] at HN
  rw [hzz] at hz
  rw [hx, hzz]
  clear hx hy hzz h
  go_enter Tryz.func11, Tryz.ntmps11
  go_wp2_with fail
  refine HN.out.mono ?_
  rintro e w1 ⟨rfl, hb1⟩
  clear HN
  have r := cells_pair w1 (.int .i64 x) (.bool y) 52
  have hend := hb1.alloc hb1.size (.cells #[.int .i64 x, .bool y] 52)
  cases z
  · have := hz rfl
    subst this
    clear hz
    go_wp2_with fail
    all_goals
      go_ret2
      exact ⟨rfl, hend⟩
  · clear hz
    go_wp2_with fail
    all_goals
      go_ret2
      exact ⟨rfl, hend⟩
end Sm
end Go.Proofs.YtclafjbbdhnhlaaGreatDoor
