/-
  The walks of layer 9: in which way an actual fits a formal; of the program and of the document's answer.
-/
import Derived.Test.YtdmdfokkibijjaaDoorSW1
namespace Go.Proofs.YtdmdfokkibijjaaDoor
open Go.RowKit
open Sgn
set_option linter.unusedVariables false
set_option linter.unusedSimpArgs false

/-- what fits hands back -/
def FitsEnd (k : ByteArray) (n : Int) (k' : ByteArray) (n' : Int) (e : Ending) : Prop :=
  e = .returned (.tuple #[.int .i64 (if fitsOf k.toList n k'.toList n' < 0 then 0 else fitsOf k.toList n k'.toList n'), .bool (decide (0 ≤ fitsOf k.toList n k'.toList n'))])
def WayEnd (k : ByteArray) (n : Int) (k' : ByteArray) (n' : Int) (e : Ending) : Prop := e = .returned (.int .i64 (wayOf k.toList n k'.toList n'))

set_option maxHeartbeats 4000000 in
theorem fits_any (k k' : ByteArray) (n n' : Int) (w : World) :
    Calls Tryd.prog 48 #[.agg #[.string k, .int .i64 n], .agg #[.string k', .int .i64 n']] w fun e w' => FitsEnd k n k' n' e ∧ Below w.heap.size w w' := by
  go_enter Tryd.func48, Tryd.ntmps48
  go_wp2_with fail
  all_goals go_ret2
  all_goals refine ⟨?_, ((Below.refl _ _).alloc (Nat.le_refl _) _).alloc (by simp) _⟩
  all_goals unfold FitsEnd
  all_goals generalize hx : fitsOf _ _ _ _ = x
  all_goals first
    | (obtain rfl : x = 0 := by rw [← hx]; clear hx; unfold fitsOf; simp_all); rfl
    | (obtain rfl : x = 1 := by rw [← hx]; clear hx; unfold fitsOf; simp_all); rfl
    | (obtain rfl : x = 2 := by rw [← hx]; clear hx; unfold fitsOf; simp_all); rfl
    | (obtain rfl : x = 3 := by rw [← hx]; clear hx; unfold fitsOf; simp_all); rfl
    | (obtain rfl : x = 4 := by rw [← hx]; clear hx; unfold fitsOf; simp_all); rfl
    | (obtain rfl : x = -1 := by rw [← hx]; clear hx; unfold fitsOf; simp_all); rfl

theorem box2_below {w w1 : World} {o o2 : Obj} (h : Below ((w.alloc o).alloc o2).heap.size ((w.alloc o).alloc o2) w1) : Below w.heap.size w w1 :=
  Below.trans (((Below.refl _ _).alloc (Nat.le_refl _) _).alloc (by simp) _) (h.mono (by simp; omega))

set_option maxHeartbeats 4000000 in
theorem way_any (k k' : ByteArray) (n n' : Int) (w : World) :
    Calls Tryd.prog 50 #[.agg #[.string k, .int .i64 n], .agg #[.string k', .int .i64 n']] w fun e w' => WayEnd k n k' n' e ∧ Below w.heap.size w w' := by
  have c0 : ∀ w1, Below ((w.alloc (.cells #[.string k, .int .i64 n] 43)).alloc (.cells #[.string k', .int .i64 n'] 43)).heap.size ((w.alloc (.cells #[.string k, .int .i64 n] 43)).alloc (.cells #[.string k', .int .i64 n'] 43)) w1 → w1.cell? ⟨w.heap.size, 0, none⟩ = some (.string k) := fun w1 hb => (hb.cell (by simp; omega)).trans ((World.cell?_alloc_lt _ _ _ (show w.heap.size < (w.alloc (.cells #[.string k, .int .i64 n] 43)).heap.size by simp)).trans (cells_new' w #[.string k, .int .i64 n] 43 0 _ rfl rfl))
  have c1 : ∀ w1, Below ((w.alloc (.cells #[.string k, .int .i64 n] 43)).alloc (.cells #[.string k', .int .i64 n'] 43)).heap.size ((w.alloc (.cells #[.string k, .int .i64 n] 43)).alloc (.cells #[.string k', .int .i64 n'] 43)) w1 → w1.cell? ⟨w.heap.size, 1, none⟩ = some (.int .i64 n) := fun w1 hb => (hb.cell (by simp; omega)).trans ((World.cell?_alloc_lt _ _ _ (show w.heap.size < (w.alloc (.cells #[.string k, .int .i64 n] 43)).heap.size by simp)).trans (cells_new' w #[.string k, .int .i64 n] 43 1 _ rfl rfl))
  have e0 : ∀ w1, Below ((w.alloc (.cells #[.string k, .int .i64 n] 43)).alloc (.cells #[.string k', .int .i64 n'] 43)).heap.size ((w.alloc (.cells #[.string k, .int .i64 n] 43)).alloc (.cells #[.string k', .int .i64 n'] 43)) w1 → w1.cell? ⟨w.heap.size + 1, 0, none⟩ = some (.string k') := fun w1 hb => (hb.cell (by simp)).trans (cells_new' (w.alloc (.cells #[.string k, .int .i64 n] 43)) #[.string k', .int .i64 n'] 43 0 _ rfl (by simp))
  have e1 : ∀ w1, Below ((w.alloc (.cells #[.string k, .int .i64 n] 43)).alloc (.cells #[.string k', .int .i64 n'] 43)).heap.size ((w.alloc (.cells #[.string k, .int .i64 n] 43)).alloc (.cells #[.string k', .int .i64 n'] 43)) w1 → w1.cell? ⟨w.heap.size + 1, 1, none⟩ = some (.int .i64 n') := fun w1 hb => (hb.cell (by simp)).trans (cells_new' (w.alloc (.cells #[.string k, .int .i64 n] 43)) #[.string k', .int .i64 n'] 43 1 _ rfl (by simp))
  have HS := fun u => hide' (rShaped_any k n u)
  obtain ⟨q, hq⟩ : ∃ q, isShaped k = q := ⟨_, rfl⟩
  have hQ : Hid ((k.toList = [100, 111, 109, 97, 105, 110] ∨ k.toList = [97, 114, 114, 97, 121]) ↔ q = true) := by
    show _ ↔ _
    rw [← hq]; unfold isShaped; simp
  rw [hq] at HS
  clear hq
  cases q
  all_goals go_enter Tryd.func50, Tryd.ntmps50
  all_goals go_wp2_with (
    go_at_call 53
    refine (HS _).out.mono ?_
    rintro e w1 ⟨rfl, hb⟩
    have hbw := box2_below hb
    have d1 := c0 _ hb
    have d2 := c1 _ hb
    have d3 := e0 _ hb
    have d4 := e1 _ hb
    clear hb)
  all_goals go_ret
  all_goals refine ⟨?_, by first | assumption | exact ((Below.refl _ _).alloc (Nat.le_refl _) _).alloc (by simp) _⟩
  all_goals unfold WayEnd
  all_goals generalize hx : wayOf _ _ _ _ = x
  all_goals clear c0 c1 e0 e1 HS
  all_goals first
    | (have hQ' := hQ.out; clear hQ; simp only [Bool.false_eq_true, iff_false, not_or] at hQ'; first
        | (obtain rfl : x = 0 := by rw [← hx]; clear hx; unfold wayOf; simp_all); rfl
        | (obtain rfl : x = 1 := by rw [← hx]; clear hx; unfold wayOf; simp_all); rfl
        | (obtain rfl : x = 2 := by rw [← hx]; clear hx; unfold wayOf; simp_all); rfl
        | (obtain rfl : x = 3 := by rw [← hx]; clear hx; unfold wayOf; simp_all); rfl
        | (obtain rfl : x = 4 := by rw [← hx]; clear hx; unfold wayOf; simp_all); rfl
        | (obtain rfl : x = -1 := by rw [← hx]; clear hx; unfold wayOf; simp_all); rfl)
    | (have hQ' := hQ.out; clear hQ; simp only [iff_true] at hQ'; first
        | (obtain rfl : x = 0 := by rw [← hx]; clear hx; unfold wayOf; simp_all); rfl
        | (obtain rfl : x = 1 := by rw [← hx]; clear hx; unfold wayOf; simp_all); rfl
        | (obtain rfl : x = 2 := by rw [← hx]; clear hx; unfold wayOf; simp_all); rfl
        | (obtain rfl : x = 3 := by rw [← hx]; clear hx; unfold wayOf; simp_all); rfl
        | (obtain rfl : x = 4 := by rw [← hx]; clear hx; unfold wayOf; simp_all); rfl
        | (obtain rfl : x = -1 := by rw [← hx]; clear hx; unfold wayOf; simp_all); rfl)

end Go.Proofs.YtdmdfokkibijjaaDoor
