/-
  Layer 9: the walk of First.
-/
import Derived.Test.YtdmdfokkibijjaaGreatDoorSW21
namespace Go.Proofs.YtdmdfokkibijjaaGreatDoor
open Go.RowKit
open Sgn
set_option linter.unusedVariables false
set_option linter.unusedSimpArgs false

theorem cell_alloc {w : World} {o : Obj} {a : Addr} {v : Value} (h : w.cell? a = some v) : (w.alloc o).cell? a = some v := (World.cell?_alloc_lt _ _ _ (cell_lt h)).trans h
/-- the memory that First makes -/
def exW (w : World) : World :=
  (((w.alloc (.cells #[.string ⟨#[105, 110, 116]⟩, .int .i64 0] 35)).alloc (.cells #[.string ⟨#[97, 110, 121]⟩, .int .i64 0] 35)).alloc
    (.cells #[.string ⟨#[102]⟩, .slice (some ⟨w.heap.size, 0, none⟩) 1 1, .string ⟨#[105, 110, 116]⟩, .string ⟨#[102]⟩, .slice (some ⟨w.heap.size + 1, 0, none⟩) 1 1, .string ⟨#[105, 110, 116]⟩] 25)).alloc
    (.cells #[.string ⟨#[97, 114, 114, 97, 121]⟩, .int .i64 1] 35)
theorem exW_below (w : World) : Below w.heap.size w (exW w) :=
  ((((Below.refl _ _).alloc (Nat.le_refl _) _).alloc (by simp) _).alloc (by simp; omega) _).alloc (by simp; omega) _
theorem exW_a (w : World) : FSl (exW w) (.slice (some ⟨w.heap.size + 1 + 1 + 1, 0, none⟩) 1 1) exA := by
  refine ⟨_, 1, rfl, Nat.le_refl _, by unfold maxLen; omega, fun _ => ⟨_, 0, rfl, fun i hi => ?_⟩⟩
  match i, hi with
  | 0, _ => exact ⟨cells_new' _ _ _ 0 _ rfl (by simp), cells_new' _ _ _ 1 _ rfl (by simp)⟩
theorem exW_l (w : World) : GSl (exW w) (.slice (some ⟨w.heap.size + 1 + 1, 0, none⟩) 2 2) exL := by
  refine ⟨_, 2, rfl, Nat.le_refl _, by unfold maxLen; omega, fun _ => ⟨_, 0, rfl, fun i hi => ?_⟩⟩
  match i, hi with
  | 0, _ =>
    refine ⟨.slice (some ⟨w.heap.size, 0, none⟩) 1 1, cell_alloc (cells_new' _ _ _ 0 _ rfl (by simp)), cell_alloc (cells_new' _ _ _ 1 _ rfl (by simp)), cell_alloc (cells_new' _ _ _ 2 _ rfl (by simp)), _, 1, rfl, Nat.le_refl _, by unfold maxLen; omega, fun _ => ⟨_, 0, rfl, fun k hk => ?_⟩⟩
    match k, hk with
    | 0, _ => exact ⟨cell_alloc (cell_alloc (cell_alloc (cells_new' _ _ _ 0 _ rfl rfl))), cell_alloc (cell_alloc (cell_alloc (cells_new' _ _ _ 1 _ rfl rfl)))⟩
  | 1, _ =>
    refine ⟨.slice (some ⟨w.heap.size + 1, 0, none⟩) 1 1, cell_alloc (cells_new' _ _ _ 3 _ rfl (by simp)), cell_alloc (cells_new' _ _ _ 4 _ rfl (by simp)), cell_alloc (cells_new' _ _ _ 5 _ rfl (by simp)), _, 1, rfl, Nat.le_refl _, by unfold maxLen; omega, fun _ => ⟨_, 0, rfl, fun k hk => ?_⟩⟩
    match k, hk with
    | 0, _ => exact ⟨cell_alloc (cell_alloc (cells_new' _ _ _ 0 _ rfl (by simp))), cell_alloc (cell_alloc (cells_new' _ _ _ 1 _ rfl (by simp)))⟩

set_option maxHeartbeats 4000000 in
set_option maxRecDepth 100000 in
theorem First_any (w : World) (HT : Hid (Tab w)) :
    Calls Tryz.prog 5 #[] w fun e w' => e = .returned (.bool true) ∧ Below w.heap.size w w' := by
  have HR := hide' (Resolve_any exL ⟨#[102]⟩ exA _ _ (exW w) (hide' (HT.out.on (exW_below w))) (hide' (fun g hg => by simp [exL] at hg; rcases hg with rfl | rfl <;> (unfold ByteArray.size; simp))) (exW_l w) (exW_a w) (by decide))
  have HB := hide' (exW_below w)
  go_enter Tryz.func5, Tryz.ntmps5
  go_wp2_with fail
  refine HR.out.mono ?_
  rintro e w' ⟨hR, hb⟩
  obtain ⟨v, rfl⟩ := ex_res hR
  have HE := hide' (HB.out.trans (hb.mono HB.out.size))
  clear hR hb HR HB
  go_wp2_with fail
  go_ret
  exact ⟨rfl, HE.out⟩

end Go.Proofs.YtdmdfokkibijjaaGreatDoor
