/-
  The walks of the small tests of the document's answer of layer 9: is a formal a type, an actual, a formal.
-/
import Derived.Test.YtdmdfokkibijjaaGreatDoorSW1
namespace Go.Proofs.YtdmdfokkibijjaaGreatDoor
open Go.RowKit
open Sgn
set_option linter.unusedVariables false
set_option linter.unusedSimpArgs false

theorem box_below {w w1 : World} {o : Obj} (h : Below (w.alloc o).heap.size (w.alloc o) w1) : Below w.heap.size w w1 :=
  Below.trans ((Below.refl _ _).alloc (Nat.le_refl _) _) (h.mono (by simp))

set_option maxHeartbeats 4000000 in
theorem rIsType_any (k : ByteArray) (n : Int) (w : World) :
    Calls Tryz.prog 86 #[.agg #[.string k, .int .i64 n]] w fun e w' => e = .returned (.bool (isType k n)) ∧ Below w.heap.size w w' := by
  have c0 : ∀ w1, Below (w.alloc (.cells #[.string k, .int .i64 n] 35)).heap.size (w.alloc (.cells #[.string k, .int .i64 n] 35)) w1 → w1.cell? ⟨w.heap.size, 0, none⟩ = some (.string k) := fun w1 hb => (hb.cell (by simp)).trans (cells_new' w #[.string k, .int .i64 n] 35 0 _ rfl rfl)
  have c1 : ∀ w1, Below (w.alloc (.cells #[.string k, .int .i64 n] 35)).heap.size (w.alloc (.cells #[.string k, .int .i64 n] 35)) w1 → w1.cell? ⟨w.heap.size, 1, none⟩ = some (.int .i64 n) := fun w1 hb => (hb.cell (by simp)).trans (cells_new' w #[.string k, .int .i64 n] 35 1 _ rfl rfl)
  have HP := fun u => hide' (rPlain_any k n u)
  have HS := fun u => hide' (rShaped_any k n u)
  rcases kinds k with rfl | rfl | rfl | rfl | rfl | rfl | h
  · simp only [isPlain_1] at HP; simp only [isShaped_1] at HS; rw [isType_1]
    cases hn : (n == 0) <;> simp only [hn] at HP
    ·
      go_enter Tryz.func86, Tryz.ntmps86
      go_wp2_with fail
      refine (HP _).out.mono ?_
      rintro e w1 ⟨rfl, g1⟩
      have hb1 := g1
      have d01 := c0 _ hb1
      have d11 := c1 _ hb1
      clear g1
      go_wp2_with fail
      refine (HS _).out.mono ?_
      rintro e w2 ⟨rfl, g2⟩
      have hb2 := hb1.trans (g2.mono hb1.size)
      have d02 := c0 _ hb2
      have d12 := c1 _ hb2
      clear g2
      go_wp2_with fail
      go_ret
      exact ⟨rfl, box_below hb2⟩
    ·
      go_enter Tryz.func86, Tryz.ntmps86
      go_wp2_with fail
      refine (HP _).out.mono ?_
      rintro e w1 ⟨rfl, g1⟩
      have hb1 := g1
      have d01 := c0 _ hb1
      have d11 := c1 _ hb1
      clear g1
      go_wp2_with fail
      go_ret
      exact ⟨rfl, box_below hb1⟩
  · simp only [isPlain_2] at HP; simp only [isShaped_2] at HS; rw [isType_2]
    cases hn : (n == 0) <;> simp only [hn] at HP
    ·
      go_enter Tryz.func86, Tryz.ntmps86
      go_wp2_with fail
      refine (HP _).out.mono ?_
      rintro e w1 ⟨rfl, g1⟩
      have hb1 := g1
      have d01 := c0 _ hb1
      have d11 := c1 _ hb1
      clear g1
      go_wp2_with fail
      refine (HS _).out.mono ?_
      rintro e w2 ⟨rfl, g2⟩
      have hb2 := hb1.trans (g2.mono hb1.size)
      have d02 := c0 _ hb2
      have d12 := c1 _ hb2
      clear g2
      go_wp2_with fail
      go_ret
      exact ⟨rfl, box_below hb2⟩
    ·
      go_enter Tryz.func86, Tryz.ntmps86
      go_wp2_with fail
      refine (HP _).out.mono ?_
      rintro e w1 ⟨rfl, g1⟩
      have hb1 := g1
      have d01 := c0 _ hb1
      have d11 := c1 _ hb1
      clear g1
      go_wp2_with fail
      go_ret
      exact ⟨rfl, box_below hb1⟩
  · simp only [isPlain_3] at HP; simp only [isShaped_3] at HS; rw [isType_3]
    cases hn : (n == 0)
    ·
      go_enter Tryz.func86, Tryz.ntmps86
      go_wp2_with fail
      refine (HP _).out.mono ?_
      rintro e w1 ⟨rfl, g1⟩
      have hb1 := g1
      have d01 := c0 _ hb1
      have d11 := c1 _ hb1
      clear g1
      go_wp2_with fail
      refine (HS _).out.mono ?_
      rintro e w2 ⟨rfl, g2⟩
      have hb2 := hb1.trans (g2.mono hb1.size)
      have d02 := c0 _ hb2
      have d12 := c1 _ hb2
      clear g2
      go_wp2_with fail
      go_ret
      exact ⟨rfl, box_below hb2⟩
    ·
      go_enter Tryz.func86, Tryz.ntmps86
      go_wp2_with fail
      refine (HP _).out.mono ?_
      rintro e w1 ⟨rfl, g1⟩
      have hb1 := g1
      have d01 := c0 _ hb1
      have d11 := c1 _ hb1
      clear g1
      go_wp2_with fail
      go_ret
      exact ⟨rfl, box_below hb1⟩
  · simp only [isPlain_4] at HP; simp only [isShaped_4] at HS; rw [isType_4]
    cases g1 : decide (1 ≤ n) <;> cases g2 : decide (n ≤ 3)
    all_goals
      go_enter Tryz.func86, Tryz.ntmps86
      go_wp2_with fail
      refine (HP _).out.mono ?_
      rintro e w1 ⟨rfl, g1⟩
      have hb1 := g1
      have d01 := c0 _ hb1
      have d11 := c1 _ hb1
      clear g1
      go_wp2_with fail
      refine (HS _).out.mono ?_
      rintro e w2 ⟨rfl, g2⟩
      have hb2 := hb1.trans (g2.mono hb1.size)
      have d02 := c0 _ hb2
      have d12 := c1 _ hb2
      clear g2
      go_wp2_with fail
      go_ret
      exact ⟨rfl, box_below hb2⟩
  · simp only [isPlain_5] at HP; simp only [isShaped_5] at HS; rw [isType_5]
    cases g1 : decide (1 ≤ n) <;> cases g2 : decide (n ≤ 3)
    all_goals
      go_enter Tryz.func86, Tryz.ntmps86
      go_wp2_with fail
      refine (HP _).out.mono ?_
      rintro e w1 ⟨rfl, g1⟩
      have hb1 := g1
      have d01 := c0 _ hb1
      have d11 := c1 _ hb1
      clear g1
      go_wp2_with fail
      refine (HS _).out.mono ?_
      rintro e w2 ⟨rfl, g2⟩
      have hb2 := hb1.trans (g2.mono hb1.size)
      have d02 := c0 _ hb2
      have d12 := c1 _ hb2
      clear g2
      go_wp2_with fail
      go_ret
      exact ⟨rfl, box_below hb2⟩
  · simp only [isPlain_6] at HP; simp only [isShaped_6] at HS; rw [isType_6]
    ·
      go_enter Tryz.func86, Tryz.ntmps86
      go_wp2_with fail
      refine (HP _).out.mono ?_
      rintro e w1 ⟨rfl, g1⟩
      have hb1 := g1
      have d01 := c0 _ hb1
      have d11 := c1 _ hb1
      clear g1
      go_wp2_with fail
      refine (HS _).out.mono ?_
      rintro e w2 ⟨rfl, g2⟩
      have hb2 := hb1.trans (g2.mono hb1.size)
      have d02 := c0 _ hb2
      have d12 := c1 _ hb2
      clear g2
      go_wp2_with fail
      go_ret
      exact ⟨rfl, box_below hb2⟩
  · simp only [isPlain_7 n h] at HP; simp only [isShaped_7 h] at HS; rw [isType_7 n h]
    obtain ⟨h1, h2, h3, h4, h5, h6⟩ := h
    ·
      go_enter Tryz.func86, Tryz.ntmps86
      go_wp2_with fail
      refine (HP _).out.mono ?_
      rintro e w1 ⟨rfl, g1⟩
      have hb1 := g1
      have d01 := c0 _ hb1
      have d11 := c1 _ hb1
      clear g1
      go_wp2_with fail
      refine (HS _).out.mono ?_
      rintro e w2 ⟨rfl, g2⟩
      have hb2 := hb1.trans (g2.mono hb1.size)
      have d02 := c0 _ hb2
      have d12 := c1 _ hb2
      clear g2
      go_wp2_with fail
      go_ret
      exact ⟨rfl, box_below hb2⟩
set_option maxHeartbeats 4000000 in
theorem rIsActual_any (k : ByteArray) (n : Int) (w : World) :
    Calls Tryz.prog 63 #[.agg #[.string k, .int .i64 n]] w fun e w' => e = .returned (.bool (isActual k n)) ∧ Below w.heap.size w w' := by
  have c0 : ∀ w1, Below (w.alloc (.cells #[.string k, .int .i64 n] 35)).heap.size (w.alloc (.cells #[.string k, .int .i64 n] 35)) w1 → w1.cell? ⟨w.heap.size, 0, none⟩ = some (.string k) := fun w1 hb => (hb.cell (by simp)).trans (cells_new' w #[.string k, .int .i64 n] 35 0 _ rfl rfl)
  have c1 : ∀ w1, Below (w.alloc (.cells #[.string k, .int .i64 n] 35)).heap.size (w.alloc (.cells #[.string k, .int .i64 n] 35)) w1 → w1.cell? ⟨w.heap.size, 1, none⟩ = some (.int .i64 n) := fun w1 hb => (hb.cell (by simp)).trans (cells_new' w #[.string k, .int .i64 n] 35 1 _ rfl rfl)
  have HT := fun u => hide' (rIsType_any k n u)
  unfold isActual
  cases ht : isType k n <;> rw [ht] at HT
  · clear ht
    go_enter Tryz.func63, Tryz.ntmps63
    go_wp2_with fail
    refine (HT _).out.mono ?_
    rintro e w1 ⟨rfl, g1⟩
    have hb1 := g1
    have d01 := c0 _ hb1
    have d11 := c1 _ hb1
    clear g1
    go_wp2_with fail
    go_ret
    exact ⟨rfl, box_below hb1⟩
  · clear ht
    cases hk : (k.toList == [110, 111, 110, 101])
    all_goals
      go_enter Tryz.func63, Tryz.ntmps63
      go_wp2_with fail
      refine (HT _).out.mono ?_
      rintro e w1 ⟨rfl, g1⟩
      have hb1 := g1
      have d01 := c0 _ hb1
      have d11 := c1 _ hb1
      clear g1
      go_wp2_with fail
      go_ret
      exact ⟨rfl, box_below hb1⟩

theorem isFormal'_1 (n : Int) : isFormal ⟨#[105, 110, 116]⟩ n = (isActual ⟨#[105, 110, 116]⟩ n || false) := by unfold isFormal isShaped; simp [Lib.toList_data]
theorem isFormal'_2 (n : Int) : isFormal ⟨#[98, 111, 111, 108]⟩ n = (isActual ⟨#[98, 111, 111, 108]⟩ n || false) := by unfold isFormal isShaped; simp [Lib.toList_data]
theorem isFormal'_3 (n : Int) : isFormal ⟨#[110, 111, 110, 101]⟩ n = (isActual ⟨#[110, 111, 110, 101]⟩ n || false) := by unfold isFormal isShaped; simp [Lib.toList_data]
theorem isFormal'_4 (n : Int) : isFormal ⟨#[100, 111, 109, 97, 105, 110]⟩ n = (isActual ⟨#[100, 111, 109, 97, 105, 110]⟩ n || (n == 0)) := by unfold isFormal isShaped; simp [Lib.toList_data]
theorem isFormal'_5 (n : Int) : isFormal ⟨#[97, 114, 114, 97, 121]⟩ n = (isActual ⟨#[97, 114, 114, 97, 121]⟩ n || (n == 0)) := by unfold isFormal isShaped; simp [Lib.toList_data]
theorem isFormal'_6 (n : Int) : isFormal ⟨#[97, 110, 121]⟩ n = (isActual ⟨#[97, 110, 121]⟩ n || (n == 0)) := by unfold isFormal isShaped; simp [Lib.toList_data]
theorem isFormal'_7 {k : ByteArray} (n : Int) (h : Other k) : isFormal k n = (isActual k n || false) := by unfold isFormal isShaped; simp [h.h4, h.h5, h.h6]
set_option maxHeartbeats 4000000 in
theorem rIsFormal_any (k : ByteArray) (n : Int) (w : World) :
    Calls Tryz.prog 42 #[.agg #[.string k, .int .i64 n]] w fun e w' => e = .returned (.bool (isFormal k n)) ∧ Below w.heap.size w w' := by
  have c0 : ∀ w1, Below (w.alloc (.cells #[.string k, .int .i64 n] 35)).heap.size (w.alloc (.cells #[.string k, .int .i64 n] 35)) w1 → w1.cell? ⟨w.heap.size, 0, none⟩ = some (.string k) := fun w1 hb => (hb.cell (by simp)).trans (cells_new' w #[.string k, .int .i64 n] 35 0 _ rfl rfl)
  have c1 : ∀ w1, Below (w.alloc (.cells #[.string k, .int .i64 n] 35)).heap.size (w.alloc (.cells #[.string k, .int .i64 n] 35)) w1 → w1.cell? ⟨w.heap.size, 1, none⟩ = some (.int .i64 n) := fun w1 hb => (hb.cell (by simp)).trans (cells_new' w #[.string k, .int .i64 n] 35 1 _ rfl rfl)
  have HA := fun u => hide' (rIsActual_any k n u)
  have HS := fun u => hide' (rShaped_any k n u)
  rcases kinds k with rfl | rfl | rfl | rfl | rfl | rfl | h
  · simp only [isShaped_1] at HS; rw [isFormal'_1]
    cases hA : isActual ⟨#[105, 110, 116]⟩ n <;> simp only [hA] at HA <;> clear hA
    · rw [Bool.false_or]
      go_enter Tryz.func42, Tryz.ntmps42
      go_wp2_with fail
      refine (HA _).out.mono ?_
      rintro e w1 ⟨rfl, g1⟩
      have hb1 := g1
      have d01 := c0 _ hb1
      have d11 := c1 _ hb1
      clear g1
      go_wp2_with fail
      refine (HS _).out.mono ?_
      rintro e w2 ⟨rfl, g2⟩
      have hb2 := hb1.trans (g2.mono hb1.size)
      have d02 := c0 _ hb2
      have d12 := c1 _ hb2
      clear g2
      go_wp2_with fail
      go_ret
      exact ⟨rfl, box_below hb2⟩
    · rw [Bool.true_or]
      go_enter Tryz.func42, Tryz.ntmps42
      go_wp2_with fail
      refine (HA _).out.mono ?_
      rintro e w1 ⟨rfl, g1⟩
      have hb1 := g1
      have d01 := c0 _ hb1
      have d11 := c1 _ hb1
      clear g1
      go_wp2_with fail
      go_ret
      exact ⟨rfl, box_below hb1⟩
  · simp only [isShaped_2] at HS; rw [isFormal'_2]
    cases hA : isActual ⟨#[98, 111, 111, 108]⟩ n <;> simp only [hA] at HA <;> clear hA
    · rw [Bool.false_or]
      go_enter Tryz.func42, Tryz.ntmps42
      go_wp2_with fail
      refine (HA _).out.mono ?_
      rintro e w1 ⟨rfl, g1⟩
      have hb1 := g1
      have d01 := c0 _ hb1
      have d11 := c1 _ hb1
      clear g1
      go_wp2_with fail
      refine (HS _).out.mono ?_
      rintro e w2 ⟨rfl, g2⟩
      have hb2 := hb1.trans (g2.mono hb1.size)
      have d02 := c0 _ hb2
      have d12 := c1 _ hb2
      clear g2
      go_wp2_with fail
      go_ret
      exact ⟨rfl, box_below hb2⟩
    · rw [Bool.true_or]
      go_enter Tryz.func42, Tryz.ntmps42
      go_wp2_with fail
      refine (HA _).out.mono ?_
      rintro e w1 ⟨rfl, g1⟩
      have hb1 := g1
      have d01 := c0 _ hb1
      have d11 := c1 _ hb1
      clear g1
      go_wp2_with fail
      go_ret
      exact ⟨rfl, box_below hb1⟩
  · simp only [isShaped_3] at HS; rw [isFormal'_3]
    cases hA : isActual ⟨#[110, 111, 110, 101]⟩ n <;> simp only [hA] at HA <;> clear hA
    · rw [Bool.false_or]
      go_enter Tryz.func42, Tryz.ntmps42
      go_wp2_with fail
      refine (HA _).out.mono ?_
      rintro e w1 ⟨rfl, g1⟩
      have hb1 := g1
      have d01 := c0 _ hb1
      have d11 := c1 _ hb1
      clear g1
      go_wp2_with fail
      refine (HS _).out.mono ?_
      rintro e w2 ⟨rfl, g2⟩
      have hb2 := hb1.trans (g2.mono hb1.size)
      have d02 := c0 _ hb2
      have d12 := c1 _ hb2
      clear g2
      go_wp2_with fail
      go_ret
      exact ⟨rfl, box_below hb2⟩
    · rw [Bool.true_or]
      go_enter Tryz.func42, Tryz.ntmps42
      go_wp2_with fail
      refine (HA _).out.mono ?_
      rintro e w1 ⟨rfl, g1⟩
      have hb1 := g1
      have d01 := c0 _ hb1
      have d11 := c1 _ hb1
      clear g1
      go_wp2_with fail
      go_ret
      exact ⟨rfl, box_below hb1⟩
  · simp only [isShaped_4] at HS; rw [isFormal'_4]
    cases hA : isActual ⟨#[100, 111, 109, 97, 105, 110]⟩ n <;> simp only [hA] at HA <;> clear hA
    · rw [Bool.false_or]
      cases hn : (n == 0)
      all_goals
        go_enter Tryz.func42, Tryz.ntmps42
        go_wp2_with fail
        refine (HA _).out.mono ?_
        rintro e w1 ⟨rfl, g1⟩
        have hb1 := g1
        have d01 := c0 _ hb1
        have d11 := c1 _ hb1
        clear g1
        go_wp2_with fail
        refine (HS _).out.mono ?_
        rintro e w2 ⟨rfl, g2⟩
        have hb2 := hb1.trans (g2.mono hb1.size)
        have d02 := c0 _ hb2
        have d12 := c1 _ hb2
        clear g2
        go_wp2_with fail
        go_ret
        exact ⟨rfl, box_below hb2⟩
    · rw [Bool.true_or]
      go_enter Tryz.func42, Tryz.ntmps42
      go_wp2_with fail
      refine (HA _).out.mono ?_
      rintro e w1 ⟨rfl, g1⟩
      have hb1 := g1
      have d01 := c0 _ hb1
      have d11 := c1 _ hb1
      clear g1
      go_wp2_with fail
      go_ret
      exact ⟨rfl, box_below hb1⟩
  · simp only [isShaped_5] at HS; rw [isFormal'_5]
    cases hA : isActual ⟨#[97, 114, 114, 97, 121]⟩ n <;> simp only [hA] at HA <;> clear hA
    · rw [Bool.false_or]
      cases hn : (n == 0)
      all_goals
        go_enter Tryz.func42, Tryz.ntmps42
        go_wp2_with fail
        refine (HA _).out.mono ?_
        rintro e w1 ⟨rfl, g1⟩
        have hb1 := g1
        have d01 := c0 _ hb1
        have d11 := c1 _ hb1
        clear g1
        go_wp2_with fail
        refine (HS _).out.mono ?_
        rintro e w2 ⟨rfl, g2⟩
        have hb2 := hb1.trans (g2.mono hb1.size)
        have d02 := c0 _ hb2
        have d12 := c1 _ hb2
        clear g2
        go_wp2_with fail
        go_ret
        exact ⟨rfl, box_below hb2⟩
    · rw [Bool.true_or]
      go_enter Tryz.func42, Tryz.ntmps42
      go_wp2_with fail
      refine (HA _).out.mono ?_
      rintro e w1 ⟨rfl, g1⟩
      have hb1 := g1
      have d01 := c0 _ hb1
      have d11 := c1 _ hb1
      clear g1
      go_wp2_with fail
      go_ret
      exact ⟨rfl, box_below hb1⟩
  · simp only [isShaped_6] at HS; rw [isFormal'_6]
    cases hA : isActual ⟨#[97, 110, 121]⟩ n <;> simp only [hA] at HA <;> clear hA
    · rw [Bool.false_or]
      cases hn : (n == 0)
      all_goals
        go_enter Tryz.func42, Tryz.ntmps42
        go_wp2_with fail
        refine (HA _).out.mono ?_
        rintro e w1 ⟨rfl, g1⟩
        have hb1 := g1
        have d01 := c0 _ hb1
        have d11 := c1 _ hb1
        clear g1
        go_wp2_with fail
        refine (HS _).out.mono ?_
        rintro e w2 ⟨rfl, g2⟩
        have hb2 := hb1.trans (g2.mono hb1.size)
        have d02 := c0 _ hb2
        have d12 := c1 _ hb2
        clear g2
        go_wp2_with fail
        go_ret
        exact ⟨rfl, box_below hb2⟩
    · rw [Bool.true_or]
      go_enter Tryz.func42, Tryz.ntmps42
      go_wp2_with fail
      refine (HA _).out.mono ?_
      rintro e w1 ⟨rfl, g1⟩
      have hb1 := g1
      have d01 := c0 _ hb1
      have d11 := c1 _ hb1
      clear g1
      go_wp2_with fail
      go_ret
      exact ⟨rfl, box_below hb1⟩
  · simp only [isShaped_7 h] at HS; rw [isFormal'_7 n h]
    cases hA : isActual k n <;> simp only [hA] at HA <;> clear hA
    obtain ⟨h1, h2, h3, h4, h5, h6⟩ := h
    · rw [Bool.false_or]
      go_enter Tryz.func42, Tryz.ntmps42
      go_wp2_with fail
      refine (HA _).out.mono ?_
      rintro e w1 ⟨rfl, g1⟩
      have hb1 := g1
      have d01 := c0 _ hb1
      have d11 := c1 _ hb1
      clear g1
      go_wp2_with fail
      refine (HS _).out.mono ?_
      rintro e w2 ⟨rfl, g2⟩
      have hb2 := hb1.trans (g2.mono hb1.size)
      have d02 := c0 _ hb2
      have d12 := c1 _ hb2
      clear g2
      go_wp2_with fail
      go_ret
      exact ⟨rfl, box_below hb2⟩
    · rw [Bool.true_or]
      go_enter Tryz.func42, Tryz.ntmps42
      go_wp2_with fail
      refine (HA _).out.mono ?_
      rintro e w1 ⟨rfl, g1⟩
      have hb1 := g1
      have d01 := c0 _ hb1
      have d11 := c1 _ hb1
      clear g1
      go_wp2_with fail
      go_ret
      exact ⟨rfl, box_below hb1⟩

end Go.Proofs.YtdmdfokkibijjaaGreatDoor
