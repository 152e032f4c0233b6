/-
  The walks of the small tests of layer 9: is a formal a type, an actual, a formal; of the program and of the document's answer.
-/
import Derived.Test.YtdmdfokkibijjaaGreatDoorName
import Derived.Test.YtdmdfokkibijjaaGreatDoorPlain4
namespace Go.Proofs.YtdmdfokkibijjaaGreatDoor
open Go.RowKit
open Sgn
set_option linter.unusedVariables false
set_option linter.unusedSimpArgs false

theorem isType_1 (n : Int) : isType ⟨#[105, 110, 116]⟩ n = (n == 0) := by unfold isType; simp [Lib.toList_data]
theorem isType_2 (n : Int) : isType ⟨#[98, 111, 111, 108]⟩ n = (n == 0) := by unfold isType; simp [Lib.toList_data]
theorem isType_3 (n : Int) : isType ⟨#[110, 111, 110, 101]⟩ n = (n == 0) := by unfold isType; simp [Lib.toList_data]
theorem isType_4 (n : Int) : isType ⟨#[100, 111, 109, 97, 105, 110]⟩ n = (decide (1 ≤ n) && decide (n ≤ 3)) := by unfold isType; simp [Lib.toList_data]
theorem isType_5 (n : Int) : isType ⟨#[97, 114, 114, 97, 121]⟩ n = (decide (1 ≤ n) && decide (n ≤ 3)) := by unfold isType; simp [Lib.toList_data]
theorem isType_6 (n : Int) : isType ⟨#[97, 110, 121]⟩ n = false := by unfold isType; simp [Lib.toList_data]
theorem isType_7 {k : ByteArray} (n : Int) (h : Other k) : isType k n = false := by unfold isType; simp [h.h1, h.h2, h.h3, h.h4, h.h5, h.h6]
theorem isShaped_1 : isShaped ⟨#[105, 110, 116]⟩  = false := by unfold isShaped; simp [Lib.toList_data]
theorem isShaped_2 : isShaped ⟨#[98, 111, 111, 108]⟩  = false := by unfold isShaped; simp [Lib.toList_data]
theorem isShaped_3 : isShaped ⟨#[110, 111, 110, 101]⟩  = false := by unfold isShaped; simp [Lib.toList_data]
theorem isShaped_4 : isShaped ⟨#[100, 111, 109, 97, 105, 110]⟩  = true := by unfold isShaped; simp [Lib.toList_data]
theorem isShaped_5 : isShaped ⟨#[97, 114, 114, 97, 121]⟩  = true := by unfold isShaped; simp [Lib.toList_data]
theorem isShaped_6 : isShaped ⟨#[97, 110, 121]⟩  = false := by unfold isShaped; simp [Lib.toList_data]
theorem isShaped_7 {k : ByteArray} (h : Other k) : isShaped k  = false := by unfold isShaped; simp [h.h1, h.h2, h.h3, h.h4, h.h5, h.h6]
theorem isPlain_1 (n : Int) : isPlain ⟨#[105, 110, 116]⟩ n = (n == 0) := by unfold isPlain; simp [Lib.toList_data]
theorem isPlain_2 (n : Int) : isPlain ⟨#[98, 111, 111, 108]⟩ n = (n == 0) := by unfold isPlain; simp [Lib.toList_data]
theorem isPlain_3 (n : Int) : isPlain ⟨#[110, 111, 110, 101]⟩ n = false := by unfold isPlain; simp [Lib.toList_data]
theorem isPlain_4 (n : Int) : isPlain ⟨#[100, 111, 109, 97, 105, 110]⟩ n = false := by unfold isPlain; simp [Lib.toList_data]
theorem isPlain_5 (n : Int) : isPlain ⟨#[97, 114, 114, 97, 121]⟩ n = false := by unfold isPlain; simp [Lib.toList_data]
theorem isPlain_6 (n : Int) : isPlain ⟨#[97, 110, 121]⟩ n = false := by unfold isPlain; simp [Lib.toList_data]
theorem isPlain_7 {k : ByteArray} (n : Int) (h : Other k) : isPlain k n = false := by unfold isPlain; simp [h.h1, h.h2, h.h3, h.h4, h.h5, h.h6]
theorem isFormal_1 (n : Int) : isFormal ⟨#[105, 110, 116]⟩ n = isType ⟨#[105, 110, 116]⟩ n := by unfold isFormal isActual isShaped; simp [Lib.toList_data]
theorem isFormal_2 (n : Int) : isFormal ⟨#[98, 111, 111, 108]⟩ n = isType ⟨#[98, 111, 111, 108]⟩ n := by unfold isFormal isActual isShaped; simp [Lib.toList_data]
theorem isFormal_3 (n : Int) : isFormal ⟨#[110, 111, 110, 101]⟩ n = false := by unfold isFormal isActual isShaped; simp [Lib.toList_data]
theorem isFormal_4 (n : Int) : isFormal ⟨#[100, 111, 109, 97, 105, 110]⟩ n = (isType ⟨#[100, 111, 109, 97, 105, 110]⟩ n || n == 0) := by unfold isFormal isActual isShaped; simp [Lib.toList_data]
theorem isFormal_5 (n : Int) : isFormal ⟨#[97, 114, 114, 97, 121]⟩ n = (isType ⟨#[97, 114, 114, 97, 121]⟩ n || n == 0) := by unfold isFormal isActual isShaped; simp [Lib.toList_data]
theorem isFormal_6 (n : Int) : isFormal ⟨#[97, 110, 121]⟩ n = (n == 0) := by unfold isFormal isActual isShaped; rw [isType_6]; simp [Lib.toList_data]
theorem isFormal_7 {k : ByteArray} (n : Int) (h : Other k) : isFormal k n = isType k n := by unfold isFormal isActual isShaped; rw [isType_7 n h]; simp [h.h4, h.h5, h.h6]

set_option maxHeartbeats 4000000 in
theorem isType_any (k : ByteArray) (n : Int) (w : World) :
    Calls Tryz.prog 58 #[.agg #[.string k, .int .i64 n]] w fun e w' => e = .returned (.bool (isType k n)) ∧ Below w.heap.size w w' := by
  rcases kinds k with rfl | rfl | rfl | rfl | rfl | rfl | h
  · rw [isType_1]; go_enter Tryz.func58, Tryz.ntmps58
    go_wp2_with fail
    go_ret
    exact ⟨rfl, (Below.refl _ _).alloc (Nat.le_refl _) _⟩
  · rw [isType_2]; go_enter Tryz.func58, Tryz.ntmps58
    go_wp2_with fail
    go_ret
    exact ⟨rfl, (Below.refl _ _).alloc (Nat.le_refl _) _⟩
  · rw [isType_3]; go_enter Tryz.func58, Tryz.ntmps58
    go_wp2_with fail
    go_ret
    exact ⟨rfl, (Below.refl _ _).alloc (Nat.le_refl _) _⟩
  · rw [isType_4]; cases g1 : decide (1 ≤ n) <;> cases g2 : decide (n ≤ 3) <;> go_enter Tryz.func58, Tryz.ntmps58
    all_goals go_wp2_with fail
    all_goals go_ret
    all_goals exact ⟨rfl, (Below.refl _ _).alloc (Nat.le_refl _) _⟩
  · rw [isType_5]; cases g1 : decide (1 ≤ n) <;> cases g2 : decide (n ≤ 3) <;> go_enter Tryz.func58, Tryz.ntmps58
    all_goals go_wp2_with fail
    all_goals go_ret
    all_goals exact ⟨rfl, (Below.refl _ _).alloc (Nat.le_refl _) _⟩
  · rw [isType_6]; go_enter Tryz.func58, Tryz.ntmps58
    go_wp2_with fail
    go_ret
    exact ⟨rfl, (Below.refl _ _).alloc (Nat.le_refl _) _⟩
  · rw [isType_7 n h]; obtain ⟨h1, h2, h3, h4, h5, h6⟩ := h; go_enter Tryz.func58, Tryz.ntmps58
    go_wp2_with fail
    go_ret
    exact ⟨rfl, (Below.refl _ _).alloc (Nat.le_refl _) _⟩

set_option maxHeartbeats 4000000 in
theorem rPlain_any (k : ByteArray) (n : Int) (w : World) :
    Calls Tryz.prog 105 #[.agg #[.string k, .int .i64 n]] w fun e w' => e = .returned (.bool (isPlain k n)) ∧ Below w.heap.size w w' := by
  rcases kinds k with rfl | rfl | rfl | rfl | rfl | rfl | h
  · rw [isPlain_1]; go_enter Tryz.func105, Tryz.ntmps105
    go_wp2_with fail
    go_ret
    exact ⟨rfl, (Below.refl _ _).alloc (Nat.le_refl _) _⟩
  · rw [isPlain_2]; go_enter Tryz.func105, Tryz.ntmps105
    go_wp2_with fail
    go_ret
    exact ⟨rfl, (Below.refl _ _).alloc (Nat.le_refl _) _⟩
  · rw [isPlain_3]; go_enter Tryz.func105, Tryz.ntmps105
    go_wp2_with fail
    go_ret
    exact ⟨rfl, (Below.refl _ _).alloc (Nat.le_refl _) _⟩
  · rw [isPlain_4]; go_enter Tryz.func105, Tryz.ntmps105
    go_wp2_with fail
    go_ret
    exact ⟨rfl, (Below.refl _ _).alloc (Nat.le_refl _) _⟩
  · rw [isPlain_5]; go_enter Tryz.func105, Tryz.ntmps105
    go_wp2_with fail
    go_ret
    exact ⟨rfl, (Below.refl _ _).alloc (Nat.le_refl _) _⟩
  · rw [isPlain_6]; go_enter Tryz.func105, Tryz.ntmps105
    go_wp2_with fail
    go_ret
    exact ⟨rfl, (Below.refl _ _).alloc (Nat.le_refl _) _⟩
  · rw [isPlain_7 n h]; obtain ⟨h1, h2, h3, h4, h5, h6⟩ := h; go_enter Tryz.func105, Tryz.ntmps105
    go_wp2_with fail
    go_ret
    exact ⟨rfl, (Below.refl _ _).alloc (Nat.le_refl _) _⟩

set_option maxHeartbeats 4000000 in
theorem rShaped_any (k : ByteArray) (n : Int) (w : World) :
    Calls Tryz.prog 19 #[.agg #[.string k, .int .i64 n]] w fun e w' => e = .returned (.bool (isShaped k)) ∧ Below w.heap.size w w' := by
  rcases kinds k with rfl | rfl | rfl | rfl | rfl | rfl | h
  · rw [isShaped_1]; go_enter Tryz.func19, Tryz.ntmps19
    go_wp2_with fail
    go_ret
    exact ⟨rfl, (Below.refl _ _).alloc (Nat.le_refl _) _⟩
  · rw [isShaped_2]; go_enter Tryz.func19, Tryz.ntmps19
    go_wp2_with fail
    go_ret
    exact ⟨rfl, (Below.refl _ _).alloc (Nat.le_refl _) _⟩
  · rw [isShaped_3]; go_enter Tryz.func19, Tryz.ntmps19
    go_wp2_with fail
    go_ret
    exact ⟨rfl, (Below.refl _ _).alloc (Nat.le_refl _) _⟩
  · rw [isShaped_4]; go_enter Tryz.func19, Tryz.ntmps19
    go_wp2_with fail
    go_ret
    exact ⟨rfl, (Below.refl _ _).alloc (Nat.le_refl _) _⟩
  · rw [isShaped_5]; go_enter Tryz.func19, Tryz.ntmps19
    go_wp2_with fail
    go_ret
    exact ⟨rfl, (Below.refl _ _).alloc (Nat.le_refl _) _⟩
  · rw [isShaped_6]; go_enter Tryz.func19, Tryz.ntmps19
    go_wp2_with fail
    go_ret
    exact ⟨rfl, (Below.refl _ _).alloc (Nat.le_refl _) _⟩
  · rw [isShaped_7 h]; obtain ⟨h1, h2, h3, h4, h5, h6⟩ := h; go_enter Tryz.func19, Tryz.ntmps19
    go_wp2_with fail
    go_ret
    exact ⟨rfl, (Below.refl _ _).alloc (Nat.le_refl _) _⟩

set_option maxHeartbeats 4000000 in
theorem isActual_any (k : ByteArray) (n : Int) (w : World) :
    Calls Tryz.prog 71 #[.agg #[.string k, .int .i64 n]] w fun e w' => e = .returned (.bool (isActual k n)) ∧ Below w.heap.size w w' := by
  have c0 : ∀ w1, Below (w.alloc (.cells #[.string k, .int .i64 n] 35)).heap.size (w.alloc (.cells #[.string k, .int .i64 n] 35)) w1 → w1.cell? ⟨w.heap.size, 0, none⟩ = some (.string k) := fun w1 hb => (hb.cell (by simp)).trans (cells_new' w #[.string k, .int .i64 n] 35 0 _ rfl rfl)
  have c1 : ∀ w1, Below (w.alloc (.cells #[.string k, .int .i64 n] 35)).heap.size (w.alloc (.cells #[.string k, .int .i64 n] 35)) w1 → w1.cell? ⟨w.heap.size, 1, none⟩ = some (.int .i64 n) := fun w1 hb => (hb.cell (by simp)).trans (cells_new' w #[.string k, .int .i64 n] 35 1 _ rfl rfl)
  have HT := fun u => hide' (isType_any k n u)
  unfold isActual
  cases ht : isType k n <;> rw [ht] at HT
  · clear ht
    go_enter Tryz.func71, Tryz.ntmps71
    go_wp2_with fail
    refine (HT _).out.mono ?_
    rintro e w1 ⟨rfl, hb⟩
    have hbw : Below w.heap.size w w1 := Below.trans ((Below.refl _ _).alloc (Nat.le_refl _) _) (hb.mono (by simp))
    have d0 := c0 _ hb
    have d1 := c1 _ hb
    clear hb c0 c1
    go_wp2_with fail
    go_ret
    exact ⟨rfl, hbw⟩
  · clear ht
    cases hk : (k.toList == [110, 111, 110, 101])
    all_goals
      go_enter Tryz.func71, Tryz.ntmps71
      go_wp2_with fail
      refine (HT _).out.mono ?_
      rintro e w1 ⟨rfl, hb⟩
      have hbw : Below w.heap.size w w1 := Below.trans ((Below.refl _ _).alloc (Nat.le_refl _) _) (hb.mono (by simp))
      have d0 := c0 _ hb
      have d1 := c1 _ hb
      clear hb c0 c1
      go_wp2_with fail
      go_ret
      exact ⟨rfl, hbw⟩

set_option maxHeartbeats 4000000 in
theorem IsFormal_any (k : ByteArray) (n : Int) (w : World) :
    Calls Tryz.prog 36 #[.agg #[.string k, .int .i64 n]] w fun e w' => e = .returned (.bool (isFormal k n)) ∧ Below w.heap.size w w' := by
  have c0 : ∀ w1, Below (w.alloc (.cells #[.string k, .int .i64 n] 35)).heap.size (w.alloc (.cells #[.string k, .int .i64 n] 35)) w1 → w1.cell? ⟨w.heap.size, 0, none⟩ = some (.string k) := fun w1 hb => (hb.cell (by simp)).trans (cells_new' w #[.string k, .int .i64 n] 35 0 _ rfl rfl)
  have c1 : ∀ w1, Below (w.alloc (.cells #[.string k, .int .i64 n] 35)).heap.size (w.alloc (.cells #[.string k, .int .i64 n] 35)) w1 → w1.cell? ⟨w.heap.size, 1, none⟩ = some (.int .i64 n) := fun w1 hb => (hb.cell (by simp)).trans (cells_new' w #[.string k, .int .i64 n] 35 1 _ rfl rfl)
  have HT := fun u => hide' (isType_any k n u)
  rcases kinds k with rfl | rfl | rfl | rfl | rfl | rfl | h
  · rw [isFormal_1]
    go_enter Tryz.func36, Tryz.ntmps36
    go_wp2_with fail
    refine (HT _).out.mono ?_
    rintro e w1 ⟨rfl, hb⟩
    have hbw : Below w.heap.size w w1 := Below.trans ((Below.refl _ _).alloc (Nat.le_refl _) _) (hb.mono (by simp))
    have d0 := c0 _ hb
    have d1 := c1 _ hb
    clear hb c0 c1
    go_wp2_with fail
    go_ret
    exact ⟨rfl, hbw⟩
  · rw [isFormal_2]
    go_enter Tryz.func36, Tryz.ntmps36
    go_wp2_with fail
    refine (HT _).out.mono ?_
    rintro e w1 ⟨rfl, hb⟩
    have hbw : Below w.heap.size w w1 := Below.trans ((Below.refl _ _).alloc (Nat.le_refl _) _) (hb.mono (by simp))
    have d0 := c0 _ hb
    have d1 := c1 _ hb
    clear hb c0 c1
    go_wp2_with fail
    go_ret
    exact ⟨rfl, hbw⟩
  · rw [isFormal_3]
    go_enter Tryz.func36, Tryz.ntmps36
    go_wp2_with fail
    go_ret
    exact ⟨rfl, (Below.refl _ _).alloc (Nat.le_refl _) _⟩
  · rw [isFormal_4]
    cases hn : (n == 0)
    · rw [Bool.or_false]
      go_enter Tryz.func36, Tryz.ntmps36
      go_wp2_with fail
      refine (HT _).out.mono ?_
      rintro e w1 ⟨rfl, hb⟩
      have hbw : Below w.heap.size w w1 := Below.trans ((Below.refl _ _).alloc (Nat.le_refl _) _) (hb.mono (by simp))
      have d0 := c0 _ hb
      have d1 := c1 _ hb
      clear hb c0 c1
      go_wp2_with fail
      go_ret
      exact ⟨rfl, hbw⟩
    · rw [Bool.or_true]
      go_enter Tryz.func36, Tryz.ntmps36
      go_wp2_with fail
      go_ret
      exact ⟨rfl, (Below.refl _ _).alloc (Nat.le_refl _) _⟩
  · rw [isFormal_5]
    cases hn : (n == 0)
    · rw [Bool.or_false]
      go_enter Tryz.func36, Tryz.ntmps36
      go_wp2_with fail
      refine (HT _).out.mono ?_
      rintro e w1 ⟨rfl, hb⟩
      have hbw : Below w.heap.size w w1 := Below.trans ((Below.refl _ _).alloc (Nat.le_refl _) _) (hb.mono (by simp))
      have d0 := c0 _ hb
      have d1 := c1 _ hb
      clear hb c0 c1
      go_wp2_with fail
      go_ret
      exact ⟨rfl, hbw⟩
    · rw [Bool.or_true]
      go_enter Tryz.func36, Tryz.ntmps36
      go_wp2_with fail
      go_ret
      exact ⟨rfl, (Below.refl _ _).alloc (Nat.le_refl _) _⟩
  · rw [isFormal_6]
    cases hn : (n == 0)
    all_goals
      go_enter Tryz.func36, Tryz.ntmps36
      go_wp2_with fail
      go_ret
      exact ⟨rfl, (Below.refl _ _).alloc (Nat.le_refl _) _⟩
  · rw [isFormal_7 n h]; obtain ⟨h1, h2, h3, h4, h5, h6⟩ := h
    go_enter Tryz.func36, Tryz.ntmps36
    go_wp2_with fail
    refine (HT _).out.mono ?_
    rintro e w1 ⟨rfl, hb⟩
    have hbw : Below w.heap.size w w1 := Below.trans ((Below.refl _ _).alloc (Nat.le_refl _) _) (hb.mono (by simp))
    have d0 := c0 _ hb
    have d1 := c1 _ hb
    clear hb c0 c1
    go_wp2_with fail
    go_ret
    exact ⟨rfl, hbw⟩

end Go.Proofs.YtdmdfokkibijjaaGreatDoor
