/-
  The walks of Fits of layer 9, of the program and of the document's answer.
-/
import Derived.Test.YtdmdfokkibijjaaDoorSW9
import Derived.OwnWalk
namespace Go.Proofs.YtdmdfokkibijjaaDoor
open Go.RowKit
open Sgn
set_option linter.unusedVariables false
set_option linter.unusedSimpArgs false

/-- what Fits hands back -/
def FitE (k : ByteArray) (n : Int) (k' : ByteArray) (n' : Int) (z : Int) (e : Ending) : Prop :=
  ((isFormal k n && isActual k' n') = false ∧ e = .returned (.tuple #[.int .i64 0, .bool false, .int .i64 2])) ∨
  ((isFormal k n && isActual k' n') = true ∧ e = .returned (.tuple #[.int .i64 (if z < 0 then 0 else z), .bool (decide (0 ≤ z)), .int .i64 0]))
theorem fitE_no {k k' : ByteArray} {n n' z : Int} (h : (isFormal k n && isActual k' n') = false) : FitE k n k' n' z (.returned (.tuple #[.int .i64 0, .bool false, .int .i64 2])) := .inl ⟨h, rfl⟩
theorem fitE_neg {k k' : ByteArray} {n n' z : Int} (h : (isFormal k n && isActual k' n') = true) (hz : z < 0) : FitE k n k' n' z (.returned (.tuple #[.int .i64 0, .bool false, .int .i64 0])) := .inr ⟨h, by rw [if_pos hz, decide_eq_false (by omega)]⟩
theorem fitE_pos {k k' : ByteArray} {n n' z : Int} (h : (isFormal k n && isActual k' n') = true) (hz : ¬ z < 0) : FitE k n k' n' z (.returned (.tuple #[.int .i64 z, .bool true, .int .i64 0])) := .inr ⟨h, by rw [if_neg hz, decide_eq_true (by omega)]⟩

set_option maxHeartbeats 4000000 in
set_option maxRecDepth 100000 in
theorem Fits_any (k k' : ByteArray) (n n' : Int) (w : World) :
    Calls Tryd.prog 23 #[.agg #[.string k, .int .i64 n], .agg #[.string k', .int .i64 n']] w fun e w' => FitE k n k' n' (fitsOf k.toList n k'.toList n') e ∧ Below w.heap.size w w' := by
  have c0 : ∀ w1, Below ((w.alloc (.cells #[.string k, .int .i64 n] 43)).alloc (.cells #[.string k', .int .i64 n'] 43)).heap.size ((w.alloc (.cells #[.string k, .int .i64 n] 43)).alloc (.cells #[.string k', .int .i64 n'] 43)) w1 → w1.cell? ⟨w.heap.size, 0, none⟩ = some (.string k) := fun w1 hb => (hb.cell (by simp; omega)).trans ((World.cell?_alloc_lt _ _ _ (show w.heap.size < (w.alloc (.cells #[.string k, .int .i64 n] 43)).heap.size by simp)).trans (cells_new' w #[.string k, .int .i64 n] 43 0 _ rfl rfl))
  have c1 : ∀ w1, Below ((w.alloc (.cells #[.string k, .int .i64 n] 43)).alloc (.cells #[.string k', .int .i64 n'] 43)).heap.size ((w.alloc (.cells #[.string k, .int .i64 n] 43)).alloc (.cells #[.string k', .int .i64 n'] 43)) w1 → w1.cell? ⟨w.heap.size, 1, none⟩ = some (.int .i64 n) := fun w1 hb => (hb.cell (by simp; omega)).trans ((World.cell?_alloc_lt _ _ _ (show w.heap.size < (w.alloc (.cells #[.string k, .int .i64 n] 43)).heap.size by simp)).trans (cells_new' w #[.string k, .int .i64 n] 43 1 _ rfl rfl))
  have e0 : ∀ w1, Below ((w.alloc (.cells #[.string k, .int .i64 n] 43)).alloc (.cells #[.string k', .int .i64 n'] 43)).heap.size ((w.alloc (.cells #[.string k, .int .i64 n] 43)).alloc (.cells #[.string k', .int .i64 n'] 43)) w1 → w1.cell? ⟨w.heap.size + 1, 0, none⟩ = some (.string k') := fun w1 hb => (hb.cell (by simp)).trans (cells_new' (w.alloc (.cells #[.string k, .int .i64 n] 43)) #[.string k', .int .i64 n'] 43 0 _ rfl (by simp))
  have e1 : ∀ w1, Below ((w.alloc (.cells #[.string k, .int .i64 n] 43)).alloc (.cells #[.string k', .int .i64 n'] 43)).heap.size ((w.alloc (.cells #[.string k, .int .i64 n] 43)).alloc (.cells #[.string k', .int .i64 n'] 43)) w1 → w1.cell? ⟨w.heap.size + 1, 1, none⟩ = some (.int .i64 n') := fun w1 hb => (hb.cell (by simp)).trans (cells_new' (w.alloc (.cells #[.string k, .int .i64 n] 43)) #[.string k', .int .i64 n'] 43 1 _ rfl (by simp))
  have HF := fun u => hide' (IsFormal_any k n u)
  have HA := fun u => hide' (isActual_any k' n' u)
  have HW := fun u => hide' (fits_any k k' n n' u)
  unfold FitsEnd at HW
  obtain ⟨z, hz⟩ : ∃ z, fitsOf k.toList n k'.toList n' = z := ⟨_, rfl⟩
  rw [hz] at HW ⊢
  clear hz
  cases hF : isFormal k n <;> rw [hF] at HF
  · have HN := hide' (fitE_no (k := k) (n := n) (k' := k') (n' := n') (z := z) (by rw [hF, Bool.false_and]))
    clear hF
    go_enter Tryd.func23, Tryd.ntmps23
    go_wp2_with fail
    refine (HF _).out.mono ?_
    rintro e w1 ⟨rfl, g1⟩
    have hb1 := g1
    have p1 := c0 _ hb1
    have q1 := c1 _ hb1
    have r1 := e0 _ hb1
    have s1 := e1 _ hb1
    clear g1
    go_wp2_with fail
    go_ret3
    exact ⟨HN.out, box2_below hb1⟩
  · cases hA : isActual k' n' <;> rw [hA] at HA
    · have HN := hide' (fitE_no (k := k) (n := n) (k' := k') (n' := n') (z := z) (by rw [hA, Bool.and_false]))
      clear hF hA
      go_enter Tryd.func23, Tryd.ntmps23
      go_wp2_with fail
      refine (HF _).out.mono ?_
      rintro e w1 ⟨rfl, g1⟩
      have hb1 := g1
      have p1 := c0 _ hb1
      have q1 := c1 _ hb1
      have r1 := e0 _ hb1
      have s1 := e1 _ hb1
      clear g1
      go_wp2_with fail
      refine (HA _).out.mono ?_
      rintro e w2 ⟨rfl, g2⟩
      have hb2 := hb1.trans (g2.mono hb1.size)
      have p2 := c0 _ hb2
      have q2 := c1 _ hb2
      have r2 := e0 _ hb2
      have s2 := e1 _ hb2
      clear g2
      go_wp2_with fail
      go_ret3
      exact ⟨HN.out, box2_below hb2⟩
    · have hT : (isFormal k n && isActual k' n') = true := by rw [hF, hA]; rfl
      clear hF hA
      by_cases hz0 : z < 0
      · have HN := hide' (fitE_neg hT hz0)
        clear hT
        rw [if_pos hz0, decide_eq_false (by omega)] at HW
        go_enter Tryd.func23, Tryd.ntmps23
        go_wp2_with fail
        refine (HF _).out.mono ?_
        rintro e w1 ⟨rfl, g1⟩
        have hb1 := g1
        have p1 := c0 _ hb1
        have q1 := c1 _ hb1
        have r1 := e0 _ hb1
        have s1 := e1 _ hb1
        clear g1
        go_wp2_with fail
        refine (HA _).out.mono ?_
        rintro e w2 ⟨rfl, g2⟩
        have hb2 := hb1.trans (g2.mono hb1.size)
        have p2 := c0 _ hb2
        have q2 := c1 _ hb2
        have r2 := e0 _ hb2
        have s2 := e1 _ hb2
        clear g2
        go_wp2_with fail
        refine (HW _).out.mono ?_
        rintro e w3 ⟨rfl, g3⟩
        have hb3 := hb2.trans (g3.mono hb2.size)
        have p3 := c0 _ hb3
        have q3 := c1 _ hb3
        have r3 := e0 _ hb3
        have s3 := e1 _ hb3
        clear g3
        go_wp2_with fail
        go_ret3
        exact ⟨HN.out, box2_below hb3⟩
      · have HN := hide' (fitE_pos hT hz0)
        clear hT
        rw [if_neg hz0, decide_eq_true (by omega)] at HW
        go_enter Tryd.func23, Tryd.ntmps23
        go_wp2_with fail
        refine (HF _).out.mono ?_
        rintro e w1 ⟨rfl, g1⟩
        have hb1 := g1
        have p1 := c0 _ hb1
        have q1 := c1 _ hb1
        have r1 := e0 _ hb1
        have s1 := e1 _ hb1
        clear g1
        go_wp2_with fail
        refine (HA _).out.mono ?_
        rintro e w2 ⟨rfl, g2⟩
        have hb2 := hb1.trans (g2.mono hb1.size)
        have p2 := c0 _ hb2
        have q2 := c1 _ hb2
        have r2 := e0 _ hb2
        have s2 := e1 _ hb2
        clear g2
        go_wp2_with fail
        refine (HW _).out.mono ?_
        rintro e w3 ⟨rfl, g3⟩
        have hb3 := hb2.trans (g3.mono hb2.size)
        have p3 := c0 _ hb3
        have q3 := c1 _ hb3
        have r3 := e0 _ hb3
        have s3 := e1 _ hb3
        clear g3
        go_wp2_with fail
        go_ret3
        exact ⟨HN.out, box2_below hb3⟩

set_option maxHeartbeats 4000000 in
set_option maxRecDepth 100000 in
theorem rFits_any (k k' : ByteArray) (n n' : Int) (w : World) :
    Calls Tryd.prog 24 #[.agg #[.string k, .int .i64 n], .agg #[.string k', .int .i64 n']] w fun e w' => FitE k n k' n' (wayOf k.toList n k'.toList n') e ∧ Below w.heap.size w w' := by
  have c0 : ∀ w1, Below ((w.alloc (.cells #[.string k, .int .i64 n] 43)).alloc (.cells #[.string k', .int .i64 n'] 43)).heap.size ((w.alloc (.cells #[.string k, .int .i64 n] 43)).alloc (.cells #[.string k', .int .i64 n'] 43)) w1 → w1.cell? ⟨w.heap.size, 0, none⟩ = some (.string k) := fun w1 hb => (hb.cell (by simp; omega)).trans ((World.cell?_alloc_lt _ _ _ (show w.heap.size < (w.alloc (.cells #[.string k, .int .i64 n] 43)).heap.size by simp)).trans (cells_new' w #[.string k, .int .i64 n] 43 0 _ rfl rfl))
  have c1 : ∀ w1, Below ((w.alloc (.cells #[.string k, .int .i64 n] 43)).alloc (.cells #[.string k', .int .i64 n'] 43)).heap.size ((w.alloc (.cells #[.string k, .int .i64 n] 43)).alloc (.cells #[.string k', .int .i64 n'] 43)) w1 → w1.cell? ⟨w.heap.size, 1, none⟩ = some (.int .i64 n) := fun w1 hb => (hb.cell (by simp; omega)).trans ((World.cell?_alloc_lt _ _ _ (show w.heap.size < (w.alloc (.cells #[.string k, .int .i64 n] 43)).heap.size by simp)).trans (cells_new' w #[.string k, .int .i64 n] 43 1 _ rfl rfl))
  have e0 : ∀ w1, Below ((w.alloc (.cells #[.string k, .int .i64 n] 43)).alloc (.cells #[.string k', .int .i64 n'] 43)).heap.size ((w.alloc (.cells #[.string k, .int .i64 n] 43)).alloc (.cells #[.string k', .int .i64 n'] 43)) w1 → w1.cell? ⟨w.heap.size + 1, 0, none⟩ = some (.string k') := fun w1 hb => (hb.cell (by simp)).trans (cells_new' (w.alloc (.cells #[.string k, .int .i64 n] 43)) #[.string k', .int .i64 n'] 43 0 _ rfl (by simp))
  have e1 : ∀ w1, Below ((w.alloc (.cells #[.string k, .int .i64 n] 43)).alloc (.cells #[.string k', .int .i64 n'] 43)).heap.size ((w.alloc (.cells #[.string k, .int .i64 n] 43)).alloc (.cells #[.string k', .int .i64 n'] 43)) w1 → w1.cell? ⟨w.heap.size + 1, 1, none⟩ = some (.int .i64 n') := fun w1 hb => (hb.cell (by simp)).trans (cells_new' (w.alloc (.cells #[.string k, .int .i64 n] 43)) #[.string k', .int .i64 n'] 43 1 _ rfl (by simp))
  have HF := fun u => hide' (rIsFormal_any k n u)
  have HA := fun u => hide' (rIsActual_any k' n' u)
  have HW := fun u => hide' (way_any k k' n n' u)
  unfold WayEnd at HW
  obtain ⟨z, hz⟩ : ∃ z, wayOf k.toList n k'.toList n' = z := ⟨_, rfl⟩
  rw [hz] at HW ⊢
  clear hz
  cases hF : isFormal k n <;> rw [hF] at HF
  · have HN := hide' (fitE_no (k := k) (n := n) (k' := k') (n' := n') (z := z) (by rw [hF, Bool.false_and]))
    clear hF
    go_enter Tryd.func24, Tryd.ntmps24
    go_wp2_with fail
    refine (HF _).out.mono ?_
    rintro e w1 ⟨rfl, g1⟩
    have hb1 := g1
    have p1 := c0 _ hb1
    have q1 := c1 _ hb1
    have r1 := e0 _ hb1
    have s1 := e1 _ hb1
    clear g1
    go_wp2_with fail
    go_ret3
    exact ⟨HN.out, box2_below hb1⟩
  · cases hA : isActual k' n' <;> rw [hA] at HA
    · have HN := hide' (fitE_no (k := k) (n := n) (k' := k') (n' := n') (z := z) (by rw [hA, Bool.and_false]))
      clear hF hA
      go_enter Tryd.func24, Tryd.ntmps24
      go_wp2_with fail
      refine (HF _).out.mono ?_
      rintro e w1 ⟨rfl, g1⟩
      have hb1 := g1
      have p1 := c0 _ hb1
      have q1 := c1 _ hb1
      have r1 := e0 _ hb1
      have s1 := e1 _ hb1
      clear g1
      go_wp2_with fail
      refine (HA _).out.mono ?_
      rintro e w2 ⟨rfl, g2⟩
      have hb2 := hb1.trans (g2.mono hb1.size)
      have p2 := c0 _ hb2
      have q2 := c1 _ hb2
      have r2 := e0 _ hb2
      have s2 := e1 _ hb2
      clear g2
      go_wp2_with fail
      go_ret3
      exact ⟨HN.out, box2_below hb2⟩
    · have hT : (isFormal k n && isActual k' n') = true := by rw [hF, hA]; rfl
      clear hF hA
      by_cases hz0 : z < 0
      · have HN := hide' (fitE_neg hT hz0)
        clear hT
        have hz1 : decide (0 ≤ z) = false := decide_eq_false (by omega)
        have hmx : max z 0 = 0 := by omega
        go_enter Tryd.func24, Tryd.ntmps24
        go_wp2_with fail
        refine (HF _).out.mono ?_
        rintro e w1 ⟨rfl, g1⟩
        have hb1 := g1
        have p1 := c0 _ hb1
        have q1 := c1 _ hb1
        have r1 := e0 _ hb1
        have s1 := e1 _ hb1
        clear g1
        go_wp2_with fail
        refine (HA _).out.mono ?_
        rintro e w2 ⟨rfl, g2⟩
        have hb2 := hb1.trans (g2.mono hb1.size)
        have p2 := c0 _ hb2
        have q2 := c1 _ hb2
        have r2 := e0 _ hb2
        have s2 := e1 _ hb2
        clear g2
        go_wp2_with fail
        refine (HW _).out.mono ?_
        rintro e w3 ⟨rfl, g3⟩
        have hb3 := hb2.trans (g3.mono hb2.size)
        have p3 := c0 _ hb3
        have q3 := c1 _ hb3
        have r3 := e0 _ hb3
        have s3 := e1 _ hb3
        clear g3
        go_wp2_with fail
        go_ret3
        exact ⟨HN.out, box2_below hb3⟩
      · have HN := hide' (fitE_pos hT hz0)
        clear hT
        have hz1 : decide (0 ≤ z) = true := decide_eq_true (by omega)
        have hmx : max z 0 = z := by omega
        go_enter Tryd.func24, Tryd.ntmps24
        go_wp2_with fail
        refine (HF _).out.mono ?_
        rintro e w1 ⟨rfl, g1⟩
        have hb1 := g1
        have p1 := c0 _ hb1
        have q1 := c1 _ hb1
        have r1 := e0 _ hb1
        have s1 := e1 _ hb1
        clear g1
        go_wp2_with fail
        refine (HA _).out.mono ?_
        rintro e w2 ⟨rfl, g2⟩
        have hb2 := hb1.trans (g2.mono hb1.size)
        have p2 := c0 _ hb2
        have q2 := c1 _ hb2
        have r2 := e0 _ hb2
        have s2 := e1 _ hb2
        clear g2
        go_wp2_with fail
        refine (HW _).out.mono ?_
        rintro e w3 ⟨rfl, g3⟩
        have hb3 := hb2.trans (g3.mono hb2.size)
        have p3 := c0 _ hb3
        have q3 := c1 _ hb3
        have r3 := e0 _ hb3
        have s3 := e1 _ hb3
        clear g3
        go_wp2_with fail
        go_ret3
        exact ⟨HN.out, box2_below hb3⟩

end Go.Proofs.YtdmdfokkibijjaaDoor
