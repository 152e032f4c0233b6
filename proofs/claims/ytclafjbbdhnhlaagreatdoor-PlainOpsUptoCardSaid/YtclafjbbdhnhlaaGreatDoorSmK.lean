/-
  The document's operation on values.
-/
import Derived.Test.YtclafjbbdhnhlaaGreatDoorSmJ
namespace Go.Proofs.YtclafjbbdhnhlaaGreatDoor
open Go.RowKit
set_option linter.unusedVariables false
set_option linter.unusedSimpArgs false

namespace Sm
/-- a list of values: only their ints are looked at -/
def VSl (w : World) (v : Value) (l : List Int) : Prop :=
  ∃ A cap, v = .slice A l.length cap ∧ l.length ≤ cap ∧ cap ≤ maxLen ∧ (0 < l.length → ∃ b off, A = some ⟨b, off, none⟩ ∧ ∀ i (h : i < l.length), w.cell? ⟨b, off + i * 2, none⟩ = some (.int .i64 l[i]))
theorem VSl.under {w w' : World} {v : Value} {l : List Int} (h : VSl w v l) (hb : Below w.heap.size w w') : VSl w' v l := by
  obtain ⟨A, cap, h1, h2, h3, h4⟩ := h
  refine ⟨A, cap, h1, h2, h3, fun hp => ?_⟩
  obtain ⟨b, off, h5, h6⟩ := h4 hp
  exact ⟨b, off, h5, fun i hi => (hb.cell (cell_lt (h6 i hi))).trans (h6 i hi)⟩
/-- the number and the kind of the result; whether there is one; whether there is the operation -/
def ref2 : Nm → Int → Int → (Int × Bool) × Bool × Bool
  | .add, a, b => ((wrap64 (a + b), false), true, true)
  | .sub, a, b => ((wrap64 (a - b), false), true, true)
  | .mul, a, b => ((wrap64 (a * b), false), true, true)
  | .quo, a, b => if b = 0 then ((0, false), false, true) else ((wrap64 (a.tdiv b), false), true, true)
  | .rem, a, b => if b = 0 then ((0, false), false, true) else ((a.tmod b, false), true, true)
  | .mn, a, b => ((if a ≤ b then a else b, false), true, true)
  | .mx, a, b => ((if b ≤ a then a else b, false), true, true)
  | .lt, a, b => ((tr (decide (a < b)), true), true, true)
  | .le, a, b => ((tr (decide (a ≤ b)), true), true, true)
  | .eq, a, b => ((tr (a == b), true), true, true)
  | .and, a, b => ((tr (a == 1 && b == 1), true), true, true)
  | .or, a, b => ((tr (a == 1 || b == 1), true), true, true)
  | _, _, _ => ((0, false), false, false)
def ref1 : Nm → Int → (Int × Bool) × Bool × Bool
  | .not, a => ((tr (a == 0), true), true, true)
  | .int, a => ((a, false), true, true)
  | _, _ => ((0, false), false, false)
theorem pair_drew (w : World) (x y : Value) (T : TypeId) : (w.alloc (.cells #[x, y] T)).drew.cell? ⟨w.heap.size, 0, none⟩ = some x ∧ (w.alloc (.cells #[x, y] T)).drew.cell? ⟨w.heap.size, 1, none⟩ = some y := cells_pair w x y T
theorem fin2 {w w1 : World} {T : TypeId} {a b : Value} (x y : Value) (hb1 : Below (w.alloc (.cells #[a, b] T)).heap.size (w.alloc (.cells #[a, b] T)) w1) :
    ((w1.setCell ⟨w.heap.size, 0, none⟩ x).setCell ⟨w.heap.size, 1, none⟩ y).cell? ⟨w.heap.size, 0, none⟩ = some x ∧ ((w1.setCell ⟨w.heap.size, 0, none⟩ x).setCell ⟨w.heap.size, 1, none⟩ y).cell? ⟨w.heap.size, 1, none⟩ = some y ∧
      Below w.heap.size w ((w1.setCell ⟨w.heap.size, 0, none⟩ x).setCell ⟨w.heap.size, 1, none⟩ y) := by
  obtain ⟨r0, r1⟩ := cells_pair w a b T
  have e0 := (hb1.cell (by simp)).trans r0
  have e1 := (hb1.cell (by simp)).trans r1
  have n1 : (⟨w.heap.size, 1, none⟩ : Addr) ≠ ⟨w.heap.size, 0, none⟩ := by simp
  have n0 : (⟨w.heap.size, 0, none⟩ : Addr) ≠ ⟨w.heap.size, 1, none⟩ := by simp
  refine ⟨(World.cell?_setCell_other _ _ _ _ n1).trans (World.cell?_setCell_same _ _ _ e0), World.cell?_setCell_same _ _ _ ((World.cell?_setCell_other _ _ _ _ n0).trans e1), ?_⟩
  have hb : Below w.heap.size w w1 := ((Below.refl _ w).alloc (Nat.le_refl _) _).trans (hb1.mono (by simp))
  exact (hb.setCell (Nat.le_refl _) x).setCell (Nat.le_refl _) y
def resV (x : (Int × Bool) × Bool × Bool) : Value := .tuple #[.agg #[.int .i64 x.1.1, .bool x.1.2], .bool x.2.1, .bool x.2.2]

set_option maxHeartbeats 4000000 in
set_option maxRecDepth 100000 in
theorem rop0_at (k : Nm) (s : ByteArray) (h : Is k s) (l : List Int) (h1 : l.length ≠ 1) (h2 : l.length ≠ 2) (v : Value) (w : World) (hv : VSl w v l) :
    Calls Tryz.prog 23 #[.string s, v] w fun e w' => e = .returned (resV ((0, false), false, false)) ∧ Below w.heap.size w w' := by
  obtain ⟨A, cap, rfl, hca, hma, hA⟩ := hv
  have hmax : maxLen = 9223372036854775807 := rfl
  rw [hmax] at hma
  have h1' : ((l.length : Int) == 1) = false := by simp; omega
  have h2' : ((l.length : Int) != 2) = true := by simp; omega
  have r := cells_pair w (.int .i64 0) (.bool false) 52
  clear hA hmax h1 h2
  go_enter Tryz.func23, Tryz.ntmps23
  go_wp2_with fail
  exact bodyPost_ret (by simp [results, Tryz.results23, go_sem, r.1, r.2, resV]) rfl ⟨rfl, (Below.refl _ _).alloc (Nat.le_refl _) _⟩

set_option maxHeartbeats 4000000 in
set_option maxRecDepth 100000 in
theorem rop1_at (k : Nm) (s : ByteArray) (h : Is k s) (a : Int) (v : Value) (w : World) (hv : VSl w v [a]) :
    Calls Tryz.prog 23 #[.string s, v] w fun e w' => e = .returned (resV (ref1 k a)) ∧ Below w.heap.size w w' := by
  have HT := fun (x : Bool) (w1 : World) => hide' (rtruth_at x w1)
  obtain ⟨A, cap, rfl, hca, hma, hA⟩ := hv
  obtain ⟨g, off, rfl, hC⟩ := hA (by simp)
  have c0 := hC 0 (by simp)
  simp only [List.length_cons, List.length_nil, Nat.zero_add, List.getElem_cons_zero, Nat.zero_mul, Nat.add_zero] at *
  have hmax : maxLen = 9223372036854775807 := rfl
  rw [hmax] at hma
  have d0 : ∀ o, (w.alloc o).cell? ⟨g, off, none⟩ = some (.int .i64 a) := fun o => (World.cell?_alloc_lt _ _ _ (cell_lt c0)).trans c0
  have r := cells_pair w (.int .i64 (ref1 k a).1.1) (.bool (ref1 k a).1.2) 52
  clear hA hC hmax
  go_enter Tryz.func23, Tryz.ntmps23
  cases k
  case other =>
    obtain ⟨a1, a2, a3, a4, a5, a6, a7, a8, a9, b1, b2, b3, b4, b5⟩ := h
    simp only [ref1] at r
    go_wp2_with fail
    exact bodyPost_ret (by simp [results, Tryz.results23, go_sem, r.1, r.2, resV, ref1]) rfl ⟨rfl, (Below.refl _ _).alloc (Nat.le_refl _) _⟩
  case not =>
    simp only [Is, bytes] at h
    subst h
    go_wp2_with fail
    refine (HT _ _).out.mono ?_
    rintro e w1 ⟨rfl, hb1⟩
    obtain ⟨r0, r1⟩ := cells_pair w (.int .i64 0) (.bool false) 52
    have e0 := (hb1.cell (by simp)).trans r0
    have e1 := (hb1.cell (by simp)).trans r1
    have f0 := hb1.frozen (p := ⟨w.heap.size, 0, none⟩) (by simp)
    have f1 := hb1.frozen (p := ⟨w.heap.size, 1, none⟩) (by simp)
    clear HT r
    go_wp2_with fail
    obtain ⟨g0, g1, g2⟩ := fin2 (.int .i64 (tr (a == 0))) (.bool true) hb1
    exact bodyPost_ret (by simp [results, Tryz.results23, go_sem, g0, g1, resV, ref1]) rfl ⟨rfl, g2⟩
  all_goals
    simp only [Is, bytes] at h
    subst h
    simp only [ref1] at r
    go_wp2_with fail
    exact bodyPost_ret (by simp [results, Tryz.results23, go_sem, r.1, r.2, resV, ref1]) rfl ⟨rfl, (Below.refl _ _).alloc (Nat.le_refl _) _⟩

set_option maxHeartbeats 16000000 in
set_option maxRecDepth 100000 in
theorem rop2_at (k : Nm) (s : ByteArray) (h : Is k s) (a b : Int) (v : Value) (w : World) (hv : VSl w v [a, b]) :
    Calls Tryz.prog 23 #[.string s, v] w fun e w' => e = .returned (resV (ref2 k a b)) ∧ Below w.heap.size w w' := by
  have HT := fun (x : Bool) (w1 : World) => hide' (rtruth_at x w1)
  obtain ⟨A, cap, rfl, hca, hma, hA⟩ := hv
  obtain ⟨g, off, rfl, hC⟩ := hA (by simp)
  have c0 := hC 0 (by simp)
  have c1 := hC 1 (by simp)
  simp only [List.length_cons, List.length_nil, Nat.zero_add, List.getElem_cons_zero, List.getElem_cons_succ, Nat.zero_mul, Nat.one_mul, Nat.add_zero] at *
  have hmax : maxLen = 9223372036854775807 := rfl
  rw [hmax] at hma
  have d0 : ∀ o, (w.alloc o).cell? ⟨g, off, none⟩ = some (.int .i64 a) := fun o => (World.cell?_alloc_lt _ _ _ (cell_lt c0)).trans c0
  have d1 : ∀ o, (w.alloc o).cell? ⟨g, off + 2, none⟩ = some (.int .i64 b) := fun o => (World.cell?_alloc_lt _ _ _ (cell_lt c1)).trans c1
  clear hA hC hmax
  go_enter Tryz.func23, Tryz.ntmps23
  go_wp2_with fail
  go_region
  obtain ⟨r0, r1⟩ := cells_pair w (.int .i64 0) (.bool false) 52
  have r := pair_drew w (.int .i64 (ref2 k a b).1.1) (.bool (ref2 k a b).1.2) 52
  have rm := pair_drew w (.int .i64 (if a ≤ b then a else b)) (.bool false) 52
  have hd : ∀ o, Below w.heap.size w (w.alloc o).drew := fun o => ((Below.refl _ _).alloc (Nat.le_refl _) o).drew
  cases k
  case other =>
    obtain ⟨a1, a2, a3, a4, a5, a6, a7, a8, a9, b1, b2, b3, b4, b5⟩ := h
    simp only [ref2] at r
    go_wp2_with fail
    exact bodyPost_ret (by simp [results, Tryz.results23, go_sem, r.1, r.2, resV, ref2]) rfl ⟨rfl, hd _⟩
  case lt =>
    simp only [Is, bytes] at h
    subst h
    go_wp2_with fail
    all_goals
      refine (HT _ _).out.mono ?_
      rintro e w1 ⟨rfl, hb1⟩
      have hb2 : Below (w.alloc (.cells #[.int .i64 0, .bool false] 52)).heap.size (w.alloc (.cells #[.int .i64 0, .bool false] 52)) w1 := (Below.refl _ _).drew.trans hb1
      have e0 := (hb2.cell (by simp)).trans r0
      have e1 := (hb2.cell (by simp)).trans r1
      have f0 := hb2.frozen (p := ⟨w.heap.size, 0, none⟩) (by simp)
      have f1 := hb2.frozen (p := ⟨w.heap.size, 1, none⟩) (by simp)
      clear HT r rm
      go_wp2_with fail
      have G0 := fun x => (fin2 (.int .i64 x) (.bool true) hb2).1
      have G1 := fun x => (fin2 (.int .i64 x) (.bool true) hb2).2.1
      have G2 := fun x => (fin2 (.int .i64 x) (.bool true) hb2).2.2
      exact bodyPost_ret (by first | (simp_all [results, Tryz.results23, go_sem, G0, G1, resV, ref2]; done) | (simp_all [results, Tryz.results23, go_sem, G0, G1, resV, ref2]; omega) | (simp_all [results, Tryz.results23, go_sem, G0, G1, resV, ref2]; unfold tr; simp; omega) | (simp_all [results, Tryz.results23, go_sem, G0, G1, resV, ref2]; unfold tr; simp; intro q; exact absurd q (by assumption))) rfl ⟨rfl, G2 _⟩
  case le =>
    simp only [Is, bytes] at h
    subst h
    go_wp2_with fail
    all_goals
      refine (HT _ _).out.mono ?_
      rintro e w1 ⟨rfl, hb1⟩
      have hb2 : Below (w.alloc (.cells #[.int .i64 0, .bool false] 52)).heap.size (w.alloc (.cells #[.int .i64 0, .bool false] 52)) w1 := (Below.refl _ _).drew.trans hb1
      have e0 := (hb2.cell (by simp)).trans r0
      have e1 := (hb2.cell (by simp)).trans r1
      have f0 := hb2.frozen (p := ⟨w.heap.size, 0, none⟩) (by simp)
      have f1 := hb2.frozen (p := ⟨w.heap.size, 1, none⟩) (by simp)
      clear HT r rm
      go_wp2_with fail
      have G0 := fun x => (fin2 (.int .i64 x) (.bool true) hb2).1
      have G1 := fun x => (fin2 (.int .i64 x) (.bool true) hb2).2.1
      have G2 := fun x => (fin2 (.int .i64 x) (.bool true) hb2).2.2
      exact bodyPost_ret (by first | (simp_all [results, Tryz.results23, go_sem, G0, G1, resV, ref2]; done) | (simp_all [results, Tryz.results23, go_sem, G0, G1, resV, ref2]; omega) | (simp_all [results, Tryz.results23, go_sem, G0, G1, resV, ref2]; unfold tr; simp; omega) | (simp_all [results, Tryz.results23, go_sem, G0, G1, resV, ref2]; unfold tr; simp; intro q; exact absurd q (by assumption))) rfl ⟨rfl, G2 _⟩
  case eq =>
    simp only [Is, bytes] at h
    subst h
    go_wp2_with fail
    all_goals
      refine (HT _ _).out.mono ?_
      rintro e w1 ⟨rfl, hb1⟩
      have hb2 : Below (w.alloc (.cells #[.int .i64 0, .bool false] 52)).heap.size (w.alloc (.cells #[.int .i64 0, .bool false] 52)) w1 := (Below.refl _ _).drew.trans hb1
      have e0 := (hb2.cell (by simp)).trans r0
      have e1 := (hb2.cell (by simp)).trans r1
      have f0 := hb2.frozen (p := ⟨w.heap.size, 0, none⟩) (by simp)
      have f1 := hb2.frozen (p := ⟨w.heap.size, 1, none⟩) (by simp)
      clear HT r rm
      go_wp2_with fail
      have G0 := fun x => (fin2 (.int .i64 x) (.bool true) hb2).1
      have G1 := fun x => (fin2 (.int .i64 x) (.bool true) hb2).2.1
      have G2 := fun x => (fin2 (.int .i64 x) (.bool true) hb2).2.2
      exact bodyPost_ret (by first | (simp_all [results, Tryz.results23, go_sem, G0, G1, resV, ref2]; done) | (simp_all [results, Tryz.results23, go_sem, G0, G1, resV, ref2]; omega) | (simp_all [results, Tryz.results23, go_sem, G0, G1, resV, ref2]; unfold tr; simp; omega) | (simp_all [results, Tryz.results23, go_sem, G0, G1, resV, ref2]; unfold tr; simp; intro q; exact absurd q (by assumption))) rfl ⟨rfl, G2 _⟩
  case and =>
    simp only [Is, bytes] at h
    subst h
    go_wp2_with fail
    all_goals
      refine (HT _ _).out.mono ?_
      rintro e w1 ⟨rfl, hb1⟩
      have hb2 : Below (w.alloc (.cells #[.int .i64 0, .bool false] 52)).heap.size (w.alloc (.cells #[.int .i64 0, .bool false] 52)) w1 := (Below.refl _ _).drew.trans hb1
      have e0 := (hb2.cell (by simp)).trans r0
      have e1 := (hb2.cell (by simp)).trans r1
      have f0 := hb2.frozen (p := ⟨w.heap.size, 0, none⟩) (by simp)
      have f1 := hb2.frozen (p := ⟨w.heap.size, 1, none⟩) (by simp)
      clear HT r rm
      go_wp2_with fail
      have G0 := fun x => (fin2 (.int .i64 x) (.bool true) hb2).1
      have G1 := fun x => (fin2 (.int .i64 x) (.bool true) hb2).2.1
      have G2 := fun x => (fin2 (.int .i64 x) (.bool true) hb2).2.2
      exact bodyPost_ret (by first | (simp_all [results, Tryz.results23, go_sem, G0, G1, resV, ref2]; done) | (simp_all [results, Tryz.results23, go_sem, G0, G1, resV, ref2]; omega) | (simp_all [results, Tryz.results23, go_sem, G0, G1, resV, ref2]; unfold tr; simp; omega) | (simp_all [results, Tryz.results23, go_sem, G0, G1, resV, ref2]; unfold tr; simp; intro q; exact absurd q (by assumption))) rfl ⟨rfl, G2 _⟩
  case or =>
    simp only [Is, bytes] at h
    subst h
    go_wp2_with fail
    all_goals
      refine (HT _ _).out.mono ?_
      rintro e w1 ⟨rfl, hb1⟩
      have hb2 : Below (w.alloc (.cells #[.int .i64 0, .bool false] 52)).heap.size (w.alloc (.cells #[.int .i64 0, .bool false] 52)) w1 := (Below.refl _ _).drew.trans hb1
      have e0 := (hb2.cell (by simp)).trans r0
      have e1 := (hb2.cell (by simp)).trans r1
      have f0 := hb2.frozen (p := ⟨w.heap.size, 0, none⟩) (by simp)
      have f1 := hb2.frozen (p := ⟨w.heap.size, 1, none⟩) (by simp)
      clear HT r rm
      go_wp2_with fail
      have G0 := fun x => (fin2 (.int .i64 x) (.bool true) hb2).1
      have G1 := fun x => (fin2 (.int .i64 x) (.bool true) hb2).2.1
      have G2 := fun x => (fin2 (.int .i64 x) (.bool true) hb2).2.2
      exact bodyPost_ret (by first | (simp_all [results, Tryz.results23, go_sem, G0, G1, resV, ref2]; done) | (simp_all [results, Tryz.results23, go_sem, G0, G1, resV, ref2]; omega) | (simp_all [results, Tryz.results23, go_sem, G0, G1, resV, ref2]; unfold tr; simp; omega) | (simp_all [results, Tryz.results23, go_sem, G0, G1, resV, ref2]; unfold tr; simp; intro q; exact absurd q (by assumption))) rfl ⟨rfl, G2 _⟩
  case quo =>
    simp only [Is, bytes] at h
    subst h
    by_cases hz : b = 0
    all_goals
      simp only [ref2, hz, if_true, if_false] at r
      go_wp2_with fail
      exact bodyPost_ret (by simp [results, Tryz.results23, go_sem, r.1, r.2, resV, ref2, hz]) rfl ⟨rfl, hd _⟩
  case rem =>
    simp only [Is, bytes] at h
    subst h
    by_cases hz : b = 0
    all_goals
      simp only [ref2, hz, if_true, if_false] at r
      go_wp2_with fail
      exact bodyPost_ret (by simp [results, Tryz.results23, go_sem, r.1, r.2, resV, ref2, hz]) rfl ⟨rfl, hd _⟩
  case mn =>
    simp only [Is, bytes] at h
    subst h
    have ra := pair_drew w (.int .i64 a) (.bool false) 52
    have rb := pair_drew w (.int .i64 b) (.bool false) 52
    clear HT r rm
    go_wp2_with fail
    all_goals exact bodyPost_ret (by first | (simp_all [results, Tryz.results23, go_sem, ra.1, ra.2, rb.1, rb.2, resV, ref2]; done) | (simp_all [results, Tryz.results23, go_sem, ra.1, ra.2, rb.1, rb.2, resV, ref2]; omega) | (simp_all [results, Tryz.results23, go_sem, ra.1, ra.2, rb.1, rb.2, resV, ref2]; unfold tr; simp; omega) | (simp_all [results, Tryz.results23, go_sem, ra.1, ra.2, rb.1, rb.2, resV, ref2]; unfold tr; simp; intro q; exact absurd q (by assumption))) rfl ⟨rfl, hd _⟩
  case mx =>
    simp only [Is, bytes] at h
    subst h
    have ra := pair_drew w (.int .i64 a) (.bool false) 52
    have rb := pair_drew w (.int .i64 b) (.bool false) 52
    clear HT r rm
    go_wp2_with fail
    all_goals exact bodyPost_ret (by first | (simp_all [results, Tryz.results23, go_sem, ra.1, ra.2, rb.1, rb.2, resV, ref2]; done) | (simp_all [results, Tryz.results23, go_sem, ra.1, ra.2, rb.1, rb.2, resV, ref2]; omega) | (simp_all [results, Tryz.results23, go_sem, ra.1, ra.2, rb.1, rb.2, resV, ref2]; unfold tr; simp; omega) | (simp_all [results, Tryz.results23, go_sem, ra.1, ra.2, rb.1, rb.2, resV, ref2]; unfold tr; simp; intro q; exact absurd q (by assumption))) rfl ⟨rfl, hd _⟩
  all_goals
    simp only [Is, bytes] at h
    subst h
    simp only [ref2] at r
    go_wp2_with fail
    exact bodyPost_ret (by simp [results, Tryz.results23, go_sem, r.1, r.2, resV, ref2]) rfl ⟨rfl, hd _⟩
end Sm
end Go.Proofs.YtclafjbbdhnhlaaGreatDoor
