/-
  Tellings in memory, and whether two are the same: the program's and the document's.
-/
import Derived.Test.YtclafjbbdhnhlaaGreatDoorSmA
namespace Go.Proofs.YtclafjbbdhnhlaaGreatDoor
open Go.RowKit
set_option linter.unusedVariables false
set_option linter.unusedSimpArgs false

namespace Sm
structure Te where
  out : List ByteArray
  en : ByteArray
  tx : ByteArray
  n : Int
def teV (A : Option Addr) (cap : Nat) (t : Te) : Array Value := #[.slice A t.out.length cap, .string t.en, .string t.tx, .int .i64 t.n]
def TV (w : World) (v : Value) (t : Te) : Prop := ∃ A cap, v = .agg (teV A cap t) ∧ SSl w (.slice A t.out.length cap) t.out
theorem TV.under {w w' : World} {v : Value} {t : Te} (h : TV w v t) (hb : Below w.heap.size w w') : TV w' v t := by
  obtain ⟨A, cap, h1, h2⟩ := h
  exact ⟨A, cap, h1, h2.under hb⟩
def same (a b : Te) : Bool := sameS a.out b.out && (a.en.toList == b.en.toList) && (a.tx.toList == b.tx.toList) && decide (a.n = b.n)

/-- both arguments in boxes -/
abbrev two (w : World) (x y : Array Value) : World := (w.alloc (.cells x 24)).alloc (.cells y 24)
theorem two_below {w w1 : World} {x y : Array Value} (hb : Below (two w x y).heap.size (two w x y) w1) : Below w.heap.size w w1 :=
  (((Below.refl _ w).alloc (Nat.le_refl _) _).alloc (by simp) _).trans (hb.mono (by simp; omega))
theorem two_cells {w w1 : World} {A B : Option Addr} {c d : Nat} {a b : Te} (hb : Below (two w (teV A c a) (teV B d b)).heap.size (two w (teV A c a) (teV B d b)) w1) :
    w1.cell? ⟨w.heap.size, 0, none⟩ = some (.slice A a.out.length c) ∧ w1.cell? ⟨w.heap.size, 1, none⟩ = some (.string a.en) ∧ w1.cell? ⟨w.heap.size, 2, none⟩ = some (.string a.tx) ∧ w1.cell? ⟨w.heap.size, 3, none⟩ = some (.int .i64 a.n) ∧
    w1.cell? ⟨w.heap.size + 1, 0, none⟩ = some (.slice B b.out.length d) ∧ w1.cell? ⟨w.heap.size + 1, 1, none⟩ = some (.string b.en) ∧ w1.cell? ⟨w.heap.size + 1, 2, none⟩ = some (.string b.tx) ∧ w1.cell? ⟨w.heap.size + 1, 3, none⟩ = some (.int .i64 b.n) := by
  have hb0 : Below (w.alloc (.cells (teV A c a) 24)).heap.size (w.alloc (.cells (teV A c a) 24)) w1 :=
    ((Below.refl _ _).alloc (Nat.le_refl _) _).trans (hb.mono (by simp))
  exact ⟨(hb0.cell (by simp)).trans (cells_new' w (teV A c a) 24 0 _ rfl rfl), (hb0.cell (by simp)).trans (cells_new' w (teV A c a) 24 1 _ rfl rfl),
    (hb0.cell (by simp)).trans (cells_new' w (teV A c a) 24 2 _ rfl rfl), (hb0.cell (by simp)).trans (cells_new' w (teV A c a) 24 3 _ rfl rfl),
    (hb.cell (by simp)).trans (cells_new' _ (teV B d b) 24 0 _ rfl (by simp)), (hb.cell (by simp)).trans (cells_new' _ (teV B d b) 24 1 _ rfl (by simp)),
    (hb.cell (by simp)).trans (cells_new' _ (teV B d b) 24 2 _ rfl (by simp)), (hb.cell (by simp)).trans (cells_new' _ (teV B d b) 24 3 _ rfl (by simp))⟩

set_option maxHeartbeats 4000000 in
set_option maxRecDepth 100000 in
theorem same_at (a b : Te) (va vb : Value) (w : World) (ha : TV w va a) (hb : TV w vb b) :
    Calls Tryz.prog 5 #[va, vb] w fun e w' => e = .returned (.bool (same a b)) ∧ Below w.heap.size w w' := by
  obtain ⟨A, cap, rfl, h1⟩ := ha
  obtain ⟨B, cap2, rfl, h2⟩ := hb
  have HE := fun w1 (hb : Below w.heap.size w w1) => hide' (equal_at a.out b.out _ _ w1 (h1.under hb) (h2.under hb))
  have CB : Hid (∀ w1, Below (two w (teV A cap a) (teV B cap2 b)).heap.size (two w (teV A cap a) (teV B cap2 b)) w1 → _) := fun w1 hb => two_cells hb
  have TB : Hid (∀ w1, Below (two w (teV A cap a) (teV B cap2 b)).heap.size (two w (teV A cap a) (teV B cap2 b)) w1 → Below w.heap.size w w1) := fun w1 hb => two_below hb
  obtain ⟨l, e1, t1, n1⟩ := a
  obtain ⟨m, e2, t2, n2⟩ := b
  unfold same
  unfold teV at CB TB ⊢
  simp only at HE CB TB ⊢
  obtain ⟨q0, hq0⟩ : ∃ q, sameS l m = q := ⟨_, rfl⟩
  rw [hq0] at HE ⊢
  clear h1 h2 hq0
  go_enter Tryz.func5, Tryz.ntmps5
  obtain ⟨c0, c1, c2, c3, c4, c5, c6, c7⟩ := CB.out _ (Below.refl _ _)
  go_wp2_with fail
  refine (HE _ (TB.out _ (Below.refl _ _))).out.mono ?_
  rintro e w1 ⟨rfl, hb1⟩
  clear c0 c1 c2 c3 c4 c5 c6 c7
  obtain ⟨c0, c1, c2, c3, c4, c5, c6, c7⟩ := CB.out _ hb1
  have hend := TB.out _ hb1
  clear CB TB HE hb1
  cases q0
  · go_wp2_with fail
    go_ret
    exact ⟨rfl, hend⟩
  · cases q1 : (e1.toList == e2.toList)
    · go_wp2_with fail
      go_ret
      exact ⟨by simp_all, hend⟩
    · cases q2 : (t1.toList == t2.toList)
      · go_wp2_with fail
        go_ret
        exact ⟨by simp_all, hend⟩
      · by_cases hn : n1 = n2
        · go_wp2_with fail
          go_ret
          exact ⟨by simp_all, hend⟩
        · go_wp2_with fail
          go_ret
          exact ⟨by simp_all, hend⟩
set_option maxHeartbeats 4000000 in
set_option maxRecDepth 100000 in
theorem rsame_at (a b : Te) (va vb : Value) (w : World) (ha : TV w va a) (hb : TV w vb b) :
    Calls Tryz.prog 6 #[va, vb] w fun e w' => e = .returned (.bool (same a b)) ∧ Below w.heap.size w w' := by
  obtain ⟨A, cap, rfl, h1⟩ := ha
  obtain ⟨B, cap2, rfl, h2⟩ := hb
  have HE := fun w1 (hb : Below w.heap.size w w1) => hide' (texts_at a.out b.out _ _ w1 (h1.under hb) (h2.under hb))
  have CB : Hid (∀ w1, Below (two w (teV A cap a) (teV B cap2 b)).heap.size (two w (teV A cap a) (teV B cap2 b)) w1 → _) := fun w1 hb => two_cells hb
  have TB : Hid (∀ w1, Below (two w (teV A cap a) (teV B cap2 b)).heap.size (two w (teV A cap a) (teV B cap2 b)) w1 → Below w.heap.size w w1) := fun w1 hb => two_below hb
  obtain ⟨l, e1, t1, n1⟩ := a
  obtain ⟨m, e2, t2, n2⟩ := b
  unfold same
  unfold teV at CB TB ⊢
  simp only at HE CB TB ⊢
  obtain ⟨q0, hq0⟩ : ∃ q, sameS l m = q := ⟨_, rfl⟩
  rw [hq0] at HE ⊢
  clear h1 h2 hq0
  go_enter Tryz.func6, Tryz.ntmps6
  obtain ⟨c0, c1, c2, c3, c4, c5, c6, c7⟩ := CB.out _ (Below.refl _ _)
  go_wp2_with fail
  refine (HE _ (TB.out _ (Below.refl _ _))).out.mono ?_
  rintro e w1 ⟨rfl, hb1⟩
  clear c0 c1 c2 c3 c4 c5 c6 c7
  obtain ⟨c0, c1, c2, c3, c4, c5, c6, c7⟩ := CB.out _ hb1
  have hend := TB.out _ hb1
  clear CB TB HE hb1
  cases q0
  · go_wp2_with fail
    go_ret
    exact ⟨rfl, hend⟩
  · cases q1 : (e1.toList == e2.toList)
    · go_wp2_with fail
      go_ret
      exact ⟨by simp_all, hend⟩
    · cases q2 : (t1.toList == t2.toList)
      · go_wp2_with fail
        go_ret
        exact ⟨by simp_all, hend⟩
      · by_cases hn : n1 = n2
        · go_wp2_with fail
          go_ret
          exact ⟨by simp_all, hend⟩
        · go_wp2_with fail
          go_ret
          exact ⟨by simp_all, hend⟩
end Sm
end Go.Proofs.YtclafjbbdhnhlaaGreatDoor
