/-
  The walk of PlainSame.
-/
import Derived.Test.YtclafjbbdhnhlaaGreatDoorSmD
import Derived.Test.YtclafjbbdhnhlaaGreatDoorEvAw
namespace Go.Proofs.YtclafjbbdhnhlaaGreatDoor
open Go.RowKit
set_option linter.unusedVariables false
set_option linter.unusedSimpArgs false

namespace Sm
theorem same_self (a : Te) : same a a = true := by simp [same, sameS]
theorem follows_self (a : Te) : follows a a = true := by simp [follows, same_self]

set_option maxHeartbeats 16000000 in
set_option maxRecDepth 100000 in
theorem same_walk (a b : Te) (va vb : Value) (w : World) (ha : TV w va a) (hb : TV w vb b) :
    Calls Tryz.prog 3 #[va, vb] w fun e w' => e = .returned (.bool true) ∧ Below w.heap.size w w' := by
  have H1 := fun w1 (h : Below w.heap.size w w1) => hide' (same_at a b va vb w1 (ha.under h) (hb.under h))
  have H2 := fun w1 (h : Below w.heap.size w w1) => hide' (rsame_at a b va vb w1 (ha.under h) (hb.under h))
  have H3 := fun w1 (h : Below w.heap.size w w1) => hide' (follows_at a b va vb w1 (ha.under h) (hb.under h))
  have H4 := fun w1 (h : Below w.heap.size w w1) => hide' (rfollows_at a b va vb w1 (ha.under h) (hb.under h))
  have H5 := fun w1 (h : Below w.heap.size w w1) => hide' (same_at a a va va w1 (ha.under h) (ha.under h))
  have H6 := fun w1 (h : Below w.heap.size w w1) => hide' (follows_at b b vb vb w1 (hb.under h) (hb.under h))
  have H7 := fun w1 (h : Below w.heap.size w w1) => hide' (Ev.awake_calls w1)
  obtain ⟨A, cap, rfl, h1⟩ := ha
  obtain ⟨B, cap2, rfl, h2⟩ := hb
  have CB : Hid (∀ w1, Below (two w (teV A cap a) (teV B cap2 b)).heap.size (two w (teV A cap a) (teV B cap2 b)) w1 → _) := fun w1 hb => two_cells hb
  have TB : Hid (∀ w1, Below (two w (teV A cap a) (teV B cap2 b)).heap.size (two w (teV A cap a) (teV B cap2 b)) w1 → Below w.heap.size w w1) := fun w1 hb => two_below hb
  rw [same_self] at H5
  rw [follows_self] at H6
  obtain ⟨q0, hq0⟩ : ∃ q, same a b = q := ⟨_, rfl⟩
  rw [hq0] at H1 H2
  obtain ⟨q1, hq1⟩ : ∃ q, follows a b = q := ⟨_, rfl⟩
  rw [hq1] at H3 H4
  obtain ⟨l, e1, t1, n1⟩ := a
  obtain ⟨m, e2, t2, n2⟩ := b
  unfold teV at CB TB H1 H2 H3 H4 H5 H6 ⊢
  simp only at CB TB H1 H2 H3 H4 H5 H6 ⊢
  clear h1 h2 hq0 hq1
  have HSX : Hid (∀ w', Below (two w #[.slice A l.length cap, .string e1, .string t1, .int .i64 n1] #[.slice B m.length cap2, .string e2, .string t2, .int .i64 n2]).heap.size (two w #[.slice A l.length cap, .string e1, .string t1, .int .i64 n1] #[.slice B m.length cap2, .string e2, .string t2, .int .i64 n2]) w' → w'.cell? ⟨w.heap.size, 0, none⟩ = some (.slice A l.length cap) ∧ w'.cell? ⟨w.heap.size, 1, none⟩ = some (.string e1) ∧ w'.cell? ⟨w.heap.size, 2, none⟩ = some (.string t1) ∧ w'.cell? ⟨w.heap.size, 3, none⟩ = some (.int .i64 n1) ∧ w'.cell? ⟨w.heap.size + 1, 0, none⟩ = some (.slice B m.length cap2) ∧ w'.cell? ⟨w.heap.size + 1, 1, none⟩ = some (.string e2) ∧ w'.cell? ⟨w.heap.size + 1, 2, none⟩ = some (.string t2) ∧ w'.cell? ⟨w.heap.size + 1, 3, none⟩ = some (.int .i64 n2) ∧ Below (two w #[.slice A l.length cap, .string e1, .string t1, .int .i64 n1] #[.slice B m.length cap2, .string e2, .string t2, .int .i64 n2]).heap.size (two w #[.slice A l.length cap, .string e1, .string t1, .int .i64 n1] #[.slice B m.length cap2, .string e2, .string t2, .int .i64 n2]) w') := fun w' hb => by
    obtain ⟨a, b, c, d, e, f, g, h⟩ := CB.out w' hb
    exact ⟨a, b, c, d, e, f, g, h, hb⟩
  clear CB
  go_enter Tryz.func3, Tryz.ntmps3
  go_wp2_with fail
  refine wp_region_held_drew (S := (fun w' => w'.cell? ⟨w.heap.size, 0, none⟩ = some (.slice A l.length cap) ∧ w'.cell? ⟨w.heap.size, 1, none⟩ = some (.string e1) ∧ w'.cell? ⟨w.heap.size, 2, none⟩ = some (.string t1) ∧ w'.cell? ⟨w.heap.size, 3, none⟩ = some (.int .i64 n1) ∧ w'.cell? ⟨w.heap.size + 1, 0, none⟩ = some (.slice B m.length cap2) ∧ w'.cell? ⟨w.heap.size + 1, 1, none⟩ = some (.string e2) ∧ w'.cell? ⟨w.heap.size + 1, 2, none⟩ = some (.string t2) ∧ w'.cell? ⟨w.heap.size + 1, 3, none⟩ = some (.int .i64 n2) ∧ Below (two w #[.slice A l.length cap, .string e1, .string t1, .int .i64 n1] #[.slice B m.length cap2, .string e2, .string t2, .int .i64 n2]).heap.size (two w #[.slice A l.length cap, .string e1, .string t1, .int .i64 n1] #[.slice B m.length cap2, .string e2, .string t2, .int .i64 n2]) w')) (by kernel_rfl) ?_ (fun hHeld => ?_)
  · exact HSX.out _ (Below.refl _ _).drew
  refine wpAnyH_take (i := 0) (oi := ⟨some 5, _, _, _, _, _⟩) (v := ?_) rfl (by kernel_rfl) (by kernel_rfl) (by kernel_rfl) (fun _ _ _ h => h) (Or.inl ⟨by rfl, ?_⟩) (by assumption) ?_
  rotate_left
  · intro w hSw; (try dsimp only at hSw); go_simp; (try with_reducible rfl)
  try simp only [Act.put, List.setIfInBounds_toArray, List.set_cons_zero, List.set_cons_succ]
  refine wpAnyH_take (i := 1) (oi := ⟨some 6, _, _, _, _, _⟩) (v := ?_) rfl (by kernel_rfl) (by kernel_rfl) (by kernel_rfl) (fun _ _ _ h => h) (Or.inl ⟨by rfl, ?_⟩) (by assumption) ?_
  rotate_left
  · intro w hSw; (try dsimp only at hSw); go_simp; (try with_reducible rfl)
  try simp only [Act.put, List.setIfInBounds_toArray, List.set_cons_zero, List.set_cons_succ]
  refine wpAnyH_take (i := 3) (oi := ⟨some 8, _, _, _, _, _⟩) (v := ?_) rfl (by kernel_rfl) (by kernel_rfl) (by kernel_rfl) (fun _ _ _ h => h) (Or.inl ⟨by rfl, ?_⟩) (by assumption) ?_
  rotate_left
  · intro w hSw; (try dsimp only at hSw); go_simp; (try with_reducible rfl)
  try simp only [Act.put, List.setIfInBounds_toArray, List.set_cons_zero, List.set_cons_succ]
  refine wpAnyH_take (i := 4) (oi := ⟨some 9, _, _, _, _, _⟩) (v := ?_) rfl (by kernel_rfl) (by kernel_rfl) (by kernel_rfl) (fun _ _ _ h => h) (Or.inl ⟨by rfl, ?_⟩) (by assumption) ?_
  rotate_left
  · intro w hSw; (try dsimp only at hSw); go_simp; (try with_reducible rfl)
  try simp only [Act.put, List.setIfInBounds_toArray, List.set_cons_zero, List.set_cons_succ]
  refine wpAnyH_ready (rs := [2]) (by kernel_rfl) (by simp) ?_
  refine AllReadyH.cons rfl (fun K hK => ?_) AllReadyH.nil
  (rw [if_pos (by rfl)]; go_simp; go_at_call 5; refine ((H1 _ (TB.out _ (held8 hHeld))).out).mono ?_; rintro e5 w5 ⟨rfl, hb5⟩)
  have hS := HSX.out _ ((held8 hHeld).trans (hb5.mono (held8 hHeld).size))
  clear hb5
  refine hK.out _ _ ?_ (fun hHeld => ?_)
  · exact hS
  clear hK K
  try simp only [Act.put, List.setIfInBounds_toArray, List.set_cons_zero, List.set_cons_succ]
  refine wpAnyH_ready (rs := [5]) (by kernel_rfl) (by simp) ?_
  refine AllReadyH.cons rfl (fun K hK => ?_) AllReadyH.nil
  (rw [if_pos (by rfl)]; go_simp; go_at_call 6; refine ((H2 _ (TB.out _ (held8 hHeld))).out).mono ?_; rintro e5 w5 ⟨rfl, hb5⟩)
  have hS := HSX.out _ ((held8 hHeld).trans (hb5.mono (held8 hHeld).size))
  clear hb5
  refine hK.out _ _ ?_ (fun hHeld => ?_)
  · exact hS
  clear hK K
  try simp only [Act.put, List.setIfInBounds_toArray, List.set_cons_zero, List.set_cons_succ]
  refine wpAnyH_take (i := 6) (oi := ⟨some 11, _, _, _, _, _⟩) (v := ?_) rfl (by kernel_rfl) (by kernel_rfl) (by kernel_rfl) (fun _ _ _ h => h) (Or.inl ⟨by rfl, ?_⟩) (by assumption) ?_
  rotate_left
  · intro w hSw; (try dsimp only at hSw); go_simp; (try with_reducible rfl)
  try simp only [Act.put, List.setIfInBounds_toArray, List.set_cons_zero, List.set_cons_succ]
  refine wpAnyH_take (i := 7) (oi := ⟨some 12, _, _, _, _, _⟩) (v := ?_) rfl (by kernel_rfl) (by kernel_rfl) (by kernel_rfl) (fun _ _ _ h => h) (Or.inl ⟨by rfl, ?_⟩) (by assumption) ?_
  rotate_left
  · intro w hSw; (try dsimp only at hSw); go_simp; (try with_reducible rfl)
  try simp only [Act.put, List.setIfInBounds_toArray, List.set_cons_zero, List.set_cons_succ]
  refine wpAnyH_take (i := 8) (oi := ⟨some 13, _, _, _, _, _⟩) (v := ?_) rfl (by kernel_rfl) (by kernel_rfl) (by kernel_rfl) (fun _ _ _ h => h) (Or.inl ⟨by rfl, ?_⟩) (by assumption) ?_
  rotate_left
  · intro w hSw; (try dsimp only at hSw); go_simp; (try with_reducible rfl)
  try simp only [Act.put, List.setIfInBounds_toArray, List.set_cons_zero, List.set_cons_succ]
  refine wpAnyH_take (i := 9) (oi := ⟨some 14, _, _, _, _, _⟩) (v := ?_) rfl (by kernel_rfl) (by kernel_rfl) (by kernel_rfl) (fun _ _ _ h => h) (Or.inl ⟨by rfl, ?_⟩) (by assumption) ?_
  rotate_left
  · intro w hSw; (try dsimp only at hSw); go_simp; (try with_reducible rfl)
  try simp only [Act.put, List.setIfInBounds_toArray, List.set_cons_zero, List.set_cons_succ]
  refine wpAnyH_take (i := 11) (oi := ⟨some 16, _, _, _, _, _⟩) (v := ?_) rfl (by kernel_rfl) (by kernel_rfl) (by kernel_rfl) (fun _ _ _ h => h) (Or.inl ⟨by rfl, ?_⟩) (by assumption) ?_
  rotate_left
  · intro w hSw; (try dsimp only at hSw); go_simp; (try with_reducible rfl)
  try simp only [Act.put, List.setIfInBounds_toArray, List.set_cons_zero, List.set_cons_succ]
  refine wpAnyH_take (i := 12) (oi := ⟨some 17, _, _, _, _, _⟩) (v := ?_) rfl (by kernel_rfl) (by kernel_rfl) (by kernel_rfl) (fun _ _ _ h => h) (Or.inl ⟨by rfl, ?_⟩) (by assumption) ?_
  rotate_left
  · intro w hSw; (try dsimp only at hSw); go_simp; (try with_reducible rfl)
  try simp only [Act.put, List.setIfInBounds_toArray, List.set_cons_zero, List.set_cons_succ]
  refine wpAnyH_ready (rs := [10]) (by kernel_rfl) (by simp) ?_
  refine AllReadyH.cons rfl (fun K hK => ?_) AllReadyH.nil
  (rw [if_pos (by rfl)]; go_simp; go_at_call 7; refine ((H3 _ (TB.out _ (held8 hHeld))).out).mono ?_; rintro e5 w5 ⟨rfl, hb5⟩)
  have hS := HSX.out _ ((held8 hHeld).trans (hb5.mono (held8 hHeld).size))
  clear hb5
  refine hK.out _ _ ?_ (fun hHeld => ?_)
  · exact hS
  clear hK K
  try simp only [Act.put, List.setIfInBounds_toArray, List.set_cons_zero, List.set_cons_succ]
  refine wpAnyH_ready (rs := [13]) (by kernel_rfl) (by simp) ?_
  refine AllReadyH.cons rfl (fun K hK => ?_) AllReadyH.nil
  (rw [if_pos (by rfl)]; go_simp; go_at_call 8; refine ((H4 _ (TB.out _ (held8 hHeld))).out).mono ?_; rintro e5 w5 ⟨rfl, hb5⟩)
  have hS := HSX.out _ ((held8 hHeld).trans (hb5.mono (held8 hHeld).size))
  clear hb5
  refine hK.out _ _ ?_ (fun hHeld => ?_)
  · exact hS
  clear hK K
  try simp only [Act.put, List.setIfInBounds_toArray, List.set_cons_zero, List.set_cons_succ]
  refine wpAnyH_take (i := 14) (oi := ⟨some 19, _, _, _, _, _⟩) (v := ?_) rfl (by kernel_rfl) (by kernel_rfl) (by kernel_rfl) (fun _ _ _ h => h) (Or.inl ⟨by rfl, ?_⟩) (by assumption) ?_
  rotate_left
  · intro w hSw; (try dsimp only at hSw); go_simp; (try with_reducible rfl)
  try simp only [Act.put, List.setIfInBounds_toArray, List.set_cons_zero, List.set_cons_succ]
  refine wpAnyH_take (i := 15) (oi := ⟨some 20, _, _, _, _, _⟩) (v := ?_) rfl (by kernel_rfl) (by kernel_rfl) (by kernel_rfl) (fun _ _ _ h => h) (Or.inl ⟨by rfl, ?_⟩) (by assumption) ?_
  rotate_left
  · intro w hSw; (try dsimp only at hSw); go_simp; (try with_reducible rfl)
  try simp only [Act.put, List.setIfInBounds_toArray, List.set_cons_zero, List.set_cons_succ]
  refine wpAnyH_take (i := 16) (oi := ⟨some 21, _, _, _, _, _⟩) (v := ?_) rfl (by kernel_rfl) (by kernel_rfl) (by kernel_rfl) (fun _ _ _ h => h) (Or.inl ⟨by rfl, ?_⟩) (by assumption) ?_
  rotate_left
  · intro w hSw; (try dsimp only at hSw); go_simp; (try with_reducible rfl)
  try simp only [Act.put, List.setIfInBounds_toArray, List.set_cons_zero, List.set_cons_succ]
  refine wpAnyH_take (i := 17) (oi := ⟨some 22, _, _, _, _, _⟩) (v := ?_) rfl (by kernel_rfl) (by kernel_rfl) (by kernel_rfl) (fun _ _ _ h => h) (Or.inl ⟨by rfl, ?_⟩) (by assumption) ?_
  rotate_left
  · intro w hSw; (try dsimp only at hSw); go_simp; (try with_reducible rfl)
  try simp only [Act.put, List.setIfInBounds_toArray, List.set_cons_zero, List.set_cons_succ]
  refine wpAnyH_take (i := 18) (oi := ⟨some 23, _, _, _, _, _⟩) (v := ?_) rfl (by kernel_rfl) (by kernel_rfl) (by kernel_rfl) (fun _ _ _ h => h) (Or.inl ⟨by rfl, ?_⟩) (by assumption) ?_
  rotate_left
  · intro w hSw; (try dsimp only at hSw); go_simp; (try with_reducible rfl)
  try simp only [Act.put, List.setIfInBounds_toArray, List.set_cons_zero, List.set_cons_succ]
  refine wpAnyH_ready (rs := [19]) (by kernel_rfl) (by simp) ?_
  refine AllReadyH.cons rfl (fun K hK => ?_) AllReadyH.nil
  (rw [if_pos (by rfl)]; go_simp; go_at_call 5; refine ((H5 _ (TB.out _ (held8 hHeld))).out).mono ?_; rintro e5 w5 ⟨rfl, hb5⟩)
  have hS := HSX.out _ ((held8 hHeld).trans (hb5.mono (held8 hHeld).size))
  clear hb5
  refine hK.out _ _ ?_ (fun hHeld => ?_)
  · exact hS
  clear hK K
  try simp only [Act.put, List.setIfInBounds_toArray, List.set_cons_zero, List.set_cons_succ]
  refine wpAnyH_take (i := 20) (oi := ⟨some 25, _, _, _, _, _⟩) (v := ?_) rfl (by kernel_rfl) (by kernel_rfl) (by kernel_rfl) (fun _ _ _ h => h) (Or.inl ⟨by rfl, ?_⟩) (by assumption) ?_
  rotate_left
  · intro w hSw; (try dsimp only at hSw); go_simp; (try with_reducible rfl)
  try simp only [Act.put, List.setIfInBounds_toArray, List.set_cons_zero, List.set_cons_succ]
  refine wpAnyH_take (i := 21) (oi := ⟨some 26, _, _, _, _, _⟩) (v := ?_) rfl (by kernel_rfl) (by kernel_rfl) (by kernel_rfl) (fun _ _ _ h => h) (Or.inl ⟨by rfl, ?_⟩) (by assumption) ?_
  rotate_left
  · intro w hSw; (try dsimp only at hSw); go_simp; (try with_reducible rfl)
  try simp only [Act.put, List.setIfInBounds_toArray, List.set_cons_zero, List.set_cons_succ]
  refine wpAnyH_take (i := 22) (oi := ⟨some 27, _, _, _, _, _⟩) (v := ?_) rfl (by kernel_rfl) (by kernel_rfl) (by kernel_rfl) (fun _ _ _ h => h) (Or.inl ⟨by rfl, ?_⟩) (by assumption) ?_
  rotate_left
  · intro w hSw; (try dsimp only at hSw); go_simp; (try with_reducible rfl)
  try simp only [Act.put, List.setIfInBounds_toArray, List.set_cons_zero, List.set_cons_succ]
  refine wpAnyH_take (i := 23) (oi := ⟨some 28, _, _, _, _, _⟩) (v := ?_) rfl (by kernel_rfl) (by kernel_rfl) (by kernel_rfl) (fun _ _ _ h => h) (Or.inl ⟨by rfl, ?_⟩) (by assumption) ?_
  rotate_left
  · intro w hSw; (try dsimp only at hSw); go_simp; (try with_reducible rfl)
  try simp only [Act.put, List.setIfInBounds_toArray, List.set_cons_zero, List.set_cons_succ]
  refine wpAnyH_ready (rs := [24]) (by kernel_rfl) (by simp) ?_
  refine AllReadyH.cons rfl (fun K hK => ?_) AllReadyH.nil
  (rw [if_pos (by rfl)]; go_simp; go_at_call 7; refine ((H6 _ (TB.out _ (held8 hHeld))).out).mono ?_; rintro e5 w5 ⟨rfl, hb5⟩)
  have hS := HSX.out _ ((held8 hHeld).trans (hb5.mono (held8 hHeld).size))
  clear hb5
  refine hK.out _ _ ?_ (fun hHeld => ?_)
  · exact hS
  clear hK K
  try simp only [Act.put, List.setIfInBounds_toArray, List.set_cons_zero, List.set_cons_succ]
  refine wpAnyH_take (i := 25) (oi := ⟨some 30, _, _, _, _, _⟩) (v := ?_) rfl (by kernel_rfl) (by kernel_rfl) (by kernel_rfl) (fun _ _ _ h => h) (Or.inl ⟨by rfl, ?_⟩) (by assumption) ?_
  rotate_left
  · intro w hSw; (try dsimp only at hSw); go_simp; (try with_reducible rfl)
  try simp only [Act.put, List.setIfInBounds_toArray, List.set_cons_zero, List.set_cons_succ]
  refine wpAnyH_take (i := 26) (oi := ⟨some 31, _, _, _, _, _⟩) (v := ?_) rfl (by kernel_rfl) (by kernel_rfl) (by kernel_rfl) (fun _ _ _ h => h) (Or.inl ⟨by rfl, ?_⟩) (by assumption) ?_
  rotate_left
  · intro w hSw; (try dsimp only at hSw); go_simp; (try with_reducible rfl)
  try simp only [Act.put, List.setIfInBounds_toArray, List.set_cons_zero, List.set_cons_succ]
  refine wpAnyH_ready (rs := [27]) (by kernel_rfl) (by simp) ?_
  refine AllReadyH.cons rfl (fun K hK => ?_) AllReadyH.nil
  (rw [if_pos (by rfl)]; go_simp; go_at_call 9; refine ((H7 _ (TB.out _ (held8 hHeld))).out).mono ?_; rintro e5 w5 ⟨rfl, hb5⟩)
  have hS := HSX.out _ ((held8 hHeld).trans (hb5.mono (held8 hHeld).size))
  clear hb5
  refine hK.out _ _ ?_ (fun hHeld => ?_)
  · exact hS
  clear hK K
  try simp only [Act.put, List.setIfInBounds_toArray, List.set_cons_zero, List.set_cons_succ]
  refine wpAnyH_take (i := 28) (oi := ⟨some 33, _, _, _, _, _⟩) (v := ?_) rfl (by kernel_rfl) (by kernel_rfl) (by kernel_rfl) (fun _ _ _ h => h) (Or.inl ⟨by rfl, ?_⟩) (by assumption) ?_
  rotate_left
  · intro w hSw; (try dsimp only at hSw); go_simp; (try with_reducible rfl)
  try simp only [Act.put, List.setIfInBounds_toArray, List.set_cons_zero, List.set_cons_succ]
  refine wpAnyH_take (i := 29) (oi := ⟨some 4, _, _, _, _, _⟩) (v := ?_) rfl (by kernel_rfl) (by kernel_rfl) (by kernel_rfl) (fun _ _ _ h => h) (Or.inl ⟨by rfl, ?_⟩) (by assumption) ?_
  rotate_left
  · intro w hSw; (try dsimp only at hSw); go_simp; (try with_reducible rfl)
  try simp only [Act.put, List.setIfInBounds_toArray, List.set_cons_zero, List.set_cons_succ]
  refine wpAnyH_done (by kernel_rfl) ?_ _
  go_wp2_with fail
  go_ret
  exact ⟨by rfl, TB.out _ (held8 hHeld)⟩
end Sm
end Go.Proofs.YtclafjbbdhnhlaaGreatDoor
