/-
  Layer 17: the walks of slices.Clone, into blocks of the call's own (printed by gent1.py).
-/
import Derived.Test.YtimmmbjdaibplaaS9
namespace Go.Proofs.Ytimmmbjdaibplaa
open Go.RowKit
open Nt
set_option linter.unusedVariables false
set_option linter.unusedSimpArgs false

theorem intL_ones (l : List Int) : ∀ u ∈ intL l, u.oneCell' = true := intL_one l
def CloneB (e : TypeId) (size n : Nat) (xs : List Value) (w : World) (en : Ending) (w' : World) : Prop := ∃ A cap, en = .returned (.slice A n cap) ∧ w'.ownsRow w.heap.size e size (.slice A n cap) n xs ∧ Below w.heap.size w w'
theorem cloneB_nil (e : TypeId) (size : Nat) (w : World) : CloneB e size 0 [] w (.returned (.slice none 0 0)) w := ⟨none, 0, rfl, World.ownsRow_nil _ _ _ _, Below.refl _ _⟩
theorem cloneB_of {e : TypeId} {size n : Nat} {xs : List Value} {w w' : World} {v : Value} (h : w'.ownsRow w.heap.size e size v n xs) (hb : Below w.heap.size w w') : CloneB e size n xs w (.returned v) w' := by
  rcases h.2 with ⟨rfl, hn⟩ | ⟨g, cap, cur, rfl, _⟩
  · rw [hn] at h ⊢
    exact ⟨none, 0, rfl, h, hb⟩
  · exact ⟨_, cap, rfl, h, hb⟩

set_option maxHeartbeats 4000000 in
set_option maxRecDepth 100000 in
theorem cloneMsg_at (v : Value) (n : Nat) (xs : List Value) (w : World) (h : Loose w 74 6 v n xs) (hn : n ≤ 2000) (h1 : ∀ u ∈ xs, u.oneCell' = true) :
    Calls Try.prog 33 #[v] w (CloneB 74 6 n xs w) := by
  obtain ⟨i0, hi0, hz0, hz1, hz2⟩ := info_parts infoMsg
  have h' := h
  rcases h.2 with ⟨rfl, rfl⟩ | ⟨g, cap, cur, rfl, _⟩
  · obtain rfl : xs = [] := List.eq_nil_of_length_eq_zero (by simpa using h.1)
    have H := Lib.hid (cloneB_nil 74 6 w)
    have hnil := Lib.run_eql_slice_nil (P := Try.prog) w 33 74 none 0 0 0 0 Try.underlying33
    clear h h' h1
    go_enter Try.func33, Try.ntmps33
    go_wp2_with fail
    go_ret
    exact H.out
  · have hx : Hid (∀ j u, xs[j]? = some u → (w.alloc (.cells #[] 74)).cell? ((⟨g, 0, none⟩ : Addr).add j) = some u) := fun j u hu => by
      rw [addr_plus, Nat.zero_add]
      exact cell_alloc (h.cellAt hu)
    have hown : Hid ((w.alloc (.cells #[] 74)).ownsRow w.heap.size 74 6 (.slice (some ⟨w.heap.size, 0, none⟩) 0 0) 0 []) := World.ownsRow_made w #[] 0 (Nat.le_refl _) (by unfold maxLen; omega) rfl
    have hlen := Lib.hid h.1
    have hnil := Lib.run_eql_slice_nil (P := Try.prog) w 33 74 (some ⟨g, 0, none⟩) n cap 0 0 Try.underlying33
    have H1 := Lib.hid h1
    clear h h' h1
    go_enter Try.func33, Try.ntmps33
    go_wp2_with (at_builtin; go_must (refine wpList_append_own_at _ rfl _ _ 33 rfl w.heap.size 74 i0 _ 6 48 Try.underlying33 hi0 hz0 hz1 hz2 rfl (by decide) _ _ _ rfl hown.out ⟨g, 0, none⟩ n cap xs rfl hlen.out hx.out H1.out (by unfold maxLen; omega) (by omega) (by simp) ?_))
    intro v' w' ho hgr _ hat
    go_wp2_with fail
    go_ret
    exact cloneB_of ho (((Below.refl _ w).alloc (Nat.le_refl _) _).grown hgr (by simp) (fun k hk => by simp [Value.ownBlock] at hk; omega))

set_option maxHeartbeats 4000000 in
set_option maxRecDepth 100000 in
theorem cloneHd_at (v : Value) (n : Nat) (xs : List Value) (w : World) (h : Loose w 81 3 v n xs) (hn : n ≤ 2000) (h1 : ∀ u ∈ xs, u.oneCell' = true) :
    Calls Try.prog 47 #[v] w (CloneB 81 3 n xs w) := by
  obtain ⟨i0, hi0, hz0, hz1, hz2⟩ := info_parts infoHd
  have h' := h
  rcases h.2 with ⟨rfl, rfl⟩ | ⟨g, cap, cur, rfl, _⟩
  · obtain rfl : xs = [] := List.eq_nil_of_length_eq_zero (by simpa using h.1)
    have H := Lib.hid (cloneB_nil 81 3 w)
    have hnil := Lib.run_eql_slice_nil (P := Try.prog) w 65 81 none 0 0 0 0 Try.underlying65
    clear h h' h1
    go_enter Try.func47, Try.ntmps47
    go_wp2_with fail
    go_ret
    exact H.out
  · have hx : Hid (∀ j u, xs[j]? = some u → (w.alloc (.cells #[] 81)).cell? ((⟨g, 0, none⟩ : Addr).add j) = some u) := fun j u hu => by
      rw [addr_plus, Nat.zero_add]
      exact cell_alloc (h.cellAt hu)
    have hown : Hid ((w.alloc (.cells #[] 81)).ownsRow w.heap.size 81 3 (.slice (some ⟨w.heap.size, 0, none⟩) 0 0) 0 []) := World.ownsRow_made w #[] 0 (Nat.le_refl _) (by unfold maxLen; omega) rfl
    have hlen := Lib.hid h.1
    have hnil := Lib.run_eql_slice_nil (P := Try.prog) w 65 81 (some ⟨g, 0, none⟩) n cap 0 0 Try.underlying65
    have H1 := Lib.hid h1
    clear h h' h1
    go_enter Try.func47, Try.ntmps47
    go_wp2_with (at_builtin; go_must (refine wpList_append_own_at _ rfl _ _ 65 rfl w.heap.size 81 i0 _ 3 24 Try.underlying65 hi0 hz0 hz1 hz2 rfl (by decide) _ _ _ rfl hown.out ⟨g, 0, none⟩ n cap xs rfl hlen.out hx.out H1.out (by unfold maxLen; omega) (by omega) (by simp) ?_))
    intro v' w' ho hgr _ hat
    go_wp2_with fail
    go_ret
    exact cloneB_of ho (((Below.refl _ w).alloc (Nat.le_refl _) _).grown hgr (by simp) (fun k hk => by simp [Value.ownBlock] at hk; omega))

set_option maxHeartbeats 4000000 in
set_option maxRecDepth 100000 in
theorem cloneCnt_at (v : Value) (n : Nat) (xs : List Value) (w : World) (h : Loose w 48 4 v n xs) (hn : n ≤ 2000) (h1 : ∀ u ∈ xs, u.oneCell' = true) :
    Calls Try.prog 48 #[v] w (CloneB 48 4 n xs w) := by
  obtain ⟨i0, hi0, hz0, hz1, hz2⟩ := info_parts infoCnt
  have h' := h
  rcases h.2 with ⟨rfl, rfl⟩ | ⟨g, cap, cur, rfl, _⟩
  · obtain rfl : xs = [] := List.eq_nil_of_length_eq_zero (by simpa using h.1)
    have H := Lib.hid (cloneB_nil 48 4 w)
    have hnil := Lib.run_eql_slice_nil (P := Try.prog) w 45 48 none 0 0 0 0 Try.underlying45
    clear h h' h1
    go_enter Try.func48, Try.ntmps48
    go_wp2_with fail
    go_ret
    exact H.out
  · have hx : Hid (∀ j u, xs[j]? = some u → (w.alloc (.cells #[] 48)).cell? ((⟨g, 0, none⟩ : Addr).add j) = some u) := fun j u hu => by
      rw [addr_plus, Nat.zero_add]
      exact cell_alloc (h.cellAt hu)
    have hown : Hid ((w.alloc (.cells #[] 48)).ownsRow w.heap.size 48 4 (.slice (some ⟨w.heap.size, 0, none⟩) 0 0) 0 []) := World.ownsRow_made w #[] 0 (Nat.le_refl _) (by unfold maxLen; omega) rfl
    have hlen := Lib.hid h.1
    have hnil := Lib.run_eql_slice_nil (P := Try.prog) w 45 48 (some ⟨g, 0, none⟩) n cap 0 0 Try.underlying45
    have H1 := Lib.hid h1
    clear h h' h1
    go_enter Try.func48, Try.ntmps48
    go_wp2_with (at_builtin; go_must (refine wpList_append_own_at _ rfl _ _ 45 rfl w.heap.size 48 i0 _ 4 40 Try.underlying45 hi0 hz0 hz1 hz2 rfl (by decide) _ _ _ rfl hown.out ⟨g, 0, none⟩ n cap xs rfl hlen.out hx.out H1.out (by unfold maxLen; omega) (by omega) (by simp) ?_))
    intro v' w' ho hgr _ hat
    go_wp2_with fail
    go_ret
    exact cloneB_of ho (((Below.refl _ w).alloc (Nat.le_refl _) _).grown hgr (by simp) (fun k hk => by simp [Value.ownBlock] at hk; omega))

set_option maxHeartbeats 4000000 in
set_option maxRecDepth 100000 in
theorem cloneInt_at (v : Value) (n : Nat) (xs : List Value) (w : World) (h : Loose w 3 1 v n xs) (hn : n ≤ 2000) (h1 : ∀ u ∈ xs, u.oneCell' = true) :
    Calls Try.prog 49 #[v] w (CloneB 3 1 n xs w) := by
  obtain ⟨i0, hi0, hz0, hz1, hz2⟩ := info_parts infoInt
  have h' := h
  rcases h.2 with ⟨rfl, rfl⟩ | ⟨g, cap, cur, rfl, _⟩
  · obtain rfl : xs = [] := List.eq_nil_of_length_eq_zero (by simpa using h.1)
    have H := Lib.hid (cloneB_nil 3 1 w)
    have hnil := Lib.run_eql_slice_nil (P := Try.prog) w 22 3 none 0 0 0 0 Try.underlying22
    clear h h' h1
    go_enter Try.func49, Try.ntmps49
    go_wp2_with fail
    go_ret
    exact H.out
  · have hx : Hid (∀ j u, xs[j]? = some u → (w.alloc (.cells #[] 3)).cell? ((⟨g, 0, none⟩ : Addr).add j) = some u) := fun j u hu => by
      rw [addr_plus, Nat.zero_add]
      exact cell_alloc (h.cellAt hu)
    have hown : Hid ((w.alloc (.cells #[] 3)).ownsRow w.heap.size 3 1 (.slice (some ⟨w.heap.size, 0, none⟩) 0 0) 0 []) := World.ownsRow_made w #[] 0 (Nat.le_refl _) (by unfold maxLen; omega) rfl
    have hlen := Lib.hid h.1
    have hnil := Lib.run_eql_slice_nil (P := Try.prog) w 22 3 (some ⟨g, 0, none⟩) n cap 0 0 Try.underlying22
    have H1 := Lib.hid h1
    clear h h' h1
    go_enter Try.func49, Try.ntmps49
    go_wp2_with (at_builtin; go_must (refine wpList_append_own_at _ rfl _ _ 22 rfl w.heap.size 3 i0 _ 1 8 Try.underlying22 hi0 hz0 hz1 hz2 rfl (by decide) _ _ _ rfl hown.out ⟨g, 0, none⟩ n cap xs rfl hlen.out hx.out H1.out (by unfold maxLen; omega) (by omega) (by simp) ?_))
    intro v' w' ho hgr _ hat
    go_wp2_with fail
    go_ret
    exact cloneB_of ho (((Below.refl _ w).alloc (Nat.le_refl _) _).grown hgr (by simp) (fun k hk => by simp [Value.ownBlock] at hk; omega))

set_option maxHeartbeats 4000000 in
set_option maxRecDepth 100000 in
theorem cloneRow_at (r n cap : Nat) (l : List Int) (w : World) (h : RowAt w r l) (hl : l.length = n) (hn : n ≤ 2000) :
    Calls Try.prog 49 #[.slice (some ⟨r, 0, none⟩) n cap] w (CloneB 3 1 n (intL l) w) := by
  obtain ⟨i0, hi0, hz0, hz1, hz2⟩ := info_parts infoInt
  have hx : Hid (∀ j u, (intL l)[j]? = some u → (w.alloc (.cells #[] 3)).cell? ((⟨r, 0, none⟩ : Addr).add j) = some u) := fun j u hu => by
    rw [addr_plus, Nat.zero_add]
    have hj : j < l.length := by
      have := (List.getElem?_eq_some_iff.1 hu).1
      simpa [intL] using this
    rw [intL_at hj] at hu
    cases hu
    exact cell_alloc (h.cell hj)
  have hown : Hid ((w.alloc (.cells #[] 3)).ownsRow w.heap.size 3 1 (.slice (some ⟨w.heap.size, 0, none⟩) 0 0) 0 []) := World.ownsRow_made w #[] 0 (Nat.le_refl _) (by unfold maxLen; omega) rfl
  have hlen : Hid ((intL l).length = n * 1) := by
    show (intL l).length = n * 1
    simp [intL, hl]
  have hnil := Lib.run_eql_slice_nil (P := Try.prog) w 22 3 (some ⟨r, 0, none⟩) n cap 0 0 Try.underlying22
  clear h hl
  go_enter Try.func49, Try.ntmps49
  go_wp2_with (at_builtin; go_must (refine wpList_append_own_at _ rfl _ _ 22 rfl w.heap.size 3 i0 _ 1 8 Try.underlying22 hi0 hz0 hz1 hz2 rfl (by decide) _ _ _ rfl hown.out ⟨r, 0, none⟩ n cap (intL l) rfl hlen.out hx.out (intL_ones l) (by unfold maxLen; omega) (by omega) (by simp) ?_))
  intro v' w' ho hgr _ hat
  go_wp2_with fail
  go_ret
  exact cloneB_of ho (((Below.refl _ w).alloc (Nat.le_refl _) _).grown hgr (by simp) (fun k hk => by simp [Value.ownBlock] at hk; omega))
end Go.Proofs.Ytimmmbjdaibplaa
