/-
  Layer 16: the walks of slices.Clone at messages, Flying, New.
-/
import Derived.Test.YtimmmbjdaibplaaW8
import Derived.Lib.SliceRun
namespace Go.Proofs.Ytimmmbjdaibplaa
open Go.RowKit
open Nt
set_option linter.unusedVariables false
set_option linter.unusedSimpArgs false

def CloneE (n : Nat) (xs : List Value) (w : World) (e : Ending) (w' : World) : Prop := ∃ A cap, e = .returned (.slice A n cap) ∧ w'.ownsRow 0 74 6 (.slice A n cap) n xs ∧ Below w.heap.size w w'
theorem cloneE_nil (w : World) : CloneE 0 [] w (.returned (.slice none 0 0)) w := ⟨none, 0, rfl, World.ownsRow_nil _ _ _ _, Below.refl _ _⟩
theorem cloneE_of {n : Nat} {xs : List Value} {w w' : World} {v : Value} (h : w'.ownsRow 0 74 6 v n xs) (hb : Below w.heap.size w w') : CloneE n xs w (.returned v) w' := by
  obtain ⟨A, cap, rfl, _, _⟩ := own_form h
  exact ⟨A, cap, rfl, h, hb⟩

set_option maxHeartbeats 4000000 in
set_option maxRecDepth 100000 in
theorem clone_at (v : Value) (n : Nat) (xs : List Value) (w : World) (h : w.ownsRow 0 74 6 v n xs) (hn : n ≤ 1000) (h1 : ∀ u ∈ xs, u.oneCell' = true) :
    Calls Try.prog 33 #[v] w (CloneE n xs w) := by
  obtain ⟨i0, hi0, hz0, hz1, hz2⟩ := info_parts infoMsg
  have h' := h
  rcases h.2 with ⟨rfl, rfl⟩ | ⟨g, cap, cur, rfl, _, hg, hnc, _, _, _⟩
  · obtain rfl : xs = [] := List.eq_nil_of_length_eq_zero (by simpa using h.1)
    have H := Lib.hid (cloneE_nil w)
    have hnil := Lib.run_eql_slice_nil (P := Try.prog) w 33 74 none 0 0 0 0 Try.underlying33
    clear h h' h1
    go_enter Try.func33, Try.ntmps33
    go_wp2_with fail
    go_ret
    exact H.out
  · have hx : Hid (∀ j u, xs[j]? = some u → (w.alloc (.cells #[] 74)).cell? ((⟨g, 0, none⟩ : Addr).add j) = some u) := fun j u hu => cell_alloc (h.cells (g := g) rfl j u hu)
    have hown : Hid ((w.alloc (.cells #[] 74)).ownsRow 0 74 6 (.slice (some ⟨w.heap.size, 0, none⟩) 0 0) 0 []) := World.ownsRow_made w #[] 0 (Nat.zero_le _) (by unfold maxLen; omega) rfl
    have hlen := Lib.hid h.1
    have hnil := Lib.run_eql_slice_nil (P := Try.prog) w 33 74 (some ⟨g, 0, none⟩) n cap 0 0 Try.underlying33
    have H1 := Lib.hid h1
    clear h h' h1 hg hnc
    go_enter Try.func33, Try.ntmps33
    go_wp2_with (at_builtin; go_must (refine wpList_append_own_at _ rfl _ _ 33 rfl 0 74 i0 _ 6 48 Try.underlying33 hi0 hz0 hz1 hz2 rfl (by decide) _ _ _ rfl hown.out ⟨g, 0, none⟩ n cap xs rfl hlen.out hx.out H1.out (by unfold maxLen; omega) (by omega) (Nat.zero_le _) ?_))
    intro v' w' ho hgr _ hat
    go_wp2_with fail
    go_ret
    exact cloneE_of ho (((Below.refl _ w).alloc (Nat.le_refl _) _).grown hgr (by simp) (fun k hk => by simp [Value.ownBlock] at hk; omega))

theorem msgs_one (l : List Msg) : ∀ u ∈ l.flatMap msgV, u.oneCell' = true := by
  intro u hu
  obtain ⟨m, _, hm⟩ := List.mem_flatMap.1 hu
  simp only [msgV, List.mem_cons, List.not_mem_nil, or_false] at hm
  rcases hm with rfl | rfl | rfl | rfl | rfl | rfl <;> rfl
set_option maxHeartbeats 4000000 in
theorem flying_at (a C : Nat) (T : List Nat) (N : Nt.Net) (w : World) (h : NetX w a C T N) (hP0 : 0 < N.cs.length) (hP : N.cs.length ≤ 8) (hn : N.fl.length ≤ 1000) :
    Calls Try.prog 11 #[.pointer (some ⟨a, 0, none⟩)] w (CloneE N.fl.length (N.fl.flatMap msgV) w) := by
  obtain ⟨bc, kc, cur, rs, vf, vh, vs, rfl, hN⟩ := h
  obtain ⟨c0, c1, -, -⟩ := hN.cells
  have K0 := Lib.hid (none_at a (some ⟨bc, 0, none⟩) N.cs.length kc w c0 hP0 hP)
  have K1 := Lib.hid (clone_at vf N.fl.length (N.fl.flatMap msgV) w hN.fo hn (msgs_one _))
  clear hN hP0 hP hn c0
  go_enter Try.func11, Try.ntmps11
  go_wp2_with fail
  refine K0.out.mono ?_
  rintro e w1 ⟨rfl, rfl⟩
  go_wp2_with fail
  refine K1.out.mono ?_
  rintro e w2 ⟨A, cap, rfl, ho, hb⟩
  have HO := Lib.hid ho
  have HB := Lib.hid hb
  clear ho hb K0 K1
  go_wp2_with fail
  go_ret
  exact ⟨A, cap, rfl, HO.out, HB.out⟩
end Go.Proofs.Ytimmmbjdaibplaa
