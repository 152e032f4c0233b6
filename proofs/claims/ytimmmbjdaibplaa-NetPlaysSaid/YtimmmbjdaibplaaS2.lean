/-
  Layer 17: the walk of Same at nets that differ in what flies.
-/
import Derived.Test.YtimmmbjdaibplaaS1
namespace Go.Proofs.Ytimmmbjdaibplaa
open Go.RowKit Go.Shelf
open Nt
set_option linter.unusedVariables false
set_option linter.unusedSimpArgs false

set_option maxHeartbeats 16000000 in
set_option maxRecDepth 100000 in
theorem same_diff (a c C : Nat) (T T2 : List Nat) (N N2 : Nt.Net) (P : Nat) (w : World) (h : NetX w a C T N) (h2 : NetX w c C T2 N2) (hw : Wf P C N) (hw2 : Wf P C N2) (hne : N.fl ≠ N2.fl) (hP0 : 1 ≤ P) (hP : P ≤ 8) (hC : C ≤ 64) :
    Calls Try.prog 21 #[.pointer (some ⟨a, 0, none⟩), .pointer (some ⟨c, 0, none⟩)] w (SameR false w) := by
  obtain ⟨bc, kc, cur, rs, vf, vh, vs, hT, hN⟩ := h
  obtain ⟨bc2, kc2, cur2, rs2, vf2, vh2, vs2, hT2, hN2⟩ := h2
  obtain ⟨a0, a1, a2, -⟩ := hN.cells
  obtain ⟨c0, c1, c2, -⟩ := hN2.cells
  have hpl := hw.pl
  have hfl := hw.fl
  have hhs := hw.hs
  have hpl2 := hw2.pl
  have hfl2 := hw2.fl
  have hhs2 := hw2.hs
  obtain ⟨A1, p1, rfl, -, -⟩ := own_form hN.fo
  obtain ⟨A3, p3, rfl, -, -⟩ := own_form hN2.fo
  have K0 := Lib.hid (none_at a (some ⟨bc, 0, none⟩) N.cs.length kc w a0 (by omega) (by omega))
  have K1 := Lib.hid (none_at c (some ⟨bc2, 0, none⟩) N2.cs.length kc2 w c0 (by omega) (by omega))
  have hlen : N.cs.length = N2.cs.length := by omega
  have KE := fun (q : Bool) (hq : q = true ↔ N.cs = N2.cs) => Lib.hid (fun (k : Nat) => eqCells_at bc kc bc2 kc2 N.cs.length N.cs N2.cs (w.drewN k) rfl hlen.symm (hN.sees hw.ce hC) (hN2.sees hw2.ce hC) (by omega) q hq)
  have KM := Lib.hid (fun (k : Nat) => eqMsgs_at _ _ N.fl N2.fl (w.drewN k) (.of_own hN.fo) (.of_own hN2.fo) (by omega) (by omega) false (by simp [hne]))
  have la := blk_lt hN.hd
  have lc := blk_lt hN2.hd
  have hbD : Below w.heap.size w w.drew := (Below.refl _ _).drew
  have hcs : N.cs = N2.cs ∨ N.cs ≠ N2.cs := Classical.em _
  rw [hlen] at KE a0
  clear hN hN2 hw hw2 hpl hfl hpl2 hfl2 hhs hhs2 hT hT2
  go_enter Try.func21, Try.ntmps21
  go_wp2_with fail
  refine K0.out.mono ?_
  rintro e w1 ⟨rfl, rfl⟩
  go_wp2_with fail
  refine K1.out.mono ?_
  rintro e w1 ⟨rfl, rfl⟩
  clear K0 K1
  go_wp2_with fail
  rcases hcs with hcs | hcs
  · have KE := Lib.hid (KE true (by simp [hcs])).out
    clear hcs
    go_quiet ((first | (go_at_call 50; with_reducible (exact Calls.quiet_of (KE.out _))) | (go_at_call 52; with_reducible (exact Calls.quiet_of (KM.out _)))))
    go_wp2_with fail
    go_ret
    exact ⟨rfl, Below.of_drewN _ (Below.refl _ _)⟩
  · have KE := Lib.hid (KE false (by simp [hcs])).out
    clear hcs KM
    go_quiet ((go_at_call 50; with_reducible (exact Calls.quiet_of (KE.out _))))
    go_wp2_with fail
    go_ret
    exact ⟨rfl, Below.of_drewN _ (Below.refl _ _)⟩
end Go.Proofs.Ytimmmbjdaibplaa
