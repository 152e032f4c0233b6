/-
  Layer 17: the walk of the document's Same at nets that differ in what flies.
-/
import Derived.Test.YtimmmbjdaibplaaS2
namespace Go.Proofs.Ytimmmbjdaibplaa
open Go.RowKit Go.Shelf
open Nt
set_option linter.unusedVariables false
set_option linter.unusedSimpArgs false

theorem RefAt.sees {w : World} {b P C : Nat} {vv vf vh vc : Value} {vr : List Value} {vb : Nat} {rs : List Nat} {N : Nt.Net} (h : RefAt w b P C vv vf vh vc vr vb rs N) (hw : Wf P C N) : Sees w vv N.cs.flatten.length (intL N.cs.flatten) := by
  have := Sees.of_loose h.va
  rw [flatten_len _ hw.ce, hw.pl]
  exact this

set_option maxHeartbeats 16000000 in
set_option maxRecDepth 100000 in
theorem rsame_diff (a c P C : Nat) (T T2 : List Nat) (N N2 : Nt.Net) (w : World) (h : RefX w a P C T N) (h2 : RefX w c P C T2 N2) (hw : Wf P C N) (hw2 : Wf P C N2) (hne : N.fl ≠ N2.fl) (hP0 : 1 ≤ P) (hP : P ≤ 8) (hC : C ≤ 64) :
    Calls Try.prog 23 #[.pointer (some ⟨a, 0, none⟩), .pointer (some ⟨c, 0, none⟩)] w (SameR false w) := by
  obtain ⟨vv, vf, vh, vc, vr, vb, rs, hT, hN⟩ := h
  obtain ⟨vv2, vf2, vh2, vc2, vr2, vb2, rs2, hT2, hN2⟩ := h2
  obtain ⟨a0, a1, a2, a3, a4, a5⟩ := hN.cells
  obtain ⟨c0, c1, c2, c3, c4, c5⟩ := hN2.cells
  have hfl := hw.fl
  have hhs := hw.hs
  have hfl2 := hw2.fl
  have hhs2 := hw2.hs
  have sv := hN.sees hw
  have sv2 := hN2.sees hw2
  have hlv : N.cs.flatten.length ≤ 100000 := by
    rw [flatten_len _ hw.ce, hw.pl]
    exact Nat.le_trans (Nat.mul_le_mul hP hC) (by omega)
  have hlv2 : N2.cs.flatten.length ≤ 100000 := by
    rw [flatten_len _ hw2.ce, hw2.pl]
    exact Nat.le_trans (Nat.mul_le_mul hP hC) (by omega)
  obtain ⟨A1, cap1, rfl, hA1⟩ := Sees.of_loose hN.fo
  obtain ⟨A2, cap2, rfl, hA2⟩ := Sees.of_loose hN2.fo
  obtain ⟨A3, cap3, rfl, -⟩ := Sees.of_loose hN.ho
  obtain ⟨A4, cap4, rfl, -⟩ := Sees.of_loose hN2.ho
  have KV := fun (q : Bool) (hq : q = true ↔ N.cs.flatten = N2.cs.flatten) => Lib.hid (fun (k : Nat) => lists_at vv vv2 _ _ (w.drewN k) (sv.drewN k) (sv2.drewN k) hlv hlv2 q hq)
  have hcs : N.cs.flatten = N2.cs.flatten ∨ N.cs.flatten ≠ N2.cs.flatten := Classical.em _
  have dP : ((P : Int) != (P : Int)) = false := by simp
  have dC : ((C : Int) != (C : Int)) = false := by simp
  obtain ⟨n1, hn1⟩ : ∃ n, N.fl.length = n := ⟨_, rfl⟩
  obtain ⟨n2, hn2⟩ : ∃ n, N2.fl.length = n := ⟨_, rfl⟩
  obtain ⟨m1, hm1⟩ : ∃ n, N.hs.length = n := ⟨_, rfl⟩
  obtain ⟨m2, hm2⟩ : ∃ n, N2.hs.length = n := ⟨_, rfl⟩
  rw [hn1] at a3 hfl hA1
  rw [hn2] at c3 hfl2 hA2
  rw [hm1] at a4 hfl hhs
  rw [hm2] at c4 hfl2 hhs2
  have HA1 := Lib.hid hA1
  have HA2 := Lib.hid hA2
  have HN1 := Lib.hid hn1
  have HN2 := Lib.hid hn2
  have HNE := Lib.hid hne
  clear hN hN2 hw hw2 hT hT2 sv sv2 hlv hlv2 hA1 hA2 hm1 hm2 hne
  go_enter Try.func23, Try.ntmps23
  rcases hcs with hcs | hcs
  · have KV := Lib.hid (KV true (by simp [hcs])).out
    clear hcs
    by_cases hl : n1 = n2
    · subst hl
      have dF : ((n1 : Int) != (n1 : Int)) = false := by simp
      by_cases hm : m1 = m2
      · subst hm
        have dH : ((m1 : Int) != (m1 : Int)) = false := by simp
        go_wp2_with fail
        go_quiet ((go_at_call 61; with_reducible (exact Calls.quiet_of (KV.out _))))
        clear KV
        have hnn : (n1 : Int) ≤ 1000 := by omega
        go_wp2_with fail
        go_loopw [5] (fun i wr => ∃ k m : Nat, k ≤ n1 ∧ i = .int .i64 k ∧ Hid (N.fl.take k = N2.fl.take k) ∧ wr = w.drewN m) (fun i _ => n1 - (intOf i).toNat)
        case atStart => exact ⟨0, _, Nat.zero_le _, rfl, (by simp : N.fl.take 0 = N2.fl.take 0), rfl⟩
        case round =>
          obtain ⟨k, m, hk, rfl, htk, rfl⟩ := hrel
          have hk0 : (0 : Int) ≤ (k : Int) := by omega
          by_cases hlt : k < n1
          · have hki : (k : Int) < (n1 : Int) := by omega
            have hk1 : k < N.fl.length := by rw [HN1.out]; exact hlt
            have hk2 : k < N2.fl.length := by rw [HN2.out]; exact hlt
            obtain ⟨g1, rfl, s1⟩ := HA1.out (by omega)
            obtain ⟨g2, rfl, s2⟩ := HA2.out (by omega)
            have x0 := s1 _ _ ((flat_at msgV_len N.fl k hk1 0 (by omega)).trans rfl)
            have y0 := s2 _ _ ((flat_at msgV_len N2.fl k hk2 0 (by omega)).trans rfl)
            have x1 := s1 _ _ ((flat_at msgV_len N.fl k hk1 1 (by omega)).trans rfl)
            have y1 := s2 _ _ ((flat_at msgV_len N2.fl k hk2 1 (by omega)).trans rfl)
            have x2 := s1 _ _ ((flat_at msgV_len N.fl k hk1 2 (by omega)).trans rfl)
            have y2 := s2 _ _ ((flat_at msgV_len N2.fl k hk2 2 (by omega)).trans rfl)
            have x3 := s1 _ _ ((flat_at msgV_len N.fl k hk1 3 (by omega)).trans rfl)
            have y3 := s2 _ _ ((flat_at msgV_len N2.fl k hk2 3 (by omega)).trans rfl)
            have x4 := s1 _ _ ((flat_at msgV_len N.fl k hk1 4 (by omega)).trans rfl)
            have y4 := s2 _ _ ((flat_at msgV_len N2.fl k hk2 4 (by omega)).trans rfl)
            have x5 := s1 _ _ ((flat_at msgV_len N.fl k hk1 5 (by omega)).trans rfl)
            have y5 := s2 _ _ ((flat_at msgV_len N2.fl k hk2 5 (by omega)).trans rfl)
            simp only [Nat.add_zero] at x0 y0
            have HT : N.fl[k] = N2.fl[k] → N.fl.take (k + 1) = N2.fl.take (k + 1) := fun e => take_eq_succ htk.out hk1 hk2 e
            have hxy : N.fl[k] = N2.fl[k] ∨ N.fl[k] ≠ N2.fl[k] := Classical.em _
            obtain ⟨x, hx⟩ : ∃ x, N.fl[k] = x := ⟨_, rfl⟩
            obtain ⟨y, hy⟩ : ∃ y, N2.fl[k] = y := ⟨_, rfl⟩
            rw [hx] at x0 x1 x2 x3 x4 x5
            rw [hy] at y0 y1 y2 y3 y4 y5
            rw [hx, hy] at hxy HT
            clear hx hy s1 s2 hk1 hk2
            rcases hxy with hxy | hxy
            · subst hxy
              have HT2 := Lib.hid (HT rfl)
              clear HT
              have hz : ∀ u : World, Sem.run Try.prog (binOp .neq 74 (.agg #[.int .i64 x.frm, .int .i64 x.to, .int .i64 x.kind, .int .i64 x.cell, .int .i64 x.val, .int .i64 x.hnd]) (.agg #[.int .i64 x.frm, .int .i64 x.to, .int .i64 x.kind, .int .i64 x.cell, .int .i64 x.val, .int .i64 x.hnd])) u = .ok (.bool false) u := fun u => by rw [neqMsg, (eqBMsg_iff x x).2 rfl]; rfl
              have hgd := guardMsg x x
              go_wp2_with fail
              go_quiet (fail)
              go_wp2_with fail
              go_roundw
              case rel => exact ⟨k + 1, _, by omega, by go_num, HT2, rfl⟩
              case measure => simp [intOf]; omega
            · clear HT
              have hz : ∀ u : World, Sem.run Try.prog (binOp .neq 74 (.agg #[.int .i64 x.frm, .int .i64 x.to, .int .i64 x.kind, .int .i64 x.cell, .int .i64 x.val, .int .i64 x.hnd]) (.agg #[.int .i64 y.frm, .int .i64 y.to, .int .i64 y.kind, .int .i64 y.cell, .int .i64 y.val, .int .i64 y.hnd])) u = .ok (.bool true) u := fun u => by
                have e : eqBMsg x y = false := by
                  cases he : eqBMsg x y
                  · rfl
                  · exact absurd ((eqBMsg_iff x y).1 he) hxy
                rw [neqMsg, e]
                rfl
              have hgd := guardMsg x y
              clear hxy
              go_wp2_with fail
              go_quiet (fail)
              go_wp2_with fail
              go_ret
              exact ⟨rfl, below_of_drewN (Below.refl _ _) ⟨_, drew_add _ _ _⟩⟩
          · obtain rfl : k = n1 := by omega
            have := htk.out
            rw [List.take_of_length_le (by rw [HN1.out]; omega), List.take_of_length_le (by rw [HN2.out]; omega)] at this
            exact absurd this HNE.out
      · have dH : ((m1 : Int) != (m2 : Int)) = true := by simp; omega
        go_wp2_with fail
        go_quiet ((go_at_call 61; with_reducible (exact Calls.quiet_of (KV.out _))))
        go_wp2_with fail
        go_ret
        exact ⟨rfl, below_of_drewN (Below.refl _ _) ⟨_, rfl⟩⟩
    · have dF : ((n1 : Int) != (n2 : Int)) = true := by simp; omega
      go_wp2_with fail
      go_quiet ((go_at_call 61; with_reducible (exact Calls.quiet_of (KV.out _))))
      go_wp2_with fail
      go_ret
      exact ⟨rfl, below_of_drewN (Below.refl _ _) ⟨_, rfl⟩⟩
  · have KV := Lib.hid (KV false (by simp [hcs])).out
    clear hcs
    go_wp2_with fail
    go_quiet ((go_at_call 61; with_reducible (exact Calls.quiet_of (KV.out _))))
    go_wp2_with fail
    go_ret
    exact ⟨rfl, below_of_drewN (Below.refl _ _) ⟨_, rfl⟩⟩
end Go.Proofs.Ytimmmbjdaibplaa
