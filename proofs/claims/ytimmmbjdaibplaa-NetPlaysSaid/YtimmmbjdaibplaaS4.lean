/-
  Layer 17: the walk of the document's Same at equal nets.
-/
import Derived.Test.YtimmmbjdaibplaaS3
namespace Go.Proofs.Ytimmmbjdaibplaa
open Go.RowKit Go.Shelf
open Nt
set_option linter.unusedVariables false
set_option linter.unusedSimpArgs false

/-- a row of counts, as the third loop reads it -/
theorem RefAt.seesR {w : World} {b P C : Nat} {vv vf vh vc : Value} {vr : List Value} {vb : Nat} {rs : List Nat} {N : Nt.Net} (h : RefAt w b P C vv vf vh vc vr vb rs N) : ∃ A cap, vc = .slice A (P * P) cap ∧ (0 < P * P → ∃ g, A = some ⟨g, 0, none⟩ ∧ ∀ i, i < P * P → ∃ v, w.cell? ⟨g, i, none⟩ = some v ∧ Sees w v (cntRow P N.sent i).length (intL (cntRow P N.sent i))) := by
  obtain ⟨A, cap, e, hA⟩ := Sees.of_loose h.co
  refine ⟨A, cap, e, fun h0 => ?_⟩
  obtain ⟨g, e1, e2⟩ := hA h0
  refine ⟨g, e1, fun i hi => ?_⟩
  obtain ⟨k, k1, k2⟩ := h.row i (by rw [h.rl]; exact hi)
  exact ⟨_, e2 i _ k1, Sees.of_loose k2⟩

set_option maxHeartbeats 16000000 in
set_option maxRecDepth 100000 in
theorem rsame_refl (a c P C : Nat) (T T2 : List Nat) (N : Nt.Net) (w : World) (h : RefX w a P C T N) (h2 : RefX w c P C T2 N) (hw : Wf P C N) (hP0 : 1 ≤ P) (hP : P ≤ 8) (hC : C ≤ 64) :
    Calls Try.prog 23 #[.pointer (some ⟨a, 0, none⟩), .pointer (some ⟨c, 0, none⟩)] w (SameR true w) := by
  obtain ⟨vv, vf, vh, vc, vr, vb, rs, hT, hN⟩ := h
  obtain ⟨vv2, vf2, vh2, vc2, vr2, vb2, rs2, hT2, hN2⟩ := h2
  obtain ⟨a0, a1, a2, a3, a4, a5⟩ := hN.cells
  obtain ⟨c0, c1, c2, c3, c4, c5⟩ := hN2.cells
  have hfl := hw.fl
  have hhs := hw.hs
  have sv := hN.sees hw
  have sv2 := hN2.sees hw
  have hlv : N.cs.flatten.length ≤ 100000 := by
    rw [flatten_len _ hw.ce, hw.pl]
    exact Nat.le_trans (Nat.mul_le_mul hP hC) (by omega)
  have hPP : P * P ≤ 64 := Nat.le_trans (Nat.mul_le_mul hP hP) (by omega)
  obtain ⟨A1, cap1, rfl, hA1⟩ := Sees.of_loose hN.fo
  obtain ⟨A2, cap2, rfl, hA2⟩ := Sees.of_loose hN2.fo
  obtain ⟨A3, cap3, rfl, hA3⟩ := Sees.of_loose hN.ho
  obtain ⟨A4, cap4, rfl, hA4⟩ := Sees.of_loose hN2.ho
  obtain ⟨A5, cap5, rfl, hA5⟩ := hN.seesR
  obtain ⟨A6, cap6, rfl, hA6⟩ := hN2.seesR
  have KV := Lib.hid (fun (k : Nat) => lists_at vv vv2 _ _ (w.drewN k) (sv.drewN k) (sv2.drewN k) hlv hlv true (by simp))
  have dP : ((P : Int) != (P : Int)) = false := by simp
  have dC : ((C : Int) != (C : Int)) = false := by simp
  obtain ⟨n, hn⟩ : ∃ n, N.fl.length = n := ⟨_, rfl⟩
  obtain ⟨m, hm⟩ : ∃ n, N.hs.length = n := ⟨_, rfl⟩
  obtain ⟨p, hp⟩ : ∃ n, P * P = n := ⟨_, rfl⟩
  rw [hn] at a3 c3 hfl hA1 hA2
  rw [hm] at a4 c4 hfl hhs hA3 hA4
  rw [hp] at a5 c5 hPP hA5 hA6
  have HA1 := Lib.hid hA1
  have HA2 := Lib.hid hA2
  have HA3 := Lib.hid hA3
  have HA4 := Lib.hid hA4
  have HA5 := Lib.hid hA5
  have HA6 := Lib.hid hA6
  have HN := Lib.hid hn
  have HM := Lib.hid hm
  have hnn : (n : Int) ≤ 1000 := by omega
  have hmm : (m : Int) ≤ 1000 := by omega
  have hpp : (p : Int) ≤ 1000 := by omega
  have dF : ((n : Int) != (n : Int)) = false := by simp
  have dH : ((m : Int) != (m : Int)) = false := by simp
  clear hN hN2 hw hT hT2 sv sv2 hlv hA1 hA2 hA3 hA4 hA5 hA6 hm hn hp
  go_enter Try.func23, Try.ntmps23
  go_wp2_with fail
  go_quiet ((go_at_call 61; with_reducible (exact Calls.quiet_of (KV.out _))))
  clear KV
  go_wp2_with fail
  go_loopw [5] (fun i wr => ∃ k m : Nat, k ≤ n ∧ i = .int .i64 k ∧ wr = w.drewN m) (fun i _ => n - (intOf i).toNat)
  case atStart => exact ⟨0, _, Nat.zero_le _, rfl, rfl⟩
  case round =>
    obtain ⟨k, q, hk, rfl, rfl⟩ := hrel
    have hk0 : (0 : Int) ≤ (k : Int) := by omega
    by_cases hlt : k < n
    · have hki : (k : Int) < (n : Int) := by omega
      have hk1 : k < N.fl.length := by rw [HN.out]; exact hlt
      obtain ⟨g1, rfl, s1⟩ := HA1.out (by omega)
      obtain ⟨g2, rfl, s2⟩ := HA2.out (by omega)
      have x0 := s1 _ _ ((flat_at msgV_len N.fl k hk1 0 (by omega)).trans rfl)
      have y0 := s2 _ _ ((flat_at msgV_len N.fl k hk1 0 (by omega)).trans rfl)
      have x1 := s1 _ _ ((flat_at msgV_len N.fl k hk1 1 (by omega)).trans rfl)
      have y1 := s2 _ _ ((flat_at msgV_len N.fl k hk1 1 (by omega)).trans rfl)
      have x2 := s1 _ _ ((flat_at msgV_len N.fl k hk1 2 (by omega)).trans rfl)
      have y2 := s2 _ _ ((flat_at msgV_len N.fl k hk1 2 (by omega)).trans rfl)
      have x3 := s1 _ _ ((flat_at msgV_len N.fl k hk1 3 (by omega)).trans rfl)
      have y3 := s2 _ _ ((flat_at msgV_len N.fl k hk1 3 (by omega)).trans rfl)
      have x4 := s1 _ _ ((flat_at msgV_len N.fl k hk1 4 (by omega)).trans rfl)
      have y4 := s2 _ _ ((flat_at msgV_len N.fl k hk1 4 (by omega)).trans rfl)
      have x5 := s1 _ _ ((flat_at msgV_len N.fl k hk1 5 (by omega)).trans rfl)
      have y5 := s2 _ _ ((flat_at msgV_len N.fl k hk1 5 (by omega)).trans rfl)
      simp only [Nat.add_zero] at x0 y0
      obtain ⟨x, hx⟩ : ∃ x, N.fl[k] = x := ⟨_, rfl⟩
      rw [hx] at x0 x1 x2 x3 x4 x5 y0 y1 y2 y3 y4 y5
      clear hx s1 s2 hk1
      have hz : ∀ u : World, Sem.run Try.prog (binOp .neq 74 (.agg #[.int .i64 x.frm, .int .i64 x.to, .int .i64 x.kind, .int .i64 x.cell, .int .i64 x.val, .int .i64 x.hnd]) (.agg #[.int .i64 x.frm, .int .i64 x.to, .int .i64 x.kind, .int .i64 x.cell, .int .i64 x.val, .int .i64 x.hnd])) u = .ok (.bool false) u := fun u => by rw [neqMsg, (eqBMsg_iff x x).2 rfl]; rfl
      have hgd := guardMsg x x
      go_wp2_with fail
      go_quiet (fail)
      go_wp2_with fail
      go_roundw
      case rel => exact ⟨k + 1, _, by omega, by go_num, rfl⟩
      case measure => simp [intOf]; omega
    · obtain rfl : k = n := by omega
      clear hlt hk hk0 HA1 HA2
      go_wp2_with fail
      go_loopw [6] (fun i wr => ∃ k m' : Nat, k ≤ m ∧ i = .int .i64 k ∧ wr = w.drewN m') (fun i _ => m - (intOf i).toNat)
      case atStart => exact ⟨0, _, Nat.zero_le _, rfl, rfl⟩
      case round =>
        obtain ⟨k, q, hk, rfl, rfl⟩ := hrel
        have hk0 : (0 : Int) ≤ (k : Int) := by omega
        by_cases hlt : k < m
        · have hki : (k : Int) < (m : Int) := by omega
          have hk1 : k < N.hs.length := by rw [HM.out]; exact hlt
          obtain ⟨g1, rfl, s1⟩ := HA3.out (by omega)
          obtain ⟨g2, rfl, s2⟩ := HA4.out (by omega)
          have x0 := s1 _ _ ((flat_at rhV_len N.hs k hk1 0 (by omega)).trans rfl)
          have y0 := s2 _ _ ((flat_at rhV_len N.hs k hk1 0 (by omega)).trans rfl)
          have x1 := s1 _ _ ((flat_at rhV_len N.hs k hk1 1 (by omega)).trans rfl)
          have y1 := s2 _ _ ((flat_at rhV_len N.hs k hk1 1 (by omega)).trans rfl)
          have x2 := s1 _ _ ((flat_at rhV_len N.hs k hk1 2 (by omega)).trans rfl)
          have y2 := s2 _ _ ((flat_at rhV_len N.hs k hk1 2 (by omega)).trans rfl)
          simp only [Nat.add_zero] at x0 y0
          obtain ⟨x, hx⟩ : ∃ x, N.hs[k] = x := ⟨_, rfl⟩
          rw [hx] at x0 x1 x2 y0 y1 y2
          clear hx s1 s2 hk1
          have hz : ∀ u : World, Sem.run Try.prog (binOp .neq 101 (.agg #[.int .i64 x.frm, .bool x.dn, .int .i64 x.val]) (.agg #[.int .i64 x.frm, .bool x.dn, .int .i64 x.val])) u = .ok (.bool false) u := fun u => by rw [neqRH, (eqBRH_iff x x).2 rfl]; rfl
          have hgd := guardRH x x
          go_wp2_with fail
          go_quiet (fail)
          go_wp2_with fail
          go_roundw
          case rel => exact ⟨k + 1, _, by omega, by go_num, rfl⟩
          case measure => simp [intOf]; omega
        · obtain rfl : k = m := by omega
          clear hlt hk hk0 HA3 HA4
          go_wp2_with fail
          go_loopw [7] (fun i wr => ∃ k m' : Nat, k ≤ p ∧ i = .int .i64 k ∧ wr = w.drewN m') (fun i _ => p - (intOf i).toNat)
          case atStart => exact ⟨0, _, Nat.zero_le _, rfl, rfl⟩
          case round =>
            obtain ⟨k, q, hk, rfl, rfl⟩ := hrel
            have hk0 : (0 : Int) ≤ (k : Int) := by omega
            by_cases hlt : k < p
            · have hki : (k : Int) < (p : Int) := by omega
              obtain ⟨g1, rfl, s1⟩ := HA5.out (by omega)
              obtain ⟨g2, rfl, s2⟩ := HA6.out (by omega)
              obtain ⟨v1, x0, sx⟩ := s1 k hlt
              obtain ⟨v2, y0, sy⟩ := s2 k hlt
              clear s1 s2
              obtain ⟨u, hu⟩ : ∃ u, w.drewN q = u := ⟨_, rfl⟩
              have b5 : u.cell? ⟨a, 5, none⟩ = some (.slice (some ⟨g1, 0, none⟩) p cap5) := by rw [← hu]; exact a5
              have d5 : u.cell? ⟨c, 5, none⟩ = some (.slice (some ⟨g2, 0, none⟩) p cap6) := by rw [← hu]; exact c5
              have x0' : u.cell? ⟨g1, k, none⟩ = some v1 := by rw [← hu]; exact x0
              have y0' : u.cell? ⟨g2, k, none⟩ = some v2 := by rw [← hu]; exact y0
              have KV := Lib.hid (fun (k' : Nat) => lists_at v1 v2 _ _ (u.drewN k') (by rw [← hu]; exact (sx.drewN q).drewN k') (by rw [← hu]; exact (sy.drewN q).drewN k') (by simp [cntRow]) (by simp [cntRow]) true (by simp))
              rw [hu]
              have HU := Lib.hid hu
              clear sx sy hu x0 y0
              go_wp2_with fail
              go_quiet ((go_at_call 61; with_reducible (exact Calls.quiet_of (KV.out _))))
              clear KV
              go_wp2_with fail
              go_roundw
              case rel => exact ⟨k + 1, _, by omega, by go_num, by rw [← HU.out]; exact (drew_add _ _ _)⟩
              case measure => simp [intOf]; omega
            · obtain rfl : k = p := by omega
              go_wp2_with fail
              go_ret
              exact ⟨rfl, below_of_drewN (Below.refl _ _) ⟨_, rfl⟩⟩
end Go.Proofs.Ytimmmbjdaibplaa
