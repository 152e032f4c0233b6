/-
  Layer 16, the document's net: the walks of Done, Value, Open, Cell, Drain, and of Send and Deliver at bad ints.
-/
import Derived.Test.YtimmmbjdaibplaaAny2
namespace Go.Proofs.Ytimmmbjdaibplaa
open Go.RowKit
open Nt
set_option linter.unusedVariables false
set_option linter.unusedSimpArgs false

section
variable (b P C : Nat) (T : List Nat) (N : Nt.Net) (w : World) (h : RefX w b P C T N)
include h
set_option maxHeartbeats 4000000 in
theorem rsend_bad (k f t c v : Int) (hr : ¬ ((0 ≤ f ∧ f < P) ∧ (0 ≤ t ∧ t < P) ∧ 0 ≤ c ∧ c < C)) (hC : 0 < C) :
    Calls Try.prog 55 #[.pointer (some ⟨b, 0, none⟩), .int .i64 k, .int .i64 f, .int .i64 t, .int .i64 c, .int .i64 v] w fun e w' => e = .returned (.tuple #[.int .i64 0, .int .i64 2]) ∧ w = w' := by
  obtain ⟨vv, vf, vh, vc, vr, vb, rs, rfl, hR⟩ := h
  obtain ⟨c0, c1, -, -, -, -⟩ := hR.cells
  by_cases h1 : 0 ≤ f ∧ f < P
  · have K1 := Lib.hid (is_at b P C w c0 c1 f 0 true (by simp; omega))
    have K2 := Lib.hid (is_at b P C w c0 c1 t c false (by simp only [Bool.false_eq, decide_eq_false_iff_not]; exact fun h3 => hr ⟨h1, h3.1, h3.2⟩))
    clear hR c0 c1 hr h1
    go_enter Try.func55, Try.ntmps55
    go_wp2_with fail
    refine K1.out.mono ?_
    rintro e w1 ⟨rfl, rfl⟩
    go_wp2_with fail
    refine K2.out.mono ?_
    rintro e w1 ⟨rfl, rfl⟩
    clear K1 K2
    go_wp2_with fail
    go_ret2
    exact ⟨rfl, rfl⟩
  · have K1 := Lib.hid (is_at b P C w c0 c1 f 0 false (by simp only [Bool.false_eq, decide_eq_false_iff_not]; exact fun h3 => h1 h3.1))
    clear hR c0 c1 hr h1
    go_enter Try.func55, Try.ntmps55
    go_wp2_with fail
    refine K1.out.mono ?_
    rintro e w1 ⟨rfl, rfl⟩
    clear K1
    go_wp2_with fail
    go_ret2
    exact ⟨rfl, rfl⟩
set_option maxHeartbeats 4000000 in
theorem rdeliver_bad (k : Int) (hk : ¬ (0 ≤ k ∧ k < N.fl.length)) (hn : N.fl.length ≤ 1000) : Calls Try.prog 24 #[.pointer (some ⟨b, 0, none⟩), .int .i64 k] w fun e w' => e = .returned (.int .i64 2) ∧ w = w' := by
  obtain ⟨vv, vf, vh, vc, vr, vb, rs, rfl, hR⟩ := h
  obtain ⟨-, -, -, c3, -, -⟩ := hR.cells
  obtain ⟨A, cap, rfl, hA, -⟩ := hR.fo.form
  have hl : (N.fl.length : Int) ≤ 1000 := by omega
  by_cases h1 : k < 0
  · have d1 : decide (k < 0) = true := by simpa using h1
    clear hR hk hA
    go_enter Try.func24, Try.ntmps24
    go_wp2_with fail
    go_ret
    exact ⟨rfl, rfl⟩
  · have d1 : decide (k < 0) = false := by simpa using h1
    have h2 : (N.fl.length : Int) ≤ k := by omega
    have d2 : decide ((N.fl.length : Int) ≤ k) = true := by simpa using h2
    clear hR hk hA
    go_enter Try.func24, Try.ntmps24
    go_wp2_with fail
    go_ret
    exact ⟨rfl, rfl⟩
set_option maxHeartbeats 4000000 in
set_option maxRecDepth 100000 in
theorem rdone_any (k : Int) (hn : N.hs.length ≤ 1000) : Calls Try.prog 57 #[.pointer (some ⟨b, 0, none⟩), .int .i64 k] w fun e w' => e = .returned (.tuple #[.bool (findH N.hs k).dn, .int .i64 (findX N.hs k)]) ∧ w = w' := by
  obtain ⟨vv, vf, vh, vc, vr, vb, rs, rfl, hR⟩ := h
  obtain ⟨-, -, -, -, c4, -⟩ := hR.cells
  obtain ⟨A, cap, rfl, hA, -⟩ := hR.ho.form
  have hl : (N.hs.length : Int) ≤ 1000 := by omega
  by_cases hin : 1 ≤ k ∧ k ≤ (N.hs.length : Int)
  · obtain ⟨j, hj, rfl, e1, e2⟩ := find_in hin
    rw [e1, e2]
    obtain ⟨g, rfl⟩ := hA (by omega)
    have y1 := hR.hoN.cellAt ((flat_at rhV_len N.hs j hj 1 (by omega)).trans rfl)
    obtain ⟨x, hx⟩ : ∃ x, N.hs[j].dn = x := ⟨_, rfl⟩
    rw [hx] at y1 ⊢
    have d1 : ¬ ((j : Int) + 1 < 1) := by omega
    have d2 : ¬ ((N.hs.length : Int) < (j : Int) + 1) := by omega
    have d3 : (0 : Int) ≤ (j : Int) := by omega
    have d4 : (j : Int) < (N.hs.length : Int) := by omega
    have d5 : decide ((N.hs.length : Int) < (j : Int) + 1) = false := by simpa using d2
    clear hR hA e1 e2 hin hx
    go_enter Try.func57, Try.ntmps57
    go_wp2_with fail
    go_ret2
    exact ⟨rfl, rfl⟩
  · obtain ⟨e1, e2⟩ := find_out hin
    rw [e1, e2]
    by_cases h1 : k < 1
    · have d1 : decide (k < 1) = true := by simpa using h1
      clear hR hA e1 e2 hin
      go_enter Try.func57, Try.ntmps57
      go_wp2_with fail
      go_ret2
      exact ⟨rfl, rfl⟩
    · have d1 : decide (k < 1) = false := by simpa using h1
      have h2 : (N.hs.length : Int) < k := by omega
      have d2 : decide ((N.hs.length : Int) < k) = true := by simpa using h2
      clear hR hA e1 e2 hin
      go_enter Try.func57, Try.ntmps57
      go_wp2_with fail
      go_ret2
      exact ⟨rfl, rfl⟩
set_option maxHeartbeats 4000000 in
set_option maxRecDepth 100000 in
theorem rvalue_any (k : Int) (hn : N.hs.length ≤ 1000) : Calls Try.prog 58 #[.pointer (some ⟨b, 0, none⟩), .int .i64 k] w fun e w' => e = .returned (.tuple #[.int .i64 (valR N.hs k), .int .i64 (valX N.hs k)]) ∧ w = w' := by
  have K := Lib.hid (rdone_any b P C T N w h k hn)
  obtain ⟨vv, vf, vh, vc, vr, vb, rs, rfl, hR⟩ := h
  obtain ⟨-, -, -, -, c4, -⟩ := hR.cells
  obtain ⟨A, cap, rfl, hA, -⟩ := hR.ho.form
  have hl : (N.hs.length : Int) ≤ 1000 := by omega
  unfold valR valX
  by_cases hin : 1 ≤ k ∧ k ≤ (N.hs.length : Int)
  · obtain ⟨j, hj, rfl, e1, e2⟩ := find_in hin
    rw [e1, e2] at K
    rw [e1, e2]
    obtain ⟨g, rfl⟩ := hA (by omega)
    have y2 := hR.hoN.cellAt ((flat_at rhV_len N.hs j hj 2 (by omega)).trans rfl)
    obtain ⟨x, hx⟩ : ∃ x, N.hs[j] = x := ⟨_, rfl⟩
    rw [hx] at y2 K ⊢
    obtain ⟨xf, xv, xd⟩ := x
    have d3 : (0 : Int) ≤ (j : Int) := by omega
    have d4 : (j : Int) < (N.hs.length : Int) := by omega
    rw [if_pos rfl]
    clear hR hA e1 e2 hin hx
    cases xd
    · simp only [Bool.false_eq_true, if_false]
      go_enter Try.func58, Try.ntmps58
      go_wp2_with fail
      refine K.out.mono ?_
      rintro e w2 ⟨rfl, rfl⟩
      clear K
      go_wp2_with fail
      go_ret2
      exact ⟨rfl, rfl⟩
    · simp only [if_true]
      go_enter Try.func58, Try.ntmps58
      go_wp2_with fail
      refine K.out.mono ?_
      rintro e w2 ⟨rfl, rfl⟩
      clear K
      go_wp2_with fail
      go_ret2
      exact ⟨rfl, rfl⟩
  · obtain ⟨e1, e2⟩ := find_out hin
    rw [e1, e2] at K
    rw [e1, e2, if_neg (by decide)]
    simp only [Bool.false_eq_true, if_false]
    clear hR hA e1 e2 hin
    go_enter Try.func58, Try.ntmps58
    go_wp2_with fail
    refine K.out.mono ?_
    rintro e w2 ⟨rfl, rfl⟩
    clear K
    go_wp2_with fail
    go_ret2
    exact ⟨rfl, rfl⟩
set_option maxHeartbeats 4000000 in
theorem ropen_bad (p : Int) (hp : ¬ (0 ≤ p ∧ p < P)) : Calls Try.prog 59 #[.pointer (some ⟨b, 0, none⟩), .int .i64 p] w fun e w' => e = .returned (.tuple #[.int .i64 0, .int .i64 2]) ∧ w = w' := by
  obtain ⟨vv, vf, vh, vc, vr, vb, rs, rfl, hR⟩ := h
  obtain ⟨c0, c1, -, -, -, -⟩ := hR.cells
  have K1 := Lib.hid (is_at b P C w c0 c1 p 0 false (by simp only [Bool.false_eq, decide_eq_false_iff_not]; exact fun h3 => hp h3.1))
  clear hR c0 c1 hp
  go_enter Try.func59, Try.ntmps59
  go_wp2_with fail
  refine K1.out.mono ?_
  rintro e w1 ⟨rfl, rfl⟩
  clear K1
  go_wp2_with fail
  go_ret2
  exact ⟨rfl, rfl⟩
set_option maxHeartbeats 4000000 in
theorem rcell_bad (p c : Int) (hp : ¬ ((0 ≤ p ∧ p < P) ∧ 0 ≤ c ∧ c < C)) : Calls Try.prog 60 #[.pointer (some ⟨b, 0, none⟩), .int .i64 p, .int .i64 c] w fun e w' => e = .returned (.tuple #[.int .i64 0, .int .i64 2]) ∧ ∃ q, w' = w.drewN q := by
  obtain ⟨vv, vf, vh, vc, vr, vb, rs, rfl, hR⟩ := h
  obtain ⟨c0, c1, -, -, -, -⟩ := hR.cells
  have K1 := Lib.hid (is_at b P C w c0 c1 p c false (by simp only [Bool.false_eq, decide_eq_false_iff_not]; exact hp))
  have H0 : Hid (∃ q, w = w.drewN q) := ⟨0, rfl⟩
  clear hR c0 c1 hp
  go_enter Try.func60, Try.ntmps60
  go_wp2_with fail
  refine K1.out.mono ?_
  rintro e w1 ⟨rfl, rfl⟩
  clear K1
  go_wp2_with fail
  go_ret2
  exact ⟨rfl, H0.out⟩
set_option maxHeartbeats 4000000 in
set_option maxRecDepth 100000 in
theorem ropen_at (p : Nat) (hp : p < P) (hC : 0 < C) (hn : N.hs.length ≤ 1000) :
    Calls Try.prog 59 #[.pointer (some ⟨b, 0, none⟩), .int .i64 p] w fun e w' => e = .returned (.tuple #[.int .i64 (openN p N.hs), .int .i64 0]) ∧ w = w' := by
  obtain ⟨vv, vf, vh, vc, vr, vb, rs, rfl, hR⟩ := h
  obtain ⟨c0, c1, -, -, c4, -⟩ := hR.cells
  obtain ⟨A, cap, rfl, hA, -⟩ := hR.ho.form
  have K1 := Lib.hid (is_at b P C w c0 c1 p 0 true (by simp; omega))
  have HO := Lib.hid hR
  have HA := Lib.hid hA
  clear hR hA c0 c1
  go_enter Try.func59, Try.ntmps59
  go_wp2_with fail
  refine K1.out.mono ?_
  rintro e w1 ⟨rfl, rfl⟩
  clear K1
  go_wp2_with fail
  go_loop [6, 7] (fun x i => ∃ k : Nat, k ≤ N.hs.length ∧ i = .int .i64 k ∧ x = .int .i64 (openN p (N.hs.take k))) (fun _ i => N.hs.length - (intOf i).toNat)
  case atStart => exact ⟨0, Nat.zero_le _, rfl, rfl⟩
  case round =>
    obtain ⟨k, hk, rfl, rfl⟩ := hrel
    have hk0 : (0 : Int) ≤ (k : Int) := by omega
    have hk2 : (N.hs.length : Int) ≤ 1000 := by omega
    by_cases hlt : k < N.hs.length
    · have hk1 : (k : Int) < (N.hs.length : Int) := by omega
      obtain ⟨g, rfl⟩ := HA.out (by omega)
      have y0 := HO.out.hoN.cellAt ((flat_at rhV_len N.hs k hlt 0 (by omega)).trans rfl)
      have y1 := HO.out.hoN.cellAt ((flat_at rhV_len N.hs k hlt 1 (by omega)).trans rfl)
      simp only [Nat.add_zero] at y0
      have hsn := openN_snoc p N.hs k hlt
      have hle := openN_le p (N.hs.take k)
      rw [List.length_take] at hle
      obtain ⟨m, hm⟩ : ∃ m : Nat, openN p (N.hs.take k) = m := ⟨_, rfl⟩
      obtain ⟨m', hm'⟩ : ∃ m : Nat, openN p (N.hs.take (k + 1)) = m := ⟨_, rfl⟩
      rw [hm] at hsn hle ⊢
      rw [hm'] at hsn
      have HM := Lib.hid hm'
      obtain ⟨x, hx⟩ : ∃ x, N.hs[k] = x := ⟨_, rfl⟩
      rw [hx] at y0 y1 hsn
      obtain ⟨xf, xv, xd⟩ := x
      simp only at y0 y1
      unfold isOpen at hsn
      simp only at hsn
      have hm0 : (0 : Int) ≤ (m : Int) := by omega
      have hm1 : (m : Int) ≤ 1000 := by omega
      clear hm hm' hx hle
      by_cases hf : xf = (p : Int)
      · subst hf
        cases xd
        · have e : m' = m + 1 := by simpa using hsn
          subst e
          clear hsn
          go_wp2_with fail
          go_round
          case rel => exact ⟨k + 1, by omega, by go_num, by rw [HM.out]; go_num⟩
          case measure => simp [intOf]; omega
        · have e : m' = m := by simpa using hsn
          subst e
          clear hsn
          go_wp2_with fail
          go_round
          case rel => exact ⟨k + 1, by omega, by go_num, by rw [HM.out]⟩
          case measure => simp [intOf]; omega
      · have e : m' = m := by simpa [hf] using hsn
        have hf' : (xf == (p : Int)) = false := by simpa using hf
        subst e
        clear hsn
        go_wp2_with fail
        go_round
        case rel => exact ⟨k + 1, by omega, by go_num, by rw [HM.out]⟩
        case measure => simp [intOf]; omega
    · obtain rfl : k = N.hs.length := by omega
      rw [List.take_length]
      have hk1 : ¬ ((N.hs.length : Int) < (N.hs.length : Int)) := by omega
      go_wp2_with fail
      go_ret2
      exact ⟨rfl, rfl⟩
set_option maxHeartbeats 4000000 in
set_option maxRecDepth 100000 in
theorem rcell_at (p c : Nat) (hp : p < P) (hc : c < C) (hP : P ≤ 8) (hC : C ≤ 64) (hpl : N.cs.length = P) (hce : ∀ r ∈ N.cs, r.length = C) :
    Calls Try.prog 60 #[.pointer (some ⟨b, 0, none⟩), .int .i64 p, .int .i64 c] w fun e w' => e = .returned (.tuple #[.int .i64 (getC N.cs p c), .int .i64 0]) ∧ ∃ q, w' = w.drewN q := by
  obtain ⟨vv, vf, vh, vc, vr, vb, rs, rfl, hR⟩ := h
  obtain ⟨c0, c1, c2, -, -, -⟩ := hR.cells
  have hvv : ∃ kv, vv = .slice (some ⟨vb, 0, none⟩) (P * C) kv := by
    have hob := hR.ob
    rcases hR.va.2 with ⟨rfl, _⟩ | ⟨g, cap, cur, rfl, _⟩
    · simp [Value.ownBlock] at hob
    · simp only [Value.ownBlock, Option.some.injEq] at hob
      subst hob
      exact ⟨cap, rfl⟩
  obtain ⟨kv, rfl⟩ := hvv
  have x0 := hR.va.cellAt (j := p * C + c) (u := .int .i64 (getC N.cs p c)) (by
    unfold intL
    rw [List.getElem?_map, getC_flat hce (by omega) hc]
    rfl)
  have hjn : p * C + c < P * C := by
    have := Nat.mul_le_mul_right C (show p + 1 ≤ P from hp)
    rw [Nat.add_mul] at this
    omega
  have hPC : P * C ≤ 8 * 64 := Nat.mul_le_mul hP hC
  have K1 := Lib.hid (is_at b P C w c0 c1 p c true (by simp; omega))
  obtain ⟨was, hwas⟩ : ∃ z, getC N.cs p c = z := ⟨_, rfl⟩
  rw [hwas] at x0 ⊢
  obtain ⟨n, hn⟩ : ∃ n, P * C = n := ⟨_, rfl⟩
  rw [hn] at hjn hPC c2
  obtain ⟨j, hje⟩ : ∃ j, p * C + c = j := ⟨_, rfl⟩
  have hpc : (p : Int) * (C : Int) + (c : Int) = (j : Int) := by rw [← hje]; simp
  obtain ⟨t, ht⟩ : ∃ t : Nat, p * C = t := ⟨_, rfl⟩
  have hpt : (p : Int) * (C : Int) = (t : Int) := by rw [← ht]; simp
  rw [hje] at x0 hjn
  rw [hpt] at hpc
  have ht0 : (0 : Int) ≤ (t : Int) := by omega
  have ht1 : (t : Int) ≤ 512 := by omega
  have hc0 : (0 : Int) ≤ (c : Int) := by omega
  have hc1 : (c : Int) ≤ 64 := by omega
  have hp0 : (0 : Int) ≤ (p : Int) := by omega
  have hp1 : (p : Int) ≤ 8 := by omega
  have hC0 : (0 : Int) ≤ (C : Int) := by omega
  have hC1 : (C : Int) ≤ 64 := by omega
  have hj0 : (0 : Int) ≤ (j : Int) := by omega
  have hj1 : (j : Int) < (n : Int) := by omega
  have hj2 : (j : Int) ≤ 1000 := by omega
  have w1 : IntKind.i64.wrap (t : Int) = (t : Int) := IntWalk.i64_in _ (by omega)
  have w2 : IntKind.i64.wrap (j : Int) = (j : Int) := IntWalk.i64_in _ (by omega)
  clear hR hwas hn hje ht c0
  go_enter Try.func60, Try.ntmps60
  go_wp2_with fail
  refine K1.out.mono ?_
  rintro e w1 ⟨rfl, rfl⟩
  clear K1
  go_wp2_with fail
  go_quiet (fail)
  go_wp2_with fail
  go_ret2
  exact ⟨rfl, _, rfl⟩
end
end Go.Proofs.Ytimmmbjdaibplaa
