/-
  Layer 16: the walks of Open, Cell, the requests and Deliver at ints that are none of places, cells or messages.
-/
import Derived.Test.YtimmmbjdaibplaaAny
namespace Go.Proofs.Ytimmmbjdaibplaa
open Go.RowKit
open Nt
set_option linter.unusedVariables false
set_option linter.unusedSimpArgs false

section
variable (a C : Nat) (T : List Nat) (N : Nt.Net) (w : World) (h : NetX w a C T N) (hP0 : 0 < N.cs.length) (hP : N.cs.length ≤ 8)
include h hP0 hP
set_option maxHeartbeats 4000000 in
theorem open_bad (p : Int) (hp : ¬ (0 ≤ p ∧ p < N.cs.length)) : Calls Try.prog 15 #[.pointer (some ⟨a, 0, none⟩), .int .i64 p] w fun e w' => e = .returned (.tuple #[.int .i64 0, .int .i64 2]) ∧ w = w' := by
  obtain ⟨bc, kc, cur, rs, vf, vh, vs, rfl, hN⟩ := h
  obtain ⟨c0, -, -, -⟩ := hN.cells
  have K0 := Lib.hid (none_at a (some ⟨bc, 0, none⟩) N.cs.length kc w c0 hP0 hP)
  have K2 := Lib.hid (isPlace_at a (some ⟨bc, 0, none⟩) N.cs.length kc w c0 p false (by simpa using hp))
  clear hN c0 hp
  go_enter Try.func15, Try.ntmps15
  go_wp2_with fail
  refine K0.out.mono ?_
  rintro e w1 ⟨rfl, rfl⟩
  go_wp2_with fail
  refine K2.out.mono ?_
  rintro e w1 ⟨rfl, rfl⟩
  clear K0 K2
  go_wp2_with fail
  go_ret2
  exact ⟨rfl, rfl⟩
set_option maxHeartbeats 4000000 in
theorem cell_bad (p c : Int) (hp : ¬ ((0 ≤ p ∧ p < N.cs.length) ∧ 0 ≤ c ∧ c < C)) : Calls Try.prog 14 #[.pointer (some ⟨a, 0, none⟩), .int .i64 p, .int .i64 c] w fun e w' => e = .returned (.tuple #[.int .i64 0, .int .i64 2]) ∧ w = w' := by
  obtain ⟨bc, kc, cur, rs, vf, vh, vs, rfl, hN⟩ := h
  obtain ⟨c0, -, -, -⟩ := hN.cells
  obtain ⟨k0, hk0⟩ := hN.cr 0 (by have := hN.rl; omega)
  have cb := (blk_cell hN.tb 0).trans hk0
  have K0 := Lib.hid (none_at a (some ⟨bc, 0, none⟩) N.cs.length kc w c0 hP0 hP)
  by_cases h1 : 0 ≤ p ∧ p < N.cs.length
  · have K2 := Lib.hid (isPlace_at a (some ⟨bc, 0, none⟩) N.cs.length kc w c0 p true (by simp; omega))
    have K3 := Lib.hid (isCell_at a bc 0 _ N.cs.length kc C k0 w c0 hP0 cb c false (by simp only [Bool.false_eq, decide_eq_false_iff_not]; exact fun h2 => hp ⟨h1, h2⟩))
    clear hN c0 hp cb hk0 h1
    go_enter Try.func14, Try.ntmps14
    go_wp2_with fail
    refine K0.out.mono ?_
    rintro e w1 ⟨rfl, rfl⟩
    go_wp2_with fail
    refine K2.out.mono ?_
    rintro e w1 ⟨rfl, rfl⟩
    go_wp2_with fail
    refine K3.out.mono ?_
    rintro e w1 ⟨rfl, rfl⟩
    clear K0 K2 K3
    go_wp2_with fail
    go_ret2
    exact ⟨rfl, rfl⟩
  · have K2 := Lib.hid (isPlace_at a (some ⟨bc, 0, none⟩) N.cs.length kc w c0 p false (by simpa using h1))
    clear hN c0 hp cb hk0 h1
    go_enter Try.func14, Try.ntmps14
    go_wp2_with fail
    refine K0.out.mono ?_
    rintro e w1 ⟨rfl, rfl⟩
    go_wp2_with fail
    refine K2.out.mono ?_
    rintro e w1 ⟨rfl, rfl⟩
    clear K0 K2
    go_wp2_with fail
    go_ret2
    exact ⟨rfl, rfl⟩
set_option maxHeartbeats 4000000 in
theorem deliver_bad (k : Int) (hk : ¬ (0 ≤ k ∧ k < N.fl.length)) (hn : N.fl.length ≤ 1000) : Calls Try.prog 12 #[.pointer (some ⟨a, 0, none⟩), .int .i64 k] w fun e w' => e = .returned (.int .i64 2) ∧ w = w' := by
  obtain ⟨bc, kc, cur, rs, vf, vh, vs, rfl, hN⟩ := h
  obtain ⟨c0, c1, -, -⟩ := hN.cells
  obtain ⟨A, cap, rfl, hA, hcap⟩ := own_form hN.fo
  have K0 := Lib.hid (none_at a (some ⟨bc, 0, none⟩) N.cs.length kc w c0 hP0 hP)
  have hl : (N.fl.length : Int) ≤ 1000 := by omega
  by_cases h1 : k < 0
  · have d1 : decide (k < 0) = true := by simpa using h1
    clear hN c0 hk hA
    go_enter Try.func12, Try.ntmps12
    go_wp2_with fail
    refine K0.out.mono ?_
    rintro e w1 ⟨rfl, rfl⟩
    clear K0
    go_wp2_with fail
    go_ret
    exact ⟨rfl, rfl⟩
  · have d1 : decide (k < 0) = false := by simpa using h1
    have h2 : (N.fl.length : Int) ≤ k := by omega
    have d2 : decide ((N.fl.length : Int) ≤ k) = true := by simpa using h2
    clear hN c0 hk hA
    go_enter Try.func12, Try.ntmps12
    go_wp2_with fail
    refine K0.out.mono ?_
    rintro e w1 ⟨rfl, rfl⟩
    clear K0
    go_wp2_with fail
    go_ret
    exact ⟨rfl, rfl⟩
def BadE (w : World) (e : Ending) (w' : World) : Prop := e = .returned (.tuple #[.int .i64 0, .int .i64 2]) ∧ Below w.heap.size w w'
set_option maxHeartbeats 4000000 in
set_option maxRecDepth 100000 in
theorem request_bad (f k t c v : Int) (hr : ¬ ((0 ≤ f ∧ f < N.cs.length) ∧ (0 ≤ t ∧ t < N.cs.length) ∧ 0 ≤ c ∧ c < C)) :
    Calls Try.prog 31 #[.pointer (some ⟨a, 0, none⟩), .agg #[.int .i64 f, .int .i64 t, .int .i64 k, .int .i64 c, .int .i64 v, .int .i64 0]] w (BadE w) := by
  obtain ⟨bc, kc, cur, rs, vf, vh, vs, rfl, hN⟩ := h
  have hb : Below w.heap.size w (w.alloc (.cells #[.int .i64 f, .int .i64 t, .int .i64 k, .int .i64 c, .int .i64 v, .int .i64 0] 74)) := (Below.refl _ _).alloc (Nat.le_refl _) _
  have hbb : (w.alloc (.cells #[.int .i64 f, .int .i64 t, .int .i64 k, .int .i64 c, .int .i64 v, .int .i64 0] 74)).heap[w.heap.size]? = some (.cells #[.int .i64 f, .int .i64 t, .int .i64 k, .int .i64 c, .int .i64 v, .int .i64 0] 74 (0, 0)) := heap_alloc_new w _
  obtain ⟨w0, hw0⟩ : ∃ u, w.alloc (.cells #[.int .i64 f, .int .i64 t, .int .i64 k, .int .i64 c, .int .i64 v, .int .i64 0] 74) = u := ⟨_, rfl⟩
  rw [hw0] at hb hbb
  have hN1 := hN.below hb
  obtain ⟨c0, -, -, -⟩ := hN1.cells
  obtain ⟨k0, hk0⟩ := hN1.cr 0 (by have := hN1.rl; omega)
  have cb := (blk_cell hN1.tb 0).trans hk0
  have b0 : w0.cell? ⟨w.heap.size, 0, none⟩ = some (.int .i64 f) := blk_cell hbb 0
  have b1 : w0.cell? ⟨w.heap.size, 1, none⟩ = some (.int .i64 t) := blk_cell hbb 1
  have b3 : w0.cell? ⟨w.heap.size, 3, none⟩ = some (.int .i64 c) := blk_cell hbb 3
  have K0 := Lib.hid (none_at a (some ⟨bc, 0, none⟩) N.cs.length kc w0 c0 hP0 hP)
  have HB := Lib.hid hb
  by_cases h1 : 0 ≤ f ∧ f < N.cs.length
  · have K1 := Lib.hid (isPlace_at a (some ⟨bc, 0, none⟩) N.cs.length kc w0 c0 f true (by simp; omega))
    by_cases h2 : 0 ≤ t ∧ t < N.cs.length
    · have K2 := Lib.hid (isPlace_at a (some ⟨bc, 0, none⟩) N.cs.length kc w0 c0 t true (by simp; omega))
      have K3 := Lib.hid (isCell_at a bc 0 _ N.cs.length kc C k0 w0 c0 hP0 cb c false (by simp only [Bool.false_eq, decide_eq_false_iff_not]; exact fun h3 => hr ⟨h1, h2, h3⟩))
      clear hN hN1 hb hbb c0 cb hk0 hr h1 h2
      go_enter Try.func31, Try.ntmps31
      go_wp2_with fail
      refine K0.out.mono ?_
      rintro e w1 ⟨rfl, rfl⟩
      go_wp2_with fail
      refine K1.out.mono ?_
      rintro e w1 ⟨rfl, rfl⟩
      go_wp2_with fail
      refine K2.out.mono ?_
      rintro e w1 ⟨rfl, rfl⟩
      go_wp2_with fail
      refine K3.out.mono ?_
      rintro e w1 ⟨rfl, rfl⟩
      clear K0 K1 K2 K3
      go_wp2_with fail
      go_ret2
      exact ⟨rfl, HB.out⟩
    · have K2 := Lib.hid (isPlace_at a (some ⟨bc, 0, none⟩) N.cs.length kc w0 c0 t false (by simpa using h2))
      clear hN hN1 hb hbb c0 cb hk0 hr h1 h2
      go_enter Try.func31, Try.ntmps31
      go_wp2_with fail
      refine K0.out.mono ?_
      rintro e w1 ⟨rfl, rfl⟩
      go_wp2_with fail
      refine K1.out.mono ?_
      rintro e w1 ⟨rfl, rfl⟩
      go_wp2_with fail
      refine K2.out.mono ?_
      rintro e w1 ⟨rfl, rfl⟩
      clear K0 K1 K2
      go_wp2_with fail
      go_ret2
      exact ⟨rfl, HB.out⟩
  · have K1 := Lib.hid (isPlace_at a (some ⟨bc, 0, none⟩) N.cs.length kc w0 c0 f false (by simpa using h1))
    clear hN hN1 hb hbb c0 cb hk0 hr h1
    go_enter Try.func31, Try.ntmps31
    go_wp2_with fail
    refine K0.out.mono ?_
    rintro e w1 ⟨rfl, rfl⟩
    go_wp2_with fail
    refine K1.out.mono ?_
    rintro e w1 ⟨rfl, rfl⟩
    clear K0 K1
    go_wp2_with fail
    go_ret2
    exact ⟨rfl, HB.out⟩
variable (f t c v : Int) (hr : ¬ ((0 ≤ f ∧ f < N.cs.length) ∧ (0 ≤ t ∧ t < N.cs.length) ∧ 0 ≤ c ∧ c < C))
include hr
set_option maxHeartbeats 4000000 in
theorem put_bad : Calls Try.prog 28 #[.pointer (some ⟨a, 0, none⟩), .int .i64 f, .int .i64 t, .int .i64 c, .int .i64 v] w (BadE w) := by
  have K := Lib.hid (request_bad a C T N w h hP0 hP f 1 t c v hr)
  clear h hP0 hP hr
  go_enter Try.func28, Try.ntmps28
  go_wp2_with fail
  refine K.out.mono ?_
  rintro e w2 ⟨rfl, hb⟩
  have HB := Lib.hid hb
  clear hb K
  go_wp2_with fail
  go_ret2
  exact ⟨rfl, HB.out⟩
set_option maxHeartbeats 4000000 in
theorem add_bad : Calls Try.prog 10 #[.pointer (some ⟨a, 0, none⟩), .int .i64 f, .int .i64 t, .int .i64 c, .int .i64 v] w (BadE w) := by
  have K := Lib.hid (request_bad a C T N w h hP0 hP f 3 t c v hr)
  clear h hP0 hP hr
  go_enter Try.func10, Try.ntmps10
  go_wp2_with fail
  refine K.out.mono ?_
  rintro e w2 ⟨rfl, hb⟩
  have HB := Lib.hid hb
  clear hb K
  go_wp2_with fail
  go_ret2
  exact ⟨rfl, HB.out⟩
omit v in
set_option maxHeartbeats 4000000 in
theorem get_bad : Calls Try.prog 29 #[.pointer (some ⟨a, 0, none⟩), .int .i64 f, .int .i64 t, .int .i64 c] w (BadE w) := by
  have K := Lib.hid (request_bad a C T N w h hP0 hP f 2 t c 0 hr)
  clear h hP0 hP hr
  go_enter Try.func29, Try.ntmps29
  go_wp2_with fail
  refine K.out.mono ?_
  rintro e w2 ⟨rfl, hb⟩
  have HB := Lib.hid hb
  clear hb K
  go_wp2_with fail
  go_ret2
  exact ⟨rfl, HB.out⟩
end
set_option maxHeartbeats 4000000 in
theorem get_at (a C : Nat) (T : List Nat) (N : Nt.Net) (f : Int) (p c : Nat) (w : World) (h : NetX w a C T N) (hce : ∀ r ∈ N.cs, r.length = C) (hP : N.cs.length ≤ 8) (f0 : 0 ≤ f) (f1 : f < N.cs.length) (hp : p < N.cs.length) (hc : c < C) (hn : N.hs.length < 1000) (hf : N.fl.length ≤ 100000) (hs : N.sent.length ≤ 100000) :
    Calls Try.prog 29 #[.pointer (some ⟨a, 0, none⟩), .int .i64 f, .int .i64 p, .int .i64 c] w (ReqE a C T N ⟨f, p, 2, c, 0, 0⟩ w) := by
  have K := Lib.hid (request_at a C T N f 2 0 p c w h hce hP (by omega) f0 f1 hp hc hn hf hs)
  clear h hce hP f0 f1 hp hc hn hf hs
  go_enter Try.func29, Try.ntmps29
  go_wp2_with fail
  refine K.out.mono ?_
  rintro e w2 ⟨rfl, hq⟩
  have HQ := Lib.hid hq
  clear hq K
  go_wp2_with fail
  go_ret2
  exact ⟨rfl, HQ.out⟩
end Go.Proofs.Ytimmmbjdaibplaa
