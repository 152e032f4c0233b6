/-
  Layer 16: the walks of Put, Get, Add, find, Value, Done, Cell.
-/
import Derived.Test.YtimmmbjdaibplaaW5
namespace Go.Proofs.Ytimmmbjdaibplaa
open Go.RowKit
open Nt
set_option linter.unusedVariables false
set_option linter.unusedSimpArgs false

section
variable (a C : Nat) (T : List Nat) (N : Nt.Net) (f v : Int) (p c : Nat) (w : World) (h : NetX w a C T N) (hce : ∀ r ∈ N.cs, r.length = C) (hP : N.cs.length ≤ 8) (f0 : 0 ≤ f) (f1 : f < N.cs.length) (hp : p < N.cs.length) (hc : c < C) (hn : N.hs.length < 1000) (hf : N.fl.length ≤ 100000) (hs : N.sent.length ≤ 100000)
include h hce hP f0 f1 hp hc hn hf hs
set_option maxHeartbeats 4000000 in
theorem add_at : Calls Try.prog 10 #[.pointer (some ⟨a, 0, none⟩), .int .i64 f, .int .i64 p, .int .i64 c, .int .i64 v] w (ReqE a C T N ⟨f, p, 3, c, v, 0⟩ w) := by
  have K := Lib.hid (request_at a C T N f 3 v p c w h hce hP (by omega) f0 f1 hp hc hn hf hs)
  clear h hce hP f0 f1 hp hc hn hf hs
  go_enter Try.func10, Try.ntmps10
  go_wp2_with fail
  refine K.out.mono ?_
  rintro e w2 ⟨rfl, hq⟩
  have HQ := Lib.hid hq
  clear hq K
  go_wp2_with fail
  go_ret2
  exact ⟨rfl, HQ.out⟩
set_option maxHeartbeats 4000000 in
theorem put_at : Calls Try.prog 28 #[.pointer (some ⟨a, 0, none⟩), .int .i64 f, .int .i64 p, .int .i64 c, .int .i64 v] w (ReqE a C T N ⟨f, p, 1, c, v, 0⟩ w) := by
  have K := Lib.hid (request_at a C T N f 1 v p c w h hce hP (by omega) f0 f1 hp hc hn hf hs)
  clear h hce hP f0 f1 hp hc hn hf hs
  go_enter Try.func28, Try.ntmps28
  go_wp2_with fail
  refine K.out.mono ?_
  rintro e w2 ⟨rfl, hq⟩
  have HQ := Lib.hid hq
  clear hq K
  go_wp2_with fail
  go_ret2
  exact ⟨rfl, HQ.out⟩
end

theorem cells_new3 (w : World) (x y z : Value) (t : TypeId) : (w.alloc (.cells #[x, y, z] t)).cell? ⟨w.heap.size, 0, none⟩ = some x ∧ (w.alloc (.cells #[x, y, z] t)).cell? ⟨w.heap.size, 1, none⟩ = some y ∧ (w.alloc (.cells #[x, y, z] t)).cell? ⟨w.heap.size, 2, none⟩ = some z :=
  ⟨blk_cell (heap_alloc_new w _) 0, blk_cell (heap_alloc_new w _) 1, blk_cell (heap_alloc_new w _) 2⟩
def FindE (x : Hd) (z : Int) (w : World) (e : Ending) (w' : World) : Prop := e = .returned (.tuple #[.agg #[.int .i64 x.frm, .int .i64 x.val, .bool x.dn], .int .i64 z]) ∧ Below w.heap.size w w'
set_option maxHeartbeats 4000000 in
set_option maxRecDepth 100000 in
theorem find_at (a C : Nat) (T : List Nat) (N : Nt.Net) (j : Nat) (w : World) (h : NetX w a C T N) (hP0 : 0 < N.cs.length) (hP : N.cs.length ≤ 8) (hj : j < N.hs.length) (hn : N.hs.length ≤ 1000) :
    Calls Try.prog 38 #[.pointer (some ⟨a, 0, none⟩), .int .i64 ((j : Int) + 1)] w (FindE N.hs[j] 0 w) := by
  obtain ⟨bc, kc, cur, rs, vf, vh, vs, rfl, hN⟩ := h
  have hb : Below w.heap.size w (w.alloc (.cells #[.int .i64 0, .int .i64 0, .bool false] 81)) := (Below.refl _ _).alloc (Nat.le_refl _) _
  have hN1 := hN.below hb
  obtain ⟨A, cap, rfl, hA, hcap⟩ := own_form hN1.ho
  obtain ⟨g, rfl⟩ := hA (by omega)
  obtain ⟨c0, -, c2, -⟩ := hN1.cells
  have yo := hN1.ho
  have g0 := own_at yo ((flat_at hdV_len N.hs j hj 0 (by omega)).trans rfl)
  have g1 := own_at yo ((flat_at hdV_len N.hs j hj 1 (by omega)).trans rfl)
  have g2 := own_at yo ((flat_at hdV_len N.hs j hj 2 (by omega)).trans rfl)
  simp only [Nat.add_zero] at g0
  have K := Lib.hid (none_at a (some ⟨bc, 0, none⟩) N.cs.length kc _ c0 hP0 hP)
  have hj0 : (0 : Int) ≤ (j : Int) := by omega
  have hj1 : (j : Int) < (N.hs.length : Int) := by omega
  have hj2 : (N.hs.length : Int) ≤ 1000 := by omega
  have hj3 : ¬ ((N.hs.length : Int) < (j : Int) + 1) := by omega
  obtain ⟨x, hx⟩ : ∃ x, N.hs[j] = x := ⟨_, rfl⟩
  rw [hx] at g0 g1 g2 ⊢
  clear hN hN1 yo hx hb hA c0
  go_enter Try.func38, Try.ntmps38
  go_wp2_with fail
  refine K.out.mono ?_
  rintro e w2 ⟨rfl, rfl⟩
  clear K
  go_wp2_with fail
  have r0 := cells_new3 w (.int .i64 x.frm) (.int .i64 x.val) (.bool x.dn) 81
  obtain ⟨r0, r1, r2⟩ := r0
  exact bodyPost_ret (v := .tuple #[.agg #[.int .i64 x.frm, .int .i64 x.val, .bool x.dn], .int .i64 0]) (by simp [results, Try.results38, go_sem, r0, r1, r2]) rfl ⟨rfl, (Below.refl _ _).alloc (Nat.le_refl _) _⟩

set_option maxHeartbeats 4000000 in
theorem done_of (a C : Nat) (T : List Nat) (N : Nt.Net) (j : Nat) (w : World) (h : NetX w a C T N) (hP0 : 0 < N.cs.length) (hP : N.cs.length ≤ 8) (hj : j < N.hs.length) (hn : N.hs.length ≤ 1000) :
    Calls Try.prog 16 #[.pointer (some ⟨a, 0, none⟩), .int .i64 ((j : Int) + 1)] w fun e w' => e = .returned (.tuple #[.bool N.hs[j].dn, .int .i64 0]) ∧ Below w.heap.size w w' := by
  have K := Lib.hid (find_at a C T N j w h hP0 hP hj hn)
  obtain ⟨x, hx⟩ : ∃ x, N.hs[j] = x := ⟨_, rfl⟩
  rw [hx] at K ⊢
  clear h hP0 hP hj hn hx
  go_enter Try.func16, Try.ntmps16
  go_wp2_with fail
  refine K.out.mono ?_
  rintro e w2 ⟨rfl, hb⟩
  have HB := Lib.hid hb
  obtain ⟨r0, r1, r2⟩ := cells_new3 w2 (.int .i64 x.frm) (.int .i64 x.val) (.bool x.dn) 81
  clear hb K
  go_wp2_with fail
  go_ret2
  exact ⟨rfl, HB.out.alloc HB.out.size _⟩
set_option maxHeartbeats 4000000 in
theorem value_of (a C : Nat) (T : List Nat) (N : Nt.Net) (j : Nat) (w : World) (h : NetX w a C T N) (hP0 : 0 < N.cs.length) (hP : N.cs.length ≤ 8) (hj : j < N.hs.length) (hn : N.hs.length ≤ 1000) (hd : N.hs[j].dn = true) :
    Calls Try.prog 13 #[.pointer (some ⟨a, 0, none⟩), .int .i64 ((j : Int) + 1)] w fun e w' => e = .returned (.tuple #[.int .i64 N.hs[j].val, .int .i64 0]) ∧ Below w.heap.size w w' := by
  have K := Lib.hid (find_at a C T N j w h hP0 hP hj hn)
  obtain ⟨x, hx⟩ : ∃ x, N.hs[j] = x := ⟨_, rfl⟩
  rw [hx] at K hd ⊢
  obtain ⟨xf, xv, xd⟩ := x
  simp only at hd
  subst hd
  clear h hP0 hP hj hn hx
  go_enter Try.func13, Try.ntmps13
  go_wp2_with fail
  refine K.out.mono ?_
  rintro e w2 ⟨rfl, hb⟩
  have HB := Lib.hid hb
  obtain ⟨r0, r1, r2⟩ := cells_new3 w2 (.int .i64 xf) (.int .i64 xv) (.bool true) 81
  clear hb K
  go_wp2_with fail
  go_ret2
  exact ⟨rfl, HB.out.alloc HB.out.size _⟩
set_option maxHeartbeats 4000000 in
set_option maxRecDepth 100000 in
theorem cell_of (a C : Nat) (T : List Nat) (N : Nt.Net) (p c : Nat) (w : World) (h : NetX w a C T N) (hce : ∀ r ∈ N.cs, r.length = C) (hP : N.cs.length ≤ 8) (hp : p < N.cs.length) (hc : c < C) :
    Calls Try.prog 14 #[.pointer (some ⟨a, 0, none⟩), .int .i64 p, .int .i64 c] w fun e w' => e = .returned (.tuple #[.int .i64 (getC N.cs p c), .int .i64 0]) ∧ w = w' := by
  obtain ⟨bc, kc, cur, rs, vf, vh, vs, rfl, hN⟩ := h
  obtain ⟨c0, -, -, -⟩ := hN.cells
  have hrl := hN.rl
  obtain ⟨k0, hk0⟩ := hN.cr 0 (by omega)
  have cb : w.cell? ⟨bc, 0, none⟩ = some (.slice (some ⟨rs[0]'(by omega), 0, none⟩) C k0) := (blk_cell hN.tb 0).trans hk0
  have K0 := Lib.hid (none_at a (some ⟨bc, 0, none⟩) N.cs.length kc w c0 (by omega) hP)
  have K2 := Lib.hid (isPlace_at a (some ⟨bc, 0, none⟩) N.cs.length kc w c0 p true (by simp; omega))
  have K3 := Lib.hid (isCell_at a bc 0 _ N.cs.length kc C k0 w c0 (by omega) cb c true (by simp; omega))
  have hpr : p < rs.length := by omega
  obtain ⟨kr, hkr⟩ := hN.cr p hpr
  have yb : w.cell? ⟨bc, p, none⟩ = some (.slice (some ⟨rs[p], 0, none⟩) C kr) := (blk_cell hN.tb p).trans hkr
  have hcl : c < N.cs[p].length := by rw [hce _ (List.getElem_mem hp)]; exact hc
  have yc := (hN.row p hpr hp).cell hcl
  have e1 : N.cs.getD p [] = N.cs[p] := by simp [List.getD, List.getElem?_eq_getElem hp]
  have e2 : (N.cs[p]).getD c 0 = N.cs[p][c] := by simp [List.getD, List.getElem?_eq_getElem hcl]
  have e : getC N.cs p c = N.cs[p][c] := by unfold getC; rw [e1, e2]
  rw [e]
  obtain ⟨x, hx⟩ : ∃ x, N.cs[p][c] = x := ⟨_, rfl⟩
  rw [hx] at yc ⊢
  have hp0 : (0 : Int) ≤ (p : Int) := by omega
  have hp1 : (p : Int) < (N.cs.length : Int) := by omega
  have hc0 : (0 : Int) ≤ (c : Int) := by omega
  have hc1 : (c : Int) < (C : Int) := by omega
  clear hN hx e e1 e2 cb hk0 hkr hrl hce
  go_enter Try.func14, Try.ntmps14
  go_wp2_with fail
  refine K0.out.mono ?_
  rintro e w1 ⟨rfl, rfl⟩
  go_wp2_with fail
  refine K2.out.mono ?_
  rintro e w1 ⟨rfl, rfl⟩
  go_wp2_with fail
  refine K3.out.mono ?_
  rintro e w1 ⟨rfl, rfl⟩
  clear K0 K2 K3
  go_wp2_with fail
  go_ret2
  exact ⟨rfl, rfl⟩
end Go.Proofs.Ytimmmbjdaibplaa
