/-
  Layer 16: the walks of find, Done, Value, Open, Cell, the requests and Deliver at whatever ints.
-/
import Derived.Test.YtimmmbjdaibplaaR4
namespace Go.Proofs.Ytimmmbjdaibplaa
open Go.RowKit
open Nt
set_option linter.unusedVariables false
set_option linter.unusedSimpArgs false

def hIn (l : List Hd) (k : Int) : Bool := decide (1 ≤ k ∧ k ≤ (l.length : Int))
def findH (l : List Hd) (k : Int) : Hd := if hIn l k = true then l.getD (k.toNat - 1) ⟨0, 0, false⟩ else ⟨0, 0, false⟩
def findX (l : List Hd) (k : Int) : Int := if hIn l k = true then 0 else 5
theorem find_in {l : List Hd} {k : Int} (h : 1 ≤ k ∧ k ≤ (l.length : Int)) : ∃ j : Nat, ∃ hj : j < l.length, k = (j : Int) + 1 ∧ findH l k = l[j] ∧ findX l k = 0 := by
  have hj : k.toNat - 1 < l.length := by omega
  refine ⟨k.toNat - 1, hj, by omega, ?_, ?_⟩
  · unfold findH hIn
    rw [if_pos (by simpa using h)]
    simp [List.getD, List.getElem?_eq_getElem hj]
  · unfold findX hIn
    rw [if_pos (by simpa using h)]
theorem find_out {l : List Hd} {k : Int} (h : ¬ (1 ≤ k ∧ k ≤ (l.length : Int))) : findH l k = ⟨0, 0, false⟩ ∧ findX l k = 5 := by
  unfold findH findX hIn
  rw [decide_eq_false h]
  simp
def valR (l : List Hd) (k : Int) : Int := if (findH l k).dn = true then (findH l k).val else 0
def valX (l : List Hd) (k : Int) : Int := if findX l k = 0 then (if (findH l k).dn = true then 0 else 171) else 5
set_option maxHeartbeats 4000000 in
set_option maxRecDepth 100000 in
theorem find_any (a C : Nat) (T : List Nat) (N : Nt.Net) (k : Int) (w : World) (h : NetX w a C T N) (hP0 : 0 < N.cs.length) (hP : N.cs.length ≤ 8) (hn : N.hs.length ≤ 1000) :
    Calls Try.prog 38 #[.pointer (some ⟨a, 0, none⟩), .int .i64 k] w (FindE (findH N.hs k) (findX N.hs k) w) := by
  by_cases hin : 1 ≤ k ∧ k ≤ (N.hs.length : Int)
  · obtain ⟨j, hj, rfl, e1, e2⟩ := find_in hin
    rw [e1, e2]
    exact find_at a C T N j w h hP0 hP hj hn
  · obtain ⟨e1, e2⟩ := find_out hin
    rw [e1, e2]
    obtain ⟨bc, kc, cur, rs, vf, vh, vs, rfl, hN⟩ := h
    have hb : Below w.heap.size w (w.alloc (.cells #[.int .i64 0, .int .i64 0, .bool false] 81)) := (Below.refl _ _).alloc (Nat.le_refl _) _
    have hN1 := hN.below hb
    obtain ⟨A, cap, rfl, hA, hcap⟩ := own_form hN1.ho
    obtain ⟨c0, -, c2, -⟩ := hN1.cells
    have K := Lib.hid (none_at a (some ⟨bc, 0, none⟩) N.cs.length kc _ c0 hP0 hP)
    have hj2 : (N.hs.length : Int) ≤ 1000 := by omega
    obtain ⟨r0, r1, r2⟩ := cells_new3 w (.int .i64 0) (.int .i64 0) (.bool false) 81
    by_cases h1 : k < 1
    · have d1 : decide (k < 1) = true := by simpa using h1
      clear hN hN1 hb hA c0 e1 e2 hin
      go_enter Try.func38, Try.ntmps38
      go_wp2_with fail
      refine K.out.mono ?_
      rintro e w2 ⟨rfl, rfl⟩
      clear K
      go_wp2_with fail
      exact bodyPost_ret (v := .tuple #[.agg #[.int .i64 0, .int .i64 0, .bool false], .int .i64 5]) (by simp [results, Try.results38, go_sem, r0, r1, r2]) rfl ⟨rfl, (Below.refl _ _).alloc (Nat.le_refl _) _⟩
    · have d1 : decide (k < 1) = false := by simpa using h1
      have h2 : (N.hs.length : Int) < k := by omega
      have d2 : decide ((N.hs.length : Int) < k) = true := by simpa using h2
      clear hN hN1 hb hA c0 e1 e2 hin
      go_enter Try.func38, Try.ntmps38
      go_wp2_with fail
      refine K.out.mono ?_
      rintro e w2 ⟨rfl, rfl⟩
      clear K
      go_wp2_with fail
      exact bodyPost_ret (v := .tuple #[.agg #[.int .i64 0, .int .i64 0, .bool false], .int .i64 5]) (by simp [results, Try.results38, go_sem, r0, r1, r2]) rfl ⟨rfl, (Below.refl _ _).alloc (Nat.le_refl _) _⟩
def DoneR (l : List Hd) (k : Int) (w : World) (e : Ending) (w' : World) : Prop := e = .returned (.tuple #[.bool (findH l k).dn, .int .i64 (findX l k)]) ∧ Below w.heap.size w w'
def ValR (l : List Hd) (k : Int) (w : World) (e : Ending) (w' : World) : Prop := e = .returned (.tuple #[.int .i64 (valR l k), .int .i64 (valX l k)]) ∧ Below w.heap.size w w'
set_option maxHeartbeats 4000000 in
theorem done_any (a C : Nat) (T : List Nat) (N : Nt.Net) (k : Int) (w : World) (h : NetX w a C T N) (hP0 : 0 < N.cs.length) (hP : N.cs.length ≤ 8) (hn : N.hs.length ≤ 1000) :
    Calls Try.prog 16 #[.pointer (some ⟨a, 0, none⟩), .int .i64 k] w (DoneR N.hs k w) := by
  have K := Lib.hid (find_any a C T N k w h hP0 hP hn)
  unfold DoneR
  obtain ⟨x, hx⟩ : ∃ x, findH N.hs k = x := ⟨_, rfl⟩
  obtain ⟨z, hz⟩ : ∃ x, findX N.hs k = x := ⟨_, rfl⟩
  rw [hx, hz] at K
  rw [hx, hz]
  clear h hP0 hP hn hx hz
  go_enter Try.func16, Try.ntmps16
  go_wp2_with fail
  refine K.out.mono ?_
  rintro e w2 ⟨rfl, hb⟩
  have HB := Lib.hid hb
  obtain ⟨r0, r1, r2⟩ := cells_new3 w2 (.int .i64 x.frm) (.int .i64 x.val) (.bool x.dn) 81
  clear hb K
  go_wp2_with fail
  go_ret2
  exact ⟨rfl, HB.out.alloc HB.out.size _⟩
set_option maxHeartbeats 4000000 in
theorem value_any (a C : Nat) (T : List Nat) (N : Nt.Net) (k : Int) (w : World) (h : NetX w a C T N) (hP0 : 0 < N.cs.length) (hP : N.cs.length ≤ 8) (hn : N.hs.length ≤ 1000) :
    Calls Try.prog 13 #[.pointer (some ⟨a, 0, none⟩), .int .i64 k] w (ValR N.hs k w) := by
  have K := Lib.hid (find_any a C T N k w h hP0 hP hn)
  unfold ValR valR valX
  by_cases hin : 1 ≤ k ∧ k ≤ (N.hs.length : Int)
  · obtain ⟨j, hj, -, e1, e2⟩ := find_in hin
    rw [e2] at K ⊢
    obtain ⟨x, hx⟩ : ∃ x, findH N.hs k = x := ⟨_, rfl⟩
    rw [hx] at K
    rw [hx, if_pos rfl]
    obtain ⟨xf, xv, xd⟩ := x
    clear h hP0 hP hn hx e1 e2 hin
    cases xd
    · simp only [Bool.false_eq_true, if_false]
      go_enter Try.func13, Try.ntmps13
      go_wp2_with fail
      refine K.out.mono ?_
      rintro e w2 ⟨rfl, hb⟩
      have HB := Lib.hid hb
      obtain ⟨r0, r1, r2⟩ := cells_new3 w2 (.int .i64 xf) (.int .i64 xv) (.bool false) 81
      clear hb K
      go_wp2_with fail
      go_ret2
      exact ⟨rfl, HB.out.alloc HB.out.size _⟩
    · simp only [if_true]
      go_enter Try.func13, Try.ntmps13
      go_wp2_with fail
      refine K.out.mono ?_
      rintro e w2 ⟨rfl, hb⟩
      have HB := Lib.hid hb
      obtain ⟨r0, r1, r2⟩ := cells_new3 w2 (.int .i64 xf) (.int .i64 xv) (.bool true) 81
      clear hb K
      go_wp2_with fail
      go_ret2
      exact ⟨rfl, HB.out.alloc HB.out.size _⟩
  · obtain ⟨e1, e2⟩ := find_out hin
    rw [e1, e2] at K
    rw [e1, e2, if_neg (by decide)]
    simp only [Bool.false_eq_true, if_false]
    clear h hP0 hP hn e1 e2 hin
    go_enter Try.func13, Try.ntmps13
    go_wp2_with fail
    refine K.out.mono ?_
    rintro e w2 ⟨rfl, hb⟩
    have HB := Lib.hid hb
    obtain ⟨r0, r1, r2⟩ := cells_new3 w2 (.int .i64 0) (.int .i64 0) (.bool false) 81
    clear hb K
    go_wp2_with fail
    go_ret2
    exact ⟨rfl, HB.out.alloc HB.out.size _⟩
end Go.Proofs.Ytimmmbjdaibplaa
