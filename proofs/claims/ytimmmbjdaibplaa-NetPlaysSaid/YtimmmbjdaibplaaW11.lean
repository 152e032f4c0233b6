/-
  Layer 16: the walk of Drain.
-/
import Derived.Test.YtimmmbjdaibplaaW10
namespace Go.Proofs.Ytimmmbjdaibplaa
open Go.RowKit
open Nt
set_option linter.unusedVariables false
set_option linter.unusedSimpArgs false

def stepD (N : Nt.Net) : Nt.Net := match N.fl with
  | [] => N
  | m :: _ => delN N 0 m
def iterD : Nat → Nt.Net → Nt.Net
  | 0, N => N
  | j + 1, N => stepD (iterD j N)
theorem stepD_at {N : Nt.Net} (h : 0 < N.fl.length) : stepD N = delN N 0 N.fl[0] := by
  unfold stepD
  split
  · rename_i e; rw [e] at h; cases h
  · rename_i m r e
    congr 1
    simp [e]
theorem todo_zero {N : Nt.Net} (h : todo N = 0) : N.fl.length = 0 := by unfold todo at h; omega
theorem todo_none {N : Nt.Net} (h : N.fl.length = 0) : todo N = 0 := by
  unfold todo reqs
  rw [List.eq_nil_of_length_eq_zero h]
  rfl
/-- how far the loop is -/
structure Drn (a P C : Nat) (T : List Nat) (N : Nt.Net) (w wr : World) (j : Nat) : Prop where
  po : NetPost a C T (iterD j N) w wr
  wf : Wf P C (iterD j N)
  td : todo (iterD j N) + j = todo N
theorem Drn.next {a P C : Nat} {T : List Nat} {N : Nt.Net} {w wr w' : World} {j : Nat} (h : Drn a P C T N w wr j) (hl : 0 < (iterD j N).fl.length) {T' : List Nat} (hg : Grows T T' w) (hk : Keeps T w wr) (hp : NetPost a C T' (delN (iterD j N) 0 (iterD j N).fl[0]) wr w') : Drn a P C T N w w' (j + 1) := by
  refine ⟨?_, ?_, ?_⟩
  · have := NetPost.from hk hg hp
    rw [← stepD_at hl] at this
    exact this
  · show Wf P C (stepD (iterD j N))
    rw [stepD_at hl]
    exact (wf_del h.wf hl).1
  · have h1 := todo_del hl
    have h2 := h.td
    show todo (stepD (iterD j N)) + (j + 1) = todo N
    rw [stepD_at hl]
    omega
def DrainE (a C : Nat) (T : List Nat) (N : Nt.Net) (w : World) (e : Ending) (w' : World) : Prop := e = .returned (.tuple #[.int .i64 (todo N), .int .i64 0]) ∧ NetPost a C T (iterD (todo N) N) w w'
theorem drn_end {a P C : Nat} {T : List Nat} {N : Nt.Net} {w wr : World} {j : Nat} (h : Drn a P C T N w wr j) (hl : (iterD j N).fl.length = 0) : DrainE a C T N w (.returned (.tuple #[.int .i64 j, .int .i64 0])) wr := by
  have h1 := h.td
  rw [todo_none hl, Nat.zero_add] at h1
  exact ⟨by rw [h1], by rw [← h1]; exact h.po⟩

set_option maxHeartbeats 8000000 in
set_option maxRecDepth 100000 in
theorem drain_at (a P C : Nat) (T : List Nat) (N : Nt.Net) (w : World) (h : NetX w a C T N) (hw : Wf P C N) (hP0 : 1 ≤ P) (hP : P ≤ 8) :
    Calls Try.prog 30 #[.pointer (some ⟨a, 0, none⟩)] w (DrainE a C T N w) := by
  have h0 : Drn a P C T N w w 0 := ⟨⟨T, h, Grows.refl _ _, Keeps.refl _ _⟩, hw, rfl⟩
  obtain ⟨bc, kc, cur, rs, vf, vh, vs, hT, hN⟩ := h
  obtain ⟨c0, -, -, -⟩ := hN.cells
  have hpl := hw.pl
  have K0 := Lib.hid (none_at a (some ⟨bc, 0, none⟩) N.cs.length kc w c0 (by omega) (by omega))
  have H0 := Lib.hid h0
  have ht : todo N ≤ 2000 := by
    unfold todo reqs
    have := hw.fl
    have := hw.hs
    have := List.length_filter_le (fun m : Msg => decide (m.kind ≠ 4)) N.fl
    omega
  clear hN hT h0 c0 hpl hw
  go_enter Try.func30, Try.ntmps30
  go_wp2_with fail
  refine K0.out.mono ?_
  rintro e w1 ⟨rfl, rfl⟩
  clear K0
  go_wp2_with fail
  go_loopw [4] (fun x wr => ∃ j : Nat, j ≤ todo N ∧ x = .int .i64 j ∧ Drn a P C T N w wr j) (fun x _ => todo N - (intOf x).toNat)
  case atStart => exact ⟨0, Nat.zero_le _, rfl, H0.out⟩
  case round =>
    obtain ⟨j, hj, rfl, hD⟩ := hrel
    obtain ⟨T', hx, hg, hk⟩ := hD.po
    have htd := hD.td
    obtain ⟨M, hM⟩ : ∃ M, iterD j N = M := ⟨_, rfl⟩
    have hwf := hD.wf
    rw [hM] at hx htd hwf
    have hx' := hx
    obtain ⟨bc', kc', cur', rs', vf', vh', vs', hT', hN'⟩ := hx
    obtain ⟨A, cap, rfl, hA, hcap⟩ := own_form hN'.fo
    obtain ⟨-, c1, -, -⟩ := hN'.cells
    have hj0 : (0 : Int) ≤ (j : Int) := by omega
    have hj1 : (j : Int) ≤ 2000 := by omega
    by_cases hl : 0 < M.fl.length
    · have hd : decide ((0 : Int) < (M.fl.length : Int)) = true := by simp; omega
      have hd' : (0 : Int) < (M.fl.length : Int) := by omega
      have KD := Lib.hid (deliver_at a P C T' M 0 wr hx' hwf hP hl)
      have hjt : j + 1 ≤ todo N := by
        have : todo M ≠ 0 := fun e => by have := todo_zero e; omega
        omega
      have KE := Lib.hid (fun (w' : World) (hp : NetPost a C T' (delN M 0 M.fl[0]) wr w') => Drn.next (w' := w') hD (by rw [hM]; exact hl) hg hk (by subst hM; exact hp))
      clear hN' hx' hD hg hk hwf htd hM hT' hA hcap
      go_wp2_with fail
      refine KD.out.mono ?_
      rintro e w2 ⟨rfl, hp⟩
      have KE2 := Lib.hid (KE.out _ hp)
      clear hp KE KD c1
      go_wp2_with fail
      exact ⟨⟨j + 1, hjt, by go_num, KE2.out⟩, by simp [intOf]; omega⟩
    · have hl0 : M.fl.length = 0 := by omega
      have KE := Lib.hid (drn_end hD (by rw [hM]; exact hl0))
      rw [hl0] at c1
      clear hN' hx' hD hg hk hwf htd hM hT' hA hcap hl0 hl
      go_wp2_with fail
      go_ret2
      exact KE.out
end Go.Proofs.Ytimmmbjdaibplaa
