/-
  Layer 17: the walk of the document's Drain.
-/
import Derived.Test.YtimmmbjdaibplaaS4
namespace Go.Proofs.Ytimmmbjdaibplaa
open Go.RowKit
open Nt
set_option linter.unusedVariables false
set_option linter.unusedSimpArgs false

theorem RefPost.from {w wr w' : World} {b P C : Nat} {T T' : List Nat} {N' : Nt.Net} (hk : Keeps T w wr) (hg : Grows T T' w) (hp : RefPost b P C T' N' wr w') : RefPost b P C T N' w w' := by
  obtain ⟨T'', hx, hg', hk'⟩ := hp
  exact ⟨T'', hx, hg.trans hg' hk.size, hk.trans hk' hg⟩
theorem RefPost.refl {w : World} {b P C : Nat} {T : List Nat} {N : Nt.Net} (h : RefX w b P C T N) : RefPost b P C T N w w := ⟨T, h, Grows.refl _ _, Keeps.refl _ _⟩
theorem cn_step {P C : Nat} {N : Nt.Net} (hw : Wf P C N) (hcn : Cn P N) : Cn P (stepD N) := by
  by_cases hl : 0 < N.fl.length
  · rw [stepD_at hl]
    exact cn_del hw hcn hl
  · have : stepD N = N := by
      unfold stepD
      rw [List.eq_nil_of_length_eq_zero (by omega : N.fl.length = 0)]
    rw [this]
    exact hcn
theorem wf_step {P C : Nat} {N : Nt.Net} (hw : Wf P C N) : Wf P C (stepD N) := by
  by_cases hl : 0 < N.fl.length
  · rw [stepD_at hl]
    exact (wf_del hw hl).1
  · have : stepD N = N := by
      unfold stepD
      rw [List.eq_nil_of_length_eq_zero (by omega : N.fl.length = 0)]
    rw [this]
    exact hw
theorem both_iter {P C : Nat} {N : Nt.Net} (hw : Wf P C N) (hcn : Cn P N) : ∀ j, Wf P C (iterD j N) ∧ Cn P (iterD j N)
  | 0 => ⟨hw, hcn⟩
  | j + 1 => ⟨wf_step (both_iter hw hcn j).1, cn_step (both_iter hw hcn j).1 (both_iter hw hcn j).2⟩
/-- how far the loop is -/
structure RDrn (b P C : Nat) (T : List Nat) (N : Nt.Net) (w wr : World) (j : Nat) : Prop where
  po : RefPost b P C T (iterD j N) w wr
  td : todo (iterD j N) + j = todo N
theorem RDrn.next {b P C : Nat} {T : List Nat} {N : Nt.Net} {w wr w' : World} {j : Nat} (h : RDrn b P C T N w wr j) (hl : 0 < (iterD j N).fl.length) {T' : List Nat} (hg : Grows T T' w) (hk : Keeps T w wr) (hp : RefPost b P C T' (delN (iterD j N) 0 (iterD j N).fl[0]) wr w') : RDrn b P C T N w w' (j + 1) := by
  refine ⟨?_, ?_⟩
  · have := RefPost.from hk hg hp
    rw [← stepD_at hl] at this
    exact this
  · have h1 := todo_del hl
    have h2 := h.td
    show todo (stepD (iterD j N)) + (j + 1) = todo N
    rw [stepD_at hl]
    omega
def RDrainE (b P C : Nat) (T : List Nat) (N : Nt.Net) (w : World) (e : Ending) (w' : World) : Prop := e = .returned (.int .i64 (todo N)) ∧ RefPost b P C T (iterD (todo N) N) w w'
theorem rdrn_end {b P C : Nat} {T : List Nat} {N : Nt.Net} {w wr : World} {j : Nat} (h : RDrn b P C T N w wr j) (hl : (iterD j N).fl.length = 0) : RDrainE b P C T N w (.returned (.int .i64 j)) wr := by
  have h1 := h.td
  rw [todo_none hl, Nat.zero_add] at h1
  exact ⟨by rw [h1], by rw [← h1]; exact h.po⟩

set_option maxHeartbeats 8000000 in
set_option maxRecDepth 100000 in
theorem rdrain_at (b P C : Nat) (T : List Nat) (N : Nt.Net) (w : World) (h : RefX w b P C T N) (hw : Wf P C N) (hcn : Cn P N) (hP : P ≤ 8) (hC : C ≤ 64) :
    Calls Try.prog 56 #[.pointer (some ⟨b, 0, none⟩)] w (RDrainE b P C T N w) := by
  have H0 := Lib.hid (⟨.refl h, rfl⟩ : RDrn b P C T N w w 0)
  have HB := Lib.hid (fun j => both_iter hw hcn j)
  have ht : todo N ≤ 2000 := by
    unfold todo reqs
    have := hw.fl
    have := hw.hs
    have := List.length_filter_le (fun m : Msg => decide (m.kind ≠ 4)) N.fl
    omega
  clear h hw hcn
  go_enter Try.func56, Try.ntmps56
  go_wp2_with fail
  go_loopw [3] (fun x wr => ∃ j : Nat, j ≤ todo N ∧ x = .int .i64 j ∧ RDrn b P C T N w wr j) (fun x _ => todo N - (intOf x).toNat)
  case atStart => exact ⟨0, Nat.zero_le _, rfl, H0.out⟩
  case round =>
    obtain ⟨j, hj, rfl, hD⟩ := hrel
    obtain ⟨T', hx, hg, hk⟩ := hD.po
    have htd := hD.td
    obtain ⟨hwf, hcf⟩ := HB.out j
    obtain ⟨M, hM⟩ : ∃ M, iterD j N = M := ⟨_, rfl⟩
    rw [hM] at hx htd hwf hcf
    have hx' := hx
    obtain ⟨vv, vf, vh, vc, vr, vb, rs, hT', hN'⟩ := hx
    obtain ⟨A, cap, rfl, hA, hcap⟩ := hN'.fo.form
    obtain ⟨-, -, -, c1, -, -⟩ := hN'.cells
    have hj0 : (0 : Int) ≤ (j : Int) := by omega
    have hj1 : (j : Int) ≤ 2000 := by omega
    by_cases hl : 0 < M.fl.length
    · have hd : decide ((0 : Int) < (M.fl.length : Int)) = true := by simp; omega
      have hd' : (0 : Int) < (M.fl.length : Int) := by omega
      have KD := Lib.hid (rdeliver_at b P C T' M 0 wr hx' hwf hcf hP hC hl)
      have hjt : j + 1 ≤ todo N := by
        have : todo M ≠ 0 := fun e => by have := todo_zero e; omega
        omega
      have KE := Lib.hid (fun (w' : World) (hp : RefPost b P C T' (delN M 0 M.fl[0]) wr w') => RDrn.next (w' := w') hD (by rw [hM]; exact hl) hg hk (by subst hM; exact hp))
      clear hN' hx' hD hg hk hwf hcf htd hM hT' hA hcap
      go_wp2_with fail
      refine KD.out.mono ?_
      rintro e w2 ⟨rfl, hp⟩
      have KE2 := Lib.hid (KE.out _ hp)
      clear hp KE KD c1
      go_wp2_with fail
      exact ⟨⟨j + 1, hjt, by go_num, KE2.out⟩, by simp [intOf]; omega⟩
    · have hl0 : M.fl.length = 0 := by omega
      have KE := Lib.hid (rdrn_end hD (by rw [hM]; exact hl0))
      rw [hl0] at c1
      clear hN' hx' hD hg hk hwf hcf htd hM hT' hA hcap hl0 hl
      go_wp2_with fail
      go_ret
      exact KE.out
end Go.Proofs.Ytimmmbjdaibplaa
