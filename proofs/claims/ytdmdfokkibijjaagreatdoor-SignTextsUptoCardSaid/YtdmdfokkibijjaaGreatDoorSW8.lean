/-
  The walks of layer 9: are ways better than others; of the program and of the document's answer.
-/
import Derived.Test.YtdmdfokkibijjaaGreatDoorSW7
namespace Go.Proofs.YtdmdfokkibijjaaGreatDoor
open Go.RowKit
open Sgn
set_option linter.unusedVariables false
set_option linter.unusedSimpArgs false

theorem below_draws {B : Nat} {a w : World} (h : Below B a w) (n : Nat) : Below B a (w.drewN n) := ⟨h.os, h.tape, h.output, h.size, h.block⟩
def betterL (vs ws : List Int) : Bool := (List.zip vs ws).all (fun p => decide (p.1 ≤ p.2)) && (List.zip vs ws).any (fun p => decide (p.1 < p.2))
theorem zip_at {vs ws : List Int} (k : Nat) (h1 : k < vs.length) (h2 : k < ws.length) : ∃ h : k < (List.zip vs ws).length, (List.zip vs ws)[k] = (vs[k], ws[k]) :=
  ⟨by rw [List.length_zip]; omega, List.getElem_zip⟩
theorem better_fail {vs ws : List Int} (k : Nat) (h1 : k < vs.length) (h2 : k < ws.length) (h : ws[k] < vs[k]) : betterL vs ws = false := by
  obtain ⟨hk, he⟩ := zip_at k h1 h2
  unfold betterL
  rw [all_fail (fun p : Int × Int => decide (p.1 ≤ p.2)) _ k hk (by rw [he]; simpa using h), Bool.false_and]
theorem better_done {vs ws : List Int} (k : Nat) (hk : (List.zip vs ws).length ≤ k) (h : ∀ p ∈ (List.zip vs ws).take k, decide (p.1 ≤ p.2) = true) : betterL vs ws = ((List.zip vs ws).take k).any (fun p => decide (p.1 < p.2)) := by
  unfold betterL
  rw [all_done (fun p : Int × Int => decide (p.1 ≤ p.2)) _ k hk h, Bool.true_and, List.take_of_length_le hk]
theorem better_step {vs ws : List Int} (k : Nat) (h1 : k < vs.length) (h2 : k < ws.length) : ((List.zip vs ws).take (k + 1)).any (fun p => decide (p.1 < p.2)) = (((List.zip vs ws).take k).any (fun p => decide (p.1 < p.2)) || decide (vs[k] < ws[k])) := by
  obtain ⟨hk, he⟩ := zip_at k h1 h2
  rw [List.take_succ_eq_append_getElem hk, List.any_append, he]
  simp
theorem better_next {vs ws : List Int} (k : Nat) (h1 : k < vs.length) (h2 : k < ws.length) (hd : ∀ p ∈ (List.zip vs ws).take k, decide (p.1 ≤ p.2) = true) (h : vs[k] ≤ ws[k]) : ∀ p ∈ (List.zip vs ws).take (k + 1), decide (p.1 ≤ p.2) = true := by
  obtain ⟨hk, he⟩ := zip_at k h1 h2
  exact all_upto (fun p : Int × Int => decide (p.1 ≤ p.2)) _ k hk hd (by rw [he]; simpa using h)

set_option maxHeartbeats 4000000 in
set_option maxRecDepth 100000 in
theorem better_any (vs ws : List Int) (v u : Value) (w : World) (hv : ISl w v vs) (hu : ISl w u ws) (hl : vs.length = ws.length) :
    Calls Tryz.prog 30 #[v, u] w fun e w' => e = .returned (.bool (betterL vs ws)) ∧ Below w.heap.size w w' := by
  obtain ⟨A, cap, rfl, hca, hma, hA⟩ := hv
  obtain ⟨B, cap2, rfl, hcb, hmb, hB⟩ := hu
  have HA : Hid (0 < vs.length → ∃ b off, A = some ⟨b, off, none⟩ ∧ ICells w b off vs) := hA
  have HB : Hid (0 < ws.length → ∃ b off, B = some ⟨b, off, none⟩ ∧ ICells w b off ws) := hB
  have hmax : maxLen = 9223372036854775807 := rfl
  rw [hmax] at hma hmb
  have HL := hide' hl
  obtain ⟨V, hV⟩ : ∃ V, betterL vs ws = V := ⟨_, rfl⟩
  have HV := hide' hV
  rw [hV]
  clear hA hB hmax hl hV
  go_enter Tryz.func30, Tryz.ntmps30
  go_wp2_with fail
  go_loopw [5, 9] (fun s i wr => ∃ (k : Nat) (q : Bool), k ≤ vs.length ∧ i = .int .i64 k ∧ s = .bool q ∧ Below w.heap.size w wr ∧ Hid (q = ((List.zip vs ws).take k).any (fun p => decide (p.1 < p.2))) ∧ Hid (∀ p ∈ (List.zip vs ws).take k, decide (p.1 ≤ p.2) = true)) (fun _ i _ => vs.length - (intOf i).toNat)
  case atStart => exact ⟨0, false, Nat.zero_le _, rfl, rfl, Below.refl _ _, rfl, (fun p hp => by simp at hp)⟩
  case round =>
    obtain ⟨k, q, hk, rfl, rfl, hnx, hq, hd⟩ := hrel
    by_cases hlt : k < vs.length
    · have hlt2 : k < ws.length := by have := HL.out; omega
      obtain ⟨b, off, rfl, hCA⟩ := HA.out (by omega)
      obtain ⟨b2, off2, rfl, hCB⟩ := HB.out (by omega)
      have x1 : wr.cell? ⟨b, off + k, none⟩ = some (.int .i64 vs[k]) := (hnx.cell (cell_lt (hCA k hlt))).trans (hCA k hlt)
      have y1 : wr.cell? ⟨b2, off2 + k, none⟩ = some (.int .i64 ws[k]) := (hnx.cell (cell_lt (hCB k hlt2))).trans (hCB k hlt2)
      have hf := fun h => hide' (better_fail k hlt hlt2 h)
      have hs := better_step k hlt hlt2
      have hn := fun h => hide' (better_next k hlt hlt2 hd.out h)
      obtain ⟨x, hx⟩ : ∃ x, vs[k] = x := ⟨_, rfl⟩
      obtain ⟨y, hy⟩ : ∃ y, ws[k] = y := ⟨_, rfl⟩
      rw [hx] at x1 hf hn hs
      rw [hy] at y1 hf hn hs
      have hki : (0 : Int) ≤ (k : Int) := by omega
      have hk1 : (k : Int) < (vs.length : Int) := by omega
      have hk2 : (k : Int) < (ws.length : Int) := by omega
      clear hx hy hCA hCB HA HB hd
      by_cases hxy : y < x
      · have hfin := hide' ((hf hxy).out.symm.trans HV.out)
        have hgt : decide (y < x) = true := decide_eq_true hxy
        clear hf hn hs hq
        go_wp2_with fail
        go_quiet (fail)
        go_wp2_with fail
        go_ret
        exact ⟨by have e := hfin.out; subst e; rfl, below_draws hnx _⟩
      · have hngt : decide (y < x) = false := decide_eq_false hxy
        have hd' := hn (by omega)
        clear hf hn
        cases q
        · have hq' : Hid (decide (x < y) = ((List.zip vs ws).take (k + 1)).any (fun p => decide (p.1 < p.2))) := by
            show _ = _
            rw [hs, ← hq.out, Bool.false_or]
          clear hq hs
          go_wp2_with fail
          go_quiet (fail)
          go_wp2_with fail
          go_quiet (fail)
          go_wp2_with fail
          go_roundw
          case rel => exact ⟨k + 1, _, by omega, by go_num, rfl, below_draws hnx _, hq', hd'⟩
          case measure => simp [intOf]; omega
        · have hq' : Hid (true = ((List.zip vs ws).take (k + 1)).any (fun p => decide (p.1 < p.2))) := by
            show _ = _
            rw [hs, ← hq.out, Bool.true_or]
          clear hq hs
          go_wp2_with fail
          go_quiet (fail)
          go_wp2_with fail
          go_quiet (fail)
          go_wp2_with fail
          go_roundw
          case rel => exact ⟨k + 1, _, by omega, by go_num, rfl, below_draws hnx _, hq', hd'⟩
          case measure => simp [intOf]; omega
    · have hfin := hide' ((better_done k (by rw [List.length_zip]; omega) hd.out).symm.trans HV.out)
      have HQ := hide' (hq.out.trans hfin.out)
      clear HA HB hd hq hfin
      go_wp2_with fail
      go_ret
      exact ⟨by have e := HQ.out; subst e; rfl, hnx⟩

end Go.Proofs.YtdmdfokkibijjaaGreatDoor
