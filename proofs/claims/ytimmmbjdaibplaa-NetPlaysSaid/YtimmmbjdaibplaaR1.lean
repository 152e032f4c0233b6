/-
  Layer 16, the document's net: the walks of is, done and fly.
-/
import Derived.Test.YtimmmbjdaibplaaRef
import Derived.BigRegion
import Derived.Outline
namespace Go.Proofs.Ytimmmbjdaibplaa
open Go.RowKit
open Nt
set_option linter.unusedVariables false
set_option linter.unusedSimpArgs false

set_option maxHeartbeats 4000000 in
theorem is_at (b P C : Nat) (w : World) (h0 : w.cell? ⟨b, 0, none⟩ = some (.int .i64 P)) (h1 : w.cell? ⟨b, 1, none⟩ = some (.int .i64 C)) (x y : Int) (q : Bool) (hq : q = decide ((0 ≤ x ∧ x < P) ∧ 0 ≤ y ∧ y < C)) :
    Calls Try.prog 70 #[.pointer (some ⟨b, 0, none⟩), .int .i64 x, .int .i64 y] w fun e w' => e = .returned (.bool q) ∧ w = w' := by
  by_cases a0 : 0 ≤ x
  · by_cases a1 : x < P
    · by_cases a2 : 0 ≤ y
      · by_cases a3 : y < C
        · have e : q = true := by rw [hq]; simp [a0, a1, a2, a3]
          subst e
          clear hq
          go_enter Try.func70, Try.ntmps70
          go_wp2_with fail
          go_ret
          exact ⟨rfl, rfl⟩
        · have e : q = false := by rw [hq]; simp [a3]
          have d : decide (y < (C : Int)) = false := by simpa using a3
          subst e
          clear hq
          go_enter Try.func70, Try.ntmps70
          go_wp2_with fail
          go_ret
          exact ⟨rfl, rfl⟩
      · have e : q = false := by rw [hq]; simp [a2]
        have d : decide ((0 : Int) ≤ y) = false := by simpa using a2
        subst e
        clear hq
        go_enter Try.func70, Try.ntmps70
        go_wp2_with fail
        go_ret
        exact ⟨rfl, rfl⟩
    · have e : q = false := by rw [hq]; simp [a1]
      have d : decide (x < (P : Int)) = false := by simpa using a1
      subst e
      clear hq
      go_enter Try.func70, Try.ntmps70
      go_wp2_with fail
      go_ret
      exact ⟨rfl, rfl⟩
  · have e : q = false := by rw [hq]; simp [a0]
    have d : decide ((0 : Int) ≤ x) = false := by simpa using a0
    subst e
    clear hq
    go_enter Try.func70, Try.ntmps70
    go_wp2_with fail
    go_ret
    exact ⟨rfl, rfl⟩

/-- what done leaves: was is what the cell had -/
def RDoneE (vb j : Nat) (m : Msg) (was : Int) (w : World) (e : Ending) (w' : World) : Prop := e = .returned (.int .i64 (ansV m was)) ∧ ((m.kind = 2 ∧ w' = w) ∨ w' = w.setCell ⟨vb, j, none⟩ (.int .i64 (newV m was)))
set_option maxHeartbeats 4000000 in
set_option maxRecDepth 100000 in
theorem rdone_at (b C vb n cap p c : Nat) (k z was : Int) (w : World) (h1 : w.cell? ⟨b, 1, none⟩ = some (.int .i64 C)) (h2 : w.cell? ⟨b, 2, none⟩ = some (.slice (some ⟨vb, 0, none⟩) n cap)) (hj : w.cell? ⟨vb, p * C + c, none⟩ = some (.int .i64 was)) (hf : w.frozen? ⟨vb, p * C + c, none⟩ = false) (hn : p * C + c < n)
    (hp : p < 8) (hC : C ≤ 64) (hc : c < C) (hnn : n ≤ 1000) (hk : 1 ≤ k ∧ k ≤ 3) (hne : vb ≠ b) (f hd : Int) :
    Calls Try.prog 62 #[.pointer (some ⟨b, 0, none⟩), .int .i64 p, .int .i64 k, .int .i64 c, .int .i64 z] w (RDoneE vb (p * C + c) ⟨f, p, k, c, z, hd⟩ was w) := by
  obtain ⟨j, hje⟩ : ∃ j, p * C + c = j := ⟨_, rfl⟩
  have hpc : (p : Int) * (C : Int) + (c : Int) = (j : Int) := by rw [← hje]; simp
  have hpc1 : p * C ≤ 8 * 64 := Nat.mul_le_mul (by omega) hC
  obtain ⟨t, ht⟩ : ∃ t : Nat, p * C = t := ⟨_, rfl⟩
  have hpt : (p : Int) * (C : Int) = (t : Int) := by rw [← ht]; simp
  rw [hje] at hj hf hn ⊢
  rw [ht] at hpc1
  rw [hpt] at hpc
  have ht0 : (0 : Int) ≤ (t : Int) := by omega
  have ht1 : (t : Int) ≤ 512 := by omega
  have hc0 : (0 : Int) ≤ (c : Int) := by omega
  have hc1 : (c : Int) ≤ 64 := by omega
  have hp0 : (0 : Int) ≤ (p : Int) := by omega
  have hp1 : (p : Int) ≤ 8 := by omega
  have hC0 : (0 : Int) ≤ (C : Int) := by omega
  have hC1 : (C : Int) ≤ 64 := by omega
  have hj0 : (0 : Int) ≤ (j : Int) := by omega
  have hj1 : (j : Int) < (n : Int) := by omega
  have hk3 : k = 1 ∨ k = 2 ∨ k = 3 := by omega
  clear hk hje ht
  rcases hk3 with rfl | rfl | rfl
  · have H := Lib.hid (show RDoneE vb j ⟨f, p, 1, c, z, hd⟩ was w (.returned (.int .i64 0)) (w.setCell ⟨vb, j, none⟩ (.int .i64 z)) from ⟨by simp [ansV], .inr (by simp [newV])⟩)
    go_enter Try.func62, Try.ntmps62
    go_wp2_with fail
    go_ret
    exact H.out
  · have H := Lib.hid (show RDoneE vb j ⟨f, p, 2, c, z, hd⟩ was w (.returned (.int .i64 was)) w from ⟨by simp [ansV], .inl ⟨rfl, rfl⟩⟩)
    go_enter Try.func62, Try.ntmps62
    go_wp2_with fail
    go_ret
    exact H.out
  · have H := Lib.hid (show RDoneE vb j ⟨f, p, 3, c, z, hd⟩ was w (.returned (.int .i64 was)) (w.setCell ⟨vb, j, none⟩ (.int .i64 (wrap64 (was + z)))) from ⟨by simp [ansV], .inr (by rw [← i64_w]; simp [newV])⟩)
    go_enter Try.func62, Try.ntmps62
    go_wp2_with fail
    go_ret
    exact H.out
end Go.Proofs.Ytimmmbjdaibplaa
