/-
  Layer 16, plain laws: counts, and lists of records laid flat.
-/
import Derived.Test.YtimmmbjdaibplaaP1
namespace Nt
open Go
set_option linter.unusedVariables false
set_option linter.unusedSimpArgs false

theorem bump_hit (f t : Int) (kd : ByteArray) : ∀ (l : List Cnt) (k : Nat) (h : k < l.length), (∀ (j : Nat) (hj : j < l.length), j < k → isCnt l[j] f t kd = false) → isCnt l[k] f t kd = true →
    bump l f t kd = l.set k ⟨l[k].frm, l[k].to, l[k].kind, IntKind.i64.wrap (l[k].many + 1)⟩
  | x :: r, 0, _, _, h => by
    simp only [List.getElem_cons_zero] at h
    simp [bump, h]
  | x :: r, k + 1, hk, hb, h => by
    have h0 := hb 0 (by simp) (by omega)
    simp only [List.getElem_cons_zero] at h0
    have ih := bump_hit f t kd r k (by simpa using hk) (fun j hj hjk => hb (j + 1) (by simp; omega) (by omega)) (by simpa using h)
    simp [bump, h0, ih]
theorem bump_miss (f t : Int) (kd : ByteArray) : ∀ (l : List Cnt), (∀ (j : Nat) (hj : j < l.length), isCnt l[j] f t kd = false) → bump l f t kd = l ++ [⟨f, t, kd, 1⟩]
  | [], _ => rfl
  | x :: r, hb => by
    have h0 := hb 0 (by simp)
    simp only [List.getElem_cons_zero] at h0
    have ih := bump_miss f t kd r (fun j hj => hb (j + 1) (by simp; omega))
    simp [bump, h0, ih]

section
variable {α : Type} {enc : α → List Value} {s : Nat}
theorem flat_len (hs : ∀ x, (enc x).length = s) : ∀ l : List α, (l.flatMap enc).length = l.length * s
  | [] => by simp
  | x :: r => by
    rw [List.flatMap_cons, List.length_append, hs, flat_len hs r, List.length_cons, Nat.add_mul]
    omega
theorem flat_at (hs : ∀ x, (enc x).length = s) : ∀ (l : List α) (k : Nat) (hk : k < l.length) (j : Nat), j < s → (l.flatMap enc)[k * s + j]? = (enc l[k])[j]?
  | x :: r, 0, _, j, hj => by
    rw [List.flatMap_cons, List.getElem?_append_left (by rw [hs]; omega)]
    simp
  | x :: r, k + 1, hk, j, hj => by
    have hge : (enc x).length ≤ (k + 1) * s + j := by rw [hs, Nat.add_mul]; omega
    rw [List.flatMap_cons, List.getElem?_append_right hge, hs]
    have e : (k + 1) * s + j - s = k * s + j := by rw [Nat.add_mul]; omega
    rw [e, flat_at hs r k (by simpa using hk) j hj]
    simp
theorem flat_set (hs : ∀ x, (enc x).length = s) : ∀ (l : List α) (k : Nat) (hk : k < l.length) (j : Nat) (u : Value) (x' : α), j < s → enc x' = (enc l[k]).set j u → (l.flatMap enc).set (k * s + j) u = (l.set k x').flatMap enc
  | x :: r, 0, _, j, u, x', hj, he => by
    simp only [List.getElem_cons_zero] at he
    rw [List.flatMap_cons, List.set_cons_zero, List.flatMap_cons, he, List.set_append]
    rw [if_pos (by rw [hs]; omega)]
    simp
  | x :: r, k + 1, hk, j, u, x', hj, he => by
    have hge : ¬ (k + 1) * s + j < (enc x).length := by rw [hs, Nat.add_mul]; omega
    rw [List.flatMap_cons, List.set_cons_succ, List.flatMap_cons, List.set_append, if_neg hge, hs]
    have e : (k + 1) * s + j - s = k * s + j := by rw [Nat.add_mul]; omega
    rw [e, flat_set hs r k (by simpa using hk) j u x' hj (by simpa using he)]
end
end Nt
