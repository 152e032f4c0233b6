/-
  The walk of the first token of the reference of layer 1: signs; and all of them.
-/
import Derived.Test.YtacjgphfcailmaaGreatDoorW8
import Derived.BigQuiet
import Derived.Deep.QuietTactic
namespace Go.Proofs.YtacjgphfcailmaaGreatDoor
open Go.RowKit
open Tok

theorem gap_sp (s : ByteArray) (k : Nat) (h : k < s.size) (hp : isSpc s[k] = true) : gap (s.data.toList.drop k) = gap (s.data.toList.drop (k + 1)) + 1 := by
  rw [drop_cons s k h, gap_space _ _ hp]
theorem spc_of (c : UInt8) (h : (c.toNat : Int) = 32 ∨ (c.toNat : Int) = 9 ∨ (c.toNat : Int) = 10) : isSpc c = true := by
  have e : ∀ n : Nat, n < 256 → (c.toNat : Int) = n → c = UInt8.ofNat n := by
    intro n hn h1
    have h2 : c.toNat = n := by omega
    rw [← h2]; simp
  rcases h with h | h | h
  · rw [e 32 (by omega) h]; rfl
  · rw [e 9 (by omega) h]; rfl
  · rw [e 10 (by omega) h]; rfl
theorem spc_not (c : UInt8) (h1 : ¬ (c.toNat : Int) = 32) (h2 : ¬ (c.toNat : Int) = 9) (h3 : ¬ (c.toNat : Int) = 10) : isSpc c = false := by
  have e : ∀ n : UInt8, c = n → (c.toNat : Int) = n.toNat := by rintro n rfl; rfl
  simp only [isSpc, Bool.or_eq_false_iff, beq_eq_false_iff_ne, ne_eq]
  exact ⟨⟨fun h => h1 (e 32 h), fun h => h2 (e 9 h)⟩, fun h => h3 (e 10 h)⟩
set_option linter.unusedVariables false

theorem gap_true_stop (s : ByteArray) (k : Nat) (h : s.size ≤ k ∨ ∃ hk : k < s.size, (s[k].toNat : Int) = 10) : gapGo true (s.data.toList.drop k) = gap (s.data.toList.drop k) := by
  rcases h with h | ⟨hk, h⟩
  · rw [drop_end s k h]; rfl
  · rw [drop_cons s k hk, u8_of _ 10 (by omega) h]
    simp [gap, gapGo, isSpc]
theorem gap_true_more (s : ByteArray) (k : Nat) (hk : k < s.size) (h : ¬ (s[k].toNat : Int) = 10) : gapGo true (s.data.toList.drop k) = gapGo true (s.data.toList.drop (k + 1)) + 1 := by
  rw [drop_cons s k hk]
  have : (s[k] == 10) = false := by
    rw [beq_eq_false_iff_ne]
    intro e
    rw [e] at h
    exact h rfl
  simp [gapGo, this]
theorem gap_slashes (s : ByteArray) (k : Nat) (hk : k + 1 < s.size) (h1 : (s[k].toNat : Int) = 47) (h2 : (s[k + 1].toNat : Int) = 47) : gap (s.data.toList.drop k) = gapGo true (s.data.toList.drop k) := by
  rw [drop_cons s k (by omega), drop_cons s (k + 1) hk, u8_of _ 47 (by omega) h1, u8_of _ 47 (by omega) h2]
  exact gap_comment _
theorem gap_no (s : ByteArray) (k : Nat) (hk : k < s.size) (h32 : ¬ (s[k].toNat : Int) = 32) (h9 : ¬ (s[k].toNat : Int) = 9) (h10 : ¬ (s[k].toNat : Int) = 10)
    (h : ¬ ((s[k].toNat : Int) = 47 ∧ ∃ h1 : k + 1 < s.size, (s[k + 1].toNat : Int) = 47)) : gap (s.data.toList.drop k) = 0 := by
  rw [drop_cons s k hk]
  refine gap_stop _ _ (spc_not _ h32 h9 h10) ?_
  rw [Bool.eq_false_iff]
  intro hh
  apply h
  simp only [Bool.and_eq_true, beq_iff_eq] at hh
  obtain ⟨e1, e2⟩ := hh
  refine ⟨by rw [e1]; rfl, ?_⟩
  by_cases h1 : k + 1 < s.size
  · refine ⟨h1, ?_⟩
    rw [drop_cons s (k + 1) h1] at e2
    simp only [List.head?_cons, Option.some.injEq] at e2
    rw [e2]; rfl
  · rw [drop_end s (k + 1) (by omega)] at e2; simp at e2

/-- where the gap that begins at a ends -/
def spTo (s : ByteArray) (a : Nat) : Int := (a + gap (s.data.toList.drop a) : Nat)
theorem spTo_eq {s : ByteArray} {a k : Nat} (h : a + gap (s.data.toList.drop a) = k) : spTo s a = k := by unfold spTo; rw [h]

end Go.Proofs.YtacjgphfcailmaaGreatDoor

namespace Go.Proofs.YtacjgphfcailmaaGreatDoor
open Go.RowKit
open Tok
set_option linter.unusedVariables false

/-- the token at an offset: its parts, and whether there is one -/
def OneEnd (s : ByteArray) (a : Nat) (e : Ending) : Prop :=
  (∃ k t : List UInt8, first (s.data.toList.drop a) = some (k, t) ∧ e = .returned (.tuple #[.agg #[.string ⟨k.toArray⟩, .string ⟨t.toArray⟩, .int .i64 a], .bool true])) ∨
  (first (s.data.toList.drop a) = none ∧ ∃ (k t : ByteArray) (n : Int), e = .returned (.tuple #[.agg #[.string k, .string t, .int .i64 n], .bool false]))

theorem run_cons (p : UInt8 → Bool) (c : UInt8) (r : List UInt8) : run p (c :: r) = if p c then run p r + 1 else 0 := rfl
theorem run_take (p : UInt8 → Bool) : ∀ l : List UInt8, run p (l.take (run p l)) = run p l
  | [] => rfl
  | c :: r => by
    rw [run_cons]
    by_cases h : p c = true
    · rw [if_pos h, List.take_succ_cons, run_cons, if_pos h, run_take p r]
    · rw [if_neg h]; rfl
theorem wordLen_run (c : UInt8) (r : List UInt8) (h : isLet c = true) : wordLen (c :: r) = run isInn (c :: r) := by
  have h2 : isInn c = true := inn_of_let _ h
  simp [wordLen, run, h, h2]
theorem isWord_take (l : List UInt8) (h : 0 < wordLen l) : isWord (l.take (wordLen l)) = true := by
  have hl := wordLen_le l
  cases l with
  | nil => simp [wordLen] at h
  | cons c r =>
    have hc : isLet c = true := by
      by_cases hc : isLet c = true
      · exact hc
      · simp [wordLen, hc] at h
    rw [wordLen_run c r hc] at h hl ⊢
    obtain ⟨n, hn⟩ : ∃ n, run isInn (c :: r) = n + 1 := ⟨run isInn (c :: r) - 1, by omega⟩
    have ht := run_take isInn (c :: r)
    rw [hn, List.take_succ_cons] at ht ⊢
    rw [isWord_cons, hc, ht]
    rw [hn, List.length_cons] at hl
    simp [List.length_take]; omega
theorem ext_mid (s : ByteArray) (a k : Nat) : (s.extract a k).data.toList = (s.data.toList.drop a).take (k - a) := Lib.extract_data s a k
theorem ext_mid_mk (s : ByteArray) (a k : Nat) : s.extract a k = ⟨((s.data.toList.drop a).take (k - a)).toArray⟩ := Lib.extract_eq s a k

def WordAt (s : ByteArray) (a k : Nat) : Prop := wordLen (s.data.toList.drop a) = k - a
theorem WordAt.first {s : ByteArray} {a k : Nat} (h : WordAt s a k) (hk : a < k) :
    first (s.data.toList.drop a) = some (kindOf (s.extract a k).data.toList, (s.extract a k).data.toList) := by
  unfold WordAt at h
  unfold Tok.first
  rw [h, if_pos (by omega), ext_mid]
theorem WordAt.word {s : ByteArray} {a k : Nat} (h : WordAt s a k) (hk : a < k) : isWord (s.extract a k).data.toList = true := by
  unfold WordAt at h
  rw [ext_mid, ← h]
  exact isWord_take _ (by omega)

/-- the named result's block behind a call that lets all that was there be -/
theorem box_kept {w w1 : World} (hb : Below (w.alloc tok0).heap.size (w.alloc tok0) w1) :
    w1.cell? ⟨w.heap.size, 0, none⟩ = some (.string ⟨#[]⟩) ∧ w1.cell? ⟨w.heap.size, 1, none⟩ = some (.string ⟨#[]⟩) ∧ w1.cell? ⟨w.heap.size, 2, none⟩ = some (.int .i64 0) ∧
    w1.frozen? ⟨w.heap.size, 0, none⟩ = false ∧ w1.frozen? ⟨w.heap.size, 1, none⟩ = false ∧ w1.frozen? ⟨w.heap.size, 2, none⟩ = false ∧ w.heap.size < w1.heap.size := by
  have hz := hb.size
  rw [World.size_alloc] at hz
  have e : (w.alloc tok0).heap[w.heap.size]? = some tok0 := by
    show (w.heap.push tok0)[w.heap.size]? = _
    simp
  have e1 : w1.heap[w.heap.size]? = some tok0 := (hb.block _ (by simp)).trans e
  refine ⟨?_, ?_, ?_, ?_, ?_, ?_, by omega⟩ <;> simp [World.cell?, World.frozen?, e1, tok0]

end Go.Proofs.YtacjgphfcailmaaGreatDoor

namespace Go.Proofs.YtacjgphfcailmaaGreatDoor
open Go.RowKit
open Tok
set_option linter.unusedVariables false

theorem dig_not_let (c : Int) (h : digB c = true) : letB c = false := by
  simp only [digB, letB, Bool.and_eq_true, decide_eq_true_eq, Bool.and_eq_false_iff, decide_eq_false_iff_not] at h ⊢
  omega
theorem wordLen_zero (s : ByteArray) (a : Nat) (ha : a < s.size) (hl : letB (s[a].toNat : Int) = false) : wordLen (s.data.toList.drop a) = 0 := by
  rw [drop_cons s a ha]
  simp [wordLen, isLet, hl]

theorem digLen_run (s : ByteArray) (a : Nat) (ha : a < s.size) (h48 : ¬ (s[a].toNat : Int) = 48) : digLen (s.data.toList.drop a) = run isDig (s.data.toList.drop a) := by
  rw [drop_cons s a ha]
  have : (s[a] == 48) = false := by
    rw [beq_eq_false_iff_ne]
    intro e
    rw [e] at h48
    exact h48 rfl
  simp [digLen, this]

end Go.Proofs.YtacjgphfcailmaaGreatDoor

namespace Go.Proofs.YtacjgphfcailmaaGreatDoor
open Go.RowKit
open Tok
set_option linter.unusedVariables false

theorem below_draws {B : Nat} {a w : World} (h : Below B a w) (n : Nat) : Below B a (w.drewN n) := ⟨h.os, h.tape, h.output, h.size, h.block⟩

/-- does the text at an offset begin with another one -/
def preAt (s : ByteArray) (a : Nat) (y : ByteArray) : Bool := Lib.hasPrefix (s.data.toList.drop a) y.data.toList
theorem preAt_yes (s : ByteArray) (a : Nat) (y : ByteArray) (h1 : a + y.size ≤ s.size) (h : s.extract a (a + y.size) = y) : preAt s a y = true := by
  unfold preAt
  rw [← Lib.hasPrefix_of_take]
  have e : (s.data.toList.drop a).take y.data.toList.length = y.data.toList := by
    conv => rhs; rw [← h]
    rw [ext_mid, Lib.size_eq]
    congr 1; omega
  rw [e, ← Lib.size_eq, List.length_drop, ← Lib.size_eq]
  simp; omega
theorem preAt_no (s : ByteArray) (a : Nat) (y : ByteArray) (h1 : a + y.size ≤ s.size) (h : s.extract a (a + y.size) ≠ y) : preAt s a y = false := by
  rw [Bool.eq_false_iff]
  intro hp
  apply h
  unfold preAt at hp
  rw [← Lib.hasPrefix_of_take] at hp
  simp only [Bool.and_eq_true, beq_iff_eq] at hp
  refine ByteArray.ext (Array.toList_inj.mp ?_)
  rw [ext_mid, show a + y.size - a = y.data.toList.length from by rw [Lib.size_eq]; omega]
  exact hp.2
theorem preAt_long (s : ByteArray) (a : Nat) (y : ByteArray) (ha : a ≤ s.size) (h1 : s.size < a + y.size) : preAt s a y = false := by
  unfold preAt
  rw [← Lib.hasPrefix_of_take, ← Lib.size_eq, List.length_drop, ← Lib.size_eq]
  simp; omega

def NoSignAt (s : ByteArray) (a k : Nat) : Prop := ∀ j, j < k → preAt s a (signB j) = false
theorem find_signAt (s : ByteArray) (a k : Nat) (hk : k < 23) (hno : NoSignAt s a k) (h : preAt s a (signB k) = true) :
    signs.find? (fun x => Lib.hasPrefix (s.data.toList.drop a) x) = some (signB k).data.toList := by
  have hl : k < signs.length := hk
  have e : (signB k).data.toList = signs[k] := by
    unfold signB; rw [List.getD, List.getElem?_eq_getElem hl, Option.getD_some]
  rw [e, List.find?_eq_some_iff_getElem]
  refine ⟨?_, k, hl, rfl, fun j hj => ?_⟩
  · unfold preAt at h
    rw [e] at h
    exact h
  · have h2 := hno j hj
    unfold preAt signB at h2
    rw [List.getD, List.getElem?_eq_getElem (by omega), Option.getD_some] at h2
    simpa using h2
theorem find_noneAt (s : ByteArray) (a : Nat) (hno : NoSignAt s a 23) : signs.find? (fun x => Lib.hasPrefix (s.data.toList.drop a) x) = none := by
  rw [List.find?_eq_none]
  intro x hx
  obtain ⟨j, hj, rfl⟩ := List.getElem_of_mem hx
  have h2 := hno j hj
  unfold preAt signB at h2
  rw [List.getD, List.getElem?_eq_getElem hj, Option.getD_some] at h2
  simpa using h2
theorem signB_small (k : Nat) : (signB k).size ≤ 2 := by
  rcases Nat.lt_or_ge k 23 with h | h
  · have : ∀ j, j < 23 → (signB j).size ≤ 2 := by decide
    exact this k h
  · unfold signB
    rw [List.getD, List.getElem?_eq_none (by exact h)]; decide

end Go.Proofs.YtacjgphfcailmaaGreatDoor
