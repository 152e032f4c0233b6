/-
  The walk of the first token of the reference of layer 1: ints and signs.
-/
import Derived.Test.YtmnlcockdbaibaaGreatDoorW9
import Derived.BigQuiet
import Derived.Deep.QuietTactic
namespace Go.Proofs.YtmnlcockdbaibaaGreatDoor
open Go.RowKit
open Tok
set_option linter.unusedVariables false

/-- the token at an offset: its parts, and whether there is one -/
def OneEnd (s : ByteArray) (a : Nat) (e : Ending) : Prop :=
  (∃ k t : List UInt8, first (s.data.toList.drop a) = some (k, t) ∧ e = .returned (.tuple #[.agg #[.string ⟨k.toArray⟩, .string ⟨t.toArray⟩, .int .i64 a], .bool true])) ∨
  (first (s.data.toList.drop a) = none ∧ ∃ (k t : ByteArray) (n : Int), e = .returned (.tuple #[.agg #[.string k, .string t, .int .i64 n], .bool false]))

theorem run_cons (p : UInt8 → Bool) (c : UInt8) (r : List UInt8) : run p (c :: r) = if p c then run p r + 1 else 0 := rfl
theorem run_take (p : UInt8 → Bool) : ∀ l : List UInt8, run p (l.take (run p l)) = run p l
  | [] => rfl
  | c :: r => by
    rw [run_cons]
    by_cases h : p c = true
    · rw [if_pos h, List.take_succ_cons, run_cons, if_pos h, run_take p r]
    · rw [if_neg h]; rfl
theorem wordLen_run (c : UInt8) (r : List UInt8) (h : isLet c = true) : wordLen (c :: r) = run isInn (c :: r) := by
  have h2 : isInn c = true := inn_of_let _ h
  simp [wordLen, run, h, h2]
theorem isWord_take (l : List UInt8) (h : 0 < wordLen l) : isWord (l.take (wordLen l)) = true := by
  have hl := wordLen_le l
  cases l with
  | nil => simp [wordLen] at h
  | cons c r =>
    have hc : isLet c = true := by
      by_cases hc : isLet c = true
      · exact hc
      · simp [wordLen, hc] at h
    rw [wordLen_run c r hc] at h hl ⊢
    obtain ⟨n, hn⟩ : ∃ n, run isInn (c :: r) = n + 1 := ⟨run isInn (c :: r) - 1, by omega⟩
    have ht := run_take isInn (c :: r)
    rw [hn, List.take_succ_cons] at ht ⊢
    rw [isWord_cons, hc, ht]
    rw [hn, List.length_cons] at hl
    simp [List.length_take]; omega
theorem ext_mid (s : ByteArray) (a k : Nat) : (s.extract a k).data.toList = (s.data.toList.drop a).take (k - a) := Lib.extract_data s a k
theorem ext_mid_mk (s : ByteArray) (a k : Nat) : s.extract a k = ⟨((s.data.toList.drop a).take (k - a)).toArray⟩ := Lib.extract_eq s a k

def WordAt (s : ByteArray) (a k : Nat) : Prop := wordLen (s.data.toList.drop a) = k - a
theorem WordAt.first {s : ByteArray} {a k : Nat} (h : WordAt s a k) (hk : a < k) :
    first (s.data.toList.drop a) = some (kindOf (s.extract a k).data.toList, (s.extract a k).data.toList) := by
  unfold WordAt at h
  unfold Tok.first
  rw [h, if_pos (by omega), ext_mid]
theorem WordAt.word {s : ByteArray} {a k : Nat} (h : WordAt s a k) (hk : a < k) : isWord (s.extract a k).data.toList = true := by
  unfold WordAt at h
  rw [ext_mid, ← h]
  exact isWord_take _ (by omega)

/-- the named result's block behind a call that lets all that was there be -/
theorem box_kept {w w1 : World} (hb : Below (w.alloc tok0).heap.size (w.alloc tok0) w1) :
    w1.cell? ⟨w.heap.size, 0, none⟩ = some (.string ⟨#[]⟩) ∧ w1.cell? ⟨w.heap.size, 1, none⟩ = some (.string ⟨#[]⟩) ∧ w1.cell? ⟨w.heap.size, 2, none⟩ = some (.int .i64 0) ∧
    w1.frozen? ⟨w.heap.size, 0, none⟩ = false ∧ w1.frozen? ⟨w.heap.size, 1, none⟩ = false ∧ w1.frozen? ⟨w.heap.size, 2, none⟩ = false ∧ w.heap.size < w1.heap.size := by
  have hz := hb.size
  rw [World.size_alloc] at hz
  have e : (w.alloc tok0).heap[w.heap.size]? = some tok0 := by
    show (w.heap.push tok0)[w.heap.size]? = _
    simp
  have e1 : w1.heap[w.heap.size]? = some tok0 := (hb.block _ (by simp)).trans e
  refine ⟨?_, ?_, ?_, ?_, ?_, ?_, by omega⟩ <;> simp [World.cell?, World.frozen?, e1, tok0]

set_option maxRecDepth 100000 in
set_option maxHeartbeats 2000000 in
theorem one_word (s : ByteArray) (a : Nat) (w : World) (hs : s.size ≤ 10000) (ha : a < s.size) (hl : letB (s[a].toNat : Int) = true) :
    Calls Tryz.prog 104 #[.string s, .int .i64 a] w fun e w' => OneEnd s a e ∧ Below w.heap.size w w' := by
  have hst : Hid (wordLen (s.data.toList.drop a) = (a - a) + run isInn (s.data.toList.drop a)) := by
    show _ = _
    rw [drop_cons s a ha, wordLen_run _ _ hl]; omega
  have hfirst : innB (s[a].toNat : Int) = true := inn_of_let _ hl
  go_enter Tryz.func104, Tryz.ntmps104
  go_wp2_with (go_at_call 178; refine (rSmall_any _ _).mono ?_; rintro e w' ⟨rfl, rfl⟩)
  go_loop [6] (fun n => ∃ k : Nat, a ≤ k ∧ k ≤ s.size ∧ (k = a ∨ a < k) ∧ n = .int .i64 k ∧ Hid (wordLen (s.data.toList.drop a) = (k - a) + run isInn (s.data.toList.drop k))) (fun n => s.size - (intOf n).toNat)
  case atStart => exact ⟨a, Nat.le_refl _, by omega, .inl rfl, rfl, hst⟩
  case round =>
    obtain ⟨k, hk1, hk, hk2, rfl, hr⟩ := hrel
    by_cases hgo : ∃ h : k < s.size, innB (s[k].toNat : Int) = true
    · obtain ⟨hlt, hi⟩ := hgo
      have hr' : Hid (wordLen (s.data.toList.drop a) = ((k + 1) - a) + run isInn (s.data.toList.drop (k + 1))) := by
        have h1 := run_at isInn s k hlt hi
        have h2 := hr.out
        show _ = _; omega
      clear hr hst hk2
      go_wp2_with (go_at_call 179; refine (rInner_any _ _).mono ?_; rintro e w' ⟨rfl, rfl⟩)
      go_round
      case rel => exact ⟨k + 1, by omega, by omega, .inr (by omega), by go_num, hr'⟩
      case measure => simp [intOf]; omega
    · have hak : a < k := by
        rcases hk2 with rfl | h
        · exact absurd ⟨ha, hfirst⟩ hgo
        · exact h
      have hex : s.size ≤ k ∨ ∃ h : k < s.size, innB (s[k].toNat : Int) = false := by
        rcases Nat.lt_or_ge k s.size with h | h
        · exact .inr ⟨h, by simpa using fun e => hgo ⟨h, e⟩⟩
        · exact .inl h
      have hwa : WordAt s a k := by
        have h2 := hr.out
        unfold WordAt
        rcases hex with h | ⟨h, hi⟩
        · rw [drop_end s k h] at h2
          have : run isInn ([] : List UInt8) = 0 := rfl
          omega
        · have := run_end isInn s k h hi
          omega
      have hfin := hide' (hwa.first hak)
      have hwd := hide' (hwa.word hak)
      have hsz : (s.extract a k).size ≤ 4611686018427387904 := by
        rw [Lib.size_eq, ext_mid, List.length_take, List.length_drop, ← Lib.size_eq]; omega
      clear hgo hr hst hwa hk2 hfirst
      rcases hex with hex | ⟨hlt, hi⟩
      all_goals
        go_wp2_with (first
          | (go_at_call 179; refine (rInner_any _ _).mono ?_; rintro e w' ⟨rfl, rfl⟩)
          | (go_at_call 180; refine (rIsName_any _ _ hsz).mono ?_; rintro e w1 ⟨rfl, hb1⟩; obtain ⟨c0, c1, c2, f0, f1, f2, hz⟩ := box_kept hb1))
        · have hn : isName (List.take (k - a) (List.drop a s.data.toList)) = true := by assumption
          refine bodyPost_ret (v := .tuple #[.agg #[.string ⟨#[110, 97, 109, 101]⟩, .string (s.extract a k), .int .i64 a], .bool true]) ?_ rfl ⟨?_, ?_⟩
          · simp [results, Tryz.results104, go_sem, c0, c1, c2]
          · refine .inl ⟨_, _, hfin.out, ?_⟩
            rw [isName_first _ hwd.out, ext_mid, hn, if_pos rfl, ext_mid_mk]; rfl
          · exact (((Below.trans ((Below.refl _ _).alloc (Nat.le_refl _) _) (hb1.mono (by simp))).setCell (Nat.le_refl _) _).setCell (Nat.le_refl _) _).setCell (Nat.le_refl _) _
        · have hn : isName (List.take (k - a) (List.drop a s.data.toList)) = false := by assumption
          refine bodyPost_ret (v := .tuple #[.agg #[.string ⟨#[107, 101, 121]⟩, .string (s.extract a k), .int .i64 a], .bool true]) ?_ rfl ⟨?_, ?_⟩
          · simp [results, Tryz.results104, go_sem, c0, c1, c2]
          · refine .inl ⟨_, _, hfin.out, ?_⟩
            rw [isName_first _ hwd.out, ext_mid, hn, if_neg (by simp), ext_mid_mk]; rfl
          · exact (((Below.trans ((Below.refl _ _).alloc (Nat.le_refl _) _) (hb1.mono (by simp))).setCell (Nat.le_refl _) _).setCell (Nat.le_refl _) _).setCell (Nat.le_refl _) _

end Go.Proofs.YtmnlcockdbaibaaGreatDoor

namespace Go.Proofs.YtmnlcockdbaibaaGreatDoor
open Go.RowKit
open Tok
set_option linter.unusedVariables false

theorem dig_not_let (c : Int) (h : digB c = true) : letB c = false := by
  simp only [digB, letB, Bool.and_eq_true, decide_eq_true_eq, Bool.and_eq_false_iff, decide_eq_false_iff_not] at h ⊢
  omega
theorem wordLen_zero (s : ByteArray) (a : Nat) (ha : a < s.size) (hl : letB (s[a].toNat : Int) = false) : wordLen (s.data.toList.drop a) = 0 := by
  rw [drop_cons s a ha]
  simp [wordLen, isLet, hl]

theorem one_zero (s : ByteArray) (a : Nat) (w : World) (hs : s.size ≤ 10000) (ha : a < s.size) (h48 : (s[a].toNat : Int) = 48) :
    Calls Tryz.prog 104 #[.string s, .int .i64 a] w fun e w' => OneEnd s a e ∧ Below w.heap.size w w' := by
  have hl : letB (s[a].toNat : Int) = false := by rw [h48]; rfl
  have hw := wordLen_zero s a ha hl
  have hfin : Hid (first (s.data.toList.drop a) = some (kInt, [48])) := by
    show _ = _
    have hd : digLen (s.data.toList.drop a) = 1 := by
      rw [drop_cons s a ha, u8_of _ 48 (by omega) h48]; rfl
    unfold first
    rw [hw, hd, if_neg (by omega), if_pos (by omega), if_pos (by omega)]
    rw [drop_cons s a ha, u8_of _ 48 (by omega) h48]; rfl
  have b48 : ((s[a].toNat : Int) == 48) = true := by simpa using h48
  clear hw h48
  go_enter Tryz.func104, Tryz.ntmps104
  go_wp2_with (go_at_call 178; refine (rSmall_any _ _).mono ?_; rintro e w' ⟨rfl, rfl⟩)
  refine bodyPost_ret (v := .tuple #[.agg #[.string ⟨#[105, 110, 116]⟩, .string ⟨#[48]⟩, .int .i64 a], .bool true]) ?_ rfl ⟨?_, ?_⟩
  · simp [results, Tryz.results104, go_sem]
  · exact .inl ⟨_, _, hfin.out, rfl⟩
  · exact (Below.refl _ _).alloc (Nat.le_refl _) _

theorem digLen_run (s : ByteArray) (a : Nat) (ha : a < s.size) (h48 : ¬ (s[a].toNat : Int) = 48) : digLen (s.data.toList.drop a) = run isDig (s.data.toList.drop a) := by
  rw [drop_cons s a ha]
  have : (s[a] == 48) = false := by
    rw [beq_eq_false_iff_ne]
    intro e
    rw [e] at h48
    exact h48 rfl
  simp [digLen, this]

set_option maxHeartbeats 2000000 in
theorem one_dig (s : ByteArray) (a : Nat) (w : World) (hs : s.size ≤ 10000) (ha : a < s.size) (h48 : ¬ (s[a].toNat : Int) = 48) (hdg : digB (s[a].toNat : Int) = true) :
    Calls Tryz.prog 104 #[.string s, .int .i64 a] w fun e w' => OneEnd s a e ∧ Below w.heap.size w w' := by
  have hl : letB (s[a].toNat : Int) = false := dig_not_let _ hdg
  have hw := hide' (wordLen_zero s a ha hl)
  have hd := hide' (digLen_run s a ha h48)
  have b48 : ((s[a].toNat : Int) == 48) = false := by simpa using h48
  clear h48
  go_enter Tryz.func104, Tryz.ntmps104
  go_wp2_with (first
    | (go_at_call 178; refine (rSmall_any _ _).mono ?_; rintro e w' ⟨rfl, rfl⟩)
    | (go_at_call 181; refine (rDigit_any _ _).mono ?_; rintro e w' ⟨rfl, rfl⟩))
  go_loop [6] (fun n => ∃ k : Nat, a ≤ k ∧ k ≤ s.size ∧ (k = a ∨ a < k) ∧ n = .int .i64 k ∧ Hid (run isDig (s.data.toList.drop a) = (k - a) + run isDig (s.data.toList.drop k))) (fun n => s.size - (intOf n).toNat)
  case atStart => exact ⟨a, Nat.le_refl _, by omega, .inl rfl, rfl, by show _ = _; omega⟩
  case round =>
    obtain ⟨k, hk1, hk, hk2, rfl, hr⟩ := hrel
    by_cases hgo : ∃ h : k < s.size, digB (s[k].toNat : Int) = true
    · obtain ⟨hlt, hi⟩ := hgo
      have hr' : Hid (run isDig (s.data.toList.drop a) = ((k + 1) - a) + run isDig (s.data.toList.drop (k + 1))) := by
        have h1 := run_at isDig s k hlt hi
        have h2 := hr.out
        show _ = _; omega
      clear hr hk2
      go_wp2_with (go_at_call 181; refine (rDigit_any _ _).mono ?_; rintro e w' ⟨rfl, rfl⟩)
      go_round
      case rel => exact ⟨k + 1, by omega, by omega, .inr (by omega), by go_num, hr'⟩
      case measure => simp [intOf]; omega
    · have hak : a < k := by
        rcases hk2 with rfl | h
        · exact absurd ⟨ha, hdg⟩ hgo
        · exact h
      have hex : s.size ≤ k ∨ ∃ h : k < s.size, digB (s[k].toNat : Int) = false := by
        rcases Nat.lt_or_ge k s.size with h | h
        · exact .inr ⟨h, by simpa using fun e => hgo ⟨h, e⟩⟩
        · exact .inl h
      have hda : digLen (s.data.toList.drop a) = k - a := by
        have h2 := hr.out
        have h3 := hd.out
        rcases hex with h | ⟨h, hi⟩
        · rw [drop_end s k h] at h2
          have : run isDig ([] : List UInt8) = 0 := rfl
          omega
        · have := run_end isDig s k h hi
          omega
      have hfin : Hid (first (s.data.toList.drop a) = if k - a ≤ 9 then some (kInt, (s.extract a k).data.toList) else none) := by
        show _ = _
        unfold first
        rw [hw.out, hda, if_neg (by omega), if_pos (by omega), ext_mid]
      clear hgo hr hda hk2 hd hw
      by_cases h9 : k - a ≤ 9
      · have hf : Hid (first (s.data.toList.drop a) = some (kInt, (s.extract a k).data.toList)) := by show _ = _; rw [hfin.out, if_pos h9]
        have h9' : (k : Int) - a ≤ 9 := by omega
        clear hfin h9
        rcases hex with hex | ⟨hlt, hi⟩
        all_goals
          go_wp2_with (go_at_call 181; refine (rDigit_any _ _).mono ?_; rintro e w' ⟨rfl, rfl⟩)
          refine bodyPost_ret (v := .tuple #[.agg #[.string ⟨#[105, 110, 116]⟩, .string (s.extract a k), .int .i64 a], .bool true]) ?_ rfl ⟨?_, ?_⟩
          · simp [results, Tryz.results104, go_sem]
            try omega
          · exact .inl ⟨_, _, hf.out, by rw [ext_mid, ext_mid_mk]; rfl⟩
          · exact (Below.refl _ _).alloc (Nat.le_refl _) _
      · have hf : Hid (first (s.data.toList.drop a) = none) := by show _ = _; rw [hfin.out, if_neg h9]
        have h9' : ¬ (k : Int) - a ≤ 9 := by omega
        clear hfin h9
        rcases hex with hex | ⟨hlt, hi⟩
        all_goals
          go_wp2_with (go_at_call 181; refine (rDigit_any _ _).mono ?_; rintro e w' ⟨rfl, rfl⟩)
          refine bodyPost_ret (v := .tuple #[.agg #[.string ⟨#[105, 110, 116]⟩, .string (s.extract a k), .int .i64 a], .bool false]) ?_ rfl ⟨?_, ?_⟩
          · simp [results, Tryz.results104, go_sem]
            try omega
          · exact .inr ⟨hf.out, _, _, _, rfl⟩
          · exact (Below.refl _ _).alloc (Nat.le_refl _) _

end Go.Proofs.YtmnlcockdbaibaaGreatDoor
