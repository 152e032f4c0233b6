/-
  The walk of the first token of the reference of layer 1: ints and signs.
-/
import Derived.Test.YtdajlkmagmmdiaaGreatDoorW10
import Derived.BigQuiet
import Derived.Deep.QuietTactic
namespace Go.Proofs.YtdajlkmagmmdiaaGreatDoor
open Go.RowKit
open Tok
set_option linter.unusedVariables false

theorem dig_not_let (c : Int) (h : digB c = true) : letB c = false := by
  simp only [digB, letB, Bool.and_eq_true, decide_eq_true_eq, Bool.and_eq_false_iff, decide_eq_false_iff_not] at h ⊢
  omega
theorem wordLen_zero (s : ByteArray) (a : Nat) (ha : a < s.size) (hl : letB (s[a].toNat : Int) = false) : wordLen (s.data.toList.drop a) = 0 := by
  rw [drop_cons s a ha]
  simp [wordLen, isLet, hl]

theorem one_zero (s : ByteArray) (a : Nat) (w : World) (hs : s.size ≤ 10000) (ha : a < s.size) (h48 : (s[a].toNat : Int) = 48) :
    Calls Tryz.prog 92 #[.string s, .int .i64 a] w fun e w' => OneEnd s a e ∧ Below w.heap.size w w' := by
  have hl : letB (s[a].toNat : Int) = false := by rw [h48]; rfl
  have hw := wordLen_zero s a ha hl
  have hfin : Hid (first (s.data.toList.drop a) = some (kInt, [48])) := by
    show _ = _
    have hd : digLen (s.data.toList.drop a) = 1 := by
      rw [drop_cons s a ha, u8_of _ 48 (by omega) h48]; rfl
    unfold first
    rw [hw, hd, if_neg (by omega), if_pos (by omega), if_pos (by omega)]
    rw [drop_cons s a ha, u8_of _ 48 (by omega) h48]; rfl
  have b48 : ((s[a].toNat : Int) == 48) = true := by simpa using h48
  clear hw h48
  go_enter Tryz.func92, Tryz.ntmps92
  go_wp2_with (go_at_call 135; refine (rSmall_any _ _).mono ?_; rintro e w' ⟨rfl, rfl⟩)
  refine bodyPost_ret (v := .tuple #[.agg #[.string ⟨#[105, 110, 116]⟩, .string ⟨#[48]⟩, .int .i64 a], .bool true]) ?_ rfl ⟨?_, ?_⟩
  · simp [results, Tryz.results92, go_sem]
  · exact .inl ⟨_, _, hfin.out, rfl⟩
  · exact (Below.refl _ _).alloc (Nat.le_refl _) _

theorem digLen_run (s : ByteArray) (a : Nat) (ha : a < s.size) (h48 : ¬ (s[a].toNat : Int) = 48) : digLen (s.data.toList.drop a) = run isDig (s.data.toList.drop a) := by
  rw [drop_cons s a ha]
  have : (s[a] == 48) = false := by
    rw [beq_eq_false_iff_ne]
    intro e
    rw [e] at h48
    exact h48 rfl
  simp [digLen, this]

set_option maxHeartbeats 2000000 in
theorem one_dig (s : ByteArray) (a : Nat) (w : World) (hs : s.size ≤ 10000) (ha : a < s.size) (h48 : ¬ (s[a].toNat : Int) = 48) (hdg : digB (s[a].toNat : Int) = true) :
    Calls Tryz.prog 92 #[.string s, .int .i64 a] w fun e w' => OneEnd s a e ∧ Below w.heap.size w w' := by
  have hl : letB (s[a].toNat : Int) = false := dig_not_let _ hdg
  have hw := hide' (wordLen_zero s a ha hl)
  have hd := hide' (digLen_run s a ha h48)
  have b48 : ((s[a].toNat : Int) == 48) = false := by simpa using h48
  clear h48
  go_enter Tryz.func92, Tryz.ntmps92
  go_wp2_with (first
    | (go_at_call 135; refine (rSmall_any _ _).mono ?_; rintro e w' ⟨rfl, rfl⟩)
    | (go_at_call 138; refine (rDigit_any _ _).mono ?_; rintro e w' ⟨rfl, rfl⟩))
  go_loop [6] (fun n => ∃ k : Nat, a ≤ k ∧ k ≤ s.size ∧ (k = a ∨ a < k) ∧ n = .int .i64 k ∧ Hid (run isDig (s.data.toList.drop a) = (k - a) + run isDig (s.data.toList.drop k))) (fun n => s.size - (intOf n).toNat)
  case atStart => exact ⟨a, Nat.le_refl _, by omega, .inl rfl, rfl, by show _ = _; omega⟩
  case round =>
    obtain ⟨k, hk1, hk, hk2, rfl, hr⟩ := hrel
    by_cases hgo : ∃ h : k < s.size, digB (s[k].toNat : Int) = true
    · obtain ⟨hlt, hi⟩ := hgo
      have hr' : Hid (run isDig (s.data.toList.drop a) = ((k + 1) - a) + run isDig (s.data.toList.drop (k + 1))) := by
        have h1 := run_at isDig s k hlt hi
        have h2 := hr.out
        show _ = _; omega
      clear hr hk2
      go_wp2_with (go_at_call 138; refine (rDigit_any _ _).mono ?_; rintro e w' ⟨rfl, rfl⟩)
      go_round
      case rel => exact ⟨k + 1, by omega, by omega, .inr (by omega), by go_num, hr'⟩
      case measure => simp [intOf]; omega
    · have hak : a < k := by
        rcases hk2 with rfl | h
        · exact absurd ⟨ha, hdg⟩ hgo
        · exact h
      have hex : s.size ≤ k ∨ ∃ h : k < s.size, digB (s[k].toNat : Int) = false := by
        rcases Nat.lt_or_ge k s.size with h | h
        · exact .inr ⟨h, by simpa using fun e => hgo ⟨h, e⟩⟩
        · exact .inl h
      have hda : digLen (s.data.toList.drop a) = k - a := by
        have h2 := hr.out
        have h3 := hd.out
        rcases hex with h | ⟨h, hi⟩
        · rw [drop_end s k h] at h2
          have : run isDig ([] : List UInt8) = 0 := rfl
          omega
        · have := run_end isDig s k h hi
          omega
      have hfin : Hid (first (s.data.toList.drop a) = if k - a ≤ 9 then some (kInt, (s.extract a k).data.toList) else none) := by
        show _ = _
        unfold first
        rw [hw.out, hda, if_neg (by omega), if_pos (by omega), ext_mid]
      clear hgo hr hda hk2 hd hw
      by_cases h9 : k - a ≤ 9
      · have hf : Hid (first (s.data.toList.drop a) = some (kInt, (s.extract a k).data.toList)) := by show _ = _; rw [hfin.out, if_pos h9]
        have h9' : (k : Int) - a ≤ 9 := by omega
        clear hfin h9
        rcases hex with hex | ⟨hlt, hi⟩
        all_goals
          go_wp2_with (go_at_call 138; refine (rDigit_any _ _).mono ?_; rintro e w' ⟨rfl, rfl⟩)
          refine bodyPost_ret (v := .tuple #[.agg #[.string ⟨#[105, 110, 116]⟩, .string (s.extract a k), .int .i64 a], .bool true]) ?_ rfl ⟨?_, ?_⟩
          · simp [results, Tryz.results92, go_sem]
            try omega
          · exact .inl ⟨_, _, hf.out, by rw [ext_mid, ext_mid_mk]; rfl⟩
          · exact (Below.refl _ _).alloc (Nat.le_refl _) _
      · have hf : Hid (first (s.data.toList.drop a) = none) := by show _ = _; rw [hfin.out, if_neg h9]
        have h9' : ¬ (k : Int) - a ≤ 9 := by omega
        clear hfin h9
        rcases hex with hex | ⟨hlt, hi⟩
        all_goals
          go_wp2_with (go_at_call 138; refine (rDigit_any _ _).mono ?_; rintro e w' ⟨rfl, rfl⟩)
          refine bodyPost_ret (v := .tuple #[.agg #[.string ⟨#[105, 110, 116]⟩, .string (s.extract a k), .int .i64 a], .bool false]) ?_ rfl ⟨?_, ?_⟩
          · simp [results, Tryz.results92, go_sem]
            try omega
          · exact .inr ⟨hf.out, _, _, _, rfl⟩
          · exact (Below.refl _ _).alloc (Nat.le_refl _) _

end Go.Proofs.YtdajlkmagmmdiaaGreatDoor
