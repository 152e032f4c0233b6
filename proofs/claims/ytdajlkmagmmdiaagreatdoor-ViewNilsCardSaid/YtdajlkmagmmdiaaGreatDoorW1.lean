/-
  The walks of the small functions of package token: tests on bytes, words and ints in front.
-/
import Derived.Test.YtdajlkmagmmdiaaGreatDoorPlain
import Derived.Test.YtdajlkmagmmdiaaGreatDoorProg
import Derived.WalkKit
import Derived.ProofKit
import Derived.WalkSpells
import Derived.WalkLawsBesides
import Derived.Lib.Hide
namespace Go.Proofs.YtdajlkmagmmdiaaGreatDoor
open Go.RowKit
open Tok

theorem isDigit_any (c : Int) (w : World) : Calls Tryz.prog 508 #[.int .u8 c] w fun e w' => e = .returned (.bool (digB c)) ∧ w = w' := by
  go_enter Tryz.func508, Tryz.ntmps508
  go_wp2
  all_goals (go_ret; refine ⟨?_, rfl⟩; simp [digB]; try omega)

theorem isLetter_any (c : Int) (w : World) : Calls Tryz.prog 505 #[.int .u8 c] w fun e w' => e = .returned (.bool (letB c)) ∧ w = w' := by
  go_enter Tryz.func505, Tryz.ntmps505
  go_wp2
  all_goals (go_ret; refine ⟨?_, rfl⟩; simp [letB]; try omega)

theorem beq_eq_dec (a b : Int) : (a == b) = decide (a = b) := by by_cases h : a = b <;> simp [h]

theorem isInner_any (c : Int) (w : World) : Calls Tryz.prog 506 #[.int .u8 c] w fun e w' => e = .returned (.bool (innB c)) ∧ w = w' := by
  go_enter Tryz.func506, Tryz.ntmps506
  go_wp2_with (first
    | (go_at_call 505; refine (isLetter_any _ _).mono ?_; rintro e w' ⟨rfl, rfl⟩)
    | (go_at_call 508; refine (isDigit_any _ _).mono ?_; rintro e w' ⟨rfl, rfl⟩))
  all_goals (go_ret; refine ⟨?_, rfl⟩; simp_all [innB, beq_eq_dec]; try omega)

theorem ret_int {k : IntKind} {a b : Int} (h : a = b) : Ending.returned (.int k a) = .returned (.int k b) := by rw [h]
theorem getq (s : ByteArray) (k : Nat) (h : k < s.size) : s.data.toList[k]? = some s[k] := by
  have h' : k < s.data.toList.length := by simpa using h
  rw [List.getElem?_eq_getElem h']
  rfl
theorem drop_cons (s : ByteArray) (k : Nat) (h : k < s.size) : s.data.toList.drop k = s[k] :: s.data.toList.drop (k + 1) := by
  have h' : k < s.data.toList.length := by simpa using h
  rw [List.drop_eq_getElem_cons h']
  rfl
theorem drop_end (s : ByteArray) (k : Nat) (h : s.size ≤ k) : s.data.toList.drop k = [] :=
  List.drop_eq_nil_of_le (by rw [← Lib.size_eq]; exact h)

/-- one more byte of a run -/
theorem run_at (p : UInt8 → Bool) (s : ByteArray) (k : Nat) (h : k < s.size) (hp : p s[k] = true) : run p (s.data.toList.drop k) = run p (s.data.toList.drop (k + 1)) + 1 := by
  rw [drop_cons s k h]; simp [run, hp]
theorem run_end (p : UInt8 → Bool) (s : ByteArray) (k : Nat) (h : k < s.size) (hp : p s[k] = false) : run p (s.data.toList.drop k) = 0 := by
  rw [drop_cons s k h]; simp [run, hp]

theorem not_empty (s : ByteArray) (h : 0 < s.size) : s.toList.isEmpty = false := by
  rw [Lib.toList_data]
  cases hl : s.data.toList with
  | nil => rw [Lib.size_eq, hl] at h; simp at h
  | cons _ _ => rfl
theorem is_empty (s : ByteArray) (h : s.size = 0) : s.toList.isEmpty = true := by
  rw [Lib.toList_data]
  rw [Lib.size_eq] at h
  rw [List.eq_nil_of_length_eq_zero h]; rfl
theorem list_empty (s : ByteArray) (h : s.size = 0) : s.data.toList = [] := by
  rw [Lib.size_eq] at h
  exact List.eq_nil_of_length_eq_zero h

set_option maxHeartbeats 400000 in
theorem word_any (s : ByteArray) (w : World) (hs : s.size ≤ 4611686018427387904) :
    Calls Tryz.prog 472 #[.string s] w fun e w' => e = .returned (.int .i64 (wordLen s.data.toList : Nat)) ∧ w = w' := by
  by_cases h0 : s.size = 0
  · have H := Lib.hid (list_empty s h0)
    have he := is_empty s h0
    clear h0
    go_enter Tryz.func472, Tryz.ntmps472
    go_wp2
    go_ret
    exact ⟨by rw [H.out]; rfl, rfl⟩
  · have hp : 0 < s.size := by omega
    clear h0
    have hne := not_empty s hp
    have hd := drop_cons s 0 hp
    rw [List.drop_zero] at hd
    by_cases hl : letB (s[0].toNat : Int) = true
    · have H : Hid (wordLen s.data.toList = run isInn (s.data.toList.drop 1) + 1) := by
        show _ = _
        rw [hd]; simp [wordLen, isLet, hl]
      clear hd
      go_enter Tryz.func472, Tryz.ntmps472
      go_wp2_with (go_at_call 505; refine (isLetter_any _ _).mono ?_; rintro e w' ⟨rfl, rfl⟩)
      go_loop [3] (fun n => ∃ k : Nat, 1 ≤ k ∧ k ≤ s.size ∧ n = .int .i64 k ∧ Hid (run isInn (s.data.toList.drop 1) + 1 = k + run isInn (s.data.toList.drop k))) (fun n => s.size - (intOf n).toNat)
      case atStart => exact ⟨1, Nat.le_refl _, hp, rfl, by show _ = _; omega⟩
      case round =>
        obtain ⟨k, hk1, hk, rfl, hr⟩ := hrel
        by_cases hlt : k < s.size
        · by_cases hi : innB (s[k].toNat : Int) = true
          · have hr' : Hid (run isInn (s.data.toList.drop 1) + 1 = (k + 1) + run isInn (s.data.toList.drop (k + 1))) := by
              have h1 := run_at isInn s k hlt hi
              have h2 := hr.out
              show _ = _; omega
            clear hr
            go_wp2_with (go_at_call 506; refine (isInner_any _ _).mono ?_; rintro e w' ⟨rfl, rfl⟩)
            go_round
            case rel => exact ⟨k + 1, by omega, by omega, by go_num, hr'⟩
            case measure => simp [intOf]; omega
          · have hi' : innB (s[k].toNat : Int) = false := by simpa using hi
            clear hi
            have hr' : Hid (wordLen s.data.toList = k) := by
              have h1 := run_end isInn s k hlt hi'
              have h2 := hr.out
              have h3 := H.out
              show _ = _; omega
            clear hr
            go_wp2_with (go_at_call 506; refine (isInner_any _ _).mono ?_; rintro e w' ⟨rfl, rfl⟩)
            go_ret
            exact ⟨by rw [hr'.out]; rfl, rfl⟩
        · have hr' : Hid (wordLen s.data.toList = k) := by
            have h1 := drop_end s k (by omega)
            have h2 := hr.out
            rw [h1] at h2
            have h3 := H.out
            show _ = _; simp only [run] at h2; omega
          clear hr
          go_wp2
          go_ret
          exact ⟨by rw [hr'.out]; rfl, rfl⟩
    · have hl' : letB (s[0].toNat : Int) = false := by simpa using hl
      clear hl
      have H : Hid (wordLen s.data.toList = 0) := by
        show _ = _
        rw [hd]; simp [wordLen, isLet, hl']
      clear hd
      go_enter Tryz.func472, Tryz.ntmps472
      go_wp2_with (go_at_call 505; refine (isLetter_any _ _).mono ?_; rintro e w' ⟨rfl, rfl⟩)
      go_ret
      exact ⟨by rw [H.out]; rfl, rfl⟩

end Go.Proofs.YtdajlkmagmmdiaaGreatDoor
