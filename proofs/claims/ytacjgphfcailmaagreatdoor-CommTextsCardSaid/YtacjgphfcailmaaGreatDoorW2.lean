/-
  The walks of ints, gaps, keys and kinds of package token, over the shelf's contracts.
-/
import Derived.Test.YtacjgphfcailmaaGreatDoorPlain
import Derived.Test.YtacjgphfcailmaaGreatDoorProg
import Derived.WalkKit
import Derived.ProofKit
import Derived.WalkSpells
import Derived.WalkLawsBesides
import Derived.Lib.Hide
import Derived.Test.YtacjgphfcailmaaGreatDoorShelf
namespace Go.Proofs.YtacjgphfcailmaaGreatDoor
open Go.RowKit
open Tok

theorem isDigit_any (c : Int) (w : World) : Calls Tryz.prog 375 #[.int .u8 c] w fun e w' => e = .returned (.bool (digB c)) ∧ w = w' := by
  go_enter Tryz.func375, Tryz.ntmps375
  go_wp2
  all_goals (go_ret; refine ⟨?_, rfl⟩; simp [digB]; try omega)

theorem isLetter_any (c : Int) (w : World) : Calls Tryz.prog 372 #[.int .u8 c] w fun e w' => e = .returned (.bool (letB c)) ∧ w = w' := by
  go_enter Tryz.func372, Tryz.ntmps372
  go_wp2
  all_goals (go_ret; refine ⟨?_, rfl⟩; simp [letB]; try omega)

theorem beq_eq_dec (a b : Int) : (a == b) = decide (a = b) := by by_cases h : a = b <;> simp [h]

theorem isInner_any (c : Int) (w : World) : Calls Tryz.prog 373 #[.int .u8 c] w fun e w' => e = .returned (.bool (innB c)) ∧ w = w' := by
  go_enter Tryz.func373, Tryz.ntmps373
  go_wp2_with (first
    | (go_at_call 372; refine (isLetter_any _ _).mono ?_; rintro e w' ⟨rfl, rfl⟩)
    | (go_at_call 375; refine (isDigit_any _ _).mono ?_; rintro e w' ⟨rfl, rfl⟩))
  all_goals (go_ret; refine ⟨?_, rfl⟩; simp_all [innB, beq_eq_dec]; try omega)

theorem ret_int {k : IntKind} {a b : Int} (h : a = b) : Ending.returned (.int k a) = .returned (.int k b) := by rw [h]
theorem getq (s : ByteArray) (k : Nat) (h : k < s.size) : s.data.toList[k]? = some s[k] := by
  have h' : k < s.data.toList.length := by simpa using h
  rw [List.getElem?_eq_getElem h']
  rfl
theorem drop_cons (s : ByteArray) (k : Nat) (h : k < s.size) : s.data.toList.drop k = s[k] :: s.data.toList.drop (k + 1) := by
  have h' : k < s.data.toList.length := by simpa using h
  rw [List.drop_eq_getElem_cons h']
  rfl
theorem drop_end (s : ByteArray) (k : Nat) (h : s.size ≤ k) : s.data.toList.drop k = [] :=
  List.drop_eq_nil_of_le (by rw [← Lib.size_eq]; exact h)

/-- one more byte of a run -/
theorem run_at (p : UInt8 → Bool) (s : ByteArray) (k : Nat) (h : k < s.size) (hp : p s[k] = true) : run p (s.data.toList.drop k) = run p (s.data.toList.drop (k + 1)) + 1 := by
  rw [drop_cons s k h]; simp [run, hp]
theorem run_end (p : UInt8 → Bool) (s : ByteArray) (k : Nat) (h : k < s.size) (hp : p s[k] = false) : run p (s.data.toList.drop k) = 0 := by
  rw [drop_cons s k h]; simp [run, hp]

theorem not_empty (s : ByteArray) (h : 0 < s.size) : s.toList.isEmpty = false := by
  rw [Lib.toList_data]
  cases hl : s.data.toList with
  | nil => rw [Lib.size_eq, hl] at h; simp at h
  | cons _ _ => rfl
theorem is_empty (s : ByteArray) (h : s.size = 0) : s.toList.isEmpty = true := by
  rw [Lib.toList_data]
  rw [Lib.size_eq] at h
  rw [List.eq_nil_of_length_eq_zero h]; rfl
theorem list_empty (s : ByteArray) (h : s.size = 0) : s.data.toList = [] := by
  rw [Lib.size_eq] at h
  exact List.eq_nil_of_length_eq_zero h

set_option maxHeartbeats 400000 in
theorem word_any (s : ByteArray) (w : World) (hs : s.size ≤ 4611686018427387904) :
    Calls Tryz.prog 342 #[.string s] w fun e w' => e = .returned (.int .i64 (wordLen s.data.toList : Nat)) ∧ w = w' := by
  by_cases h0 : s.size = 0
  · have H := Lib.hid (list_empty s h0)
    have he := is_empty s h0
    clear h0
    go_enter Tryz.func342, Tryz.ntmps342
    go_wp2
    go_ret
    exact ⟨by rw [H.out]; rfl, rfl⟩
  · have hp : 0 < s.size := by omega
    clear h0
    have hne := not_empty s hp
    have hd := drop_cons s 0 hp
    rw [List.drop_zero] at hd
    by_cases hl : letB (s[0].toNat : Int) = true
    · have H : Hid (wordLen s.data.toList = run isInn (s.data.toList.drop 1) + 1) := by
        show _ = _
        rw [hd]; simp [wordLen, isLet, hl]
      clear hd
      go_enter Tryz.func342, Tryz.ntmps342
      go_wp2_with (go_at_call 372; refine (isLetter_any _ _).mono ?_; rintro e w' ⟨rfl, rfl⟩)
      go_loop [3] (fun n => ∃ k : Nat, 1 ≤ k ∧ k ≤ s.size ∧ n = .int .i64 k ∧ Hid (run isInn (s.data.toList.drop 1) + 1 = k + run isInn (s.data.toList.drop k))) (fun n => s.size - (intOf n).toNat)
      case atStart => exact ⟨1, Nat.le_refl _, hp, rfl, by show _ = _; omega⟩
      case round =>
        obtain ⟨k, hk1, hk, rfl, hr⟩ := hrel
        by_cases hlt : k < s.size
        · by_cases hi : innB (s[k].toNat : Int) = true
          · have hr' : Hid (run isInn (s.data.toList.drop 1) + 1 = (k + 1) + run isInn (s.data.toList.drop (k + 1))) := by
              have h1 := run_at isInn s k hlt hi
              have h2 := hr.out
              show _ = _; omega
            clear hr
            go_wp2_with (go_at_call 373; refine (isInner_any _ _).mono ?_; rintro e w' ⟨rfl, rfl⟩)
            go_round
            case rel => exact ⟨k + 1, by omega, by omega, by go_num, hr'⟩
            case measure => simp [intOf]; omega
          · have hi' : innB (s[k].toNat : Int) = false := by simpa using hi
            clear hi
            have hr' : Hid (wordLen s.data.toList = k) := by
              have h1 := run_end isInn s k hlt hi'
              have h2 := hr.out
              have h3 := H.out
              show _ = _; omega
            clear hr
            go_wp2_with (go_at_call 373; refine (isInner_any _ _).mono ?_; rintro e w' ⟨rfl, rfl⟩)
            go_ret
            exact ⟨by rw [hr'.out]; rfl, rfl⟩
        · have hr' : Hid (wordLen s.data.toList = k) := by
            have h1 := drop_end s k (by omega)
            have h2 := hr.out
            rw [h1] at h2
            have h3 := H.out
            show _ = _; simp only [run] at h2; omega
          clear hr
          go_wp2
          go_ret
          exact ⟨by rw [hr'.out]; rfl, rfl⟩
    · have hl' : letB (s[0].toNat : Int) = false := by simpa using hl
      clear hl
      have H : Hid (wordLen s.data.toList = 0) := by
        show _ = _
        rw [hd]; simp [wordLen, isLet, hl']
      clear hd
      go_enter Tryz.func342, Tryz.ntmps342
      go_wp2_with (go_at_call 372; refine (isLetter_any _ _).mono ?_; rintro e w' ⟨rfl, rfl⟩)
      go_ret
      exact ⟨by rw [H.out]; rfl, rfl⟩

end Go.Proofs.YtacjgphfcailmaaGreatDoor

namespace Go.Proofs.YtacjgphfcailmaaGreatDoor
open Go.RowKit
open Tok

theorem hide' {p : Prop} (h : p) : Hid p := h

theorem ext_end (s : ByteArray) (k : Nat) : (s.extract k s.size).data.toList = s.data.toList.drop k := by
  rw [Lib.extract_data]
  exact List.take_of_length_le (by rw [List.length_drop, ← Lib.size_eq]; exact Nat.le_refl _)
theorem ext_take (s : ByteArray) (k : Nat) : (s.extract 0 k).data.toList = s.data.toList.take k := by
  rw [Lib.extract_data]; simp
theorem ext_size (s : ByteArray) (k : Nat) (h : k ≤ s.size) : (s.extract 0 k).size = k := by
  rw [Lib.size_eq, ext_take, List.length_take, ← Lib.size_eq]; omega
theorem ext_end_size (s : ByteArray) (k : Nat) : (s.extract k s.size).size = s.size - k := by
  rw [Lib.size_eq, ext_end, List.length_drop, ← Lib.size_eq]

/-- HasPrefix, behind a name that the walk does not open -/
def pre (s p : ByteArray) : Bool := Lib.hasPrefix s.data.toList p.data.toList
theorem hasPrefix_any (s p : ByteArray) (w : World) :
    Calls Tryz.prog 346 #[.string s, .string p] w fun e w' => e = .returned (.bool (pre s p)) ∧ w = w' :=
  (Tryz.strings_HasPrefix s p w).mono fun _ _ ⟨h1, h2⟩ => ⟨h1, h2.symm⟩

theorem has_one (l : List UInt8) (c : UInt8) : Lib.hasPrefix l [c] = (l.head? == some c) := by
  cases l with
  | nil => rfl
  | cons d r =>
    rw [Bool.eq_iff_iff]
    simp [Lib.hasPrefix]
    exact eq_comm

set_option maxHeartbeats 400000 in
theorem digits_any (s : ByteArray) (w : World) (hs : s.size ≤ 4611686018427387904) :
    Calls Tryz.prog 344 #[.string s] w fun e w' => e = .returned (.int .i64 (digLen s.data.toList : Nat)) ∧ w = w' := by
  by_cases h0 : pre s ⟨#[48]⟩ = true
  · have H : Hid (digLen s.data.toList = 1) := by
      show _ = _
      have h0 : Lib.hasPrefix s.data.toList [48] = true := h0
      rw [has_one] at h0
      cases hl : s.data.toList with
      | nil => rw [hl] at h0; simp at h0
      | cons d r => rw [hl] at h0; simp at h0; simp [digLen, h0]
    go_enter Tryz.func344, Tryz.ntmps344
    go_wp2_with (go_at_call 346; refine (hasPrefix_any _ _ _).mono ?_; rintro e w' ⟨rfl, rfl⟩)
    go_ret
    exact ⟨by rw [H.out]; rfl, rfl⟩
  · have hf : pre s ⟨#[48]⟩ = false := by simpa using h0
    have H : Hid (digLen s.data.toList = run isDig s.data.toList) := by
      show _ = _
      have hf : Lib.hasPrefix s.data.toList [48] = false := hf
      rw [has_one] at hf
      cases hl : s.data.toList with
      | nil => rfl
      | cons d r => rw [hl] at hf; simp at hf; simp [digLen, hf]
    clear h0
    go_enter Tryz.func344, Tryz.ntmps344
    go_wp2_with (go_at_call 346; refine (hasPrefix_any _ _ _).mono ?_; rintro e w' ⟨rfl, rfl⟩)
    go_loop [3] (fun n => ∃ k : Nat, k ≤ s.size ∧ n = .int .i64 k ∧ Hid (run isDig s.data.toList = k + run isDig (s.data.toList.drop k))) (fun n => s.size - (intOf n).toNat)
    case atStart => exact ⟨0, Nat.zero_le _, rfl, by show _ = _; simp⟩
    case round =>
      obtain ⟨k, hk, rfl, hr⟩ := hrel
      by_cases hlt : k < s.size
      · by_cases hi : digB (s[k].toNat : Int) = true
        · have hr' : Hid (run isDig s.data.toList = (k + 1) + run isDig (s.data.toList.drop (k + 1))) := by
            have h1 := run_at isDig s k hlt hi
            have h2 := hr.out
            show _ = _; omega
          clear hr
          go_wp2_with (go_at_call 375; refine (isDigit_any _ _).mono ?_; rintro e w' ⟨rfl, rfl⟩)
          go_round
          case rel => exact ⟨k + 1, by omega, by go_num, hr'⟩
          case measure => simp [intOf]; omega
        · have hi' : digB (s[k].toNat : Int) = false := by simpa using hi
          clear hi
          have hr' : Hid (digLen s.data.toList = k) := by
            have h1 := run_end isDig s k hlt hi'
            have h2 := hr.out
            have h3 := H.out
            show _ = _; omega
          clear hr
          go_wp2_with (go_at_call 375; refine (isDigit_any _ _).mono ?_; rintro e w' ⟨rfl, rfl⟩)
          go_ret
          exact ⟨by rw [hr'.out]; rfl, rfl⟩
      · have hr' : Hid (digLen s.data.toList = k) := by
          have h1 := drop_end s k (by omega)
          have h2 := hr.out
          rw [h1] at h2
          have h3 := H.out
          show _ = _; simp only [run] at h2; omega
        clear hr
        go_wp2
        go_ret
        exact ⟨by rw [hr'.out]; rfl, rfl⟩

/-- where the next end of a line is -/
def IdxB (l : List UInt8) (q : Int) : Prop := (q = -1 ∧ ∀ c ∈ l, (c == 10) = false) ∨ (0 ≤ q ∧ l[q.toNat]? = some 10 ∧ ∀ j, j < q.toNat → l[j]? ≠ some 10)
theorem idxB_of : ∀ l : List UInt8, IdxB l (Lib.indexByte l 10)
  | [] => .inl ⟨rfl, by simp⟩
  | c :: r => by
    have ih := idxB_of r
    unfold Lib.indexByte
    by_cases hc : (c == 10) = true
    · rw [if_pos hc]
      exact .inr ⟨by omega, by simpa using hc, by intro j hj; simp at hj⟩
    · rw [if_neg hc]
      rcases ih with ⟨h1, h2⟩ | ⟨h1, h2, h3⟩
      · rw [h1]
        refine .inl ⟨by simp, fun d hd => ?_⟩
        rcases List.mem_cons.1 hd with rfl | hd
        · simpa using hc
        · exact h2 d hd
      · have hne : (Lib.indexByte r 10 == -1) = false := by simp; omega
        rw [hne]
        refine .inr ⟨by simp; omega, ?_, ?_⟩
        · simp only [Bool.false_eq_true, if_false]
          rw [show (Lib.indexByte r 10 + 1).toNat = (Lib.indexByte r 10).toNat + 1 from by omega]
          simpa using h2
        · intro j hj
          simp only [Bool.false_eq_true, if_false] at hj
          cases j with
          | zero => simpa using hc
          | succ j => simpa using h3 j (by omega)
theorem idxB_le {l : List UInt8} {q : Int} (h : IdxB l q) : -1 ≤ q ∧ q ≤ l.length := by
  rcases h with ⟨rfl, _⟩ | ⟨h1, h2, _⟩
  · omega
  · have := (List.getElem?_eq_some_iff.1 h2).1
    omega

end Go.Proofs.YtacjgphfcailmaaGreatDoor
