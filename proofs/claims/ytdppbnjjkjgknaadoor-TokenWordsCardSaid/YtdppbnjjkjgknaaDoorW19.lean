/-
  The walks of Number, Valid and Join of the reference of layer 1.
-/
import Derived.Test.YtdppbnjjkjgknaaDoorW18
import Derived.Test.YtdppbnjjkjgknaaDoorPlain3
import Derived.Test.YtdppbnjjkjgknaaDoorW16
namespace Go.Proofs.YtdppbnjjkjgknaaDoor
open Go.RowKit
open Tok
set_option linter.unusedVariables false

/-- what Number hands back -/
def NumEnd (l : List UInt8) (e : Ending) : Prop :=
  (isNum l = true ∧ e = .returned (.tuple #[.int .i64 (numOf l), .int .i64 0])) ∨ (isNum l = false ∧ e = .returned (.tuple #[.int .i64 0, .int .i64 3]))
theorem isNum_len {l : List UInt8} (h : ¬ (1 ≤ l.length ∧ l.length ≤ 9)) : isNum l = false := by
  unfold isNum; simp [h]
theorem take_all (s : ByteArray) (k : Nat) (h : k < s.size) : s.data.toList.take (k + 1) = s.data.toList.take k ++ [s[k]] := take_more s k h
theorem head_of (s : ByteArray) (h : 0 < s.size) : s.data.toList.head? = some s[0] := by
  have := drop_cons s 0 h
  rw [List.drop_zero] at this
  rw [this]; rfl
theorem digits_upto (s : ByteArray) (k : Nat) (hk : k < s.size) (h : ∀ c ∈ s.data.toList.take k, isDig c = true) (hd : digB (s[k].toNat : Int) = true) : ∀ c ∈ s.data.toList.take (k + 1), isDig c = true := by
  rw [take_all s k hk]
  intro c hc
  rcases List.mem_append.1 hc with h1 | h1
  · exact h c h1
  · obtain rfl : c = s[k] := by simpa using h1
    exact hd

set_option maxHeartbeats 1000000 in
theorem rNumber_loop (s : ByteArray) (w : World) (h1 : 1 ≤ s.size) (h9 : s.size ≤ 9) (hlead : s.size = 1 ∨ (2 ≤ s.size ∧ ((s[0].toNat : Int) == 48) = false)) :
    Calls Tryd.prog 24 #[.string s] w fun e w' => NumEnd s.data.toList e ∧ w = w' := by
  have hp : 0 < s.size := h1
  have hfit : Hid (isNum s.data.toList = s.data.toList.all isDig) := by
    show _ = _
    unfold isNum
    rw [← Lib.size_eq, head_of s hp]
    have hc : (decide (s.size = 1) || !(some s[0] == some 48)) = true := by
      rcases hlead with h | ⟨_, h⟩
      · simp [h]
      · have : ¬ s[0] = 48 := by
          intro e
          rw [e] at h
          revert h; decide
        simp [this]
    rw [hc]
    simp [h1, h9]
  have hstart : True := trivial
  rcases hlead with hlead | ⟨hlead, h48⟩
  all_goals
    go_enter Tryd.func24, Tryd.ntmps24
    go_wp2
    go_loop [4, 5] (fun n i => ∃ (k : Nat) (m : Int), k ≤ s.size ∧ n = .int .i64 m ∧ i = .int .i64 k ∧ 0 ≤ m ∧ Hid (m = numOf (s.data.toList.take k)) ∧ Hid (∀ c ∈ s.data.toList.take k, isDig c = true)) (fun _ i => s.size - (intOf i).toNat)
    case atStart => exact ⟨0, 0, Nat.zero_le _, rfl, rfl, Int.le_refl _, rfl, (fun c hc => by simp at hc)⟩
    case round =>
      obtain ⟨k, m, hk, rfl, rfl, hm0, hm, hd⟩ := hrel
      by_cases hlt : k < s.size
      · by_cases hdg : digB (s[k].toNat : Int) = true
        · have hd' := hide' (digits_upto s k hlt hd.out hdg)
          have hm' : Hid (10 * m + ((s[k].toNat : Int) - 48) = numOf (s.data.toList.take (k + 1))) := by
            show _ = _
            rw [take_all s k hlt, numOf_snoc, hm.out]
          have hb := (numOf_bd k (s.data.toList.take k) (by rw [List.length_take, ← Lib.size_eq]; omega) hd.out).2
          rw [← hm.out] at hb
          have hp8 : (10 : Int) ^ k ≤ 10 ^ 8 := by
            have : (10 : Nat) ^ k ≤ 10 ^ 8 := Nat.pow_le_pow_right (by omega) (by omega)
            exact_mod_cast this
          have hmb : m ≤ 100000000 := by
            have : (10 : Int) ^ 8 = 100000000 := by decide
            omega
          obtain ⟨g1, g2⟩ := isDig_range s[k] hdg
          clear hb hp8 hm hd hfit
          go_wp2_with (go_at_call 37; refine (rDigit_any _ _).mono ?_; rintro e w' ⟨rfl, rfl⟩)
          go_round
          case rel => exact ⟨k + 1, _, by omega, rfl, by go_num, by omega, hm', hd'⟩
          case measure => simp [intOf]; omega
        · have hdf : digB (s[k].toNat : Int) = false := by simpa using hdg
          have hfin : Hid (isNum s.data.toList = false) := by
            show _ = _
            rw [hfit.out, Bool.eq_false_iff]
            intro h
            rw [List.all_eq_true] at h
            exact hdg (h s[k] (List.mem_of_getElem? (getq s k hlt)))
          clear hdg hm hd hfit
          go_wp2_with (go_at_call 37; refine (rDigit_any _ _).mono ?_; rintro e w' ⟨rfl, rfl⟩)
          go_ret2
          exact ⟨.inr ⟨hfin.out, rfl⟩, rfl⟩
      · have hke : s.data.toList.take k = s.data.toList := List.take_of_length_le (by rw [← Lib.size_eq]; omega)
        have hd2 := hd.out
        have hm2 := hm.out
        rw [hke] at hd2 hm2
        have hfin : Hid (isNum s.data.toList = true) := by
          show _ = _
          rw [hfit.out, List.all_eq_true]; exact hd2
        have HM := hide' hm2
        clear hm hd hfit hke hd2 hm2
        go_wp2
        go_ret2
        exact ⟨.inl ⟨hfin.out, by rw [← HM.out]; rfl⟩, rfl⟩

set_option maxHeartbeats 1000000 in
theorem rNumber_any (s : ByteArray) (w : World) (hs : s.size ≤ 4611686018427387904) :
    Calls Tryd.prog 24 #[.string s] w fun e w' => NumEnd s.data.toList e ∧ w = w' := by
  by_cases h1 : 1 ≤ s.size
  · by_cases h9 : s.size ≤ 9
    · by_cases h2 : s.size = 1
      · exact rNumber_loop s w h1 h9 (.inl h2)
      · have hp : 0 < s.size := by omega
        cases h48 : ((s[0].toNat : Int) == 48)
        · exact rNumber_loop s w h1 h9 (.inr ⟨by omega, h48⟩)
        · have hfin : Hid (isNum s.data.toList = false) := by
            show _ = _
            unfold isNum
            rw [← Lib.size_eq, head_of s hp]
            have : s[0] = 48 := u8_of _ 48 (by omega) (by simpa using h48)
            rw [this]
            simp [h2]
          have h3 : 2 ≤ s.size := by omega
          go_enter Tryd.func24, Tryd.ntmps24
          go_wp2
          go_ret2
          exact ⟨.inr ⟨hfin.out, rfl⟩, rfl⟩
    · have hfin : Hid (isNum s.data.toList = false) := isNum_len (by rw [← Lib.size_eq]; omega)
      go_enter Tryd.func24, Tryd.ntmps24
      go_wp2
      go_ret2
      exact ⟨.inr ⟨hfin.out, rfl⟩, rfl⟩
  · have hfin : Hid (isNum s.data.toList = false) := isNum_len (by rw [← Lib.size_eq]; omega)
    have h0 : s.size < 1 := by omega
    go_enter Tryd.func24, Tryd.ntmps24
    go_wp2
    go_ret2
    exact ⟨.inr ⟨hfin.out, rfl⟩, rfl⟩

end Go.Proofs.YtdppbnjjkjgknaaDoor
