/-
  The walks of Line, and of the statement on lines and columns.
-/
import Derived.Test.YtdppbnjjkjgknaaDoorW16
namespace Go.Proofs.YtdppbnjjkjgknaaDoor
open Go.RowKit
open Tok
set_option linter.unusedVariables false

def lineOf (l : List UInt8) : Int := l.foldl (fun n c => if (c.toNat : Int) = 10 then n + 1 else n) 1
def colOf (l : List UInt8) : Int := l.foldl (fun n c => if (c.toNat : Int) = 10 then 1 else n + 1) 1
theorem lineOf_snoc (l : List UInt8) (c : UInt8) : lineOf (l ++ [c]) = if (c.toNat : Int) = 10 then lineOf l + 1 else lineOf l := by
  unfold lineOf; rw [List.foldl_append]; rfl
theorem colOf_snoc (l : List UInt8) (c : UInt8) : colOf (l ++ [c]) = if (c.toNat : Int) = 10 then 1 else colOf l + 1 := by
  unfold colOf; rw [List.foldl_append]; rfl
theorem line_count (s : ByteArray) : ∀ k, k ≤ s.size → lineOf (s.data.toList.take k) = 1 + ((s.data.toList.take k).count 10 : Nat)
  | 0, _ => by simp [lineOf]
  | k + 1, h => by
    have hk : k < s.size := by omega
    rw [take_more s k hk, lineOf_snoc, List.count_append, line_count s k (by omega)]
    by_cases h10 : (s[k].toNat : Int) = 10
    · rw [if_pos h10, u8_of _ 10 (by omega) h10]
      simp; omega
    · rw [if_neg h10]
      have : ¬ s[k] = 10 := by intro e; rw [e] at h10; exact h10 rfl
      simp [this]
theorem col_last (s : ByteArray) : ∀ k, k ≤ s.size → colOf (s.data.toList.take k) = k - Lib.lastIdx s 10 k
  | 0, _ => by simp [colOf, Lib.lastIdx]
  | k + 1, h => by
    have hk : k < s.size := by omega
    have e : (s.data[k]!) = s[k] := by
      have : k < s.data.size := hk
      rw [getElem!_pos s.data k this]; rfl
    rw [take_more s k hk, colOf_snoc, col_last s k (by omega)]
    by_cases h10 : (s[k].toNat : Int) = 10
    · rw [if_pos h10, Lib.lastIdx_hit s 10 k (by rw [e]; exact h10)]; omega
    · rw [if_neg h10, Lib.lastIdx_miss s 10 k (by rw [e]; exact h10)]; omega
theorem line_bd (s : ByteArray) (k : Nat) (h : k ≤ s.size) : 1 ≤ lineOf (s.data.toList.take k) ∧ lineOf (s.data.toList.take k) ≤ 1 + k := by
  rw [line_count s k h]
  have h1 := List.count_le_length (a := (10 : UInt8)) (l := s.data.toList.take k)
  rw [List.length_take] at h1
  omega
theorem col_bd (s : ByteArray) (k : Nat) (h : k ≤ s.size) : 1 ≤ colOf (s.data.toList.take k) ∧ colOf (s.data.toList.take k) ≤ 1 + k := by
  rw [col_last s k h]
  rcases Lib.lastIdx_spec s 10 k with ⟨e, _⟩ | ⟨i, hi, e, _⟩
  · rw [e]; omega
  · rw [e]; omega

/-- what Line hands back -/
def LineEnd (s : ByteArray) (a : Int) (e : Ending) : Prop :=
  (¬ (0 ≤ a ∧ a ≤ s.size) ∧ e = .returned (.tuple #[.int .i64 0, .int .i64 0, .int .i64 3])) ∨
  ((0 ≤ a ∧ a ≤ s.size) ∧ e = .returned (.tuple #[.int .i64 (lineOf (s.data.toList.take a.toNat)), .int .i64 (colOf (s.data.toList.take a.toNat)), .int .i64 0]))

theorem count_any (s : ByteArray) (w : World) :
    Calls Tryd.prog 34 #[.string s, .string ⟨#[10]⟩] w fun e w' => ∃ q : Int, e = .returned (.int .i64 q) ∧ Hid (lineOf s.data.toList = 1 + q) ∧ 0 ≤ q ∧ q ≤ s.size ∧ w = w' :=
  (Tryd.strings_Count_one s 10 w).mono fun _ _ ⟨h1, h2⟩ => by
    have h := line_count s s.size (Nat.le_refl _)
    have hb := line_bd s s.size (Nat.le_refl _)
    rw [Lib.size_eq s, List.take_length] at h hb
    refine ⟨_, h1, h, ?_, ?_, h2.symm⟩
    · unfold Lib.countByte; omega
    · unfold Lib.countByte; rw [Lib.size_eq]; omega
theorem last_any (s : ByteArray) (w : World) (hs : s.size < 4611686018427387904) :
    Calls Tryd.prog 35 #[.string s, .int .u8 10] w fun e w' => ∃ q : Int, e = .returned (.int .i64 q) ∧ Hid (colOf s.data.toList = s.size - q) ∧ -1 ≤ q ∧ q ≤ s.size ∧ w = w' :=
  (Tryd.strings_LastIndexByte s 10 hs w).mono fun _ _ ⟨h1, h2⟩ => by
    have h := col_last s s.size (Nat.le_refl _)
    have hb := col_bd s s.size (Nat.le_refl _)
    have e : s.data.toList.take s.size = s.data.toList := List.take_of_length_le (by rw [← Lib.size_eq]; exact Nat.le_refl _)
    rw [e] at h hb
    unfold Lib.lastIndexByte at h1
    exact ⟨_, h1, h, by omega, by omega, h2.symm⟩

set_option maxHeartbeats 400000 in
theorem line_out (s : ByteArray) (a : Int) (w : World) (h : a < 0 ∨ s.size < a) :
    (Calls Tryd.prog 21 #[.string s, .int .i64 a] w fun e w' => LineEnd s a e ∧ w = w') ∧
    (Calls Tryd.prog 22 #[.string s, .int .i64 a] w fun e w' => LineEnd s a e ∧ w = w') := by
  have hno : Hid (¬ (0 ≤ a ∧ a ≤ s.size)) := by show ¬ _; omega
  constructor
  · rcases h with h | h
    · go_enter Tryd.func21, Tryd.ntmps21
      go_wp2
      go_ret3
      exact ⟨.inl ⟨hno.out, rfl⟩, rfl⟩
    · have h0 : ¬ a < 0 := by omega
      go_enter Tryd.func21, Tryd.ntmps21
      go_wp2
      go_ret3
      exact ⟨.inl ⟨hno.out, rfl⟩, rfl⟩
  · rcases h with h | h
    · go_enter Tryd.func22, Tryd.ntmps22
      go_wp2
      go_ret3
      exact ⟨.inl ⟨hno.out, rfl⟩, rfl⟩
    · have h0 : ¬ a < 0 := by omega
      go_enter Tryd.func22, Tryd.ntmps22
      go_wp2
      go_ret3
      exact ⟨.inl ⟨hno.out, rfl⟩, rfl⟩

set_option maxHeartbeats 400000 in
theorem line_in (s : ByteArray) (n : Nat) (w : World) (hs : s.size < 4611686018427387904) (hn : n ≤ s.size) :
    Calls Tryd.prog 21 #[.string s, .int .i64 n] w fun e w' => LineEnd s n e ∧ w = w' := by
  have hsz := ext_size s n hn
  have HX := hide' (ext_take s n)
  go_enter Tryd.func21, Tryd.ntmps21
  go_wp2_with fail
  refine (count_any _ _).mono ?_
  rintro e w' ⟨q, rfl, hq, hq0, hq1, rfl⟩
  rw [hsz] at hq1
  go_wp2_with fail
  refine (last_any _ _ (by omega)).mono ?_
  rintro e w' ⟨r, rfl, hr, hr0, hr1, rfl⟩
  rw [hsz] at hr1
  have hr2 := hr.out
  rw [hsz, HX.out] at hr2
  have hq2 := hq.out
  rw [HX.out] at hq2
  have HR := hide' hr2
  have HQ := hide' hq2
  clear hr hq hr2 hq2 HX hsz
  go_wp2_with fail
  go_ret3
  refine ⟨.inr ⟨⟨by omega, by omega⟩, ?_⟩, rfl⟩
  rw [Int.toNat_natCast, HQ.out, HR.out]
  rfl

set_option maxHeartbeats 1000000 in
theorem rLine_in (s : ByteArray) (n : Nat) (w : World) (hs : s.size < 4611686018427387904) (hn : n ≤ s.size) :
    Calls Tryd.prog 22 #[.string s, .int .i64 n] w fun e w' => LineEnd s n e ∧ w = w' := by
  go_enter Tryd.func22, Tryd.ntmps22
  go_wp2
  go_loop [7, 8, 9] (fun l c i => ∃ (k : Nat) (x y : Int), k ≤ n ∧ i = .int .i64 k ∧ l = .int .i64 x ∧ c = .int .i64 y ∧ 0 ≤ x ∧ x ≤ 1 + k ∧ 0 ≤ y ∧ y ≤ 1 + k ∧ Hid (x = lineOf (s.data.toList.take k)) ∧ Hid (y = colOf (s.data.toList.take k))) (fun _ _ i => n - (intOf i).toNat)
  case atStart => exact ⟨0, 1, 1, Nat.zero_le _, rfl, rfl, rfl, by omega, by omega, by omega, by omega, rfl, rfl⟩
  case round =>
    obtain ⟨k, x, y, hk, rfl, rfl, rfl, hx0, hx1, hy0, hy1, hx, hy⟩ := hrel
    by_cases hlt : k < n
    · have hks : k < s.size := by omega
      by_cases h10 : (s[k].toNat : Int) = 10
      · have hx' : Hid (x + 1 = lineOf (s.data.toList.take (k + 1))) := by
          show _ = _
          rw [take_more s k hks, lineOf_snoc, if_pos h10, hx.out]
        have hy' : Hid (1 = colOf (s.data.toList.take (k + 1))) := by
          show _ = _
          rw [take_more s k hks, colOf_snoc, if_pos h10]
        clear hx hy
        go_wp2
        go_round
        case rel => exact ⟨k + 1, _, _, by omega, by go_num, rfl, rfl, by omega, by omega, by omega, by omega, hx', hy'⟩
        case measure => simp [intOf]; omega
      · have hx' : Hid (x = lineOf (s.data.toList.take (k + 1))) := by
          show _ = _
          rw [take_more s k hks, lineOf_snoc, if_neg h10, hx.out]
        have hy' : Hid (y + 1 = colOf (s.data.toList.take (k + 1))) := by
          show _ = _
          rw [take_more s k hks, colOf_snoc, if_neg h10, hy.out]
        have b10 : ((s[k].toNat : Int) == 10) = false := by simpa using h10
        clear hx hy h10
        go_wp2
        go_round
        case rel => exact ⟨k + 1, _, _, by omega, by go_num, rfl, rfl, by omega, by omega, by omega, by omega, hx', hy'⟩
        case measure => simp [intOf]; omega
    · have hke : k = n := by omega
      subst hke
      go_wp2
      go_ret3
      refine ⟨.inr ⟨⟨by omega, by omega⟩, ?_⟩, rfl⟩
      rw [Int.toNat_natCast, ← hx.out, ← hy.out]
      rfl

theorem line_any (s : ByteArray) (a : Int) (w : World) (hs : s.size < 4611686018427387904) :
    (Calls Tryd.prog 21 #[.string s, .int .i64 a] w fun e w' => LineEnd s a e ∧ w = w') ∧
    (Calls Tryd.prog 22 #[.string s, .int .i64 a] w fun e w' => LineEnd s a e ∧ w = w') := by
  by_cases h : 0 ≤ a ∧ a ≤ s.size
  · obtain ⟨n, rfl⟩ := Int.eq_ofNat_of_zero_le h.1
    exact ⟨line_in s n w hs (by omega), rLine_in s n w hs (by omega)⟩
  · exact line_out s a w (by omega)
theorem lineEnd_form {s : ByteArray} {a : Int} {e e' : Ending} (h : LineEnd s a e) (h' : LineEnd s a e') : ∃ x y z : Int, e = .returned (.tuple #[.int .i64 x, .int .i64 y, .int .i64 z]) ∧ e' = .returned (.tuple #[.int .i64 x, .int .i64 y, .int .i64 z]) := by
  rcases h with ⟨h1, rfl⟩ | ⟨h1, rfl⟩
  · rcases h' with ⟨_, rfl⟩ | ⟨g1, _⟩
    · exact ⟨_, _, _, rfl, rfl⟩
    · exact absurd g1 h1
  · rcases h' with ⟨g1, _⟩ | ⟨_, rfl⟩
    · exact absurd h1 g1
    · exact ⟨_, _, _, rfl, rfl⟩
theorem lineEnd_one {s : ByteArray} {a : Int} {e : Ending} (h : LineEnd s a e) : ∃ x y z : Int, e = .returned (.tuple #[.int .i64 x, .int .i64 y, .int .i64 z]) := by
  obtain ⟨x, y, z, h1, _⟩ := lineEnd_form h h
  exact ⟨x, y, z, h1⟩

set_option maxHeartbeats 400000 in
theorem lines_walk (s : ByteArray) (a : Int) (w : World) (hT : Tab w) (hs : s.size < 4611686018427387904) :
    Calls Tryd.prog 9 #[.string s, .int .i64 a] w fun e w' => e = .returned (.bool true) ∧ Below w.heap.size w w' := by
  have C1 := hide' (line_any s a w hs).1
  have C2 := hide' (line_any s a w hs).2
  have HF := hide' (First_any w hT)
  clear hT
  go_enter Tryd.func9, Tryd.ntmps9
  go_wp2_with fail
  refine C1.out.mono ?_
  rintro e w1 ⟨h1, rfl⟩
  obtain ⟨x, y, z, rfl⟩ := lineEnd_one h1
  go_wp2_with fail
  refine C2.out.mono ?_
  rintro e w1 ⟨h2, rfl⟩
  obtain ⟨x2, y2, z2, e1, rfl⟩ := lineEnd_form h1 h2
  simp only [Ending.returned.injEq, Value.tuple.injEq, Array.mk.injEq, List.cons.injEq, Value.int.injEq, and_true, true_and] at e1
  obtain ⟨rfl, rfl, rfl⟩ := e1
  clear h1 h2 C1 C2
  go_wp2_with fail
  refine HF.out.mono ?_
  rintro e w2 ⟨rfl, hb⟩
  go_wp2_with fail
  go_ret
  exact ⟨rfl, hb⟩

end Go.Proofs.YtdppbnjjkjgknaaDoor
