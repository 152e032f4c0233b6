/-
  The walks of gaps, signs, keys, kinds and first tokens of package token.
-/
import Derived.Test.YtdppbnjjkjgknaaDoorW2
namespace Go.Proofs.YtdppbnjjkjgknaaDoor
open Go.RowKit
open Tok

/-- what the round of 'gap' does -/
theorem gap_sp (s : ByteArray) (k : Nat) (h : k < s.size) (hp : isSpc s[k] = true) : gap (s.data.toList.drop k) = gap (s.data.toList.drop (k + 1)) + 1 := by
  rw [drop_cons s k h, gap_space _ _ hp]
theorem spc_of (c : UInt8) (h : (c.toNat : Int) = 32 ∨ (c.toNat : Int) = 9 ∨ (c.toNat : Int) = 10) : isSpc c = true := by
  have e : ∀ n : Nat, n < 256 → (c.toNat : Int) = n → c = UInt8.ofNat n := by
    intro n hn h1
    have h2 : c.toNat = n := by omega
    rw [← h2]; simp
  rcases h with h | h | h
  · rw [e 32 (by omega) h]; rfl
  · rw [e 9 (by omega) h]; rfl
  · rw [e 10 (by omega) h]; rfl
theorem spc_not (c : UInt8) (h1 : ¬ (c.toNat : Int) = 32) (h2 : ¬ (c.toNat : Int) = 9) (h3 : ¬ (c.toNat : Int) = 10) : isSpc c = false := by
  have e : ∀ n : UInt8, c = n → (c.toNat : Int) = n.toNat := by rintro n rfl; rfl
  simp only [isSpc, Bool.or_eq_false_iff, beq_eq_false_iff_ne, ne_eq]
  exact ⟨⟨fun h => h1 (e 32 h), fun h => h2 (e 9 h)⟩, fun h => h3 (e 10 h)⟩
theorem gap_end (s : ByteArray) (k : Nat) (h : k < s.size) (h1 : ¬ (s[k].toNat : Int) = 32) (h2 : ¬ (s[k].toNat : Int) = 9) (h3 : ¬ (s[k].toNat : Int) = 10)
    (hp : Lib.hasPrefix (s.data.toList.drop k) [47, 47] = false) : gap (s.data.toList.drop k) = 0 := by
  rw [drop_cons s k h] at hp ⊢
  refine gap_stop _ _ (spc_not _ h1 h2 h3) ?_
  cases hr : s.data.toList.drop (k + 1) with
  | nil => simp
  | cons d r =>
    rw [hr] at hp
    simp only [List.head?_cons]
    rw [Bool.eq_false_iff] at hp ⊢
    intro hh
    apply hp
    simp only [Bool.and_eq_true, beq_iff_eq, Option.some.injEq] at hh
    simp [Lib.hasPrefix, hh]
theorem gap_com (l : List UInt8) (q : Int) (hp : Lib.hasPrefix l [47, 47] = true) (hq : IdxB l q) :
    (q < 0 → gap l = l.length) ∧ (0 ≤ q → gap l = q.toNat + gap (l.drop q.toNat)) ∧ q ≠ 0 := by
  obtain ⟨r, rfl⟩ : ∃ r, l = 47 :: 47 :: r := by
    match l, hp with
    | [], hp => simp [Lib.hasPrefix] at hp
    | [c], hp => simp [Lib.hasPrefix] at hp
    | c :: d :: r, hp => simp [Lib.hasPrefix] at hp; exact ⟨r, by rw [← hp.1, ← hp.2]⟩
  rw [gap_comment]
  rcases hq with ⟨rfl, h2⟩ | ⟨h1, h2, h3⟩
  · exact ⟨fun _ => gapGo_true_none _ h2, fun h => absurd h (by omega), by omega⟩
  · refine ⟨fun h => absurd h (by omega), fun _ => gapGo_true_at _ _ h2 h3, ?_⟩
    rintro rfl
    simp at h2

set_option maxHeartbeats 1000000 in
theorem gap_any (s : ByteArray) (w : World) (hs : s.size ≤ 4611686018427387904) :
    Calls Tryd.prog 27 #[.string s] w fun e w' => e = .returned (.int .i64 (gap s.data.toList : Nat)) ∧ w = w' := by
  go_enter Tryd.func27, Tryd.ntmps27
  go_wp2
  go_loop [3] (fun n => ∃ k : Nat, k ≤ s.size ∧ n = .int .i64 k ∧ Hid (gap s.data.toList = k + gap (s.data.toList.drop k))) (fun n => s.size - (intOf n).toNat)
  case atStart => exact ⟨0, Nat.zero_le _, rfl, by show _ = _; simp⟩
  case round =>
    obtain ⟨k, hk, rfl, hr⟩ := hrel
    by_cases hlt : k < s.size
    · by_cases hsp : (s[k].toNat : Int) = 32 ∨ (s[k].toNat : Int) = 9 ∨ (s[k].toNat : Int) = 10
      · have hr' : Hid (gap s.data.toList = (k + 1) + gap (s.data.toList.drop (k + 1))) := by
          have h1 := gap_sp s k hlt (spc_of _ hsp)
          have h2 := hr.out
          show _ = _; omega
        clear hr
        rcases hsp with h | h | h
        all_goals
          go_wp2
          go_round
          case rel => exact ⟨k + 1, by omega, by go_num, hr'⟩
          case measure => simp [intOf]; omega
      · have h32 : ¬ (s[k].toNat : Int) = 32 := fun h => hsp (.inl h)
        have h9 : ¬ (s[k].toNat : Int) = 9 := fun h => hsp (.inr (.inl h))
        have h10 : ¬ (s[k].toNat : Int) = 10 := fun h => hsp (.inr (.inr h))
        clear hsp
        have b32 : ((s[k].toNat : Int) == 32) = false := by simpa using h32
        have b9 : ((s[k].toNat : Int) == 9) = false := by simpa using h9
        have b10 : ((s[k].toNat : Int) == 10) = false := by simpa using h10
        by_cases hp : pre (s.extract k s.size) ⟨#[47, 47]⟩ = true
        · have hgc : ∀ q, IdxB (s.extract k s.size).data.toList q → (q < 0 → Hid (gap s.data.toList = s.size)) ∧ (0 ≤ q → Hid (gap s.data.toList = (k + q.toNat) + gap (s.data.toList.drop (k + q.toNat)))) ∧ q ≠ 0 := by
            intro q hq
            obtain ⟨h1, h2, h3⟩ := gap_com _ q hp hq
            rw [ext_end] at h1 h2
            have h4 := hr.out
            refine ⟨fun h => ?_, fun h => ?_, h3⟩
            · show _ = _
              have := h1 h
              rw [List.length_drop, ← Lib.size_eq] at this
              omega
            · show _ = _
              have := h2 h
              rw [List.drop_drop] at this
              omega
          have hes := ext_end_size s k
          have HG := hide' hgc
          clear hgc hr h32 h9 h10
          go_wp2_with (first
            | (go_at_call 39; refine (hasPrefix_any _ _ _).mono ?_; rintro e w' ⟨rfl, rfl⟩)
            | (go_at_call 40; refine (newline_any _ _).mono ?_; rintro e w' ⟨q, rfl, hq, hq1, hq2, rfl⟩))
          · have h : q < 0 := by assumption
            go_ret
            exact ⟨by rw [((HG.out q hq).1 h).out]; rfl, rfl⟩
          · have h : 0 ≤ q := by assumption
            have R := (HG.out q hq).2.1 h
            have hz := (HG.out q hq).2.2
            have hes2 : q ≤ s.size - k := by omega
            clear HG hq
            go_round
            case rel => exact ⟨k + q.toNat, by omega, by congr 1; omega, R⟩
            case measure => simp [intOf]; omega
        · have hp' : pre (s.extract k s.size) ⟨#[47, 47]⟩ = false := by simpa using hp
          clear hp
          have hr' : Hid (gap s.data.toList = k) := by
            have h1 := gap_end s k hlt h32 h9 h10 (by rw [← ext_end]; exact hp')
            have h2 := hr.out
            show _ = _; omega
          clear hr h32 h9 h10
          go_wp2_with (go_at_call 39; refine (hasPrefix_any _ _ _).mono ?_; rintro e w' ⟨rfl, rfl⟩)
          go_ret
          exact ⟨by rw [hr'.out]; rfl, rfl⟩
    · have hr' : Hid (gap s.data.toList = k) := by
        have h1 := drop_end s k (by omega)
        have h2 := hr.out
        rw [h1] at h2
        have : gap [] = 0 := rfl
        show _ = _; omega
      clear hr
      go_wp2
      go_ret
      exact ⟨by rw [hr'.out]; rfl, rfl⟩

end Go.Proofs.YtdppbnjjkjgknaaDoor
