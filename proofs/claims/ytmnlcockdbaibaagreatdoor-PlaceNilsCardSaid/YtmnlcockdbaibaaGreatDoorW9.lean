/-
  The walks of spaces and first tokens of the reference of layer 1.
-/
import Derived.Test.YtmnlcockdbaibaaGreatDoorW8
namespace Go.Proofs.YtmnlcockdbaibaaGreatDoor
open Go.RowKit
open Tok

theorem gap_sp (s : ByteArray) (k : Nat) (h : k < s.size) (hp : isSpc s[k] = true) : gap (s.data.toList.drop k) = gap (s.data.toList.drop (k + 1)) + 1 := by
  rw [drop_cons s k h, gap_space _ _ hp]
theorem spc_of (c : UInt8) (h : (c.toNat : Int) = 32 ∨ (c.toNat : Int) = 9 ∨ (c.toNat : Int) = 10) : isSpc c = true := by
  have e : ∀ n : Nat, n < 256 → (c.toNat : Int) = n → c = UInt8.ofNat n := by
    intro n hn h1
    have h2 : c.toNat = n := by omega
    rw [← h2]; simp
  rcases h with h | h | h
  · rw [e 32 (by omega) h]; rfl
  · rw [e 9 (by omega) h]; rfl
  · rw [e 10 (by omega) h]; rfl
theorem spc_not (c : UInt8) (h1 : ¬ (c.toNat : Int) = 32) (h2 : ¬ (c.toNat : Int) = 9) (h3 : ¬ (c.toNat : Int) = 10) : isSpc c = false := by
  have e : ∀ n : UInt8, c = n → (c.toNat : Int) = n.toNat := by rintro n rfl; rfl
  simp only [isSpc, Bool.or_eq_false_iff, beq_eq_false_iff_ne, ne_eq]
  exact ⟨⟨fun h => h1 (e 32 h), fun h => h2 (e 9 h)⟩, fun h => h3 (e 10 h)⟩
set_option linter.unusedVariables false

theorem gap_true_stop (s : ByteArray) (k : Nat) (h : s.size ≤ k ∨ ∃ hk : k < s.size, (s[k].toNat : Int) = 10) : gapGo true (s.data.toList.drop k) = gap (s.data.toList.drop k) := by
  rcases h with h | ⟨hk, h⟩
  · rw [drop_end s k h]; rfl
  · rw [drop_cons s k hk, u8_of _ 10 (by omega) h]
    simp [gap, gapGo, isSpc]
theorem gap_true_more (s : ByteArray) (k : Nat) (hk : k < s.size) (h : ¬ (s[k].toNat : Int) = 10) : gapGo true (s.data.toList.drop k) = gapGo true (s.data.toList.drop (k + 1)) + 1 := by
  rw [drop_cons s k hk]
  have : (s[k] == 10) = false := by
    rw [beq_eq_false_iff_ne]
    intro e
    rw [e] at h
    exact h rfl
  simp [gapGo, this]
theorem gap_slashes (s : ByteArray) (k : Nat) (hk : k + 1 < s.size) (h1 : (s[k].toNat : Int) = 47) (h2 : (s[k + 1].toNat : Int) = 47) : gap (s.data.toList.drop k) = gapGo true (s.data.toList.drop k) := by
  rw [drop_cons s k (by omega), drop_cons s (k + 1) hk, u8_of _ 47 (by omega) h1, u8_of _ 47 (by omega) h2]
  exact gap_comment _
theorem gap_no (s : ByteArray) (k : Nat) (hk : k < s.size) (h32 : ¬ (s[k].toNat : Int) = 32) (h9 : ¬ (s[k].toNat : Int) = 9) (h10 : ¬ (s[k].toNat : Int) = 10)
    (h : ¬ ((s[k].toNat : Int) = 47 ∧ ∃ h1 : k + 1 < s.size, (s[k + 1].toNat : Int) = 47)) : gap (s.data.toList.drop k) = 0 := by
  rw [drop_cons s k hk]
  refine gap_stop _ _ (spc_not _ h32 h9 h10) ?_
  rw [Bool.eq_false_iff]
  intro hh
  apply h
  simp only [Bool.and_eq_true, beq_iff_eq] at hh
  obtain ⟨e1, e2⟩ := hh
  refine ⟨by rw [e1]; rfl, ?_⟩
  by_cases h1 : k + 1 < s.size
  · refine ⟨h1, ?_⟩
    rw [drop_cons s (k + 1) h1] at e2
    simp only [List.head?_cons, Option.some.injEq] at e2
    rw [e2]; rfl
  · rw [drop_end s (k + 1) (by omega)] at e2; simp at e2

/-- where the gap that begins at a ends -/
def spTo (s : ByteArray) (a : Nat) : Int := (a + gap (s.data.toList.drop a) : Nat)
theorem spTo_eq {s : ByteArray} {a k : Nat} (h : a + gap (s.data.toList.drop a) = k) : spTo s a = k := by unfold spTo; rw [h]

set_option maxHeartbeats 2000000 in
theorem spaces_any (s : ByteArray) (a : Nat) (w : World) (hs : s.size ≤ 10000) (ha : a ≤ s.size) :
    Calls Tryz.prog 103 #[.string s, .int .i64 a] w fun e w' => e = .returned (.int .i64 (spTo s a)) ∧ w = w' := by
  go_enter Tryz.func103, Tryz.ntmps103
  go_wp2
  go_loop [1] (fun n => ∃ k : Nat, k ≤ s.size ∧ n = .int .i64 k ∧ Hid (a + gap (s.data.toList.drop a) = k + gap (s.data.toList.drop k))) (fun n => s.size - (intOf n).toNat)
  case atStart => exact ⟨a, ha, rfl, rfl⟩
  case round =>
    obtain ⟨k, hk, rfl, hr⟩ := hrel
    by_cases hlt : k < s.size
    · by_cases hsp : (s[k].toNat : Int) = 32 ∨ (s[k].toNat : Int) = 9 ∨ (s[k].toNat : Int) = 10
      · have hr' : Hid (a + gap (s.data.toList.drop a) = (k + 1) + gap (s.data.toList.drop (k + 1))) := by
          have h1 := gap_sp s k hlt (spc_of _ hsp)
          have h2 := hr.out
          show _ = _; omega
        clear hr
        rcases hsp with h | h | h
        all_goals
          go_wp2
          go_round
          case rel => exact ⟨k + 1, by omega, by go_num, hr'⟩
          case measure => simp [intOf]; omega
      · have h32 : ¬ (s[k].toNat : Int) = 32 := fun h => hsp (.inl h)
        have h9 : ¬ (s[k].toNat : Int) = 9 := fun h => hsp (.inr (.inl h))
        have h10 : ¬ (s[k].toNat : Int) = 10 := fun h => hsp (.inr (.inr h))
        clear hsp
        have b32 : ((s[k].toNat : Int) == 32) = false := by simpa using h32
        have b9 : ((s[k].toNat : Int) == 9) = false := by simpa using h9
        have b10 : ((s[k].toNat : Int) == 10) = false := by simpa using h10
        by_cases hc : (s[k].toNat : Int) = 47 ∧ ∃ h1 : k + 1 < s.size, (s[k + 1].toNat : Int) = 47
        · obtain ⟨h47, h1, h47'⟩ := hc
          have hg := gap_slashes s k h1 h47 h47'
          have hr1 : Hid (a + gap (s.data.toList.drop a) = k + gapGo true (s.data.toList.drop k)) := by
            have := hr.out
            show _ = _; omega
          have c1 : ((s[k].toNat : Int) == 47) = true := by simpa using h47
          have c2 : ((s[k + 1].toNat : Int) == 47) = true := by simpa using h47'
          clear hg hr h32 h9 h10 h47 h47'
          go_wp2
          go_loop [1] (fun n => ∃ j : Nat, k ≤ j ∧ j ≤ s.size ∧ (j = k ∨ k < j) ∧ n = .int .i64 j ∧ Hid (a + gap (s.data.toList.drop a) = j + gapGo true (s.data.toList.drop j))) (fun n => s.size - (intOf n).toNat)
          case atStart => exact ⟨k, by omega, by omega, .inl rfl, rfl, hr1⟩
          case round =>
            obtain ⟨j, hj1, hj, hj2, rfl, hr⟩ := hrel
            by_cases hlt2 : j < s.size
            · by_cases hnl : (s[j].toNat : Int) = 10
              · have hr' : Hid (a + gap (s.data.toList.drop a) = j + gap (s.data.toList.drop j)) := by
                  have := gap_true_stop s j (.inr ⟨hlt2, hnl⟩)
                  have h2 := hr.out
                  show _ = _; omega
                have bn : (!((s[j].toNat : Int) == 10)) = false := by simpa using hnl
                have hkj : k < j := by
                  rcases hj2 with rfl | h
                  · rw [hnl] at b10; simp at b10
                  · exact h
                clear hr hr1 hj2
                go_wp2
                go_round
                case rel => exact ⟨j, by omega, rfl, hr'⟩
                case measure => simp [intOf]; omega
              · have hr' : Hid (a + gap (s.data.toList.drop a) = (j + 1) + gapGo true (s.data.toList.drop (j + 1))) := by
                  have := gap_true_more s j hlt2 hnl
                  have h2 := hr.out
                  show _ = _; omega
                have bn : (!((s[j].toNat : Int) == 10)) = true := by simpa using hnl
                clear hr hr1 hj2
                go_wp2
                go_round
                case rel => exact ⟨j + 1, by omega, by omega, .inr (by omega), by go_num, hr'⟩
                case measure => simp [intOf]; omega
            · have hr' : Hid (a + gap (s.data.toList.drop a) = j + gap (s.data.toList.drop j)) := by
                have := gap_true_stop s j (.inl (by omega))
                have h2 := hr.out
                show _ = _; omega
              clear hr hr1 hj2
              go_wp2
              go_round
              case rel => exact ⟨j, by omega, rfl, hr'⟩
              case measure => simp [intOf]; omega
        · have hr' : Hid (a + gap (s.data.toList.drop a) = k) := by
            have h1 := gap_no s k hlt h32 h9 h10 hc
            have h2 := hr.out
            show _ = _; omega
          clear hr h32 h9 h10
          by_cases h47 : (s[k].toNat : Int) = 47
          · have c1 : ((s[k].toNat : Int) == 47) = true := by simpa using h47
            by_cases h1 : k + 1 < s.size
            · have c2 : ((s[k + 1].toNat : Int) == 47) = false := by
                rw [beq_eq_false_iff_ne]; exact fun e => hc ⟨h47, h1, e⟩
              clear hc h47
              go_wp2
              go_ret
              exact ⟨by rw [spTo_eq hr'.out]; rfl, rfl⟩
            · clear hc h47
              go_wp2
              go_ret
              exact ⟨by rw [spTo_eq hr'.out]; rfl, rfl⟩
          · have c1 : ((s[k].toNat : Int) == 47) = false := by simpa using h47
            clear hc h47
            go_wp2
            go_ret
            exact ⟨by rw [spTo_eq hr'.out]; rfl, rfl⟩
    · have hr' : Hid (a + gap (s.data.toList.drop a) = k) := by
        have h1 := drop_end s k (by omega)
        have h2 := hr.out
        rw [h1] at h2
        have : gap [] = 0 := rfl
        show _ = _; omega
      clear hr
      go_wp2
      go_ret
      exact ⟨by rw [spTo_eq hr'.out]; rfl, rfl⟩

end Go.Proofs.YtmnlcockdbaibaaGreatDoor
