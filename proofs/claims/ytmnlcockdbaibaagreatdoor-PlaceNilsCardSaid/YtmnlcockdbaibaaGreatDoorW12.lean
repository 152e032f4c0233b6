/-
  The walk of the first token of the reference of layer 1: signs; and all of them.
-/
import Derived.Test.YtmnlcockdbaibaaGreatDoorW11
namespace Go.Proofs.YtmnlcockdbaibaaGreatDoor
open Go.RowKit
open Tok
set_option linter.unusedVariables false

theorem below_draws {B : Nat} {a w : World} (h : Below B a w) (n : Nat) : Below B a (w.drewN n) := ⟨h.os, h.tape, h.output, h.size, h.block⟩

/-- does the text at an offset begin with another one -/
def preAt (s : ByteArray) (a : Nat) (y : ByteArray) : Bool := Lib.hasPrefix (s.data.toList.drop a) y.data.toList
theorem preAt_yes (s : ByteArray) (a : Nat) (y : ByteArray) (h1 : a + y.size ≤ s.size) (h : s.extract a (a + y.size) = y) : preAt s a y = true := by
  unfold preAt
  rw [← Lib.hasPrefix_of_take]
  have e : (s.data.toList.drop a).take y.data.toList.length = y.data.toList := by
    conv => rhs; rw [← h]
    rw [ext_mid, Lib.size_eq]
    congr 1; omega
  rw [e, ← Lib.size_eq, List.length_drop, ← Lib.size_eq]
  simp; omega
theorem preAt_no (s : ByteArray) (a : Nat) (y : ByteArray) (h1 : a + y.size ≤ s.size) (h : s.extract a (a + y.size) ≠ y) : preAt s a y = false := by
  rw [Bool.eq_false_iff]
  intro hp
  apply h
  unfold preAt at hp
  rw [← Lib.hasPrefix_of_take] at hp
  simp only [Bool.and_eq_true, beq_iff_eq] at hp
  refine ByteArray.ext (Array.toList_inj.mp ?_)
  rw [ext_mid, show a + y.size - a = y.data.toList.length from by rw [Lib.size_eq]; omega]
  exact hp.2
theorem preAt_long (s : ByteArray) (a : Nat) (y : ByteArray) (ha : a ≤ s.size) (h1 : s.size < a + y.size) : preAt s a y = false := by
  unfold preAt
  rw [← Lib.hasPrefix_of_take, ← Lib.size_eq, List.length_drop, ← Lib.size_eq]
  simp; omega

def NoSignAt (s : ByteArray) (a k : Nat) : Prop := ∀ j, j < k → preAt s a (signB j) = false
theorem find_signAt (s : ByteArray) (a k : Nat) (hk : k < 23) (hno : NoSignAt s a k) (h : preAt s a (signB k) = true) :
    signs.find? (fun x => Lib.hasPrefix (s.data.toList.drop a) x) = some (signB k).data.toList := by
  have hl : k < signs.length := hk
  have e : (signB k).data.toList = signs[k] := by
    unfold signB; rw [List.getD, List.getElem?_eq_getElem hl, Option.getD_some]
  rw [e, List.find?_eq_some_iff_getElem]
  refine ⟨?_, k, hl, rfl, fun j hj => ?_⟩
  · unfold preAt at h
    rw [e] at h
    exact h
  · have h2 := hno j hj
    unfold preAt signB at h2
    rw [List.getD, List.getElem?_eq_getElem (by omega), Option.getD_some] at h2
    simpa using h2
theorem find_noneAt (s : ByteArray) (a : Nat) (hno : NoSignAt s a 23) : signs.find? (fun x => Lib.hasPrefix (s.data.toList.drop a) x) = none := by
  rw [List.find?_eq_none]
  intro x hx
  obtain ⟨j, hj, rfl⟩ := List.getElem_of_mem hx
  have h2 := hno j hj
  unfold preAt signB at h2
  rw [List.getD, List.getElem?_eq_getElem hj, Option.getD_some] at h2
  simpa using h2
theorem signB_small (k : Nat) : (signB k).size ≤ 2 := by
  rcases Nat.lt_or_ge k 23 with h | h
  · have : ∀ j, j < 23 → (signB j).size ≤ 2 := by decide
    exact this k h
  · unfold signB
    rw [List.getD, List.getElem?_eq_none (by exact h)]; decide

set_option maxRecDepth 100000 in
set_option maxHeartbeats 2000000 in
theorem one_sign (s : ByteArray) (a : Nat) (w : World) (hs : s.size ≤ 10000) (ha : a < s.size) (hl : letB (s[a].toNat : Int) = false) (h48 : ¬ (s[a].toNat : Int) = 48) (hdg : digB (s[a].toNat : Int) = false) :
    Calls Tryz.prog 104 #[.string s, .int .i64 a] w fun e w' => OneEnd s a e ∧ Below w.heap.size w w' := by
  have hfirst : Hid (first (s.data.toList.drop a) = (signs.find? (fun x => Lib.hasPrefix (s.data.toList.drop a) x)).map fun x => (kSign, x)) := by
    have hw := wordLen_zero s a ha hl
    have hd := digLen_run s a ha h48
    have hz := run_end isDig s a ha hdg
    show _ = _
    unfold first
    rw [hw, hd, hz, if_neg (by omega), if_neg (by omega)]
  have b48 : ((s[a].toNat : Int) == 48) = false := by simpa using h48
  clear h48
  go_enter Tryz.func104, Tryz.ntmps104
  go_wp2_with (first
    | (go_at_call 178; refine (rSmall_any _ _).mono ?_; rintro e w' ⟨rfl, rfl⟩)
    | (go_at_call 181; refine (rDigit_any _ _).mono ?_; rintro e w' ⟨rfl, rfl⟩))
  refine (refSigns_any _ _ ?_).mono ?_
  · decide +kernel
  rintro e w1 ⟨v, rfl, hown, hb1⟩
  obtain ⟨c0, c1, c2, f0, f1, f2, hz⟩ := box_kept hb1
  obtain ⟨g, cap, rfl, hnc, hm, hcell⟩ := own_cell hown (by decide)
  have hc : Hid (∀ j, j < 23 → w1.cell? ⟨g, j, none⟩ = some (.string (signB j))) := by
    intro j hj
    have hl : j < signs.length := hj
    rw [hcell j hj, strs_at _ _ hl]
    unfold signB; rw [List.getD, List.getElem?_eq_getElem hl, Option.getD_some]
  have hbw : Below w.heap.size w w1 := Below.trans ((Below.refl _ _).alloc (Nat.le_refl _) _) (hb1.mono (by simp))
  have hl23 : signs.length = 23 := rfl
  rw [hl23] at hnc ⊢
  unfold maxLen at hm
  clear hown hcell hb1 hl23
  go_wp2_with fail
  go_loopw [9] (fun i wr => ∃ (k n : Nat), k ≤ 23 ∧ i = .int .i64 k ∧ NoSignAt s a k ∧ wr = w1.drewN n) (fun i _ => 23 - (intOf i).toNat)
  case atStart => exact ⟨0, 0, Nat.zero_le _, rfl, fun j hj => absurd hj (by omega), rfl⟩
  case round =>
    obtain ⟨k, n, hk, rfl, hno, rfl⟩ := hrel
    by_cases hlt : k < 23
    · obtain ⟨y, hy⟩ : ∃ y, y = signB k := ⟨_, rfl⟩
      have hcy : w1.cell? ⟨g, k, none⟩ = some (.string y) := by rw [hy]; exact hc.out k hlt
      have hys : y.size ≤ 2 := by rw [hy]; exact signB_small k
      by_cases hfit : a + y.size ≤ s.size
      · have hfi : (y.size : Int) ≤ (s.size : Int) - a := by omega
        by_cases he : s.extract a (a + y.size) = y
        · have ht : ((s.extract a (a + y.size)).toList == y.toList) = true := (Lib.bytes_beq_iff _ _).2 he
          have hfin : Hid (first (s.data.toList.drop a) = some (kSign, y.data.toList)) := by
            show _ = _
            rw [hfirst.out, find_signAt s a k hlt hno (by rw [← hy]; exact preAt_yes s a y hfit he), hy]; rfl
          clear hfirst hc hno hy he
          go_wp2_with fail
          go_quiet (fail)
          go_wp2
          refine bodyPost_ret (v := .tuple #[.agg #[.string ⟨#[115, 105, 103, 110]⟩, .string y, .int .i64 a], .bool true]) ?_ rfl ⟨?_, ?_⟩
          · simp [results, Tryz.results104, go_sem, c0, c1, c2]
          · exact .inl ⟨_, _, hfin.out, rfl⟩
          · exact ((((below_draws hbw _).setCell (Nat.le_refl _) _).setCell (Nat.le_refl _) _).setCell (Nat.le_refl _) _)
        · have ht : ((s.extract a (a + y.size)).toList == y.toList) = false := (Lib.bytes_beq_false_iff _ _).2 he
          have hno' : NoSignAt s a (k + 1) := by
            intro j hj
            rcases Nat.lt_or_ge j k with h | h
            · exact hno j h
            · rw [show j = k from by omega, ← hy]; exact preAt_no s a y hfit he
          clear hfirst hc hno hy he
          go_wp2_with fail
          go_quiet (fail)
          go_wp2
          go_roundw
          case rel => exact ⟨k + 1, _, by omega, by go_num, hno', rfl⟩
          case measure => simp [intOf]; omega
      · have hfi : decide ((y.size : Int) ≤ (s.size : Int) - a) = false := by simp; omega
        have hno' : NoSignAt s a (k + 1) := by
          intro j hj
          rcases Nat.lt_or_ge j k with h | h
          · exact hno j h
          · rw [show j = k from by omega, ← hy]; exact preAt_long s a y (by omega) (by omega)
        clear hfirst hc hno hy
        go_wp2_with fail
        go_quiet (fail)
        go_wp2
        go_roundw
        case rel => exact ⟨k + 1, _, by omega, by go_num, hno', rfl⟩
        case measure => simp [intOf]; omega
    · have hfin : Hid (first (s.data.toList.drop a) = none) := by
        have : k = 23 := by omega
        subst this
        show _ = _
        rw [hfirst.out, find_noneAt s a hno]; rfl
      clear hfirst hc hno
      go_wp2_with fail
      refine bodyPost_ret (v := .tuple #[.agg #[.string ⟨#[]⟩, .string ⟨#[]⟩, .int .i64 0], .bool false]) ?_ rfl ⟨?_, ?_⟩
      · simp [results, Tryz.results104, go_sem, c0, c1, c2]
      · exact .inr ⟨hfin.out, _, _, _, rfl⟩
      · exact ((((below_draws hbw _).setCell (Nat.le_refl _) _).setCell (Nat.le_refl _) _).setCell (Nat.le_refl _) _)

theorem one_any (s : ByteArray) (a : Nat) (w : World) (hs : s.size ≤ 10000) (ha : a < s.size) :
    Calls Tryz.prog 104 #[.string s, .int .i64 a] w fun e w' => OneEnd s a e ∧ Below w.heap.size w w' := by
  by_cases hl : letB (s[a].toNat : Int) = true
  · exact one_word s a w hs ha hl
  · have hl : letB (s[a].toNat : Int) = false := by simpa using hl
    by_cases h48 : (s[a].toNat : Int) = 48
    · exact one_zero s a w hs ha h48
    · by_cases hd : digB (s[a].toNat : Int) = true
      · exact one_dig s a w hs ha h48 hd
      · exact one_sign s a w hs ha hl h48 (by simpa using hd)

end Go.Proofs.YtmnlcockdbaibaaGreatDoor
