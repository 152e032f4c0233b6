/-
  The walks of the small functions of the reference of layer 1.
-/
import Derived.Test.YtdajlkmagmmdiaaGreatDoorW5
namespace Go.Proofs.YtdajlkmagmmdiaaGreatDoor
open Go.RowKit
open Tok

theorem rDigit_any (c : Int) (w : World) : Calls Tryz.prog 138 #[.int .u8 c] w fun e w' => e = .returned (.bool (digB c)) ∧ w = w' := by
  go_enter Tryz.func138, Tryz.ntmps138
  go_wp2
  all_goals (go_ret; refine ⟨?_, rfl⟩; simp [digB]; try omega)
theorem rSmall_any (c : Int) (w : World) : Calls Tryz.prog 135 #[.int .u8 c] w fun e w' => e = .returned (.bool (letB c)) ∧ w = w' := by
  go_enter Tryz.func135, Tryz.ntmps135
  go_wp2
  all_goals (go_ret; refine ⟨?_, rfl⟩; simp [letB]; try omega)
theorem rInner_any (c : Int) (w : World) : Calls Tryz.prog 136 #[.int .u8 c] w fun e w' => e = .returned (.bool (innB c)) ∧ w = w' := by
  go_enter Tryz.func136, Tryz.ntmps136
  go_wp2_with (first
    | (go_at_call 135; refine (rSmall_any _ _).mono ?_; rintro e w' ⟨rfl, rfl⟩)
    | (go_at_call 138; refine (rDigit_any _ _).mono ?_; rintro e w' ⟨rfl, rfl⟩))
  all_goals (go_ret; refine ⟨?_, rfl⟩; simp_all [innB, beq_eq_dec]; try omega)

theorem inn_of_let (c : Int) (h : letB c = true) : innB c = true := by unfold innB; rw [h]; rfl
theorem isWord_cons (c : UInt8) (r : List UInt8) : isWord (c :: r) = (isLet c && decide (run isInn (c :: r) = r.length + 1)) := by
  unfold isWord wordLen
  cases hc : isLet c
  · simp [hc]
  · have h2 : isInn c = true := inn_of_let _ hc
    simp [run, h2, hc]

set_option maxHeartbeats 400000 in
theorem rWord_any (s : ByteArray) (w : World) (hs : s.size ≤ 4611686018427387904) :
    Calls Tryz.prog 195 #[.string s] w fun e w' => e = .returned (.bool (isWord s.data.toList)) ∧ w = w' := by
  by_cases h0 : s.size = 0
  · have H := Lib.hid (list_empty s h0)
    have he := is_empty s h0
    clear h0
    go_enter Tryz.func195, Tryz.ntmps195
    go_wp2
    go_ret
    exact ⟨by rw [H.out]; rfl, rfl⟩
  · have hp : 0 < s.size := by omega
    clear h0
    have hne := not_empty s hp
    have hd := drop_cons s 0 hp
    rw [List.drop_zero] at hd
    by_cases hl : letB (s[0].toNat : Int) = true
    · have H : Hid (isWord s.data.toList = decide (run isInn s.data.toList = s.size)) := by
        show _ = _
        have e : isWord s.data.toList = (isLet s[0] && decide (run isInn s.data.toList = s.size)) := by
          conv => lhs; rw [hd]
          rw [isWord_cons, ← hd]
          have := congrArg List.length hd
          rw [← Lib.size_eq] at this
          simp only [List.length_cons] at this
          rw [← this]
        rw [e, show isLet s[0] = true from hl]; rfl
      clear hd
      go_enter Tryz.func195, Tryz.ntmps195
      go_wp2_with (go_at_call 135; refine (rSmall_any _ _).mono ?_; rintro e w' ⟨rfl, rfl⟩)
      go_loop [3] (fun n => ∃ k : Nat, k ≤ s.size ∧ n = .int .i64 k ∧ Hid (run isInn s.data.toList = k + run isInn (s.data.toList.drop k))) (fun n => s.size - (intOf n).toNat)
      case atStart => exact ⟨0, Nat.zero_le _, rfl, by show _ = _; simp⟩
      case round =>
        obtain ⟨k, hk, rfl, hr⟩ := hrel
        by_cases hlt : k < s.size
        · by_cases hi : innB (s[k].toNat : Int) = true
          · have hr' : Hid (run isInn s.data.toList = (k + 1) + run isInn (s.data.toList.drop (k + 1))) := by
              have h1 := run_at isInn s k hlt hi
              have h2 := hr.out
              show _ = _; omega
            clear hr
            go_wp2_with (go_at_call 136; refine (rInner_any _ _).mono ?_; rintro e w' ⟨rfl, rfl⟩)
            go_round
            case rel => exact ⟨k + 1, by omega, by go_num, hr'⟩
            case measure => simp [intOf]; omega
          · have hi' : innB (s[k].toNat : Int) = false := by simpa using hi
            clear hi
            have hr' : Hid (isWord s.data.toList = false) := by
              have h1 := run_end isInn s k hlt hi'
              have h2 := hr.out
              show _ = _; rw [H.out]; simp; omega
            clear hr
            go_wp2_with (go_at_call 136; refine (rInner_any _ _).mono ?_; rintro e w' ⟨rfl, rfl⟩)
            go_ret
            exact ⟨by rw [hr'.out]; rfl, rfl⟩
        · have hr' : Hid (isWord s.data.toList = true) := by
            have h1 := drop_end s k (by omega)
            have h2 := hr.out
            rw [h1] at h2
            have h3 : run isInn ([] : List UInt8) = 0 := rfl
            show _ = _; rw [H.out]; simp; omega
          clear hr
          go_wp2
          go_ret
          exact ⟨by rw [hr'.out]; rfl, rfl⟩
    · have hl' : letB (s[0].toNat : Int) = false := by simpa using hl
      clear hl
      have H : Hid (isWord s.data.toList = false) := by
        show _ = _
        rw [hd, isWord_cons, show isLet s[0] = false from hl']; rfl
      clear hd
      go_enter Tryz.func195, Tryz.ntmps195
      go_wp2_with (go_at_call 135; refine (rSmall_any _ _).mono ?_; rintro e w' ⟨rfl, rfl⟩)
      go_ret
      exact ⟨by rw [H.out]; rfl, rfl⟩

/-- strings in memory -/
def strs (l : List (List UInt8)) : List Value := l.map fun x => .string ⟨x.toArray⟩
theorem strs_at (l : List (List UInt8)) (i : Nat) (h : i < l.length) : (strs l)[i]? = some (.string ⟨(l[i]).toArray⟩) := by
  simp [strs, h]
theorem own_cell {w : World} {base : Nat} {e : TypeId} {v : Value} {n : Nat} {xs : List Value} (h : w.ownsRow base e 1 v n xs) (hn : 0 < n) :
    ∃ g cap, v = .slice (some ⟨g, 0, none⟩) n cap ∧ n ≤ cap ∧ cap ≤ maxLen ∧ ∀ j, j < n → w.cell? ⟨g, j, none⟩ = xs[j]? := by
  rcases h.2 with ⟨_, h0⟩ | ⟨g, cap, cur, rfl, _, _, hnc, hm, _, _⟩
  · omega
  · exact ⟨g, cap, rfl, hnc, hm, fun j hj => h.cellAt j (by omega)⟩

def hasW (l : List (List UInt8)) (x : ByteArray) : Bool := l.contains x.data.toList

set_option maxHeartbeats 400000 in
/-- Has, over strings that the caller owns -/
theorem has_any (l : List (List UInt8)) (v : Value) (base : Nat) (x : ByteArray) (w : World) (hn : 0 < l.length) (hown : w.ownsRow base 9 1 v l.length (strs l)) :
    Calls Tryz.prog 196 #[v, .string x] w fun e w' => e = .returned (.bool (hasW l x)) ∧ w = w' := by
  obtain ⟨g, cap, rfl, hnc, hm, hcell⟩ := own_cell hown hn
  have hc : ∀ j (h : j < l.length), w.cell? ⟨g, j, none⟩ = some (.string ⟨(l[j]).toArray⟩) := fun j h => by rw [hcell j h, strs_at l j h]
  unfold maxLen at hm
  clear hown hcell
  go_enter Tryz.func196, Tryz.ntmps196
  go_wp2
  go_loop [5] (fun n => ∃ k : Nat, k ≤ l.length ∧ n = .int .i64 k ∧ Hid (∀ j (h : j < l.length), j < k → l[j] ≠ x.data.toList)) (fun n => l.length - (intOf n).toNat)
  case atStart => exact ⟨0, Nat.zero_le _, rfl, fun j _ h => absurd h (by omega)⟩
  case round =>
    obtain ⟨k, hk, rfl, hr⟩ := hrel
    by_cases hlt : k < l.length
    · obtain ⟨y, hy⟩ : ∃ y : ByteArray, y = ⟨(l[k]).toArray⟩ := ⟨_, rfl⟩
      have hcy : w.cell? ⟨g, k, none⟩ = some (.string y) := by rw [hy]; exact hc k hlt
      have hyl : y.data.toList = l[k] := by rw [hy]
      by_cases he : y = x
      · have hfin : Hid (hasW l x = true) := by
          show _ = _
          unfold hasW
          rw [← he, hyl]; simp
        have ht : (y.toList == x.toList) = true := (Lib.bytes_beq_iff y x).2 he
        clear hr hy hyl he hc
        go_wp2
        go_ret
        exact ⟨by rw [hfin.out]; rfl, rfl⟩
      · have ht : (y.toList == x.toList) = false := (Lib.bytes_beq_false_iff y x).2 he
        have hr' : Hid (∀ j (h : j < l.length), j < k + 1 → l[j] ≠ x.data.toList) := by
          intro j h hj
          rcases Nat.lt_or_ge j k with h1 | h1
          · exact hr.out j h h1
          · have : j = k := by omega
            subst this
            intro e
            rw [← hyl] at e
            exact he (ByteArray.ext (Array.toList_inj.mp e))
        clear hr hy hyl he hc
        go_wp2
        go_round
        case rel => exact ⟨k + 1, by omega, by go_num, hr'⟩
        case measure => simp [intOf]; omega
    · have hfin : Hid (hasW l x = false) := by
        show _ = _
        unfold hasW
        rw [Bool.eq_false_iff]
        intro h
        rw [List.contains_iff_mem] at h
        obtain ⟨j, hj, e⟩ := List.getElem_of_mem h
        exact hr.out j hj (by omega) e
      clear hr hc
      go_wp2
      go_ret
      exact ⟨by rw [hfin.out]; rfl, rfl⟩

end Go.Proofs.YtdajlkmagmmdiaaGreatDoor
