/-
  The plain law of PlainOps, and its walk.
-/
import Derived.Test.YtclafjbbdhnhlaaGreatDoorSmL
import Derived.Test.YtclafjbbdhnhlaaGreatDoorEvAw
namespace Go.Proofs.YtclafjbbdhnhlaaGreatDoor
open Go.RowKit
set_option linter.unusedVariables false
set_option linter.unusedSimpArgs false

namespace Sm
def isB : Nm → Bool
  | .and => true | .or => true | .not => true | .int => true | _ => false
def bitB (l : List Int) : Bool := l.all fun x => x == 0 || x == 1
theorem ops_law (k : Nm) (l : List Int) (h : isB k = false ∨ bitB l = true) : rOpV (refA k l) = opV k l := by
  match l, h with
  | [], h => rfl
  | [a], h =>
    cases k <;> simp only [refA, ref1, rOpV, opV, arity, eng1] <;> first
      | rfl
      | (simp [isB, bitB] at h
         rcases h with rfl | rfl <;> simp [tr, wrap64])
  | [a, b], h =>
    cases k <;> simp only [refA, ref2, rOpV, opV, arity, eng2] <;> first
      | rfl
      | (by_cases hb : b = 0 <;> simp [hb] <;> done)
      | (simp; split <;> split <;> omega)
      | (simp [isB, bitB] at h
         obtain ⟨h1, h2⟩ := h
         rcases h1 with rfl | rfl <;> rcases h2 with rfl | rfl <;> simp [tr])
  | a :: b :: c :: r, h => rfl
theorem notB {k : Nm} {s : ByteArray} (h : Is k s) (hb : isB k = false) : (s.toList == [38]) = false ∧ (s.toList == [124]) = false ∧ (s.toList == [33]) = false ∧ (s.toList == [105, 110, 116]) = false := by
  cases k <;> simp only [isB] at hb <;> first | (cases hb; done) | skip
  case other =>
    obtain ⟨a1, a2, a3, a4, a5, a6, a7, a8, a9, b1, b2, b3, b4, b5⟩ := h
    exact ⟨b2, b3, b4, b5⟩
  all_goals
    simp only [Is, bytes] at h
    subst h
    simp only [ByteArray.toList_eq]
    decide

set_option maxHeartbeats 4000000 in
set_option maxRecDepth 100000 in
theorem isBit_at (l : List Int) (v : Value) (w : World) (hv : ISl w v l) :
    Calls Tryz.prog 12 #[v] w fun e w' => e = .returned (.bool (bitB l)) ∧ Below w.heap.size w w' := by
  obtain ⟨A, cap, rfl, hca, hma, hA⟩ := hv
  have HA := hide' hA
  have hmax : maxLen = 9223372036854775807 := rfl
  rw [hmax] at hma
  clear hA hmax
  go_enter Tryz.func12, Tryz.ntmps12
  go_wp2_with fail
  go_loopw [3] (fun i wr => ∃ (k : Nat), k ≤ l.length ∧ i = .int .i64 k ∧ Hid (∀ q (h : q < l.length), q < k → l[q] = 0 ∨ l[q] = 1) ∧ Below w.heap.size w wr) (fun i _ => l.length - (intOf i).toNat)
  case atStart => exact ⟨0, Nat.zero_le _, rfl, fun q h1 h2 => by omega, Below.refl _ _⟩
  case round =>
    obtain ⟨k, hk, rfl, hno, hnx⟩ := hrel
    by_cases hlt : k < l.length
    · obtain ⟨b, off, rfl, hCA⟩ := HA.out (by omega)
      have x1 := (hnx.cell (cell_lt (hCA k hlt))).trans (hCA k hlt)
      have hyes : Hid ((l[k] = 0 ∨ l[k] = 1) → ∀ q (h : q < l.length), q < k + 1 → l[q] = 0 ∨ l[q] = 1) := fun h q h1 h2 => by
        by_cases e : q = k
        · subst e; exact h
        · exact hno.out q h1 (by omega)
      have hnot : Hid (¬ (l[k] = 0 ∨ l[k] = 1) → bitB l = false) := fun h => by
        unfold bitB
        rw [List.all_eq_false]
        exact ⟨l[k], List.getElem_mem hlt, by simpa using h⟩
      obtain ⟨x, hx⟩ : ∃ x, l[k] = x := ⟨_, rfl⟩
      rw [hx] at x1 hyes hnot
      have hki : (0 : Int) ≤ (k : Int) := by omega
      have hk1 : (k : Int) < (l.length : Int) := by omega
      clear hx hCA HA hno
      by_cases h0 : x = 0
      · have hs := hide' (hyes.out (.inl h0))
        clear hyes hnot
        go_wp2_with fail
        go_roundw
        case rel => exact ⟨k + 1, by omega, by go_num, hs, hnx⟩
        case measure => simp [intOf]; omega
      · by_cases h1 : x = 1
        · have hs := hide' (hyes.out (.inr h1))
          clear hyes hnot
          go_wp2_with fail
          go_roundw
          case rel => exact ⟨k + 1, by omega, by go_num, hs, hnx⟩
          case measure => simp [intOf]; omega
        · have hs := hnot.out (by simp [h0, h1])
          have e0 : (x != 0) = true := by simpa using h0
          have e1 : (x != 1) = true := by simpa using h1
          clear hyes hnot
          go_wp2_with fail
          go_ret
          exact ⟨by rw [hs]; rfl, hnx⟩
    · have hs : bitB l = true := by
        unfold bitB
        rw [List.all_eq_true]
        intro x hx
        obtain ⟨q, hq, rfl⟩ := List.getElem_of_mem hx
        simpa using hno.out q hq (by omega)
      clear HA hno
      go_wp2_with fail
      go_ret
      exact ⟨by rw [hs]; rfl, hnx⟩

set_option maxHeartbeats 16000000 in
set_option maxRecDepth 100000 in
theorem ops_walk (s : ByteArray) (l : List Int) (hlen : l.length ≤ 1048576) (v : Value) (w : World) (hv : ISl w v l) :
    Calls Tryz.prog 4 #[.string s, v] w fun e w' => e = .returned (.bool true) ∧ Below w.heap.size w w' := by
  obtain ⟨k, hk⟩ := is_some s
  have H1 := fun w1 => hide' (none_at k s hk w1)
  have H2 := fun w1 => hide' (rnone_at k s hk w1)
  have H3 := fun w1 (hb : Below w.heap.size w w1) => hide' (pop_at k s hk l v w1 (hv.under hb))
  have H4 := fun w1 (hb : Below w.heap.size w w1) => hide' (rOp_at k s hk l hlen v w1 (hv.under hb))
  have H5 := fun w1 (hb : Below w.heap.size w w1) => hide' (isBit_at l v w1 (hv.under hb))
  have H6 := fun w1 => hide' (Ev.awake_calls w1)
  obtain ⟨A, cap, rfl, _⟩ := hv
  obtain ⟨n1, hn1⟩ : ∃ x, (noneV k).getD 0 = x := ⟨_, rfl⟩
  obtain ⟨n2, hn2⟩ : ∃ x : Int, (if (noneV k).isSome = true then 0 else 2) = x := ⟨_, rfl⟩
  have E1 : ∀ w1, Hid (Calls Tryz.prog 10 #[.string s] w1 fun e w' => e = .returned (.tuple #[.int .i64 n1, .int .i64 n2]) ∧ Below w1.heap.size w1 w') := fun w1 => by
    rw [← hn1, ← hn2]; exact H1 w1
  have E2 : ∀ w1, Hid (Calls Tryz.prog 11 #[.string s] w1 fun e w' => e = .returned (.tuple #[.int .i64 n1, .int .i64 n2]) ∧ Below w1.heap.size w1 w') := fun w1 => by
    rw [← hn1, ← hn2]; exact H2 w1
  have G := fun (hq : isB k = false ∨ bitB l = true) w1 (hb : Below w.heap.size w w1) => (by rw [← ops_law k l hq]; exact hide' (H4 w1 hb).out : Hid (Calls Tryz.prog 14 #[.string s, .slice A l.length cap] w1 fun e w' => e = .returned (.tuple #[.int .i64 (opV k l).1, .bool (opV k l).2.1, .int .i64 (opV k l).2.2]) ∧ Below w1.heap.size w1 w'))
  obtain ⟨⟨x1, x2, x3⟩, hx⟩ : ∃ x, opV k l = x := ⟨_, rfl⟩
  rw [hx] at H3 G
  simp only at H3 G
  clear H1 H2 H4 hn1 hn2 hx hlen
  obtain ⟨q, hq⟩ : ∃ q, bitB l = q := ⟨_, rfl⟩
  rw [hq] at H5 G
  cases hB : isB k
  · obtain ⟨b1, b2, b3, b4⟩ := notB hk hB
    have G1 := G (.inl hB)
    clear G H5 hk hB hq
    go_enter Tryz.func4, Tryz.ntmps4
    go_wp2_with fail
    refine (E1 _).out.mono ?_
    rintro e w1 ⟨rfl, hb1⟩
    go_wp2_with fail
    refine (E2 _).out.mono ?_
    rintro e w2 ⟨rfl, hb2⟩
    have hc2 := hb1.trans (hb2.mono hb1.size)
    clear hb1 hb2 E1 E2
    go_wp2_with fail
    refine (H3 _ hc2).out.mono ?_
    rintro e w3 ⟨rfl, hb3⟩
    have hc3 := hc2.trans (hb3.mono hc2.size)
    clear hb3 hc2 H3
    go_wp2_with fail
    refine (G1 _ hc3).out.mono ?_
    rintro e w4 ⟨rfl, hb4⟩
    have hc4 := hc3.trans (hb4.mono hc3.size)
    clear hb4 hc3 G1
    go_wp2_with fail
    refine (H6 _).out.mono ?_
    rintro e w5 ⟨rfl, hb5⟩
    have hc5 := hc4.trans (hb5.mono hc4.size)
    clear hb5 hc4 H6
    go_wp2_with fail
    go_ret
    exact ⟨rfl, hc5⟩
  · cases k <;> simp only [isB] at hB <;> first | (cases hB; done) | skip
    all_goals
      clear hB
      simp only [Is, bytes] at hk
      subst hk
      cases q
      · clear G hq
        go_enter Tryz.func4, Tryz.ntmps4
        go_wp2_with fail
        refine (E1 _).out.mono ?_
        rintro e w1 ⟨rfl, hb1⟩
        go_wp2_with fail
        refine (E2 _).out.mono ?_
        rintro e w2 ⟨rfl, hb2⟩
        have hc2 := hb1.trans (hb2.mono hb1.size)
        clear hb1 hb2 E1 E2
        go_wp2_with fail
        refine (H5 _ hc2).out.mono ?_
        rintro e w4 ⟨rfl, hb4⟩
        have hc4 := hc2.trans (hb4.mono hc2.size)
        clear hb4 hc2 H5
        go_wp2_with fail
        refine (H6 _).out.mono ?_
        rintro e w5 ⟨rfl, hb5⟩
        have hc5 := hc4.trans (hb5.mono hc4.size)
        clear hb5 hc4 H6
        go_wp2_with fail
        go_ret
        exact ⟨rfl, hc5⟩
      · have G1 := G (.inr rfl)
        clear G hq
        go_enter Tryz.func4, Tryz.ntmps4
        go_wp2_with fail
        refine (E1 _).out.mono ?_
        rintro e w1 ⟨rfl, hb1⟩
        go_wp2_with fail
        refine (E2 _).out.mono ?_
        rintro e w2 ⟨rfl, hb2⟩
        have hc2 := hb1.trans (hb2.mono hb1.size)
        clear hb1 hb2 E1 E2
        go_wp2_with fail
        refine (H5 _ hc2).out.mono ?_
        rintro e w4 ⟨rfl, hb4⟩
        have hc4 := hc2.trans (hb4.mono hc2.size)
        clear hb4 hc2 H5
        go_wp2_with fail
        refine (H3 _ hc4).out.mono ?_
        rintro e w3 ⟨rfl, hb3⟩
        have hc3 := hc4.trans (hb3.mono hc4.size)
        clear hb3 hc4 H3
        go_wp2_with fail
        refine (G1 _ hc3).out.mono ?_
        rintro e w5 ⟨rfl, hb5⟩
        have hc5 := hc3.trans (hb5.mono hc3.size)
        clear hb5 hc3 G1
        go_wp2_with fail
        refine (H6 _).out.mono ?_
        rintro e w6 ⟨rfl, hb6⟩
        have hc6 := hc5.trans (hb6.mono hc5.size)
        clear hb6 hc5 H6
        go_wp2_with fail
        go_ret
        exact ⟨rfl, hc6⟩
end Sm
end Go.Proofs.YtclafjbbdhnhlaaGreatDoor
