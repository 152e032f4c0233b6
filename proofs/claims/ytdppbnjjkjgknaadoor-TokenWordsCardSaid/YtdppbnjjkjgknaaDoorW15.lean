/-
  The walks of the sanity check of the statements about layer 1, and of the statement on what is read.
-/
import Derived.Test.YtdppbnjjkjgknaaDoorW14
namespace Go.Proofs.YtdppbnjjkjgknaaDoor
open Go.RowKit
open Tok
set_option linter.unusedVariables false

set_option maxHeartbeats 1000000 in
theorem same_true (a : List T) (va vb : Value) (w : World) (ha : TokSl w va a) (hb : TokSl w vb a) :
    Calls Tryd.prog 13 #[va, vb] w fun e w' => e = .returned (.bool true) ∧ ∃ n, w' = w.drewN n := by
  have HS := hide' (rSame_true a a va vb w ha hb rfl)
  obtain ⟨A, ca, rfl, hca, hma, hA⟩ := ha
  obtain ⟨B, cb, rfl, hcb, hmb, hB⟩ := hb
  have hmax : maxLen = 9223372036854775807 := rfl
  rw [hmax] at hma hmb
  rcases Nat.eq_zero_or_pos a.length with h0 | h0
  · rw [h0] at HS ⊢
    clear hA hB hcb hca h0 hmax
    go_enter Tryd.func13, Tryd.ntmps13
    go_wp2_with fail
    refine (HS.out).mono ?_
    rintro e w' ⟨rfl, n, rfl⟩
    go_wp2_with fail
    refine wp_loop_rounds 1 ?_
    rw [rounds_succ]
    go_wp2
    go_ret
    exact ⟨rfl, _, rfl⟩
  · obtain ⟨ba, oa, rfl, hCA⟩ := hA h0
    obtain ⟨bb, ob, rfl, hCB⟩ := hB h0
    have HA := hide' hCA
    have HB := hide' hCB
    clear hA hB hCA hCB hmax
    go_enter Tryd.func13, Tryd.ntmps13
    go_wp2_with fail
    refine (HS.out).mono ?_
    rintro e w' ⟨rfl, n0, rfl⟩
    go_wp2_with fail
    go_loopw [5] (fun i wr => ∃ (k n : Nat), k ≤ a.length ∧ i = .int .i64 k ∧ wr = w.drewN n) (fun i _ => a.length - (intOf i).toNat)
    case atStart => exact ⟨0, n0, Nat.zero_le _, rfl, rfl⟩
    case round =>
      obtain ⟨k, n, hk, rfl, rfl⟩ := hrel
      by_cases hlt : k < a.length
      · obtain ⟨_, _, a3⟩ := HA.out k hlt
        obtain ⟨_, _, b3⟩ := HB.out k hlt
        obtain ⟨x, hx⟩ : ∃ x : Int, x = a[k].at_ := ⟨_, rfl⟩
        rw [← hx] at a3 b3
        clear hx
        go_wp2_with fail
        go_quiet (fail)
        go_wp2
        go_roundw
        case rel => exact ⟨k + 1, _, by omega, by go_num, rfl⟩
        case measure => simp [intOf]; omega
      · go_wp2_with fail
        go_ret
        exact ⟨rfl, _, rfl⟩

def sampleB : ByteArray := ⟨#[49, 46, 46, 49, 48, 32, 48, 48, 55]⟩
def sampleT : List T := [⟨kInt, [49], 0⟩, ⟨kSign, [46, 46], 1⟩, ⟨kInt, [49, 48], 3⟩, ⟨kInt, [48], 6⟩, ⟨kInt, [48], 7⟩, ⟨kInt, [55], 8⟩]
theorem sample : tokens sampleB.data.toList = some sampleT := by kernel_rfl

set_option maxHeartbeats 1000000 in
theorem First_any (w : World) (hT : Tab w) :
    Calls Tryd.prog 14 #[] w fun e w' => e = .returned (.bool true) ∧ Below w.heap.size w w' := by
  have HC := hide' (tokens_any sampleB w hT)
  unfold sampleB at HC
  clear hT
  go_enter Tryd.func14, Tryd.ntmps14
  go_wp2_with fail
  refine HC.out.mono ?_
  rintro e w1 ⟨hend, hb⟩
  rcases hend with ⟨h, _⟩ | ⟨_, h, _⟩ | ⟨_, ts, v, h, rfl, hown⟩
  · exact absurd h (by decide)
  · have := sample; unfold sampleB at this; rw [this] at h; cases h
  · have := sample; unfold sampleB at this; rw [this] at h
    obtain rfl := Option.some.inj h
    obtain ⟨A, cap, rfl, hca, hma, hA⟩ := TokSl.own hown
    obtain ⟨b, off, rfl, hc⟩ := hA (by decide)
    have hmax : maxLen = 9223372036854775807 := rfl
    rw [hmax] at hma
    obtain ⟨s1, s2, _⟩ := hc 1 (by decide)
    obtain ⟨_, s4, s5⟩ := hc 5 (by decide)
    have hl : sampleT.length = 6 := rfl
    rw [hl] at hca ⊢
    change w1.cell? ⟨b, off + 3, none⟩ = some (.string ⟨#[115, 105, 103, 110]⟩) at s1
    change w1.cell? ⟨b, off + 3 + 1, none⟩ = some (.string ⟨#[46, 46]⟩) at s2
    change w1.cell? ⟨b, off + 15 + 1, none⟩ = some (.string ⟨#[55]⟩) at s4
    change w1.cell? ⟨b, off + 15 + 2, none⟩ = some (.int .i64 8) at s5
    clear hown hc hl this h hA hmax
    go_wp2_with fail
    go_ret
    exact ⟨rfl, hb⟩

theorem ends_form {s : ByteArray} {w w' : World} {e : Ending} (h : TokensEnd s w w' e) : ∃ v c, e = .returned (.tuple #[v, .int .i64 c]) := by
  rcases h with ⟨_, rfl⟩ | ⟨_, _, rfl⟩ | ⟨_, _, v, _, rfl, _⟩
  · exact ⟨_, _, rfl⟩
  · exact ⟨_, _, rfl⟩
  · exact ⟨_, _, rfl⟩
/-- two answers of Tokens on one text are the same -/
theorem ends_same {s : ByteArray} {w0 w1 w2 w3 : World} {e e' : Ending} (h : TokensEnd s w0 w1 e) (hb : Below w1.heap.size w1 w3) (h' : TokensEnd s w2 w3 e') :
    ∃ (v v' : Value) (c : Int) (ts : List T), e = .returned (.tuple #[v, .int .i64 c]) ∧ e' = .returned (.tuple #[v', .int .i64 c]) ∧ TokSl w3 v ts ∧ TokSl w3 v' ts := by
  rcases h with ⟨h1, rfl⟩ | ⟨h1, h2, rfl⟩ | ⟨h1, ts, v, h2, rfl, hown⟩
  · rcases h' with ⟨_, rfl⟩ | ⟨g1, _, rfl⟩ | ⟨g1, _⟩
    · exact ⟨_, _, 4, [], rfl, rfl, TokSl.nil _, TokSl.nil _⟩
    · omega
    · omega
  · rcases h' with ⟨g1, rfl⟩ | ⟨_, _, rfl⟩ | ⟨_, ts, v, g2, _⟩
    · omega
    · exact ⟨_, _, 10, [], rfl, rfl, TokSl.nil _, TokSl.nil _⟩
    · rw [h2] at g2; cases g2
  · rcases h' with ⟨g1, rfl⟩ | ⟨_, g2, rfl⟩ | ⟨_, ts', v', g2, rfl, hown'⟩
    · omega
    · rw [h2] at g2; cases g2
    · rw [h2] at g2
      obtain rfl := Option.some.inj g2
      exact ⟨v, v', 0, ts, rfl, rfl, (TokSl.own hown).on hb, TokSl.own hown'⟩

set_option maxHeartbeats 1000000 in
theorem reads_walk (s : ByteArray) (w : World) (hT : Tab w) :
    Calls Tryd.prog 3 #[.string s] w fun e w' => e = .returned (.bool true) ∧ Below w.heap.size w w' := by
  have HC := hide' (tokens_any s w hT)
  have HT := hide' hT
  clear hT
  go_enter Tryd.func3, Tryd.ntmps3
  go_wp2_with fail
  refine HC.out.mono ?_
  rintro e w1 ⟨hend, hb⟩
  have hT1 := HT.out.on hb
  obtain ⟨v, c, rfl⟩ := ends_form hend
  go_wp2_with fail
  refine (rTokens_any s w1).mono ?_
  rintro e w2 ⟨hend2, hb2⟩
  obtain ⟨v2, c2, rfl⟩ := ends_form hend2
  obtain ⟨v3, v4, c3, ts, e1, e2, hv, hv2⟩ := ends_same hend hb2 hend2
  simp only [Ending.returned.injEq, Value.tuple.injEq, Array.mk.injEq, List.cons.injEq, Value.int.injEq, and_true, true_and] at e1 e2
  obtain ⟨rfl, rfl⟩ := e1
  obtain ⟨rfl, rfl⟩ := e2
  have hT2 := hT1.on hb2
  have hbw : Below w.heap.size w w2 := hb.trans (hb2.mono hb.size)
  clear hend hend2 hb2 hT1 HC HT hb
  go_wp2_with fail
  refine (same_true ts _ _ w2 hv hv2).mono ?_
  rintro e w3 ⟨rfl, n, rfl⟩
  go_wp2_with fail
  refine (First_any _ (hT2.on (below_draws (Below.refl _ _) n))).mono ?_
  rintro e w4 ⟨rfl, hb4⟩
  go_wp2_with fail
  go_ret
  exact ⟨rfl, (below_draws hbw n).trans (hb4.mono hbw.size)⟩

end Go.Proofs.YtdppbnjjkjgknaaDoor
