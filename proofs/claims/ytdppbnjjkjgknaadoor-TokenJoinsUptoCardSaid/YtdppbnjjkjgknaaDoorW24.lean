/-
  The walk of the statement on which tokens are valid and what they are joined.
-/
import Derived.Test.YtdppbnjjkjgknaaDoorW23
namespace Go.Proofs.YtdppbnjjkjgknaaDoor
open Go.RowKit
open Tok
set_option linter.unusedVariables false

theorem joinEnd_form {ts : List T} {e e' : Ending} (h : JoinEnd ts e) (h' : JoinEnd ts e') : ∃ (b : ByteArray) (c : Int), e = .returned (.tuple #[.string b, .int .i64 c]) ∧ e' = .returned (.tuple #[.string b, .int .i64 c]) := by
  rcases h with ⟨h1, rfl⟩ | ⟨h1, rfl⟩
  · rcases h' with ⟨_, rfl⟩ | ⟨g1, _⟩
    · exact ⟨_, _, rfl, rfl⟩
    · exact absurd h1 g1
  · rcases h' with ⟨g1, _⟩ | ⟨_, rfl⟩
    · exact absurd g1 h1
    · exact ⟨_, _, rfl, rfl⟩

theorem held_on {S1 S2 S3 : Prop} {wr wc w2 : World} (h : S1 ∧ S2 ∧ S3 ∧ Below wr.heap.size wr wc) (hb : Below wc.heap.size wc w2) : Below wr.heap.size wr w2 := h.2.2.2.trans (hb.mono h.2.2.2.size)
theorem held_tab {S1 S2 S3 : Prop} {wr wc : World} (h : S1 ∧ S2 ∧ S3 ∧ Below wr.heap.size wr wc) (hT : Tab wr) : Tab wc := hT.on h.2.2.2

theorem held_end {S1 S2 S3 : Prop} {w wr w2 : World} (h : S1 ∧ S2 ∧ S3 ∧ Below wr.heap.size wr w2) (h0 : Below w.heap.size w wr) : Below w.heap.size w w2 := h0.trans (h.2.2.2.mono h0.size)

set_option maxHeartbeats 4000000 in
set_option maxRecDepth 100000 in
theorem joins_walk (ts : List T) (v : Value) (w : World) (hT : Tab w) (hsl : TokSl w v ts) (hwt : weight ts ≤ 4000000) :
    Calls Tryd.prog 6 #[v] w fun e w' => e = .returned (.bool true) ∧ Below w.heap.size w w' := by
  have HF := hide' (First_any w hT)
  have HT := hide' hT
  have HS := hide' hsl
  have HL := hide' (long_any ts v w hsl)
  clear hT hsl
  by_cases h400 : 400 < ts.length
  · have hd : decide (400 < ts.length) = true := by simp; omega
    go_enter Tryd.func6, Tryd.ntmps6
    go_wp2_with fail
    refine HL.out.mono ?_
    rintro e w2 ⟨rfl, rfl⟩
    go_wp2_with fail
    refine HF.out.mono ?_
    rintro e w2 ⟨rfl, hb2⟩
    go_wp2_with fail
    go_ret
    exact ⟨rfl, hb2⟩
  · have hd : decide (400 < ts.length) = false := by simp; omega
    obtain ⟨A, cap, rfl, hca, hma, hA⟩ := HS.out
    have hmax : maxLen = 9223372036854775807 := rfl
    rw [hmax] at hma
    have HA : Hid (0 < ts.length → ∃ b off, A = some ⟨b, off, none⟩ ∧ TokCells w b off ts) := hA
    clear hA hmax
    rcases Nat.eq_zero_or_pos ts.length with h0 | h0
    · obtain rfl : ts = [] := List.eq_nil_of_length_eq_zero h0
      go_enter Tryd.func6, Tryd.ntmps6
      go_wp2_with fail
      refine HL.out.mono ?_
      rintro e w2 ⟨rfl, rfl⟩
      go_wp2_with fail
      refine wp_loop_rounds 1 ?_
      rw [rounds_succ]
      go_wp2_with fail
      refine (join_any [] _ _ HT.out HS.out hwt).mono ?_
      rintro e w2 ⟨hj, hb2⟩
      obtain ⟨b1, c1, rfl, _⟩ := joinEnd_form hj hj
      go_wp2_with fail
      refine (rJoin_any [] _ _ (HS.out.on hb2) hwt).mono ?_
      rintro e w3 ⟨hj2, hb3⟩
      obtain ⟨b2, c2, e1, rfl⟩ := joinEnd_form hj hj2
      simp only [Ending.returned.injEq, Value.tuple.injEq, Array.mk.injEq, List.cons.injEq, Value.int.injEq, Value.string.injEq, and_true, true_and] at e1
      obtain ⟨rfl, rfl⟩ := e1
      have hT3 := (HT.out.on hb2).on hb3
      have hbw : Below w.heap.size w w3 := hb2.trans (hb3.mono hb2.size)
      clear hj hj2 hb2 hb3
      go_wp2_with fail
      refine (First_any _ hT3).mono ?_
      rintro e w4 ⟨rfl, hb4⟩
      go_wp2_with fail
      go_ret
      exact ⟨rfl, hbw.trans (hb4.mono hbw.size)⟩
    · obtain ⟨b, off, rfl, hCA⟩ := HA.out h0
      have HCA := hide' hCA
      clear hCA HA
      go_enter Tryd.func6, Tryd.ntmps6
      go_wp2_with fail
      refine HL.out.mono ?_
      rintro e w2 ⟨rfl, rfl⟩
      go_wp2_with fail
      go_loopw [3] (fun i wr => ∃ (k : Nat), k ≤ ts.length ∧ i = .int .i64 k ∧ Below w.heap.size w wr) (fun i _ => ts.length - (intOf i).toNat)
      case atStart => exact ⟨0, Nat.zero_le _, rfl, Below.refl _ _⟩
      case round =>
        obtain ⟨k, hk, rfl, hnx⟩ := hrel
        by_cases hlt : k < ts.length
        · obtain ⟨x1, x2, x3⟩ := (HCA.out.on hnx) k hlt
          have htl := text_le hlt
          obtain ⟨kb, hkb⟩ : ∃ kb : ByteArray, kb = ⟨ts[k].kind.toArray⟩ := ⟨_, rfl⟩
          obtain ⟨tb, htb⟩ : ∃ tb : ByteArray, tb = ⟨ts[k].text.toArray⟩ := ⟨_, rfl⟩
          obtain ⟨n, hn⟩ : ∃ n : Int, n = ts[k].at_ := ⟨_, rfl⟩
          have htl2 : tb.size ≤ 4611686018427387904 := by
            have : tb.size = ts[k].text.length := by rw [htb]; simp [ByteArray.size]
            omega
          rw [← hkb] at x1
          rw [← htb] at x2
          rw [← hn] at x3
          have X1 := hide' x1
          have X2 := hide' x2
          have X3 := hide' x3
          have L1 := hide' (cell_lt x1)
          have HTr := hide' (HT.out.on hnx)
          clear hkb htb hn htl x1 x2 x3 HCA
          go_wp2_with fail
          go_region_held3 (fun w' => w'.cell? ⟨b, off + k * 3, none⟩ = some (.string kb) ∧ w'.cell? ⟨b, off + k * 3 + 1, none⟩ = some (.string tb) ∧ w'.cell? ⟨b, off + k * 3 + 2, none⟩ = some (.int .i64 n) ∧ Below wr.heap.size wr w') (first | exact ⟨X1.out, X2.out, X3.out, (Below.refl _ _).drew⟩ | exact ⟨(hz.cell L1.out).trans X1.out, (hz.cell L1.out).trans X2.out, (hz.cell L1.out).trans X3.out, hz⟩) (first | (go_at_call 15; refine (valid_any _ _ _ _ (held_tab (by assumption) HTr.out) htl2).mono ?_; rintro e2 w2 ⟨rfl, hb2⟩; have hz := held_on (by assumption) hb2) | (go_at_call 17; refine (rValid_any _ _ _ _ htl2).mono ?_; rintro e2 w2 ⟨rfl, hb2⟩; have hz := held_on (by assumption) hb2))
          go_wp2_with fail
          refine ⟨⟨k + 1, by omega, ?_, held_end (by assumption) hnx⟩, ?_⟩
          · push_cast; rfl
          · have e0 : (intOf (Value.int .i64 ((k : Int) + 1))).toNat = k + 1 := by show ((k : Int) + 1).toNat = k + 1; omega
            have e1 : (intOf (Value.int .i64 (k : Int))).toNat = k := by show (k : Int).toNat = k; omega
            rw [e0, e1]; omega
        · have hke : k = ts.length := by omega
          subst hke
          go_wp2_with fail
          refine (join_any ts _ _ (HT.out.on hnx) (HS.out.on hnx) hwt).mono ?_
          rintro e w2 ⟨hj, hb2⟩
          have hb20 : Below w.heap.size w w2 := hnx.trans (hb2.mono hnx.size)
          obtain ⟨b1, c1, rfl, _⟩ := joinEnd_form hj hj
          go_wp2_with fail
          refine (rJoin_any ts _ _ (HS.out.on hb20) hwt).mono ?_
          rintro e w3 ⟨hj2, hb3⟩
          obtain ⟨b2, c2, e1, rfl⟩ := joinEnd_form hj hj2
          simp only [Ending.returned.injEq, Value.tuple.injEq, Array.mk.injEq, List.cons.injEq, Value.int.injEq, Value.string.injEq, and_true, true_and] at e1
          obtain ⟨rfl, rfl⟩ := e1
          have hbw : Below w.heap.size w w3 := hb20.trans (hb3.mono hb20.size)
          have hT3 := HT.out.on hbw
          clear hj hj2 hb2 hb3 hb20
          go_wp2_with fail
          refine (First_any _ hT3).mono ?_
          rintro e w4 ⟨rfl, hb4⟩
          go_wp2_with fail
          go_ret
          exact ⟨rfl, hbw.trans (hb4.mono hbw.size)⟩

end Go.Proofs.YtdppbnjjkjgknaaDoor
