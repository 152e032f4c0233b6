/-
  The walk of Tokens of the reference of layer 1.
-/
import Derived.Test.YtdppbnjjkjgknaaDoorW12
namespace Go.Proofs.YtdppbnjjkjgknaaDoor
open Go.RowKit
open Tok
set_option linter.unusedVariables false

theorem rTokens_long (s : ByteArray) (w : World) (h : 10000 < s.size) :
    Calls Tryd.prog 12 #[.string s] w fun e w' => TokensEnd s w w' e ∧ Below w.heap.size w w' := by
  go_enter Tryd.func12, Tryd.ntmps12
  go_wp2
  go_ret2
  exact ⟨.inl ⟨h, rfl⟩, Below.refl _ _⟩

set_option maxRecDepth 100000 in
set_option maxHeartbeats 1000000 in
theorem rTokens_short (s : ByteArray) (w : World) (h : s.size ≤ 10000) :
    Calls Tryd.prog 12 #[.string s] w fun e w' => TokensEnd s w w' e ∧ Below w.heap.size w w' := by
  obtain ⟨i0, hi, hz0, hz1, hz2⟩ := info_parts tokInfo
  have hst0 := hide' (Read.start s)
  have hg0 := gap_le s.data.toList
  rw [← Lib.size_eq] at hg0
  have hsp0 : Hid (spTo s 0 = (gap s.data.toList : Nat)) := by show _ = _; unfold spTo; simp
  go_enter Tryd.func12, Tryd.ntmps12
  go_wp2_with fail
  refine (spaces_any s 0 _ h (Nat.zero_le _)).mono ?_
  rintro e w' ⟨rfl, rfl⟩
  rw [hsp0.out]
  go_wp2_with fail
  go_loopw [4, 5] (fun v a wr => ∃ (k : Nat) (ts : List T), k ≤ s.size ∧ a = .int .i64 k ∧ ts.length ≤ k ∧ wr.ownsRow w.heap.size 30 3 v ts.length (flat ts) ∧ Below w.heap.size w wr ∧ Hid (Read s ts k)) (fun _ a _ => s.size - (intOf a).toNat)
  case atStart => exact ⟨_, [], hg0, rfl, Nat.zero_le _, World.ownsRow_nil _ _ _ _, Below.refl _ _, hst0⟩
  case round =>
    obtain ⟨k, ts, hk, rfl, hlen, hown, hnx, hr⟩ := hrel
    by_cases hlt : k < s.size
    · go_wp2_with fail
      refine (one_any s k _ h hlt).mono ?_
      rintro e w1 ⟨hf, hb1⟩
      rcases hf with ⟨kd, t, hf, rfl⟩ | ⟨hf, k1, t1, n1, rfl⟩
      · have ht := first_text hf
        rw [List.length_drop, ← Lib.size_eq] at ht
        obtain ⟨-, ht0, ht1⟩ := ht
        have hst := hide' (hr.out.step hlt hf)
        have hown1 := ownsRow_below hown hb1
        have hnx1 : Below w.heap.size w w1 := hnx.trans (hb1.mono hnx.size)
        clear hr hf hown
        go_wp2_with (at_builtin; go_must (refine wpList_append_own _ rfl _ _ 22 rfl w.heap.size 30 i0 _ 3 40 Tryd.underlying22 hi hz0 hz1 hz2 rfl (by decide) _ _ _ rfl ((hown1.alloc _).alloc _) ⟨w1.heap.size + 1, 0, none⟩ 1 1 (T.cells ⟨kd, t, k⟩) rfl rfl ?c1 ?c2 ?c3 ?c4 ?c5 ?_))
        case c1 =>
          intro j u hu
          exact cells_new' (w1.alloc _) _ _ j u hu (by simp)
        case c2 => exact T.cells_one _
        case c3 => unfold maxLen; omega
        case c4 => omega
        case c5 => have := hnx1.size; simp; omega
        intro v' w2 hown2 hg2 _
        have hc1 : w2.cell? ⟨w1.heap.size, 1, none⟩ = some (.string ⟨t.toArray⟩) := by
          refine hg2.cell ?_ (fun e => ?_)
          · rw [World.cell?_alloc_lt _ _ _ (by simp)]
            exact cells_new' w1 _ _ 1 _ rfl rfl
          · have := (hown1.lt _ e.symm).2
            simp at this
        have hb2 : Below w.heap.size w w2 := by
          refine Below.grown ?_ hg2 (by have := hnx1.size; simp; omega) (fun k hk => (hown1.lt k hk).1)
          exact (hnx1.alloc hnx1.size _).alloc (by have := hnx1.size; simp; omega) _
        have hsz : k + t.length ≤ s.size := by omega
        have hsp : Hid (spTo s (k + t.length) = (k + t.length + gap (s.data.toList.drop (k + t.length)) : Nat)) := rfl
        have hgl := gap_le (s.data.toList.drop (k + t.length))
        rw [List.length_drop, ← Lib.size_eq] at hgl
        obtain ⟨g, hg⟩ : ∃ g, g = gap (s.data.toList.drop (k + t.length)) := ⟨_, rfl⟩
        rw [← hg] at hgl hst hsp
        clear hown1 hg2 hb1 hnx hnx1 hg
        go_wp2_with fail
        have hcall := spaces_any s (k + t.length) w2 h hsz
        rw [hsp.out, Int.natCast_add] at hcall
        refine hcall.mono ?_
        rintro e w3 ⟨rfl, rfl⟩
        go_wp2_with fail
        go_roundw
        case rel => exact ⟨k + t.length + g, _, by omega, rfl, by simp; omega, by rw [flat_snoc]; simpa using hown2, hb2, hst⟩
        case measure => simp [intOf]; omega
      · have hfin := hide' (hr.out.fail hlt hf)
        clear hr hf hown
        go_wp2_with fail
        go_ret2
        exact ⟨.inr (.inl ⟨h, hfin.out, rfl⟩), (hnx.trans (hb1.mono hnx.size)).alloc (by have := hnx.size; have := hb1.size; omega) _⟩
    · have hfin := hide' (hr.out.done (by omega))
      clear hr
      go_wp2_with fail
      go_ret2
      exact ⟨.inr (.inr ⟨h, ts, _, hfin.out, rfl, hown⟩), hnx⟩

theorem rTokens_any (s : ByteArray) (w : World) :
    Calls Tryd.prog 12 #[.string s] w fun e w' => TokensEnd s w w' e ∧ Below w.heap.size w w' := by
  rcases Nat.lt_or_ge 10000 s.size with h | h
  · exact rTokens_long s w h
  · exact rTokens_short s w h
theorem tokens_any (s : ByteArray) (w : World) (hT : Tab w) :
    Calls Tryd.prog 11 #[.string s] w fun e w' => TokensEnd s w w' e ∧ Below w.heap.size w w' := by
  rcases Nat.lt_or_ge 10000 s.size with h | h
  · exact tokens_long s w h
  · exact tokens_short s w hT h

end Go.Proofs.YtdppbnjjkjgknaaDoor
