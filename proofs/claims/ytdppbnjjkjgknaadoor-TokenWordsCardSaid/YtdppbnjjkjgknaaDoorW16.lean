/-
  The walk of the statement on texts whose bytes 9 and 10 become spaces.
-/
import Derived.Test.YtdppbnjjkjgknaaDoorW15
import Derived.Test.YtdppbnjjkjgknaaDoorPlain2
namespace Go.Proofs.YtdppbnjjkjgknaaDoor
open Go.RowKit
open Tok
set_option linter.unusedVariables false

theorem ends_same2 {s s' : ByteArray} {w0 w1 w2 w3 : World} {e e' : Ending} (hs : s.size ≤ 10000) (hs' : s'.size ≤ 10000) (ht : tokens s'.data.toList = tokens s.data.toList)
    (h : TokensEnd s w0 w1 e) (hb : Below w1.heap.size w1 w3) (h' : TokensEnd s' w2 w3 e') :
    ∃ (v v' : Value) (c : Int) (ts : List T), e = .returned (.tuple #[v, .int .i64 c]) ∧ e' = .returned (.tuple #[v', .int .i64 c]) ∧ TokSl w3 v ts ∧ TokSl w3 v' ts := by
  rcases h with ⟨h1, rfl⟩ | ⟨h1, h2, rfl⟩ | ⟨h1, ts, v, h2, rfl, hown⟩
  · omega
  · rcases h' with ⟨g1, rfl⟩ | ⟨_, _, rfl⟩ | ⟨_, ts, v, g2, _⟩
    · omega
    · exact ⟨_, _, 10, [], rfl, rfl, TokSl.nil _, TokSl.nil _⟩
    · rw [ht, h2] at g2; cases g2
  · rcases h' with ⟨g1, rfl⟩ | ⟨_, g2, rfl⟩ | ⟨_, ts', v', g2, rfl, hown'⟩
    · omega
    · rw [ht, h2] at g2; cases g2
    · rw [ht, h2] at g2
      obtain rfl := Option.some.inj g2
      exact ⟨v, v', 0, ts, rfl, rfl, (TokSl.own hown).on hb, TokSl.own hown'⟩

/-- the first k bytes are without '/', and cb holds them, with spaces for 9 and 10 -/
def Spaced (s cb : ByteArray) (k : Nat) : Prop := cb.data.toList = (s.data.toList.take k).map spc ∧ ∀ c ∈ s.data.toList.take k, c ≠ 47
theorem take_more (s : ByteArray) (k : Nat) (h : k < s.size) : s.data.toList.take (k + 1) = s.data.toList.take k ++ [s[k]] := by
  rw [List.take_add_one, getq s k h]; rfl
theorem Spaced.step {s cb cb' : ByteArray} {k : Nat} (h : Spaced s cb k) (hk : k < s.size) (hn : ¬ (s[k].toNat : Int) = 47) (hc : cb'.data.toList = cb.data.toList ++ [spc s[k]]) : Spaced s cb' (k + 1) := by
  obtain ⟨h1, h2⟩ := h
  refine ⟨?_, ?_⟩
  · rw [hc, h1, take_more s k hk]; simp
  · rw [take_more s k hk]
    intro c hcm
    rcases List.mem_append.1 hcm with h3 | h3
    · exact h2 c h3
    · obtain rfl : c = s[k] := by simpa using h3
      intro e
      rw [e] at hn
      exact hn rfl
theorem Spaced.size {s cb : ByteArray} {k : Nat} (h : Spaced s cb k) (hk : k ≤ s.size) : cb.size = k := by
  rw [Lib.size_eq, h.1, List.length_map, List.length_take, ← Lib.size_eq]; omega
theorem Spaced.tokens {s cb : ByteArray} (h : Spaced s cb s.size) : tokens cb.data.toList = tokens s.data.toList := by
  obtain ⟨h1, h2⟩ := h
  rw [Lib.size_eq, List.take_length] at h1 h2
  rw [h1, tokens_spc _ h2]

set_option maxHeartbeats 2000000 in
set_option maxRecDepth 100000 in
theorem spaced_walk (s : ByteArray) (w : World) (hT : Tab w) (hs : s.size ≤ 9223372036854775807) :
    Calls Tryd.prog 4 #[.string s] w fun e w' => e = .returned (.bool true) ∧ Below w.heap.size w w' := by
  have HT := hide' hT
  have HF := hide' (First_any w hT)
  clear hT
  go_enter Tryd.func4, Tryd.ntmps4
  go_wp2_with fail
  go_loop [3, 4] (fun p i => ∃ (k : Nat) (cb : ByteArray), k ≤ s.size ∧ k ≤ 2000 ∧ p = .string cb ∧ i = .int .i64 k ∧ Hid (Spaced s cb k)) (fun _ i => s.size - (intOf i).toNat)
  case atStart => exact ⟨0, ⟨#[]⟩, Nat.zero_le _, Nat.zero_le _, rfl, rfl, by refine ⟨?_, ?_⟩ <;> simp⟩
  case round =>
    obtain ⟨k, cb, hk, hk2, rfl, rfl, hr⟩ := hrel
    have hcb := hr.out.size hk
    by_cases hgo : k < s.size ∧ k < 2000
    · obtain ⟨hlt, hlt2⟩ := hgo
      by_cases h47 : (s[k].toNat : Int) = 47
      · clear hr hcb
        go_wp2_with fail
        refine HF.out.mono ?_
        rintro e w1 ⟨rfl, hb⟩
        go_wp2_with fail
        go_ret
        exact ⟨rfl, hb⟩
      · have b47 : ((s[k].toNat : Int) == 47) = false := by simpa using h47
        by_cases hsp : (s[k].toNat : Int) = 10 ∨ (s[k].toNat : Int) = 9
        · have hr' : Hid (Spaced s (cb ++ ⟨#[32]⟩) (k + 1)) := by
            refine hr.out.step hlt h47 ?_
            rw [app_data]
            congr 2
            rcases hsp with h | h
            · rw [u8_of _ 10 (by omega) h]; rfl
            · rw [u8_of _ 9 (by omega) h]; rfl
          clear hr h47
          rcases hsp with h | h
          all_goals
            go_wp2_with fail
            go_round
            case rel => exact ⟨k + 1, _, by omega, by omega, rfl, by go_num, hr'⟩
            case measure => simp [intOf]; omega
        · have h10 : ((s[k].toNat : Int) == 10) = false := by rw [beq_eq_false_iff_ne]; exact fun e => hsp (.inl e)
          have h9 : ((s[k].toNat : Int) == 9) = false := by rw [beq_eq_false_iff_ne]; exact fun e => hsp (.inr e)
          have hr' : Hid (Spaced s (cb ++ s.extract k (k + 1)) (k + 1)) := by
            refine hr.out.step hlt h47 ?_
            rw [app_data, ext_one s k hlt]
            congr 2
            rcases spc_cases s[k] with ⟨_, e | e⟩ | ⟨e, _⟩
            · rw [e] at h9; exact absurd h9 (by decide)
            · rw [e] at h10; exact absurd h10 (by decide)
            · exact e.symm
          clear hr h47 hsp
          go_wp2_with fail
          go_round
          case rel => exact ⟨k + 1, _, by omega, by omega, rfl, by go_num, hr'⟩
          case measure => simp [intOf]; omega
    · rcases Nat.lt_or_ge 2000 s.size with hbig | hsmall
      · have hk3 : k = 2000 := by omega
        subst hk3
        clear hr hgo hcb
        go_wp2_with fail
        refine HF.out.mono ?_
        rintro e w1 ⟨rfl, hb⟩
        go_wp2_with fail
        go_ret
        exact ⟨rfl, hb⟩
      · have hk3 : k = s.size := by omega
        have hr2 := hr.out
        rw [hk3] at hr2
        have htk := hide' hr2.tokens
        have hcs : cb.size ≤ 10000 := by rw [hcb]; omega
        have hss : s.size ≤ 10000 := by omega
        have hk4 : ¬ k < s.size := by omega
        have C1 := hide' (tokens_any s w HT.out)
        clear hr hr2 hgo hcb hk3
        go_wp2_with fail
        refine C1.out.mono ?_
        rintro e w1 ⟨hend, hb⟩
        have hT1 := HT.out.on hb
        obtain ⟨v, c, rfl⟩ := ends_form hend
        go_wp2_with fail
        refine (tokens_any cb w1 hT1).mono ?_
        rintro e w2 ⟨hend2, hb2⟩
        obtain ⟨v2, c2, rfl⟩ := ends_form hend2
        obtain ⟨v3, v4, c3, ts, e1, e2, hv, hv2⟩ := ends_same2 hss hcs htk.out hend hb2 hend2
        simp only [Ending.returned.injEq, Value.tuple.injEq, Array.mk.injEq, List.cons.injEq, Value.int.injEq, and_true, true_and] at e1 e2
        obtain ⟨rfl, rfl⟩ := e1
        obtain ⟨rfl, rfl⟩ := e2
        have hT2 := hT1.on hb2
        have hbw : Below w.heap.size w w2 := hb.trans (hb2.mono hb.size)
        clear hend hend2 hb2 hT1 C1 HT HF hb
        go_wp2_with fail
        refine (same_true ts _ _ w2 hv hv2).mono ?_
        rintro e w3 ⟨rfl, n, rfl⟩
        go_wp2_with fail
        refine (First_any _ (hT2.on (below_draws (Below.refl _ _) n))).mono ?_
        rintro e w4 ⟨rfl, hb4⟩
        go_wp2_with fail
        go_ret
        exact ⟨rfl, (below_draws hbw n).trans (hb4.mono hbw.size)⟩

end Go.Proofs.YtdppbnjjkjgknaaDoor
