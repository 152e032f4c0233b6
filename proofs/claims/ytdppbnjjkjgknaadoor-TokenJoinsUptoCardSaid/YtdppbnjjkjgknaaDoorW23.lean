/-
  The walks of the statements on tokens that are joined and read again.
-/
import Derived.Test.YtdppbnjjkjgknaaDoorW22
namespace Go.Proofs.YtdppbnjjkjgknaaDoor
open Go.RowKit
open Tok
set_option linter.unusedVariables false

theorem follow_valid (l : List UInt8) : ∀ (ts : List T) (e : Nat), Follow l e ts → AllValid ts ∧ (e ≤ l.length → e + Lib.lens (texts ts) ≤ l.length) ∧ ts.length ≤ Lib.lens (texts ts)
  | [], e, _ => ⟨(fun t ht => by cases ht), (fun h => by simpa [texts, Lib.lens] using h), by simp [texts, Lib.lens]⟩
  | t :: r, e, h => by
    obtain ⟨a, _, hea, hal, _, hf, hr⟩ := h
    obtain ⟨h1, h2, h3⟩ := follow_valid l r _ hr
    have h0 := (first_text hf).2.1
    have hl : Lib.lens (texts (t :: r)) = t.text.length + Lib.lens (texts r) := by simp [texts, Lib.lens]
    refine ⟨?_, fun _ => ?_, ?_⟩
    · intro u hu
      rcases List.mem_cons.1 hu with rfl | hu
      · exact hf
      · exact h1 u hu
    · have := h2 hal
      omega
    · rw [hl, List.length_cons]; omega

def joinB (ts : List T) : ByteArray := ⟨(Lib.join (texts ts) [32]).toArray⟩
theorem joinB_size (ts : List T) : (joinB ts).size ≤ weight ts := by
  have := join_le (texts ts)
  unfold weight
  rw [Lib.size_eq]
  show (Lib.join (texts ts) [32]).length ≤ _
  have h2 : (texts ts).length = ts.length := by simp [texts]
  omega
/-- valid tokens, joined and read again -/
theorem back_again {ts : List T} (h : AllValid ts) : ∃ ts', tokens (joinB ts).data.toList = some ts' ∧ ts'.map kt = ts.map kt := by
  obtain ⟨ts', h1, h2⟩ := toks_join (ts.map kt) 0 (by
    intro v hv
    obtain ⟨t, ht, rfl⟩ := List.mem_map.1 hv
    exact h t ht)
  refine ⟨ts', ?_, h2⟩
  rw [List.map_map] at h1
  exact h1
theorem back_end {ts : List T} (h : AllValid ts) (hs : (joinB ts).size ≤ 10000) {w w' : World} {e : Ending} (he : TokensEnd (joinB ts) w w' e) :
    ∃ v ts', e = .returned (.tuple #[v, .int .i64 0]) ∧ TokSl w' v ts' ∧ ts'.map kt = ts.map kt := by
  obtain ⟨ts1, h1, h2⟩ := back_again h
  rcases he with ⟨g, _⟩ | ⟨_, g, _⟩ | ⟨_, ts2, v, g, rfl, hown⟩
  · omega
  · rw [h1] at g; cases g
  · rw [h1] at g
    obtain rfl := Option.some.inj g
    exact ⟨v, ts1, rfl, TokSl.own hown, h2⟩

set_option maxHeartbeats 1000000 in
set_option maxRecDepth 100000 in
theorem again_walk (s : ByteArray) (w : World) (hT : Tab w) :
    Calls Tryd.prog 8 #[.string s] w fun e w' => e = .returned (.bool true) ∧ Below w.heap.size w w' := by
  have HC := hide' (tokens_any s w hT)
  have HT := hide' hT
  clear hT
  go_enter Tryd.func8, Tryd.ntmps8
  go_wp2_with fail
  refine HC.out.mono ?_
  rintro e w1 ⟨hend, hb⟩
  have HT1 := hide' (HT.out.on hb)
  have HF := hide' (First_any w1 HT1.out)
  clear HC HT
  rcases hend with ⟨_, rfl⟩ | ⟨_, _, rfl⟩ | ⟨hs, ts, v, h2, rfl, hown⟩
  · go_wp2_with fail
    refine HF.out.mono ?_
    rintro e w2 ⟨rfl, hb2⟩
    go_wp2_with fail
    go_ret
    exact ⟨rfl, hb.trans (hb2.mono hb.size)⟩
  · go_wp2_with fail
    refine HF.out.mono ?_
    rintro e w2 ⟨rfl, hb2⟩
    go_wp2_with fail
    go_ret
    exact ⟨rfl, hb.trans (hb2.mono hb.size)⟩
  · have HS := hide' (TokSl.own hown)
    obtain ⟨hv, hlen, hcnt⟩ := follow_valid _ _ _ (tokens_follow _ _ h2)
    have hlen := hlen (Nat.zero_le _)
    rw [← Lib.size_eq] at hlen
    have hwt : weight ts ≤ 4000000 := by unfold weight; omega
    have HV := hide' hv
    clear h2 hown hv hlen hcnt HF
    go_wp2_with fail
    refine (join_any ts _ _ HT1.out HS.out hwt).mono ?_
    rintro e w2 ⟨hj, hb2⟩
    have hbw : Below w.heap.size w w2 := hb.trans (hb2.mono hb.size)
    have HT2 := hide' (HT1.out.on hb2)
    have HS2 := hide' (HS.out.on hb2)
    rcases hj with ⟨_, rfl⟩ | ⟨hn, _⟩
    · have ej : Hid ((⟨(Lib.join (texts ts) [32]).toArray⟩ : ByteArray) = joinB ts) := rfl
      rw [ej.out]
      have hjs := joinB_size ts
      clear hb hb2 HT1 HS
      by_cases hbig : (joinB ts).size ≤ 10000
      · go_wp2_with fail
        refine (tokens_any (joinB ts) w2 HT2.out).mono ?_
        rintro e w3 ⟨he, hb3⟩
        obtain ⟨v2, ts2, rfl, hsl2, hkt⟩ := back_end HV.out hbig he
        have HS3 := hide' (HS2.out.on hb3)
        have HT3 := hide' (HT2.out.on hb3)
        have hbw3 : Below w.heap.size w w3 := hbw.trans (hb3.mono hbw.size)
        have HSB := hide' hsl2
        have HK := hide' hkt
        clear he hb3 HS2 HT2 hbw hsl2 hkt
        go_wp2_with fail
        refine (rSame_true ts2 ts _ _ w3 HSB.out HS3.out HK.out).mono ?_
        rintro e w4 ⟨rfl, n, rfl⟩
        go_wp2_with fail
        refine (First_any _ (HT3.out.on (below_draws (Below.refl _ _) n))).mono ?_
        rintro e w5 ⟨rfl, hb5⟩
        go_wp2_with fail
        go_ret
        exact ⟨rfl, (below_draws hbw3 n).trans (hb5.mono hbw3.size)⟩
      · go_wp2_with fail
        refine (First_any _ HT2.out).mono ?_
        rintro e w5 ⟨rfl, hb5⟩
        go_wp2_with fail
        go_ret
        exact ⟨rfl, hbw.trans (hb5.mono hbw.size)⟩
    · exact absurd HV.out hn

/-! over a list that came in -/
theorem long_any (ts : List T) (v : Value) (w : World) (hsl : TokSl w v ts) :
    Calls Tryd.prog 16 #[v] w fun e w' => e = .returned (.bool (decide (400 < ts.length))) ∧ w = w' := by
  obtain ⟨A, cap, rfl, hca, hma, hA⟩ := hsl
  clear hA
  go_enter Tryd.func16, Tryd.ntmps16
  go_wp2
  go_ret
  exact ⟨by simp; omega, rfl⟩

set_option maxHeartbeats 1000000 in
set_option maxRecDepth 100000 in
theorem back_walk (ts : List T) (v : Value) (w : World) (hT : Tab w) (hsl : TokSl w v ts) (hwt : weight ts ≤ 4000000) :
    Calls Tryd.prog 7 #[v] w fun e w' => e = .returned (.bool true) ∧ Below w.heap.size w w' := by
  have HF := hide' (First_any w hT)
  have HT := hide' hT
  have HS := hide' hsl
  have HL := hide' (long_any ts v w hsl)
  clear hT hsl
  by_cases h400 : 400 < ts.length
  · have hd : decide (400 < ts.length) = true := by simp; omega
    go_enter Tryd.func7, Tryd.ntmps7
    go_wp2_with fail
    refine HL.out.mono ?_
    rintro e w2 ⟨rfl, rfl⟩
    go_wp2_with fail
    refine HF.out.mono ?_
    rintro e w2 ⟨rfl, hb2⟩
    go_wp2_with fail
    go_ret
    exact ⟨rfl, hb2⟩
  · have hd : decide (400 < ts.length) = false := by simp; omega
    go_enter Tryd.func7, Tryd.ntmps7
    go_wp2_with fail
    refine HL.out.mono ?_
    rintro e w2 ⟨rfl, rfl⟩
    go_wp2_with fail
    refine (join_any ts _ _ HT.out HS.out hwt).mono ?_
    rintro e w2 ⟨hj, hb2⟩
    have HT2 := hide' (HT.out.on hb2)
    have HS2 := hide' (HS.out.on hb2)
    clear HF HT HS HL
    rcases hj with ⟨hv, rfl⟩ | ⟨hn, rfl⟩
    · have HV := hide' hv
      have ej : Hid ((⟨(Lib.join (texts ts) [32]).toArray⟩ : ByteArray) = joinB ts) := rfl
      rw [ej.out]
      have hjs := joinB_size ts
      clear hv
      by_cases hbig : (joinB ts).size ≤ 10000
      · go_wp2_with fail
        refine (tokens_any (joinB ts) w2 HT2.out).mono ?_
        rintro e w3 ⟨he, hb3⟩
        obtain ⟨v2, ts2, rfl, hsl2, hkt⟩ := back_end HV.out hbig he
        have HS3 := hide' (HS2.out.on hb3)
        have HT3 := hide' (HT2.out.on hb3)
        have hbw3 : Below w.heap.size w w3 := hb2.trans (hb3.mono hb2.size)
        have HSB := hide' hsl2
        have HK := hide' hkt
        clear he hb3 HS2 HT2 hsl2 hkt
        go_wp2_with fail
        refine (rSame_true ts2 ts _ _ w3 HSB.out HS3.out HK.out).mono ?_
        rintro e w4 ⟨rfl, n, rfl⟩
        go_wp2_with fail
        refine (First_any _ (HT3.out.on (below_draws (Below.refl _ _) n))).mono ?_
        rintro e w5 ⟨rfl, hb5⟩
        go_wp2_with fail
        go_ret
        exact ⟨rfl, (below_draws hbw3 n).trans (hb5.mono hbw3.size)⟩
      · go_wp2_with fail
        refine (First_any _ HT2.out).mono ?_
        rintro e w5 ⟨rfl, hb5⟩
        go_wp2_with fail
        go_ret
        exact ⟨rfl, hb2.trans (hb5.mono hb2.size)⟩
    · clear hn
      go_wp2_with fail
      refine (First_any _ HT2.out).mono ?_
      rintro e w5 ⟨rfl, hb5⟩
      go_wp2_with fail
      go_ret
      exact ⟨rfl, hb2.trans (hb5.mono hb2.size)⟩

end Go.Proofs.YtdppbnjjkjgknaaDoor
