/-
  Layer 9: the walk of SignDoubts.
-/
import Derived.Test.YtdmdfokkibijjaaDoorSW34
namespace Go.Proofs.YtdmdfokkibijjaaDoor
open Go.RowKit
open Sgn
set_option linter.unusedVariables false
set_option linter.unusedSimpArgs false

set_option maxHeartbeats 16000000 in
set_option maxRecDepth 100000 in
theorem doubts_walk (s t : G) (v v' : Value) (w : World) (HT : Hid (Tab w)) (hs : s.name.size ≤ 4611686018427387904) (ht : t.name.size ≤ 4611686018427387904) (hv : GV w v s) (hv' : GV w v' t) :
    Calls Tryd.prog 9 #[v, v'] w fun e w' => e = .returned (.bool true) ∧ Below w.heap.size w w' := by
  have HF := fun w1 (hb : Below w.heap.size w w1) => hide' (First_any w1 (hide' (HT.out.on hb)))
  have HL1 := fun w1 (hb : Below w.heap.size w w1) => hide' (Long_any s v w1 (hv.on hb))
  have HL2 := fun w1 (hb : Below w.heap.size w w1) => hide' (Long_any t v' w1 (hv'.on hb))
  have HB1 := fun w1 (hb : Below w.heap.size w w1) => hide' (Ambiguous_any s t v v' w1 (HT.out.on hb) (hv.on hb) (hv'.on hb) hs ht)
  have HB2 := fun w1 (hb : Below w.heap.size w w1) => hide' (rAmbiguous_any s t v v' w1 (HT.out.on hb) (hv.on hb) (hv'.on hb) hs ht)
  have HS1 := fun w1 (hb : Below w.heap.size w w1) => hide' (Same9_any s t v v' w1 (hv.on hb) (hv'.on hb))
  have HS2 := fun w1 (hb : Below w.heap.size w w1) => hide' (rSame9_any s t v v' w1 (hv.on hb) (hv'.on hb))
  unfold AmbE at HB1 HB2
  obtain ⟨X, rfl, A, cap, rfl, hca, hma, hA⟩ := hv
  obtain ⟨X', rfl, A', cap', rfl, hca', hma', hA'⟩ := hv'
  have CB : Hid (∀ w1, Below ((w.alloc (.cells #[.string s.name, .slice A s.fs.length cap, .string s.res] 37)).alloc (.cells #[.string t.name, .slice A' t.fs.length cap', .string t.res] 37)).heap.size ((w.alloc (.cells #[.string s.name, .slice A s.fs.length cap, .string s.res] 37)).alloc (.cells #[.string t.name, .slice A' t.fs.length cap', .string t.res] 37)) w1 → _) := fun w1 hb => box33 hb
  obtain ⟨q1, hq1⟩ : ∃ q, decide (50 < s.fs.length) = q := ⟨_, rfl⟩
  obtain ⟨q2, hq2⟩ : ∃ q, decide (50 < t.fs.length) = q := ⟨_, rfl⟩
  rw [hq1] at HL1
  rw [hq2] at HL2
  obtain ⟨y, hy⟩ : ∃ q, (ambV s t).1 = q := ⟨_, rfl⟩
  obtain ⟨z, hz⟩ : ∃ q, (ambV s t).2 = q := ⟨_, rfl⟩
  obtain ⟨x, hx⟩ : ∃ q, sameG s t = q := ⟨_, rfl⟩
  rw [hy, hz] at HB1 HB2
  rw [hx] at HS1 HS2
  obtain ⟨name, fs, res⟩ := s
  obtain ⟨name', fs', res'⟩ := t
  simp only at hca hma hca' hma' HL1 HL2 HB1 HB2 HS1 HS2 CB
  rw [show maxLen = 9223372036854775807 from rfl] at hma hma'
  clear hA hA' hq1 hq2 hy hz hx hs ht HT
  go_enter Tryd.func9, Tryd.ntmps9
  obtain ⟨d1, d2, d3, d4, d5, d6⟩ := CB.out _ (Below.refl _ _)
  go_wp2_with fail
  refine (HL1 _ (box2_below (Below.refl _ _))).out.mono ?_
  rintro e w1 ⟨rfl, hb1⟩
  clear d1 d2 d3 d4 d5 d6
  obtain ⟨d1, d2, d3, d4, d5, d6⟩ := CB.out _ hb1
  have HF1 := HF w1 (box2_below hb1)
  have H2 := HL2 w1 (box2_below hb1)
  have HB := hide' hb1
  cases q1
  · go_wp2_with fail
    refine H2.out.mono ?_
    rintro e w2 ⟨rfl, hb2⟩
    have hb3 := HB.out.trans (hb2.mono HB.out.size)
    have HF2 := HF w2 (box2_below hb3)
    have H3 := HB1 w2 (box2_below hb3)
    clear d1 d2 d3 d4 d5 d6 HF1 H2 hb1 hb2
    obtain ⟨d1, d2, d3, d4, d5, d6⟩ := CB.out _ hb3
    have HB3 := hide' hb3
    clear hb3 HB1
    cases q2
    · go_wp2_with fail
      refine H3.out.mono ?_
      rintro e w4 ⟨rfl, hb4⟩
      have hb5 := HB3.out.trans (hb4.mono HB3.out.size)
      clear d1 d2 d3 d4 d5 d6 hb4 H3 HF2
      obtain ⟨d1, d2, d3, d4, d5, d6⟩ := CB.out _ hb5
      have H4 := HB2 w4 (box2_below hb5)
      have HB4 := hide' hb5
      clear HB2 hb5
      go_wp2_with fail
      refine H4.out.mono ?_
      rintro e w3 ⟨rfl, hb6⟩
      have hb7 := HB4.out.trans (hb6.mono HB4.out.size)
      have HSX : Hid (∀ w', Below w3.heap.size w3 w' → w'.cell? ⟨w.heap.size, 0, none⟩ = some (.string name) ∧ w'.cell? ⟨w.heap.size, 1, none⟩ = some (.slice A fs.length cap) ∧ w'.cell? ⟨w.heap.size, 2, none⟩ = some (.string res) ∧ w'.cell? ⟨w.heap.size + 1, 0, none⟩ = some (.string name') ∧ w'.cell? ⟨w.heap.size + 1, 1, none⟩ = some (.slice A' fs'.length cap') ∧ w'.cell? ⟨w.heap.size + 1, 2, none⟩ = some (.string res') ∧ Below w3.heap.size w3 w') := fun w' hb => by
        obtain ⟨a, b, c, d, e, f⟩ := CB.out w' (hb7.trans (hb.mono hb7.size))
        exact ⟨a, b, c, d, e, f, hb⟩
      have HLAST : Hid (∀ w', (w'.cell? ⟨w.heap.size, 0, none⟩ = some (.string name) ∧ w'.cell? ⟨w.heap.size, 1, none⟩ = some (.slice A fs.length cap) ∧ w'.cell? ⟨w.heap.size, 2, none⟩ = some (.string res) ∧ w'.cell? ⟨w.heap.size + 1, 0, none⟩ = some (.string name') ∧ w'.cell? ⟨w.heap.size + 1, 1, none⟩ = some (.slice A' fs'.length cap') ∧ w'.cell? ⟨w.heap.size + 1, 2, none⟩ = some (.string res') ∧ Below w3.heap.size w3 w') → Below w3.heap.size w3 w') := fun w' h => h.2.2.2.2.2.2
      have K1 := fun w' (hb : Below w3.heap.size w3 w') => HS1 w' ((box2_below hb7).trans (hb.mono (box2_below hb7).size))
      have K2 := fun w' (hb : Below w3.heap.size w3 w') => HS2 w' ((box2_below hb7).trans (hb.mono (box2_below hb7).size))
      have KF := fun w' (hb : Below w3.heap.size w3 w') => HF w' ((box2_below hb7).trans (hb.mono (box2_below hb7).size))
      have HB7 := hide' (box2_below hb7)
      clear d1 d2 d3 d4 d5 d6 H4 hb6 hb7 HF CB HB4 HB3 HS1 HS2
      go_wp2_with fail
      cases x
      all_goals
        go_region_held3 (fun w' => w'.cell? ⟨w.heap.size, 0, none⟩ = some (.string name) ∧ w'.cell? ⟨w.heap.size, 1, none⟩ = some (.slice A fs.length cap) ∧ w'.cell? ⟨w.heap.size, 2, none⟩ = some (.string res) ∧ w'.cell? ⟨w.heap.size + 1, 0, none⟩ = some (.string name') ∧ w'.cell? ⟨w.heap.size + 1, 1, none⟩ = some (.slice A' fs'.length cap') ∧ w'.cell? ⟨w.heap.size + 1, 2, none⟩ = some (.string res') ∧ Below w3.heap.size w3 w')
          (first | assumption | exact HSX.out _ (Below.refl _ _) | exact HSX.out _ (Below.refl _ _).drew | exact HSX.out _ (HLAST.out _ (by assumption)).drew | exact hS)
          (first
            | (go_at_call 33; refine (K1 _ (HLAST.out _ (by assumption))).out.mono ?_; rintro e5 w5 ⟨rfl, hb5⟩; have hq1 := HLAST.out _ (by assumption); have hS := HSX.out _ (hq1.trans (hb5.mono hq1.size)); clear hq1)
            | (go_at_call 34; refine (K2 _ (HLAST.out _ (by assumption))).out.mono ?_; rintro e5 w5 ⟨rfl, hb5⟩; have hq1 := HLAST.out _ (by assumption); have hS := HSX.out _ (hq1.trans (hb5.mono hq1.size)); clear hq1)
            | (go_at_call 11; refine (KF _ (HLAST.out _ (by assumption))).out.mono ?_; rintro e5 w5 ⟨rfl, hb5⟩; have hq1 := HLAST.out _ (by assumption); have hS := HSX.out _ (hq1.trans (hb5.mono hq1.size)); clear hq1))
        go_wp2_with fail
        go_ret
        exact ⟨rfl, HB7.out.trans ((HLAST.out _ (by assumption)).mono HB7.out.size)⟩
    · clear d1 d2 d3 d4 d5 d6 H3 HF HB2 CB HS1 HS2
      go_wp2_with fail
      refine HF2.out.mono ?_
      rintro e w3 ⟨rfl, hb3⟩
      have hend := (box2_below HB3.out).trans (hb3.mono (box2_below HB3.out).size)
      clear HF2 hb3
      go_wp2_with fail
      go_ret
      exact ⟨rfl, hend⟩
  · clear d1 d2 d3 d4 d5 d6 HF H2 hb1 HL1 HL2 CB HB1 HB2 HS1 HS2
    go_wp2_with fail
    refine HF1.out.mono ?_
    rintro e w3 ⟨rfl, hb3⟩
    have hend := (box2_below HB.out).trans (hb3.mono (box2_below HB.out).size)
    clear HF1 hb3
    go_wp2_with fail
    go_ret
    exact ⟨rfl, hend⟩

end Go.Proofs.YtdmdfokkibijjaaDoor
