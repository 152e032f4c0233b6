/-
  Layer 9: what Ways, Better and Fits hand back, as values; the walks of SignBetter, SignWays and SignFits.
-/
import Derived.Test.YtdmdfokkibijjaaDoorSW25
namespace Go.Proofs.YtdmdfokkibijjaaDoor
open Go.RowKit
open Sgn
set_option linter.unusedVariables false
set_option linter.unusedSimpArgs false

def bV (s t : G) (ac : List F) : Bool × Int := if betterOk s t ac = true then (betterV φF s t ac, 0) else (false, 2)
theorem bV_of {s t : G} {ac : List F} {e : Ending} (h : BetterE φF s t ac e) : e = .returned (.tuple #[.bool (bV s t ac).1, .int .i64 (bV s t ac).2]) := by
  unfold bV
  rcases h with ⟨h, rfl⟩ | ⟨h, rfl⟩ <;> simp [h]
theorem betterE_same {s t : G} {ac : List F} {e : Ending} (h : BetterE φW s t ac e) : BetterE φF s t ac e := by
  cases hc : betterOk s t ac
  · rcases h with h | h
    · exact .inl h
    · rw [hc] at h; cases h.1
  · have h1 := hc
    unfold betterOk at h1
    simp only [Bool.and_eq_true] at h1
    have ha : ∀ a ∈ ac, isActual a.k a.n = true := List.all_eq_true.1 h1.2.2
    unfold BetterE betterV at h ⊢
    rw [wl_same s.fs ac (validG_formals h1.1) ha, wl_same t.fs ac (validG_formals h1.2.1) ha, waysOk_same s.fs ac (validG_formals h1.1) ha, waysOk_same t.fs ac (validG_formals h1.2.1) ha]
    exact h
def wV (g : G) (ac : List F) : List Int × Bool × Int :=
  if (validG g && ac.all fun f => isActual f.k f.n) = true then (if waysOk φF g.fs ac = true then (wl φF g.fs ac, true, 0) else ([], false, 0)) else ([], false, 2)
theorem wV_of {g : G} {ac : List F} {w' : World} {e : Ending} (h : WaysE φF g ac w' e) : ∃ v, e = .returned (.tuple #[v, .bool (wV g ac).2.1, .int .i64 (wV g ac).2.2]) ∧ ISl w' v (wV g ac).1 := by
  unfold wV
  rcases h with ⟨h, rfl⟩ | ⟨h, h2, rfl⟩ | ⟨h, h2, v, rfl, hI⟩
  · exact ⟨.slice none 0 0, by rw [h]; rfl, by rw [h]; exact ISl.nil _⟩
  · exact ⟨.slice none 0 0, by rw [h, h2]; rfl, by rw [h, h2]; exact ISl.nil _⟩
  · exact ⟨v, by rw [h, h2]; rfl, by rw [h, h2]; exact hI⟩
theorem waysE_same {g : G} {ac : List F} {w' : World} {e : Ending} (h : WaysE φW g ac w' e) : WaysE φF g ac w' e := by
  cases hc : (validG g && ac.all fun f => isActual f.k f.n)
  · rcases h with h | h | h
    · exact .inl h
    · rw [hc] at h; cases h.1
    · rw [hc] at h; cases h.1
  · have h1 := hc
    simp only [Bool.and_eq_true] at h1
    have ha : ∀ a ∈ ac, isActual a.k a.n = true := List.all_eq_true.1 h1.2
    unfold WaysE at h ⊢
    rw [wl_same g.fs ac (validG_formals h1.1) ha, waysOk_same g.fs ac (validG_formals h1.1) ha]
    exact h

def WaysW (g : G) (ac : List F) (w w' : World) (e : Ending) : Prop := ∃ v, e = .returned (.tuple #[v, .bool (wV g ac).2.1, .int .i64 (wV g ac).2.2]) ∧ Hid (ISl w' v (wV g ac).1) ∧ Below w.heap.size w w'
theorem Ways_v (g : G) (ac : List F) (v u : Value) (w : World) (hT : Tab w) (hv : GV w v g) (hu : FSl w u ac) (hs : g.name.size ≤ 4611686018427387904) :
    Calls Tryd.prog 19 #[v, u] w fun e w' => WaysW g ac w w' e :=
  (Ways_any g ac v u w hT hv hu hs).mono fun e w' ⟨h, hb⟩ => let ⟨x, he, hI⟩ := wV_of h; ⟨x, he, hI, hb⟩
theorem rWays_v (g : G) (ac : List F) (v u : Value) (w : World) (hT : Tab w) (hv : GV w v g) (hu : FSl w u ac) (hs : g.name.size ≤ 4611686018427387904) :
    Calls Tryd.prog 20 #[v, u] w fun e w' => WaysW g ac w w' e :=
  (rWaysT_any g ac v u w hT hv hu hs).mono fun e w' ⟨h, hb⟩ => let ⟨x, he, hI⟩ := wV_of (waysE_same h); ⟨x, he, hI, hb⟩

theorem box3 {w w1 : World} {a b c : Value} {T : TypeId} (hb : Below (w.alloc (.cells #[a, b, c] T)).heap.size (w.alloc (.cells #[a, b, c] T)) w1) : w1.cell? ⟨w.heap.size, 0, none⟩ = some a ∧ w1.cell? ⟨w.heap.size, 1, none⟩ = some b ∧ w1.cell? ⟨w.heap.size, 2, none⟩ = some c :=
  ⟨(hb.cell (by simp)).trans (cells_new' w #[a, b, c] T 0 _ rfl rfl), (hb.cell (by simp)).trans (cells_new' w #[a, b, c] T 1 _ rfl rfl), (hb.cell (by simp)).trans (cells_new' w #[a, b, c] T 2 _ rfl rfl)⟩
theorem held_last3 {S1 S2 S3 : Prop} {wr w2 : World} (h : S1 ∧ S2 ∧ S3 ∧ Below wr.heap.size wr w2) : Below wr.heap.size wr w2 := h.2.2.2
theorem box33 {w w1 : World} {a b c a' b' c' : Value} {T : TypeId} (hb : Below ((w.alloc (.cells #[a, b, c] T)).alloc (.cells #[a', b', c'] T)).heap.size ((w.alloc (.cells #[a, b, c] T)).alloc (.cells #[a', b', c'] T)) w1) :
    w1.cell? ⟨w.heap.size, 0, none⟩ = some a ∧ w1.cell? ⟨w.heap.size, 1, none⟩ = some b ∧ w1.cell? ⟨w.heap.size, 2, none⟩ = some c ∧ w1.cell? ⟨w.heap.size + 1, 0, none⟩ = some a' ∧ w1.cell? ⟨w.heap.size + 1, 1, none⟩ = some b' ∧ w1.cell? ⟨w.heap.size + 1, 2, none⟩ = some c' := by
  have h1 := box3 (box_below hb)
  have e : (w.alloc (.cells #[a, b, c] T)).heap.size = w.heap.size + 1 := by simp
  have h2 := box3 hb
  rw [e] at h2
  have hb0 : Below (w.alloc (.cells #[a, b, c] T)).heap.size (w.alloc (.cells #[a, b, c] T)) w1 := box_below hb
  exact ⟨(box3 hb0).1, (box3 hb0).2.1, (box3 hb0).2.2, h2.1, h2.2.1, h2.2.2⟩

set_option maxHeartbeats 8000000 in
set_option maxRecDepth 100000 in
theorem better_walk (s t : G) (ac : List F) (v v' u : Value) (w : World) (HT : Hid (Tab w)) (hs : s.name.size ≤ 4611686018427387904) (ht : t.name.size ≤ 4611686018427387904) (hv : GV w v s) (hv' : GV w v' t) (hu : FSl w u ac) :
    Calls Tryd.prog 7 #[v, v', u] w fun e w' => e = .returned (.bool true) ∧ Below w.heap.size w w' := by
  have HF := fun w1 (hb : Below w.heap.size w w1) => hide' (First_any w1 (hide' (HT.out.on hb)))
  have HL1 := fun w1 (hb : Below w.heap.size w w1) => hide' (Long_any s v w1 (hv.on hb))
  have HL2 := fun w1 (hb : Below w.heap.size w w1) => hide' (Long_any t v' w1 (hv'.on hb))
  have HB1 := fun w1 (hb : Below w.heap.size w w1) => hide' ((Better_any s t ac v v' u w1 (HT.out.on hb) (hv.on hb) (hv'.on hb) (hu.on hb) hs ht).mono fun e w' ⟨h, hb⟩ => And.intro (bV_of h) hb)
  have HB2 := fun w1 (hb : Below w.heap.size w w1) => hide' ((rBetterT_any s t ac v v' u w1 (HT.out.on hb) (hv.on hb) (hv'.on hb) (hu.on hb) hs ht).mono fun e w' ⟨h, hb⟩ => And.intro (bV_of (betterE_same h)) hb)
  obtain ⟨X, rfl, A, cap, rfl, hca, hma, hA⟩ := hv
  obtain ⟨X', rfl, A', cap', rfl, hca', hma', hA'⟩ := hv'
  obtain ⟨B, cap2, rfl, hcb, hmb, hB⟩ := hu
  have CB : Hid (∀ w1, Below ((w.alloc (.cells #[.string s.name, .slice A s.fs.length cap, .string s.res] 37)).alloc (.cells #[.string t.name, .slice A' t.fs.length cap', .string t.res] 37)).heap.size ((w.alloc (.cells #[.string s.name, .slice A s.fs.length cap, .string s.res] 37)).alloc (.cells #[.string t.name, .slice A' t.fs.length cap', .string t.res] 37)) w1 → _) := fun w1 hb => box33 hb
  obtain ⟨q1, hq1⟩ : ∃ q, decide (50 < s.fs.length) = q := ⟨_, rfl⟩
  obtain ⟨q2, hq2⟩ : ∃ q, decide (50 < t.fs.length) = q := ⟨_, rfl⟩
  rw [hq1] at HL1
  rw [hq2] at HL2
  obtain ⟨y, hy⟩ : ∃ q, (bV s t ac).1 = q := ⟨_, rfl⟩
  obtain ⟨z, hz⟩ : ∃ q, (bV s t ac).2 = q := ⟨_, rfl⟩
  rw [hy, hz] at HB1 HB2
  obtain ⟨name, fs, res⟩ := s
  obtain ⟨name', fs', res'⟩ := t
  simp only at hca hma hca' hma' HL1 HL2 HB1 HB2 CB
  rw [show maxLen = 9223372036854775807 from rfl] at hma hma' hmb
  clear hA hA' hB hq1 hq2 hy hz hs ht HT
  by_cases h50 : 50 < ac.length
  · have h50' : decide ((50 : Int) < (ac.length : Int)) = true := decide_eq_true (by omega)
    clear HB1 HB2
    go_enter Tryd.func7, Tryd.ntmps7
    obtain ⟨d1, d2, d3, d4, d5, d6⟩ := CB.out _ (Below.refl _ _)
    go_wp2_with fail
    refine (HL1 _ (box2_below (Below.refl _ _))).out.mono ?_
    rintro e w1 ⟨rfl, hb1⟩
    clear d1 d2 d3 d4 d5 d6
    obtain ⟨d1, d2, d3, d4, d5, d6⟩ := CB.out _ hb1
    have HF1 := HF w1 (box2_below hb1)
    have H2 := HL2 w1 (box2_below hb1)
    have HB := hide' (box2_below hb1)
    cases q1
    · go_wp2_with fail
      refine H2.out.mono ?_
      rintro e w2 ⟨rfl, hb2⟩
      have hb3 := HB.out.trans (hb2.mono HB.out.size)
      have HF2 := HF w2 hb3
      clear d1 d2 d3 d4 d5 d6 HF HF1 H2 hb1 hb2
      have HB3 := hide' hb3
      clear hb3
      cases q2
      all_goals
        go_wp2_with fail
        refine HF2.out.mono ?_
        rintro e w3 ⟨rfl, hb3⟩
        have hend := HB3.out.trans (hb3.mono HB3.out.size)
        clear HF2 hb3
        go_wp2_with fail
        go_ret
        exact ⟨rfl, hend⟩
    · clear d1 d2 d3 d4 d5 d6 HF H2 hb1 HL1 HL2 CB
      go_wp2_with fail
      refine HF1.out.mono ?_
      rintro e w3 ⟨rfl, hb3⟩
      have hend := HB.out.trans (hb3.mono HB.out.size)
      clear HF1 hb3
      go_wp2_with fail
      go_ret
      exact ⟨rfl, hend⟩
  · have h50' : decide ((50 : Int) < (ac.length : Int)) = false := decide_eq_false (by omega)
    go_enter Tryd.func7, Tryd.ntmps7
    obtain ⟨d1, d2, d3, d4, d5, d6⟩ := CB.out _ (Below.refl _ _)
    go_wp2_with fail
    refine (HL1 _ (box2_below (Below.refl _ _))).out.mono ?_
    rintro e w1 ⟨rfl, hb1⟩
    clear d1 d2 d3 d4 d5 d6
    obtain ⟨d1, d2, d3, d4, d5, d6⟩ := CB.out _ hb1
    have HF1 := HF w1 (box2_below hb1)
    have H2 := HL2 w1 (box2_below hb1)
    have HB := hide' hb1
    cases q1
    · go_wp2_with fail
      refine H2.out.mono ?_
      rintro e w2 ⟨rfl, hb2⟩
      have hb3 := HB.out.trans (hb2.mono HB.out.size)
      have HF2 := HF w2 (box2_below hb3)
      have H3 := HB1 w2 (box2_below hb3)
      clear d1 d2 d3 d4 d5 d6 HF1 H2 hb1 hb2
      obtain ⟨d1, d2, d3, d4, d5, d6⟩ := CB.out _ hb3
      have HB3 := hide' hb3
      clear hb3 HB1
      cases q2
      · go_wp2_with fail
        refine H3.out.mono ?_
        rintro e w3 ⟨rfl, hb3⟩
        have hb4 := HB3.out.trans (hb3.mono HB3.out.size)
        clear d1 d2 d3 d4 d5 d6 hb3 H3 HF2
        obtain ⟨d1, d2, d3, d4, d5, d6⟩ := CB.out _ hb4
        have H4 := HB2 w3 (box2_below hb4)
        have HB4 := hide' hb4
        clear HB2 hb4
        go_wp2_with fail
        refine H4.out.mono ?_
        rintro e w4 ⟨rfl, hb5⟩
        have hb6 := HB4.out.trans (hb5.mono HB4.out.size)
        have H5 := HF w4 (box2_below hb6)
        have HB6 := hide' (box2_below hb6)
        clear d1 d2 d3 d4 d5 d6 hb5 hb6 H4 HF CB
        go_wp2_with fail
        refine H5.out.mono ?_
        rintro e w5 ⟨rfl, hb7⟩
        have hend := HB6.out.trans (hb7.mono HB6.out.size)
        clear H5 hb7
        go_wp2_with fail
        go_ret
        exact ⟨rfl, hend⟩
      · clear d1 d2 d3 d4 d5 d6 H3 HF HB2 CB
        go_wp2_with fail
        refine HF2.out.mono ?_
        rintro e w3 ⟨rfl, hb3⟩
        have hend := (box2_below HB3.out).trans (hb3.mono (box2_below HB3.out).size)
        clear HF2 hb3
        go_wp2_with fail
        go_ret
        exact ⟨rfl, hend⟩
    · clear d1 d2 d3 d4 d5 d6 HF H2 hb1 HL1 HL2 CB HB1 HB2
      go_wp2_with fail
      refine HF1.out.mono ?_
      rintro e w3 ⟨rfl, hb3⟩
      have hend := (box2_below HB.out).trans (hb3.mono (box2_below HB.out).size)
      clear HF1 hb3
      go_wp2_with fail
      go_ret
      exact ⟨rfl, hend⟩

set_option maxHeartbeats 8000000 in
set_option maxRecDepth 100000 in
theorem ways_walk (s : G) (ac : List F) (v u : Value) (w : World) (HT : Hid (Tab w)) (hs : s.name.size ≤ 4611686018427387904) (hv : GV w v s) (hu : FSl w u ac) :
    Calls Tryd.prog 5 #[v, u] w fun e w' => e = .returned (.bool true) ∧ Below w.heap.size w w' := by
  have HF := fun w1 (hb : Below w.heap.size w w1) => hide' (First_any w1 (hide' (HT.out.on hb)))
  have HL1 := fun w1 (hb : Below w.heap.size w w1) => hide' (Long_any s v w1 (hv.on hb))
  have HW1 := fun w1 (hb : Below w.heap.size w w1) => hide' (Ways_v s ac v u w1 (HT.out.on hb) (hv.on hb) (hu.on hb) hs)
  have HW2 := fun w1 (hb : Below w.heap.size w w1) => hide' (rWays_v s ac v u w1 (HT.out.on hb) (hv.on hb) (hu.on hb) hs)
  unfold WaysW at HW1 HW2
  have HV1 := fun w1 (hb : Below w.heap.size w w1) => hide' (Valid_any s v w1 (HT.out.on hb) (hv.on hb) hs)
  have HV2 := fun w1 (hb : Below w.heap.size w w1) => hide' (rValid9_any s v w1 (HT.out.on hb) (hv.on hb) hs)
  obtain ⟨X, rfl, A, cap, rfl, hca, hma, hA⟩ := hv
  obtain ⟨B, cap2, rfl, hcb, hmb, hB⟩ := hu
  have CB : Hid (∀ w1, Below (w.alloc (.cells #[.string s.name, .slice A s.fs.length cap, .string s.res] 37)).heap.size (w.alloc (.cells #[.string s.name, .slice A s.fs.length cap, .string s.res] 37)) w1 → _) := fun w1 hb => box3 hb
  obtain ⟨q1, hq1⟩ : ∃ q, decide (50 < s.fs.length) = q := ⟨_, rfl⟩
  rw [hq1] at HL1
  obtain ⟨is, his⟩ : ∃ q, (wV s ac).1 = q := ⟨_, rfl⟩
  obtain ⟨y, hy⟩ : ∃ q, (wV s ac).2.1 = q := ⟨_, rfl⟩
  obtain ⟨z, hz⟩ : ∃ q, (wV s ac).2.2 = q := ⟨_, rfl⟩
  obtain ⟨q2, hq2⟩ : ∃ q, validG s = q := ⟨_, rfl⟩
  rw [his, hy, hz] at HW1 HW2
  rw [hq2] at HV1 HV2
  obtain ⟨name, fs, res⟩ := s
  simp only at hca hma HL1 HW1 HW2 HV1 HV2 CB
  rw [show maxLen = 9223372036854775807 from rfl] at hma hmb
  clear hA hB hq1 hq2 hy hz his hs HT
  by_cases h50 : 50 < ac.length
  · have h50' : decide ((50 : Int) < (ac.length : Int)) = true := decide_eq_true (by omega)
    clear HW1 HW2 HV1 HV2
    go_enter Tryd.func5, Tryd.ntmps5
    obtain ⟨d1, d2, d3⟩ := CB.out _ (Below.refl _ _)
    go_wp2_with fail
    refine (HL1 _ (box_below (Below.refl _ _))).out.mono ?_
    rintro e w1 ⟨rfl, hb1⟩
    have HF1 := HF w1 (box_below hb1)
    have HB := hide' (box_below hb1)
    clear d1 d2 d3 HF HL1 CB hb1
    cases q1
    all_goals
      go_wp2_with fail
      refine HF1.out.mono ?_
      rintro e w3 ⟨rfl, hb3⟩
      have hend := HB.out.trans (hb3.mono HB.out.size)
      clear HF1 hb3
      go_wp2_with fail
      go_ret
      exact ⟨rfl, hend⟩
  · have h50' : decide ((50 : Int) < (ac.length : Int)) = false := decide_eq_false (by omega)
    go_enter Tryd.func5, Tryd.ntmps5
    obtain ⟨d1, d2, d3⟩ := CB.out _ (Below.refl _ _)
    go_wp2_with fail
    refine (HL1 _ (box_below (Below.refl _ _))).out.mono ?_
    rintro e w1 ⟨rfl, hb1⟩
    have HF1 := HF w1 (box_below hb1)
    have H1 := HW1 w1 (box_below hb1)
    have HB := hide' hb1
    clear d1 d2 d3 HL1
    obtain ⟨d1, d2, d3⟩ := CB.out _ hb1
    clear hb1 HW1
    cases q1
    · clear HF1
      go_wp2_with fail
      refine H1.out.mono ?_
      rintro e w2 ⟨v1, rfl, hI1, hb2⟩
      have hb3 := HB.out.trans (hb2.mono HB.out.size)
      clear d1 d2 d3 H1 hb2
      obtain ⟨d1, d2, d3⟩ := CB.out _ hb3
      have H2 := HW2 w2 (box_below hb3)
      have HB3 := hide' hb3
      clear hb3 HW2
      go_wp2_with fail
      refine H2.out.mono ?_
      rintro e w3 ⟨v2, rfl, hI2, hb4⟩
      have hI1' := hide' (hI1.out.on hb4)
      have hb5 := HB3.out.trans (hb4.mono HB3.out.size)
      have HSX : Hid (∀ w', Below w3.heap.size w3 w' → w'.cell? ⟨w.heap.size, 0, none⟩ = some (.string name) ∧ w'.cell? ⟨w.heap.size, 1, none⟩ = some (.slice A fs.length cap) ∧ w'.cell? ⟨w.heap.size, 2, none⟩ = some (.string res) ∧ Below w3.heap.size w3 w') := fun w' hb => by
        obtain ⟨a, b, c⟩ := CB.out w' (hb5.trans (hb.mono hb5.size))
        exact ⟨a, b, c, hb⟩
      have KV1 := fun w' (hb : Below w3.heap.size w3 w') => HV1 w' ((box_below hb5).trans (hb.mono (box_below hb5).size))
      have KV2 := fun w' (hb : Below w3.heap.size w3 w') => HV2 w' ((box_below hb5).trans (hb.mono (box_below hb5).size))
      have KF := fun w' (hb : Below w3.heap.size w3 w') => HF w' ((box_below hb5).trans (hb.mono (box_below hb5).size))
      have KS := fun w' (hb : Below w3.heap.size w3 w') => hide' (SameInts_eq is v1 v2 w' (hI1'.out.on hb) (hI2.out.on hb))
      have HB5 := hide' (box_below hb5)
      clear d1 d2 d3 H2 hb4 hb5 hI1 hI2 hI1' HV1 HV2 HF CB
      cases q2
      all_goals
        go_wp2_with fail
        go_region_held3 (fun w' => w'.cell? ⟨w.heap.size, 0, none⟩ = some (.string name) ∧ w'.cell? ⟨w.heap.size, 1, none⟩ = some (.slice A fs.length cap) ∧ w'.cell? ⟨w.heap.size, 2, none⟩ = some (.string res) ∧ Below w3.heap.size w3 w')
          (first | assumption | exact HSX.out _ (Below.refl _ _) | exact HSX.out _ (Below.refl _ _).drew | exact HSX.out _ (held_last3 (by assumption)).drew | exact hS)
          (first
            | (go_at_call 21; refine (KV1 _ (held_last3 (by assumption))).out.mono ?_; rintro e5 w5 ⟨rfl, hb5⟩; have hS := HSX.out _ ((held_last3 (by assumption)).trans (hb5.mono (held_last3 (by assumption)).size)))
            | (go_at_call 22; refine (KV2 _ (held_last3 (by assumption))).out.mono ?_; rintro e5 w5 ⟨rfl, hb5⟩; have hS := HSX.out _ ((held_last3 (by assumption)).trans (hb5.mono (held_last3 (by assumption)).size)))
            | (go_at_call 14; refine (KS _ (held_last3 (by assumption))).out.mono ?_; rintro e5 w5 ⟨rfl, hb5⟩; have hS := HSX.out _ ((held_last3 (by assumption)).trans (hb5.mono (held_last3 (by assumption)).size)))
            | (go_at_call 11; refine (KF _ (held_last3 (by assumption))).out.mono ?_; rintro e5 w5 ⟨rfl, hb5⟩; have hS := HSX.out _ ((held_last3 (by assumption)).trans (hb5.mono (held_last3 (by assumption)).size))))
        go_wp2_with fail
        go_ret
        exact ⟨rfl, HB5.out.trans ((held_last3 (by assumption)).mono HB5.out.size)⟩
    · clear d1 d2 d3 H1 HF CB HW2 HV1 HV2
      go_wp2_with fail
      refine HF1.out.mono ?_
      rintro e w3 ⟨rfl, hb3⟩
      have hend := (box_below HB.out).trans (hb3.mono (box_below HB.out).size)
      clear HF1 hb3
      go_wp2_with fail
      go_ret
      exact ⟨rfl, hend⟩

end Go.Proofs.YtdmdfokkibijjaaDoor
