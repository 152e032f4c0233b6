/-
  Layer 9: the walk of SignBest.
-/
import Derived.Test.YtdmdfokkibijjaaDoorSW25
namespace Go.Proofs.YtdmdfokkibijjaaDoor
open Go.RowKit
open Sgn
set_option linter.unusedVariables false
set_option linter.unusedSimpArgs false

theorem Better_b (l : List G) (nm : ByteArray) (ac : List F) (i k : Nat) (hc : callOk l ac = true) (hi : i < l.length) (hk : k < l.length) (oi : candAt φF l nm ac i = true) (ok : candAt φF l nm ac k = true) (v v' u : Value) (w : World) (hT : Tab w) (hv : GV w v l[i]) (hv' : GV w v' l[k]) (hu : FSl w u ac) (HS : ∀ g ∈ l, g.name.size ≤ 4611686018427387904) :
    Calls Tryd.prog 29 #[v, v', u] w fun e w' => e = .returned (.tuple #[.bool (betterL (wl φF l[i].fs ac) (wl φF l[k].fs ac)), .int .i64 0]) ∧ Below w.heap.size w w' := by
  refine (Better_any l[i] l[k] ac v v' u w hT hv hv' hu (HS _ (List.getElem_mem hi)) (HS _ (List.getElem_mem hk))).mono fun e w' ⟨h, hb⟩ => ⟨?_, hb⟩
  have hok : betterOk l[i] l[k] ac = true := by
    unfold betterOk
    rw [callOk_valid hc i hi, callOk_valid hc k hk]
    unfold callOk at hc
    rw [Bool.and_eq_true] at hc
    simpa using hc.2
  rcases h with ⟨h, _⟩ | ⟨_, rfl⟩
  · rw [hok] at h; cases h
  · unfold betterV
    rw [candAt_ok hi oi, candAt_ok hk ok, Bool.true_and, Bool.true_and]

section
variable {l : List G} {nm : ByteArray} {ac : List F}
theorem resV_ok (hc : callOk l ac = true) : (resV l nm ac).2.2 = 0 ∨ ((resV l nm ac).2.2 = 90 ∧ (cands φF l nm ac l.length).length = 0) ∨ ((resV l nm ac).2.2 = 91 ∧ 1 < (cands φF l nm ac l.length).length) := by
  unfold resV
  rw [if_pos hc]
  by_cases h0 : cands φF l nm ac l.length = []
  · rw [if_pos h0]
    exact .inr (.inl ⟨rfl, by rw [h0]; rfl⟩)
  · rw [if_neg h0]
    cases hf : (cands φF l nm ac l.length).find? (isBest φF l ac (cands φF l nm ac l.length)) with
    | some z => exact .inl rfl
    | none =>
      refine .inr (.inr ⟨rfl, ?_⟩)
      rw [List.find?_eq_none] at hf
      match hcs : cands φF l nm ac l.length with
      | [] => exact absurd hcs h0
      | [z] =>
        rw [hcs] at hf
        exact absurd (show isBest φF l ac [z] z = true by unfold isBest; simp) (hf z (by simp))
      | a :: b :: r => simp
theorem resV_best (hc : callOk l ac = true) (h : (resV l nm ac).2.2 = 0) (i k : Nat) (hi : i < l.length) (hk : k < l.length) (hki : (k : Int) ∈ cands φF l nm ac l.length) (hb : (i : Int) = (resV l nm ac).1) (hne : ¬ (i : Int) = (k : Int)) : betterL (wl φF l[i].fs ac) (wl φF l[k].fs ac) = true := by
  unfold resV at h hb
  rw [if_pos hc] at h hb
  by_cases h0 : cands φF l nm ac l.length = []
  · rw [if_pos h0] at h
    cases h
  · rw [if_neg h0] at h hb
    cases hf : (cands φF l nm ac l.length).find? (isBest φF l ac (cands φF l nm ac l.length)) with
    | none => rw [hf] at h; cases h
    | some z =>
      rw [hf] at hb
      have hz : (i : Int) = z := hb
      subst hz
      have hbest := List.find?_some hf
      unfold isBest at hbest
      have := List.all_eq_true.1 hbest _ hki
      rw [wlAt_of hi, wlAt_of hk] at this
      have hne' : ¬ (k : Int) = (i : Int) := fun e => hne e.symm
      simpa [hne'] using this
end
theorem pair_all : ∀ x y ik ne f0 cb : Bool, (x = true → y = false) → (ik = true → x = false) → (ne = !ik) → (f0 = true → cb = true → ik = false → x = true) →
    ((x = true ∧ y = false ∧ ik = false ∧ ne = true) ∨ (x = false ∧ ik = true ∧ ne = false) ∨ (x = false ∧ ik = false ∧ ne = true ∧ f0 = false) ∨ (x = false ∧ ik = false ∧ ne = true ∧ f0 = true ∧ cb = false)) := by
  intro x y ik ne f0 cb
  cases x <;> cases y <;> cases ik <;> cases ne <;> cases f0 <;> cases cb <;> decide
/-- how the tests of a pair may go -/
theorem pair_cases {x y ik ne : Bool} {f0 cb : Bool} (h1 : x = true → y = false) (h2 : ik = true → x = false) (h3 : ne = !ik) (h4 : f0 = true → cb = true → ik = false → x = true) :
    (x = true ∧ y = false ∧ ik = false ∧ ne = true) ∨ (x = false ∧ ik = true ∧ ne = false) ∨ (x = false ∧ ik = false ∧ ne = true ∧ f0 = false) ∨ (x = false ∧ ik = false ∧ ne = true ∧ f0 = true ∧ cb = false) :=
  pair_all x y ik ne f0 cb h1 h2 h3 h4
theorem held_last8 {S1 S2 S3 S4 S5 S6 S7 S8 : Prop} {wr w2 : World} (h : S1 ∧ S2 ∧ S3 ∧ S4 ∧ S5 ∧ S6 ∧ S7 ∧ S8 ∧ Below wr.heap.size wr w2) : Below wr.heap.size wr w2 := h.2.2.2.2.2.2.2.2

set_option maxHeartbeats 16000000 in
set_option maxRecDepth 100000 in
theorem best_walk (l : List G) (nm : ByteArray) (ac : List F) (v u : Value) (w : World) (HT : Hid (Tab w)) (HS : Hid (∀ g ∈ l, g.name.size ≤ 4611686018427387904)) (hv : GSl w v l) (hu : FSl w u ac) :
    Calls Tryd.prog 8 #[v, .string nm, u] w fun e w' => e = .returned (.bool true) ∧ Below w.heap.size w w' := by
  have HV := hide' hv
  have HU := hide' hu
  have HM := hide' (Many_any l v w hv)
  have HF := fun w1 (hb : Below w.heap.size w w1) => hide' (First_any w1 (hide' (HT.out.on hb)))
  obtain ⟨B, cap2, rfl, hcb, hmb, hB⟩ := hu
  obtain ⟨A, cap, rfl, hca, hma, hA⟩ := hv
  have HA := hide' hA
  have hmax : maxLen = 9223372036854775807 := rfl
  rw [hmax] at hmb hma
  clear hB hA hmax
  cases hm : manyG l <;> rw [hm] at HM
  · have hl := manyG_len hm
    by_cases h50 : 50 < ac.length
    · have h50' : decide ((50 : Int) < (ac.length : Int)) = true := decide_eq_true (by omega)
      clear HS HV HU hm
      go_enter Tryd.func8, Tryd.ntmps8
      go_wp2_with fail
      refine HM.out.mono ?_
      rintro e w1 ⟨rfl, hb1⟩
      have HF1 := HF w1 hb1
      clear HM HF HT
      go_wp2_with fail
      refine HF1.out.mono ?_
      rintro e w2 ⟨rfl, hb2⟩
      have hb3 := hb1.trans (hb2.mono hb1.size)
      clear HF1 hb1 hb2
      go_wp2_with fail
      go_ret
      exact ⟨rfl, hb3⟩
    · have h50' : decide ((50 : Int) < (ac.length : Int)) = false := decide_eq_false (by omega)
      have HC1 := fun w1 (hb : Below w.heap.size w w1) => hide' (Candidates_any l nm ac _ _ w1 (hide' (HT.out.on hb)) HS (HV.out.on hb) (HU.out.on hb) hl)
      have HR1 := fun w1 (hb : Below w.heap.size w w1) => hide' (Resolve_v l nm ac _ _ w1 (hide' (HT.out.on hb)) HS (HV.out.on hb) (HU.out.on hb) hl)
      unfold ResW at HR1
      go_enter Tryd.func8, Tryd.ntmps8
      go_wp2_with fail
      refine HM.out.mono ?_
      rintro e w1 ⟨rfl, hb1⟩
      have H1 := HC1 w1 hb1
      clear HM hm HC1
      go_wp2_with fail
      refine H1.out.mono ?_
      rintro e w2 ⟨hCE, hb2⟩
      have hb2' := hb1.trans (hb2.mono hb1.size)
      have HB2 := hide' hb2'
      clear H1 hb1 hb2 hb2'
      rcases hCE with ⟨hno, rfl⟩ | ⟨hyes, v1, rfl, hI⟩
      · have HF1 := HF w2 HB2.out
        clear hno HR1 HF HT HS HV HU HA
        go_wp2_with fail
        refine HF1.out.mono ?_
        rintro e w3 ⟨rfl, hb3⟩
        have hend := HB2.out.trans (hb3.mono HB2.out.size)
        clear HF1
        go_wp2_with fail
        go_ret
        exact ⟨rfl, hend⟩
      · have HY := hide' hyes
        have H2 := HR1 w2 HB2.out
        have hfin := resV_ok (nm := nm) hyes
        have HBest := hide' (fun (h : (resV l nm ac).2.2 = 0) i k hi hk hki hb hne => resV_best (nm := nm) hyes h i k hi hk hki hb hne)
        obtain ⟨is, his⟩ : ∃ t, cands φF l nm ac l.length = t := ⟨_, rfl⟩
        have HIS := hide' his
        obtain ⟨z, hz⟩ : ∃ t, (resV l nm ac).1 = t := ⟨_, rfl⟩
        obtain ⟨bs, hbs⟩ : ∃ t, (resV l nm ac).2.1 = t := ⟨_, rfl⟩
        obtain ⟨f, hf⟩ : ∃ t, (resV l nm ac).2.2 = t := ⟨_, rfl⟩
        rw [hz, hbs, hf] at H2
        rw [hf, his] at hfin
        rw [hf, hz, his] at HBest
        rw [his] at hI
        have HI := hide' hI
        obtain ⟨C, cap3, rfl, hcc, hmc, hC⟩ := hI
        rw [show maxLen = 9223372036854775807 from rfl] at hmc
        have HC3 := hide' hC
        have HFIN := hide' hfin
        clear hC hyes hz hbs hf his hfin HR1
        go_wp2_with fail
        refine H2.out.mono ?_
        rintro e w3 ⟨v2, rfl, hB3, hb3⟩
        have HB3 := hide' (HB2.out.trans (hb3.mono HB2.out.size))
        have hb23 := hide' hb3
        clear H2 hB3 hb3
        go_wp2_with fail
        go_loopw [12] (fun c wr => ∃ (i : Nat), i ≤ is.length ∧ c = .int .i64 i ∧ Below w3.heap.size w3 wr) (fun c _ => is.length - (intOf c).toNat)
        case atStart => exact ⟨0, Nat.zero_le _, rfl, Below.refl _ _⟩
        case round =>
          obtain ⟨i, hi, rfl, hnx⟩ := hrel
          by_cases hlt : i < is.length
          · obtain ⟨b3, off3, rfl, hCA⟩ := HC3.out (by omega)
            have HCA3 := hide' hCA
            obtain ⟨j, hj, hjl, hjc⟩ := cands_mem (z := is[i]) (φ := φF) (l := l) (nm := nm) (ac := ac) (by rw [HIS.out]; exact List.getElem_mem hlt)
            obtain ⟨b, off, rfl, hCA9⟩ := HA.out (by omega)
            have HC9 := hide' hCA9
            have hw3 := hb23.out.trans (hnx.mono hb23.out.size)
            have x1 := (hw3.cell (cell_lt (hCA i hlt))).trans (hCA i hlt)
            rw [hj] at x1
            have HJ := hide' hj
            have HJC := hide' hjc
            have hi0 : (0 : Int) ≤ (i : Int) := by omega
            have hi1 : (i : Int) < (is.length : Int) := by omega
            have hj0 : (0 : Int) ≤ (j : Int) := by omega
            have hj1 : (j : Int) < (l.length : Int) := by omega
            have hjf : decide (l.length ≤ j) = false := decide_eq_false (by omega)
            have hjm : (j : Int) ∈ is := by rw [← hj]; exact List.getElem_mem hlt
            have HJM := hide' hjm
            clear hj hCA hjc HC3 hCA9 HA hw3 hjm
            go_wp2_with fail
            obtain ⟨wo, rfl⟩ : ∃ wo : World, wo = wr := ⟨_, rfl⟩
            go_loopw [13] (fun c wr => ∃ (k : Nat), k ≤ is.length ∧ c = .int .i64 k ∧ Below w3.heap.size w3 wr) (fun c _ => is.length - (intOf c).toNat)
            case atStart => exact ⟨0, Nat.zero_le _, rfl, hnx⟩
            case round =>
              clear hnx x1
              obtain ⟨k, hk, rfl, hny⟩ := hrel
              by_cases hltk : k < is.length
              · obtain ⟨j2, hj2, hjl2, hjc2⟩ := cands_mem (z := is[k]) (φ := φF) (l := l) (nm := nm) (ac := ac) (by rw [HIS.out]; exact List.getElem_mem hltk)
                have hw3 := hb23.out.trans (hny.mono hb23.out.size)
                have hww := HB3.out.trans (hny.mono HB3.out.size)
                have x1 := (hw3.cell (cell_lt (HCA3.out i hlt))).trans (HCA3.out i hlt)
                have x2 := (hw3.cell (cell_lt (HCA3.out k hltk))).trans (HCA3.out k hltk)
                rw [HJ.out] at x1
                rw [hj2] at x2
                have HIK := hide' (show (i = k ↔ j = j2) from ⟨fun h => by subst h; have := HJ.out.symm.trans hj2; omega, fun h => cands_inj HIS.out i k hlt hltk (by rw [HJ.out, hj2, h])⟩)
                have HJM2 := hide' (show (j2 : Int) ∈ is by rw [← hj2]; exact List.getElem_mem hltk)
                obtain ⟨X1, s1, s2, s3, s4⟩ := (HC9.out.on hww) j hjl
                obtain ⟨X2, t1, t2, t3, t4⟩ := (HC9.out.on hww) j2 hjl2
                have S4 := hide' s4
                have T4 := hide' t4
                obtain ⟨A1, cap1, rfl, r3, r4, r5⟩ := s4
                obtain ⟨A2, cap2', rfl, r3', r4', r5'⟩ := t4
                have HBT1 := fun u (hb : Below wr.heap.size wr u) => hide' (Better_b l nm ac j j2 HY.out hjl hjl2 HJC.out hjc2 (.agg #[.string l[j].name, .slice A1 l[j].fs.length cap1, .string l[j].res]) (.agg #[.string l[j2].name, .slice A2 l[j2].fs.length cap2', .string l[j2].res]) _ u (HT.out.on (hww.trans (hb.mono hww.size))) ⟨_, rfl, S4.out.on hb⟩ ⟨_, rfl, T4.out.on hb⟩ (HU.out.on (hww.trans (hb.mono hww.size))) HS.out)
                have HBT2 := fun u (hb : Below wr.heap.size wr u) => hide' (Better_b l nm ac j2 j HY.out hjl2 hjl hjc2 HJC.out (.agg #[.string l[j2].name, .slice A2 l[j2].fs.length cap2', .string l[j2].res]) (.agg #[.string l[j].name, .slice A1 l[j].fs.length cap1, .string l[j].res]) _ u (HT.out.on (hww.trans (hb.mono hww.size))) ⟨_, rfl, T4.out.on hb⟩ ⟨_, rfl, S4.out.on hb⟩ (HU.out.on (hww.trans (hb.mono hww.size))) HS.out)
                have hB1 := @betterL_asymm (wl φF l[j].fs ac) (wl φF l[j2].fs ac)
                have hB2 : j = j2 → betterL (wl φF l[j].fs ac) (wl φF l[j2].fs ac) = false := fun h => by subst h; exact betterL_irrefl _
                have hB3 := fun (h : f = 0) (hb : (j : Int) = z) (hne : ¬ (j : Int) = (j2 : Int)) => HBest.out h j j2 hjl hjl2 HJM2.out hb hne
                obtain ⟨x, hx⟩ : ∃ t, betterL (wl φF l[j].fs ac) (wl φF l[j2].fs ac) = t := ⟨_, rfl⟩
                obtain ⟨y, hy⟩ : ∃ t, betterL (wl φF l[j2].fs ac) (wl φF l[j].fs ac) = t := ⟨_, rfl⟩
                rw [hx] at HBT1 hB1 hB2 hB3
                rw [hy] at HBT2 hB1
                obtain ⟨ik, hik⟩ : ∃ t, ((i : Int) == (k : Int)) = t := ⟨_, rfl⟩
                obtain ⟨ne, hne⟩ : ∃ t, ((i : Int) != (k : Int)) = t := ⟨_, rfl⟩
                obtain ⟨f0, hf0⟩ : ∃ t, (f == 0) = t := ⟨_, rfl⟩
                obtain ⟨cb, hcb'⟩ : ∃ t, ((j : Int) == z) = t := ⟨_, rfl⟩
                have hPC := hide' (pair_cases (x := x) (y := y) (ik := ik) (ne := ne) (f0 := f0) (cb := cb) hB1
                  (fun h => hB2 (by have hh : ((i : Int) == (k : Int)) = true := hik.trans h; exact HIK.out.1 (by have := beq_iff_eq.1 hh; omega)))
                  (by rw [← hne, ← hik]; rfl)
                  (fun h1 h2 h3 => hB3 (beq_iff_eq.1 (hf0.trans h1)) (beq_iff_eq.1 (hcb'.trans h2)) (fun h => by
                    have hh : ((i : Int) == (k : Int)) = false := hik.trans h3
                    rw [beq_eq_false_iff_ne] at hh
                    exact hh (by have := HIK.out.2 (by omega); omega))))
                obtain ⟨fs1, e1⟩ : ∃ t, l[j].fs = t := ⟨_, rfl⟩
                obtain ⟨name1, e2⟩ : ∃ t, l[j].name = t := ⟨_, rfl⟩
                obtain ⟨res1, e3⟩ : ∃ t, l[j].res = t := ⟨_, rfl⟩
                obtain ⟨fs2, e4⟩ : ∃ t, l[j2].fs = t := ⟨_, rfl⟩
                obtain ⟨name2, e5⟩ : ∃ t, l[j2].name = t := ⟨_, rfl⟩
                obtain ⟨res2, e6⟩ : ∃ t, l[j2].res = t := ⟨_, rfl⟩
                simp only [e1, e2, e3] at s1 s2 s3 r3 r4 HBT1 HBT2
                simp only [e4, e5, e6] at t1 t2 t3 r3' r4' HBT1 HBT2
                have HSX : Hid (∀ w', Below wr.heap.size wr w' → w'.cell? ⟨b3, off3 + i, none⟩ = some (.int .i64 j) ∧ w'.cell? ⟨b3, off3 + k, none⟩ = some (.int .i64 j2) ∧ w'.cell? ⟨b, off + j * 3, none⟩ = some (.string name1) ∧ w'.cell? ⟨b, off + j * 3 + 1, none⟩ = some (.slice A1 fs1.length cap1) ∧ w'.cell? ⟨b, off + j * 3 + 2, none⟩ = some (.string res1) ∧ w'.cell? ⟨b, off + j2 * 3, none⟩ = some (.string name2) ∧ w'.cell? ⟨b, off + j2 * 3 + 1, none⟩ = some (.slice A2 fs2.length cap2') ∧ w'.cell? ⟨b, off + j2 * 3 + 2, none⟩ = some (.string res2) ∧ Below wr.heap.size wr w') := fun w' hb => ⟨(hb.cell (cell_lt x1)).trans x1, (hb.cell (cell_lt x2)).trans x2, (hb.cell (cell_lt s1)).trans s1, (hb.cell (cell_lt s2)).trans s2, (hb.cell (cell_lt s3)).trans s3, (hb.cell (cell_lt t1)).trans t1, (hb.cell (cell_lt t2)).trans t2, (hb.cell (cell_lt t3)).trans t3, hb⟩
                have hk0 : (0 : Int) ≤ (k : Int) := by omega
                have hk1 : (k : Int) < (is.length : Int) := by omega
                have h20 : (0 : Int) ≤ (j2 : Int) := by omega
                have h21 : (j2 : Int) < (l.length : Int) := by omega
                have h2f : decide (l.length ≤ j2) = false := decide_eq_false (by omega)
                have HNY := hide' hny
                have HQ1 := hide' hik
                have HQ2 := hide' hne
                have HQ3 := hide' hf0
                have HQ4 := hide' hcb'
                clear e1 e2 e3 e4 e5 e6 hx hy hik hne hf0 hcb' hB1 hB2 hB3 r5 r5' S4 T4 hj2 hjc2 hw3 hww s1 s2 s3 t1 t2 t3 HIK hny
                go_wp2_with fail
                go_region_held3 (fun w' => w'.cell? ⟨b3, off3 + i, none⟩ = some (.int .i64 j) ∧ w'.cell? ⟨b3, off3 + k, none⟩ = some (.int .i64 j2) ∧ w'.cell? ⟨b, off + j * 3, none⟩ = some (.string name1) ∧ w'.cell? ⟨b, off + j * 3 + 1, none⟩ = some (.slice A1 fs1.length cap1) ∧ w'.cell? ⟨b, off + j * 3 + 2, none⟩ = some (.string res1) ∧ w'.cell? ⟨b, off + j2 * 3, none⟩ = some (.string name2) ∧ w'.cell? ⟨b, off + j2 * 3 + 1, none⟩ = some (.slice A2 fs2.length cap2') ∧ w'.cell? ⟨b, off + j2 * 3 + 2, none⟩ = some (.string res2) ∧ Below wr.heap.size wr w')
                (first | assumption | exact HSX.out _ (Below.refl _ _) | exact HSX.out _ (Below.refl _ _).drew | exact HSX.out _ (held_last8 (by assumption)).drew | exact hS)
                (first | (go_at_call 29; refine (HBT1 _ (held_last8 (by assumption))).out.mono ?_; rintro e5 w5 ⟨rfl, hb5⟩; have hS := HSX.out _ ((held_last8 (by assumption)).trans (hb5.mono (held_last8 (by assumption)).size))))
                go_wp2_with fail
                go_region_held3 (fun w' => w'.cell? ⟨b3, off3 + i, none⟩ = some (.int .i64 j) ∧ w'.cell? ⟨b3, off3 + k, none⟩ = some (.int .i64 j2) ∧ w'.cell? ⟨b, off + j * 3, none⟩ = some (.string name1) ∧ w'.cell? ⟨b, off + j * 3 + 1, none⟩ = some (.slice A1 fs1.length cap1) ∧ w'.cell? ⟨b, off + j * 3 + 2, none⟩ = some (.string res1) ∧ w'.cell? ⟨b, off + j2 * 3, none⟩ = some (.string name2) ∧ w'.cell? ⟨b, off + j2 * 3 + 1, none⟩ = some (.slice A2 fs2.length cap2') ∧ w'.cell? ⟨b, off + j2 * 3 + 2, none⟩ = some (.string res2) ∧ Below wr.heap.size wr w')
                (first | assumption | exact HSX.out _ (Below.refl _ _) | exact HSX.out _ (Below.refl _ _).drew | exact HSX.out _ (held_last8 (by assumption)).drew | exact hS)
                (first | (go_at_call 29; refine (HBT2 _ (held_last8 (by assumption))).out.mono ?_; rintro e5 w5 ⟨rfl, hb5⟩; have hS := HSX.out _ ((held_last8 (by assumption)).trans (hb5.mono (held_last8 (by assumption)).size))))
                rename_i w5 hS2
                have hbr := held_last8 hS2
                have hb9 := HNY.out.trans (hbr.mono HNY.out.size)
                have d1 := hS2.1
                clear hS2 hbr HBT1 HBT2 HSX
                rcases hPC.out with ⟨rfl, rfl, rfl, rfl⟩ | ⟨rfl, rfl, rfl⟩ | ⟨rfl, rfl, rfl, rfl⟩ | ⟨rfl, rfl, rfl, rfl, rfl⟩
                · have q1 := HQ1.out
                  have q2 := HQ2.out
                  have q3 := HQ3.out
                  have q4 := HQ4.out
                  cases f0 <;> cases cb
                  all_goals
                    go_wp2_with fail
                    go_roundw
                    case rel => exact ⟨k + 1, by omega, by go_num, hb9⟩
                    case measure => simp [intOf]; omega
                · have q1 := HQ1.out
                  have q2 := HQ2.out
                  have q3 := HQ3.out
                  have q4 := HQ4.out
                  cases y <;> cases f0 <;> cases cb
                  all_goals
                    go_wp2_with fail
                    go_roundw
                    case rel => exact ⟨k + 1, by omega, by go_num, hb9⟩
                    case measure => simp [intOf]; omega
                · have q1 := HQ1.out
                  have q2 := HQ2.out
                  have q3 := HQ3.out
                  have q4 := HQ4.out
                  cases y <;> cases cb
                  all_goals
                    go_wp2_with fail
                    go_roundw
                    case rel => exact ⟨k + 1, by omega, by go_num, hb9⟩
                    case measure => simp [intOf]; omega
                · have q1 := HQ1.out
                  have q2 := HQ2.out
                  have q3 := HQ3.out
                  have q4 := HQ4.out
                  cases y
                  all_goals
                    go_wp2_with fail
                    go_roundw
                    case rel => exact ⟨k + 1, by omega, by go_num, hb9⟩
                    case measure => simp [intOf]; omega
              · clear HCA3 HC9
                go_wp2_with fail
                go_roundw
                case rel => exact ⟨i + 1, by omega, by go_num, hny⟩
                case measure => simp [intOf]; omega
          · have H5 := HF wr (HB3.out.trans (hnx.mono HB3.out.size))
            have HE := hide' (HB3.out.trans (hnx.mono HB3.out.size))
            clear HF hnx HA HV HU HT HC3
            rcases HFIN.out with h | ⟨h, h'⟩ | ⟨h, h'⟩
            · subst h
              go_wp2_with fail
              refine H5.out.mono ?_
              rintro e w7 ⟨rfl, hc7⟩
              have hend := HE.out.trans (hc7.mono HE.out.size)
              clear H5
              go_wp2_with fail
              go_ret
              exact ⟨rfl, hend⟩
            · subst h
              have h0' : ((is.length : Int) == 0) = true := by rw [beq_iff_eq]; omega
              clear h'
              go_wp2_with fail
              refine H5.out.mono ?_
              rintro e w7 ⟨rfl, hc7⟩
              have hend := HE.out.trans (hc7.mono HE.out.size)
              clear H5
              go_wp2_with fail
              go_ret
              exact ⟨rfl, hend⟩
            · subst h
              have h0' : decide ((1 : Int) < (is.length : Int)) = true := decide_eq_true (by omega)
              clear h'
              go_wp2_with fail
              refine H5.out.mono ?_
              rintro e w7 ⟨rfl, hc7⟩
              have hend := HE.out.trans (hc7.mono HE.out.size)
              clear H5
              go_wp2_with fail
              go_ret
              exact ⟨rfl, hend⟩
  · clear HV HU HS HT hm HA
    go_enter Tryd.func8, Tryd.ntmps8
    go_wp2_with fail
    refine HM.out.mono ?_
    rintro e w1 ⟨rfl, hb1⟩
    have HF1 := HF w1 hb1
    clear HM HF
    go_wp2_with fail
    refine HF1.out.mono ?_
    rintro e w2 ⟨rfl, hb2⟩
    have hb3 := hb1.trans (hb2.mono hb1.size)
    clear HF1 hb1 hb2
    go_wp2_with fail
    go_ret
    exact ⟨rfl, hb3⟩

end Go.Proofs.YtdmdfokkibijjaaDoor
