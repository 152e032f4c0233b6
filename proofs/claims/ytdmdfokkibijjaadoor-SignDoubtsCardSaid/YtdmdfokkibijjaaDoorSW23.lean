/-
  Layer 9: what Candidates and Resolve hand back, as values; the walk of SignResolves.
-/
import Derived.Test.YtdmdfokkibijjaaDoorSW22
namespace Go.Proofs.YtdmdfokkibijjaaDoor
open Go.RowKit
open Sgn
set_option linter.unusedVariables false
set_option linter.unusedSimpArgs false

def candV (l : List G) (nm : ByteArray) (ac : List F) : List Int × Int := if callOk l ac = true then (cands φF l nm ac l.length, 0) else ([], 2)
def resV (l : List G) (nm : ByteArray) (ac : List F) : Int × List Bool × Int :=
  if callOk l ac = true then
    if cands φF l nm ac l.length = [] then (0, [], 90)
    else match (cands φF l nm ac l.length).find? (isBest φF l ac (cands φF l nm ac l.length)) with
      | none => (0, [], 91)
      | some z => (z, promo (wlAt φF l ac z), 0)
  else (0, [], 2)
theorem ISl.nil (w : World) : ISl w (.slice none 0 0) [] := ⟨none, 0, rfl, Nat.le_refl _, Nat.zero_le _, fun h => by cases h⟩
theorem BSl.nil (w : World) : BSl w (.slice none 0 0) [] := ⟨none, 0, rfl, Nat.le_refl _, Nat.zero_le _, fun h => by cases h⟩

section
variable {l : List G} {nm : ByteArray} {ac : List F} {w' : World} {e : Ending}
theorem candV_of (h : CandEnd φF l nm ac w' e) : ∃ v, e = .returned (.tuple #[v, .int .i64 (candV l nm ac).2]) ∧ ISl w' v (candV l nm ac).1 := by
  unfold candV
  rcases h with ⟨h, rfl⟩ | ⟨h, v, rfl, hI⟩
  · exact ⟨.slice none 0 0, by simp [h], by simp [h]; exact ISl.nil _⟩
  · exact ⟨v, by simp [h], by simpa [h] using hI⟩
theorem resV_of (h : ResE φF l nm ac w' e) : ∃ v, e = .returned (.tuple #[.int .i64 (resV l nm ac).1, v, .int .i64 (resV l nm ac).2.2]) ∧ BSl w' v (resV l nm ac).2.1 := by
  unfold resV
  rcases h with ⟨h, rfl⟩ | ⟨h, h0, rfl⟩ | ⟨h, h0, hf, rfl⟩ | ⟨h, h0, z, v, hf, rfl, hB⟩
  · exact ⟨.slice none 0 0, by simp [h], by simp [h]; exact BSl.nil _⟩
  · exact ⟨.slice none 0 0, by simp [h, h0], by simp [h, h0]; exact BSl.nil _⟩
  · exact ⟨.slice none 0 0, by simp [h, h0, hf], by simp [h, h0, hf]; exact BSl.nil _⟩
  · exact ⟨v, by simp [h, h0, hf], by simpa [h, h0, hf] using hB⟩
end

def CandW (l : List G) (nm : ByteArray) (ac : List F) (w w' : World) (e : Ending) : Prop := ∃ v, e = .returned (.tuple #[v, .int .i64 (candV l nm ac).2]) ∧ Hid (ISl w' v (candV l nm ac).1) ∧ Below w.heap.size w w'
def ResW (l : List G) (nm : ByteArray) (ac : List F) (w w' : World) (e : Ending) : Prop := ∃ v, e = .returned (.tuple #[.int .i64 (resV l nm ac).1, v, .int .i64 (resV l nm ac).2.2]) ∧ Hid (BSl w' v (resV l nm ac).2.1) ∧ Below w.heap.size w w'

section
variable (l : List G) (nm : ByteArray) (ac : List F) (v u : Value) (w : World) (HT : Hid (Tab w)) (HS : Hid (∀ g ∈ l, g.name.size ≤ 4611686018427387904)) (hv : GSl w v l) (hu : FSl w u ac) (hl : l.length ≤ 1000)
include HT HS hv hu hl
theorem Candidates_v : Calls Tryd.prog 12 #[v, .string nm, u] w fun e w' => CandW l nm ac w w' e :=
  (Candidates_any l nm ac v u w HT HS hv hu hl).mono fun e w' ⟨h, hb⟩ => let ⟨v, he, hI⟩ := candV_of h; ⟨v, he, hI, hb⟩
theorem rCandidates_v : Calls Tryd.prog 13 #[v, .string nm, u] w fun e w' => CandW l nm ac w w' e :=
  (rCandidates_any l nm ac v u w HT HS hv hu hl).mono fun e w' ⟨h, hb⟩ => let ⟨v, he, hI⟩ := candV_of (candE_same h); ⟨v, he, hI, hb⟩
theorem Resolve_v : Calls Tryd.prog 15 #[v, .string nm, u] w fun e w' => ResW l nm ac w w' e :=
  (Resolve_any l nm ac v u w HT HS hv hu hl).mono fun e w' ⟨h, hb⟩ => let ⟨v, he, hI⟩ := resV_of h; ⟨v, he, hI, hb⟩
theorem rResolve_v : Calls Tryd.prog 16 #[v, .string nm, u] w fun e w' => ResW l nm ac w w' e :=
  (rResolve_any l nm ac v u w HT HS hv hu hl).mono fun e w' ⟨h, hb⟩ => let ⟨v, he, hI⟩ := resV_of (resE_same h); ⟨v, he, hI, hb⟩
end
theorem manyG_len {l : List G} (h : manyG l = false) : l.length ≤ 1000 := by
  unfold manyG at h
  rw [Bool.or_eq_false_iff] at h
  have := h.2
  simp at this
  omega

set_option maxHeartbeats 4000000 in
set_option maxRecDepth 100000 in
theorem resolves_walk (l : List G) (nm : ByteArray) (ac : List F) (v u : Value) (w : World) (HT : Hid (Tab w)) (HS : Hid (∀ g ∈ l, g.name.size ≤ 4611686018427387904)) (hv : GSl w v l) (hu : FSl w u ac) :
    Calls Tryd.prog 3 #[v, .string nm, u] w fun e w' => e = .returned (.bool true) ∧ Below w.heap.size w w' := by
  have HV := hide' hv
  have HU := hide' hu
  have HM := hide' (Many_any l v w hv)
  have HF := fun w1 (hb : Below w.heap.size w w1) => hide' (First_any w1 (hide' (HT.out.on hb)))
  obtain ⟨B, cap2, rfl, hcb, hmb, hB⟩ := hu
  have hmax : maxLen = 9223372036854775807 := rfl
  rw [hmax] at hmb
  clear hB hmax
  cases hm : manyG l <;> rw [hm] at HM
  · have hl := manyG_len hm
    have HC1 := fun w1 (hb : Below w.heap.size w w1) => hide' (Candidates_v l nm ac _ _ w1 (hide' (HT.out.on hb)) HS (HV.out.on hb) (HU.out.on hb) hl)
    have HC2 := fun w1 (hb : Below w.heap.size w w1) => hide' (rCandidates_v l nm ac _ _ w1 (hide' (HT.out.on hb)) HS (HV.out.on hb) (HU.out.on hb) hl)
    have HR1 := fun w1 (hb : Below w.heap.size w w1) => hide' (Resolve_v l nm ac _ _ w1 (hide' (HT.out.on hb)) HS (HV.out.on hb) (HU.out.on hb) hl)
    have HR2 := fun w1 (hb : Below w.heap.size w w1) => hide' (rResolve_v l nm ac _ _ w1 (hide' (HT.out.on hb)) HS (HV.out.on hb) (HU.out.on hb) hl)
    unfold CandW at HC1 HC2
    unfold ResW at HR1 HR2
    obtain ⟨is, his⟩ : ∃ t, (candV l nm ac).1 = t := ⟨_, rfl⟩
    obtain ⟨e1, he1⟩ : ∃ t, (candV l nm ac).2 = t := ⟨_, rfl⟩
    obtain ⟨z, hz⟩ : ∃ t, (resV l nm ac).1 = t := ⟨_, rfl⟩
    obtain ⟨bs, hbs⟩ : ∃ t, (resV l nm ac).2.1 = t := ⟨_, rfl⟩
    obtain ⟨e2, he2⟩ : ∃ t, (resV l nm ac).2.2 = t := ⟨_, rfl⟩
    rw [his, he1] at HC1 HC2
    rw [hz, hbs, he2] at HR1 HR2
    clear his he1 hz hbs he2 hm HT HS HV HU
    by_cases h50 : 50 < ac.length
    · have h50' : decide ((50 : Int) < (ac.length : Int)) = true := decide_eq_true (by omega)
      clear HC1 HC2 HR1 HR2
      go_enter Tryd.func3, Tryd.ntmps3
      go_wp2_with fail
      refine HM.out.mono ?_
      rintro e w1 ⟨rfl, hb1⟩
      have HF1 := HF w1 hb1
      clear HM HF
      go_wp2_with fail
      refine HF1.out.mono ?_
      rintro e w2 ⟨rfl, hb2⟩
      have hb3 := hb1.trans (hb2.mono hb1.size)
      clear HF1 hb1 hb2
      go_wp2_with fail
      go_ret
      exact ⟨rfl, hb3⟩
    · have h50' : decide ((50 : Int) < (ac.length : Int)) = false := decide_eq_false (by omega)
      go_enter Tryd.func3, Tryd.ntmps3
      go_wp2_with fail
      refine HM.out.mono ?_
      rintro e w1 ⟨rfl, hb1⟩
      have H1 := HC1 w1 hb1
      clear HM HC1
      go_wp2_with fail
      refine H1.out.mono ?_
      rintro e w2 ⟨v1, rfl, hI1, hb2⟩
      have hb2' := hb1.trans (hb2.mono hb1.size)
      have H2 := HC2 w2 hb2'
      clear H1 hb1 hb2 HC2
      go_wp2_with fail
      refine H2.out.mono ?_
      rintro e w3 ⟨v2, rfl, hI2, hb3⟩
      have hb3' := hb2'.trans (hb3.mono hb2'.size)
      have H3 := hide' (SameInts_eq is v1 v2 w3 (hI1.out.on hb3) hI2.out)
      clear H2 hb2' hb3
      go_wp2_with fail
      refine H3.out.mono ?_
      rintro e w4 ⟨rfl, hb4⟩
      have hb4' := hb3'.trans (hb4.mono hb3'.size)
      have H4 := HR1 w4 hb4'
      clear H3 hb3' hb4 HR1 hI1 hI2
      go_wp2_with fail
      refine H4.out.mono ?_
      rintro e w5 ⟨v5, rfl, hB5, hb5⟩
      have hb5' := hb4'.trans (hb5.mono hb4'.size)
      have H5 := HR2 w5 hb5'
      clear H4 hb4' hb5 HR2
      go_wp2_with fail
      refine H5.out.mono ?_
      rintro e w6 ⟨v6, rfl, hB6, hb6⟩
      have hb6' := hb5'.trans (hb6.mono hb5'.size)
      have H6 := hide' (SameBools_eq bs v5 v6 w6 (hB5.out.on hb6) hB6.out)
      clear H5 hb5' hb6
      go_wp2_with fail
      refine H6.out.mono ?_
      rintro e w7 ⟨rfl, hb7⟩
      have hb7' := hb6'.trans (hb7.mono hb6'.size)
      have H7 := HF w7 hb7'
      clear H6 hb6' hb7 HF
      go_wp2_with fail
      refine H7.out.mono ?_
      rintro e w8 ⟨rfl, hb8⟩
      have hb8' := hb7'.trans (hb8.mono hb7'.size)
      clear H7 hb7' hb8
      go_wp2_with fail
      go_ret
      exact ⟨rfl, hb8'⟩
  · clear HV HU HS HT hm
    go_enter Tryd.func3, Tryd.ntmps3
    go_wp2_with fail
    refine HM.out.mono ?_
    rintro e w1 ⟨rfl, hb1⟩
    have HF1 := HF w1 hb1
    clear HM HF
    go_wp2_with fail
    refine HF1.out.mono ?_
    rintro e w2 ⟨rfl, hb2⟩
    have hb3 := hb1.trans (hb2.mono hb1.size)
    clear HF1 hb1 hb2
    go_wp2_with fail
    go_ret
    exact ⟨rfl, hb3⟩

end Go.Proofs.YtdmdfokkibijjaaDoor
