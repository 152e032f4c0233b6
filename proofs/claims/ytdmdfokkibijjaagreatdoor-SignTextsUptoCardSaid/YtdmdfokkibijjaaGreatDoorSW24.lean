/-
  Layer 9, plain laws: nothing is better than itself, of two not each is better than the other one, and so there is at most one best; a list turned round has the same best.
-/
import Derived.Test.YtdmdfokkibijjaaGreatDoorSW23
namespace Go.Proofs.YtdmdfokkibijjaaGreatDoor
open Go.RowKit
open Sgn
set_option linter.unusedVariables false
set_option linter.unusedSimpArgs false

theorem zip_any_swap : ∀ (v w : List Int), (List.zip v w).any (fun p => decide (p.1 < p.2)) = (List.zip w v).any (fun p => decide (p.2 < p.1))
  | [], w => by cases w <;> simp
  | _ :: _, [] => by simp
  | x :: v, y :: w => by simp [zip_any_swap v w]
theorem betterL_asymm {v w : List Int} (h : betterL v w = true) : betterL w v = false := by
  unfold betterL at h ⊢
  rw [Bool.and_eq_true, zip_any_swap v w, List.any_eq_true] at h
  obtain ⟨_, p, hp, hlt⟩ := h
  rw [Bool.and_eq_false_iff]
  left
  rw [Bool.eq_false_iff]
  intro hall
  have := List.all_eq_true.1 hall p hp
  simp at this hlt
  omega
theorem betterL_irrefl (v : List Int) : betterL v v = false := by
  cases h : betterL v v
  · rfl
  · exact (betterL_asymm h).symm.trans h |>.symm
theorem best_unique {φ : F → F → Int} {l : List G} {ac : List F} {is : List Int} {y z : Int} (hy : y ∈ is) (hz : z ∈ is) (by' : isBest φ l ac is y = true) (bz : isBest φ l ac is z = true) : y = z := by
  unfold isBest at by' bz
  have h1 := List.all_eq_true.1 by' z hz
  have h2 := List.all_eq_true.1 bz y hy
  by_cases e : y = z
  · exact e
  · have e' : ¬ z = y := fun h => e h.symm
    simp only [e', e, decide_false, Bool.false_or] at h1 h2
    rw [betterL_asymm h1] at h2
    cases h2
theorem find_of {φ : F → F → Int} {l : List G} {ac : List F} {is : List Int} {z : Int} (hz : z ∈ is) (bz : isBest φ l ac is z = true) : is.find? (isBest φ l ac is) = some z := by
  cases h : is.find? (isBest φ l ac is) with
  | none => exact absurd bz (List.find?_eq_none.1 h z hz)
  | some y => rw [best_unique (List.mem_of_find?_eq_some h) hz (List.find?_some h) bz]

theorem range_turned (n : Nat) : List.range n = ((List.range n).reverse).map (fun i => n - 1 - i) := by
  apply List.ext_getElem
  · simp
  · intro i h1 h2
    simp at h1 h2 ⊢
    omega
theorem cands_rev (φ : F → F → Int) (l : List G) (nm : ByteArray) (ac : List F) : cands φ l.reverse nm ac l.length = ((cands φ l nm ac l.length).map fun z => (l.length : Int) - 1 - z).reverse := by
  have e : (List.range l.length).filter (candAt φ l.reverse nm ac) = (((List.range l.length).filter (candAt φ l nm ac)).reverse).map (fun i => l.length - 1 - i) := by
    conv => lhs; rw [range_turned l.length]
    rw [List.filter_map, ← List.filter_reverse]
    congr 1
    apply List.filter_congr
    intro i hi
    have hi' : i < l.length := by simpa using hi
    unfold candAt
    simp only [Function.comp]
    rw [List.getElem?_reverse (by omega)]
    have : l.length - 1 - (l.length - 1 - i) = i := by omega
    rw [this]
  unfold cands
  rw [e, List.map_map, List.map_map, ← List.map_reverse]
  apply List.map_congr_left
  intro i hi
  have hi' : i ∈ (List.range l.length).filter (candAt φ l nm ac) := by simpa using hi
  have := List.mem_range.1 (List.mem_filter.1 hi').1
  simp only [Function.comp]
  omega
theorem wlAt_rev (φ : F → F → Int) (l : List G) (ac : List F) (z : Int) (h0 : 0 ≤ z) (h1 : z < l.length) : wlAt φ l.reverse ac ((l.length : Int) - 1 - z) = wlAt φ l ac z := by
  unfold wlAt
  rw [List.getElem?_reverse (by omega)]
  have : l.length - 1 - ((l.length : Int) - 1 - z).toNat = z.toNat := by omega
  rw [this]
theorem callOk_rev (l : List G) (ac : List F) : callOk l.reverse ac = callOk l ac := by
  unfold callOk
  rw [List.all_reverse]
theorem cands_bounds {φ : F → F → Int} {l : List G} {nm : ByteArray} {ac : List F} {z : Int} (h : z ∈ cands φ l nm ac l.length) : 0 ≤ z ∧ z < l.length := by
  obtain ⟨j, rfl, hj, _⟩ := cands_mem h
  omega
theorem cands_rev_mem {φ : F → F → Int} {l : List G} {nm : ByteArray} {ac : List F} {z : Int} : z ∈ cands φ l.reverse nm ac l.length ↔ (l.length : Int) - 1 - z ∈ cands φ l nm ac l.length := by
  rw [cands_rev, List.mem_reverse, List.mem_map]
  constructor
  · rintro ⟨y, hy, rfl⟩
    have e : (l.length : Int) - 1 - ((l.length : Int) - 1 - y) = y := by omega
    rw [e]; exact hy
  · intro h
    exact ⟨_, h, by omega⟩
theorem isBest_rev {φ : F → F → Int} {l : List G} {nm : ByteArray} {ac : List F} {z : Int} (hz : z ∈ cands φ l nm ac l.length) : isBest φ l.reverse ac (cands φ l.reverse nm ac l.length) ((l.length : Int) - 1 - z) = isBest φ l ac (cands φ l nm ac l.length) z := by
  unfold isBest
  rw [cands_rev, List.all_reverse, List.all_map]
  have hb := cands_bounds hz
  rw [Bool.eq_iff_iff, List.all_eq_true, List.all_eq_true]
  refine forall_congr' fun y => imp_congr_right fun hy => ?_
  have hb2 := cands_bounds hy
  simp only [Function.comp]
  rw [wlAt_rev φ l ac z hb.1 hb.2, wlAt_rev φ l ac y hb2.1 hb2.2]
  have e : decide ((l.length : Int) - 1 - y = (l.length : Int) - 1 - z) = decide (y = z) := decide_eq_decide.2 (by omega)
  rw [e]

/-- THE PLAIN LAW of SignOrder -/
theorem order_law (l : List G) (nm : ByteArray) (ac : List F) : (resV l.reverse nm ac).2.2 = (resV l nm ac).2.2 ∧ (resV l.reverse nm ac).2.1 = (resV l nm ac).2.1 ∧ (candV l.reverse nm ac).1.length = (candV l nm ac).1.length ∧
    ((resV l nm ac).2.2 = 0 → 0 ≤ (resV l nm ac).1 ∧ (resV l nm ac).1 < l.length ∧ (resV l.reverse nm ac).1 = (l.length : Int) - 1 - (resV l nm ac).1) := by
  unfold resV candV
  rw [callOk_rev, List.length_reverse]
  by_cases hc : callOk l ac = true
  · rw [if_pos hc, if_pos hc, if_pos hc, if_pos hc]
    have hlen : (cands φF l.reverse nm ac l.length).length = (cands φF l nm ac l.length).length := by rw [cands_rev]; simp
    by_cases h0 : cands φF l nm ac l.length = []
    · have h0' : cands φF l.reverse nm ac l.length = [] := List.eq_nil_of_length_eq_zero (by rw [hlen, h0]; rfl)
      rw [if_pos h0, if_pos h0', h0, h0']
      exact ⟨rfl, rfl, rfl, fun h => by cases h⟩
    · have h0' : cands φF l.reverse nm ac l.length ≠ [] := fun h => h0 (List.eq_nil_of_length_eq_zero (by rw [← hlen, h]; rfl))
      rw [if_neg h0, if_neg h0']
      cases hf : (cands φF l nm ac l.length).find? (isBest φF l ac (cands φF l nm ac l.length)) with
      | none =>
        have hf' : (cands φF l.reverse nm ac l.length).find? (isBest φF l.reverse ac (cands φF l.reverse nm ac l.length)) = none := by
          rw [List.find?_eq_none]
          intro z hz
          have hz' := cands_rev_mem.1 hz
          have hn := List.find?_eq_none.1 hf _ hz'
          have e := isBest_rev hz'
          have e2 : (l.length : Int) - 1 - ((l.length : Int) - 1 - z) = z := by omega
          rw [e2] at e
          rwa [e]
        rw [hf']
        exact ⟨rfl, rfl, hlen, fun h => by cases h⟩
      | some z =>
        have hm := List.mem_of_find?_eq_some hf
        have hb := cands_bounds hm
        have hm' : (l.length : Int) - 1 - z ∈ cands φF l.reverse nm ac l.length := by
          rw [cands_rev_mem]
          have e2 : (l.length : Int) - 1 - ((l.length : Int) - 1 - z) = z := by omega
          rwa [e2]
        have hbest := (isBest_rev hm).trans (List.find?_some hf)
        rw [find_of hm' hbest]
        refine ⟨rfl, ?_, hlen, fun _ => ⟨hb.1, hb.2, rfl⟩⟩
        show promo _ = promo _
        rw [wlAt_rev φF l ac z hb.1 hb.2]
  · rw [if_neg hc, if_neg hc, if_neg hc, if_neg hc]
    exact ⟨rfl, rfl, rfl, fun h => by cases h⟩

end Go.Proofs.YtdmdfokkibijjaaGreatDoor
