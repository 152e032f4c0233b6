/-
  Layer 9: the plain law that both resolve alike; SameBools at two lists that read alike; First; the walk of SignResolves.
-/
import Derived.Test.YtdmdfokkibijjaaGreatDoorSW20
namespace Go.Proofs.YtdmdfokkibijjaaGreatDoor
open Go.RowKit
open Sgn
set_option linter.unusedVariables false
set_option linter.unusedSimpArgs false

section
variable {l : List G} {nm : ByteArray} {ac : List F}
theorem callOk_valid (h : callOk l ac = true) (k : Nat) (hk : k < l.length) : validG l[k] = true := by
  unfold callOk at h
  rw [Bool.and_eq_true, List.all_eq_true] at h
  exact h.1 _ (List.getElem_mem hk)
theorem callOk_actual (h : callOk l ac = true) : ∀ a ∈ ac, isActual a.k a.n = true := by
  unfold callOk at h
  rw [Bool.and_eq_true, List.all_eq_true, List.all_eq_true] at h
  exact h.2
theorem wlAt_same (h : callOk l ac = true) : wlAt φW l ac = wlAt φF l ac := by
  funext z
  unfold wlAt
  cases hz : l[z.toNat]? with
  | none => rfl
  | some g =>
    obtain ⟨hk, rfl⟩ := List.getElem?_eq_some_iff.1 hz
    exact (wl_same _ _ (validG_formals (callOk_valid h _ hk)) (callOk_actual h)).symm
theorem cands_same (h : callOk l ac = true) (k : Nat) : cands φW l nm ac k = cands φF l nm ac k := by
  have e : candAt φW l nm ac = candAt φF l nm ac := by
    funext i
    unfold candAt
    cases hz : l[i]? with
    | none => rfl
    | some g =>
      obtain ⟨hk, rfl⟩ := List.getElem?_eq_some_iff.1 hz
      simp only [waysOk_same _ _ (validG_formals (callOk_valid h _ hk)) (callOk_actual h)]
  unfold cands
  rw [e]
theorem isBest_same (h : callOk l ac = true) (is : List Int) : isBest φW l ac is = isBest φF l ac is := by
  funext z
  unfold isBest
  rw [wlAt_same h]
theorem resE_same {w' : World} {e : Ending} (h : ResE φW l nm ac w' e) : ResE φF l nm ac w' e := by
  cases hc : callOk l ac
  · rcases h with h | h | h | h
    · exact .inl h
    · rw [hc] at h; cases h.1
    · rw [hc] at h; cases h.1
    · rw [hc] at h; cases h.1
  · have h' := h
    unfold ResE at h' ⊢
    rw [cands_same hc, isBest_same hc, wlAt_same hc] at h'
    exact h'
theorem candE_same {w' : World} {e : Ending} (h : CandEnd φW l nm ac w' e) : CandEnd φF l nm ac w' e := by
  cases hc : callOk l ac
  · rcases h with h | h
    · exact .inl h
    · rw [hc] at h; cases h.1
  · unfold CandEnd at h ⊢
    rw [cands_same hc] at h
    exact h
end

def exL : List G := [⟨⟨#[102]⟩, [⟨⟨#[105, 110, 116]⟩, 0⟩], ⟨#[105, 110, 116]⟩⟩, ⟨⟨#[102]⟩, [⟨⟨#[97, 110, 121]⟩, 0⟩], ⟨#[105, 110, 116]⟩⟩]
def exA : List F := [⟨⟨#[97, 114, 114, 97, 121]⟩, 1⟩]
theorem ex_ok : callOk exL exA = true := by
  unfold callOk validG exL exA isFormal isActual isType isShaped okRes
  simp only [Lib.toList_data, List.all_cons, List.all_nil]
  decide +kernel
theorem ex_cands : cands φF exL ⟨#[102]⟩ exA 2 = [0, 1] := by
  unfold cands candAt waysOk wl exL exA φF fitsOf
  simp only [Lib.toList_data]
  decide +kernel
theorem ex_best : [(0 : Int), 1].find? (isBest φF exL exA [0, 1]) = some 1 := by
  unfold isBest wlAt betterL wl exL exA φF fitsOf
  simp only [Lib.toList_data]
  decide +kernel
theorem ex_res {w' : World} {e : Ending} (h : ResE φF exL ⟨#[102]⟩ exA w' e) : ∃ v, e = .returned (.tuple #[.int .i64 1, v, .int .i64 0]) := by
  have hl : exL.length = 2 := rfl
  unfold ResE at h
  rw [hl, ex_cands, ex_best] at h
  rcases h with ⟨h, _⟩ | ⟨_, h, _⟩ | ⟨_, _, h, _⟩ | ⟨_, _, z, v, h, he, _⟩
  · rw [ex_ok] at h; cases h
  · cases h
  · cases h
  · cases h
    exact ⟨v, he⟩

end Go.Proofs.YtdmdfokkibijjaaGreatDoor
