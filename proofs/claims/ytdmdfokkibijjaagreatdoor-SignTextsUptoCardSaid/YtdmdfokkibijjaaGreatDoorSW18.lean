/-
  Layer 9: which candidate is the best: the plain words, lists of bools in memory, and the closure's question asked of all candidates.
-/
import Derived.Test.YtdmdfokkibijjaaGreatDoorSW17
namespace Go.Proofs.YtdmdfokkibijjaaGreatDoor
open Go.RowKit
open Sgn
set_option linter.unusedVariables false
set_option linter.unusedSimpArgs false

/-- the ways of the candidate z -/
def wlAt (φ : F → F → Int) (l : List G) (ac : List F) (z : Int) : List Int :=
  match l[z.toNat]? with
  | some g => wl φ g.fs ac
  | none => []
theorem wlAt_of {φ : F → F → Int} {l : List G} {ac : List F} {j : Nat} (h : j < l.length) : wlAt φ l ac (j : Int) = wl φ l[j].fs ac := by
  unfold wlAt
  simp [h]
/-- is z better than all others of the candidates -/
def isBest (φ : F → F → Int) (l : List G) (ac : List F) (is : List Int) (z : Int) : Bool := is.all fun y => decide (y = z) || betterL (wlAt φ l ac z) (wlAt φ l ac y)
theorem cands_mem {φ : F → F → Int} {l : List G} {nm : ByteArray} {ac : List F} {z : Int} (h : z ∈ cands φ l nm ac l.length) : ∃ j : Nat, z = (j : Int) ∧ j < l.length ∧ candAt φ l nm ac j = true := by
  unfold cands at h
  obtain ⟨j, hj, rfl⟩ := List.mem_map.1 h
  obtain ⟨hr, hc⟩ := List.mem_filter.1 hj
  exact ⟨j, rfl, List.mem_range.1 hr, hc⟩
theorem candAt_ok {φ : F → F → Int} {l : List G} {nm : ByteArray} {ac : List F} {j : Nat} (hj : j < l.length) (h : candAt φ l nm ac j = true) : waysOk φ l[j].fs ac = true := by
  rw [candAt_of hj, Bool.and_eq_true] at h
  exact h.1
theorem find_at {α : Type} (p : α → Bool) (l : List α) (k : Nat) (hk : k < l.length) (h : ∀ x ∈ l.take k, (!(p x)) = true) (hp : p l[k] = true) : l.find? p = some l[k] := by
  rw [List.find?_eq_some_iff_getElem]
  refine ⟨hp, k, hk, rfl, fun j hj => ?_⟩
  have hm : l[j] ∈ l.take k := by
    rw [List.mem_take_iff_getElem]
    exact ⟨j, by omega, rfl⟩
  simpa using h _ hm
theorem find_none' {α : Type} (p : α → Bool) (l : List α) (k : Nat) (hk : l.length ≤ k) (h : ∀ x ∈ l.take k, (!(p x)) = true) : l.find? p = none := by
  rw [List.take_of_length_le hk] at h
  rw [List.find?_eq_none]
  intro x hx
  simpa using h x hx

/-- a list of bools -/
def BCells (w : World) (b off : Nat) (zs : List Bool) : Prop := ∀ i (h : i < zs.length), w.cell? ⟨b, off + i, none⟩ = some (.bool zs[i])
def BSl (w : World) (v : Value) (zs : List Bool) : Prop :=
  ∃ A cap, v = .slice A zs.length cap ∧ zs.length ≤ cap ∧ cap ≤ maxLen ∧ (0 < zs.length → ∃ b off, A = some ⟨b, off, none⟩ ∧ BCells w b off zs)
theorem BSl.on {w w' : World} {v : Value} {zs : List Bool} (h : BSl w v zs) (hb : Below w.heap.size w w') : BSl w' v zs := by
  obtain ⟨A, cap, h1, h2, h3, h4⟩ := h
  exact ⟨A, cap, h1, h2, h3, fun h => let ⟨b, off, e, hc⟩ := h4 h; ⟨b, off, e, fun i hi => (hb.cell (cell_lt (hc i hi))).trans (hc i hi)⟩⟩
def bools (zs : List Bool) : List Value := zs.map fun z => Value.bool z
theorem bools_snoc (zs : List Bool) (z : Bool) : bools (zs ++ [z]) = bools zs ++ [Value.bool z] := by simp [bools]
theorem BSl.own {w : World} {base : Nat} {v : Value} {zs : List Bool} (h : w.ownsRow base 4 1 v zs.length (bools zs)) : BSl w v zs := by
  rcases h.2 with ⟨rfl, h0⟩ | ⟨g, cap, cur, rfl, _, hh, hnc, hm, hsz, htk⟩
  · have : zs = [] := List.eq_nil_of_length_eq_zero h0
    subst this
    exact ⟨none, 0, rfl, Nat.le_refl _, Nat.zero_le _, fun h => by cases h⟩
  · refine ⟨_, cap, rfl, hnc, hm, fun _ => ⟨g, 0, rfl, fun i hi => ?_⟩⟩
    rw [Nat.zero_add, h.cellAt i (by omega)]
    simp [bools, hi]
theorem boolInfo : (Tryz.prog.info? 4).map (fun i => (i.zero, i.size, i.bytes)) = some (some (.bool false), 1, 1) := by kernel_rfl
/-- which actuals are promoted -/
def promo (zs : List Int) : List Bool := zs.map fun z => z == 4
theorem promo_len (zs : List Int) : (promo zs).length = zs.length := by simp [promo]
theorem promo_step (zs : List Int) (k : Nat) (hk : k < zs.length) : bools ((promo zs).take (k + 1)) = bools ((promo zs).take k) ++ [.bool (zs[k] == 4)] := by
  rw [List.take_succ_eq_append_getElem (by rw [promo_len]; exact hk), bools_snoc]
  simp [promo]

/-- what Resolve hands back -/
def ResE (φ : F → F → Int) (l : List G) (nm : ByteArray) (ac : List F) (w' : World) (e : Ending) : Prop :=
  (callOk l ac = false ∧ e = .returned (.tuple #[.int .i64 0, .slice none 0 0, .int .i64 2])) ∨
  (callOk l ac = true ∧ cands φ l nm ac l.length = [] ∧ e = .returned (.tuple #[.int .i64 0, .slice none 0 0, .int .i64 90])) ∨
  (callOk l ac = true ∧ cands φ l nm ac l.length ≠ [] ∧ (cands φ l nm ac l.length).find? (isBest φ l ac (cands φ l nm ac l.length)) = none ∧ e = .returned (.tuple #[.int .i64 0, .slice none 0 0, .int .i64 91])) ∨
  (callOk l ac = true ∧ cands φ l nm ac l.length ≠ [] ∧ ∃ z v, (cands φ l nm ac l.length).find? (isBest φ l ac (cands φ l nm ac l.length)) = some z ∧ e = .returned (.tuple #[.int .i64 z, v, .int .i64 0]) ∧ BSl w' v (promo (wlAt φ l ac z)))

section
variable {φ : F → F → Int} {l : List G} {nm : ByteArray} {ac : List F} {w' : World}
theorem resE_no (h : callOk l ac = false) : ResE φ l nm ac w' (.returned (.tuple #[.int .i64 0, .slice none 0 0, .int .i64 2])) := .inl ⟨h, rfl⟩
theorem resE_call (h : callOk l ac = true) (h0 : cands φ l nm ac l.length = []) : ResE φ l nm ac w' (.returned (.tuple #[.int .i64 0, .slice none 0 0, .int .i64 90])) := .inr (.inl ⟨h, h0, rfl⟩)
theorem resE_many (h : callOk l ac = true) (h0 : cands φ l nm ac l.length ≠ []) (hf : (cands φ l nm ac l.length).find? (isBest φ l ac (cands φ l nm ac l.length)) = none) : ResE φ l nm ac w' (.returned (.tuple #[.int .i64 0, .slice none 0 0, .int .i64 91])) := .inr (.inr (.inl ⟨h, h0, hf, rfl⟩))
theorem resE_best {z : Int} {v : Value} (h : callOk l ac = true) (h0 : cands φ l nm ac l.length ≠ []) (hf : (cands φ l nm ac l.length).find? (isBest φ l ac (cands φ l nm ac l.length)) = some z) (hb : BSl w' v (promo (wlAt φ l ac z))) : ResE φ l nm ac w' (.returned (.tuple #[.int .i64 z, v, .int .i64 0])) := .inr (.inr (.inr ⟨h, h0, z, v, hf, rfl, hb⟩))
end

/-- the question of the closure, asked of all candidates -/
theorem best_at (l : List G) (nm : ByteArray) (ac : List F) (is : List Int) (his : is = cands φF l nm ac l.length) (i : Nat) (L U V X : Value) (bl ba bi bv : Nat) (w : World)
    (hL : GSl w L l) (hU : FSl w U ac) (hV : ISl w V (wl φF (l[i]?.elim [] (·.fs)) ac)) (hX : ISl w X is) (cl : w.cell? ⟨bl, 0, none⟩ = some L) (ca : w.cell? ⟨ba, 0, none⟩ = some U) (ci : w.cell? ⟨bi, 0, none⟩ = some (.int .i64 i)) (cv : w.cell? ⟨bv, 0, none⟩ = some V)
    (hi : (i : Int) ∈ is) (hlen : ∀ j (h : j < l.length), l[j].fs.length ≤ 1000) :
    Calls Tryz.prog 28 #[X, .func (.func 29) #[] #[.pointer (some ⟨bl, 0, none⟩), .pointer (some ⟨ba, 0, none⟩), .pointer (some ⟨bi, 0, none⟩), .pointer (some ⟨bv, 0, none⟩)]] w fun e w' =>
      e = .returned (.bool (!(isBest φF l ac is i))) ∧ Below w.heap.size w w' := by
  subst his
  obtain ⟨i', hi', hil, hic⟩ := cands_mem hi
  obtain rfl : i = i' := by omega
  have hV' : ISl w V (wl φF l[i].fs ac) := by simpa [hil] using hV
  refine containsInt _ (fun y => decide (y = (i : Int)) || betterL (wlAt φF l ac i) (wlAt φF l ac y)) X _ w hX fun u z hu hz => ?_
  obtain ⟨j, rfl, hj, hjc⟩ := cands_mem hz
  have hok := candAt_ok hj hjc
  refine (resolve1_any l ac _ i j L U V bl ba bi bv u (hL.on hu) (hU.on hu) (hV'.on hu) ((hu.cell (cell_lt cl)).trans cl) ((hu.cell (cell_lt ca)).trans ca) ((hu.cell (cell_lt ci)).trans ci) ((hu.cell (cell_lt cv)).trans cv) hj hok (wl_lens (candAt_ok hil hic) hok) (hlen j hj)).mono fun e w' ⟨he, hb⟩ => ⟨?_, hb⟩
  rw [he]
  have e1 : decide ((j : Int) = (i : Int)) = decide (j = i) := decide_eq_decide.2 (by omega)
  simp only [wlAt_of hj, wlAt_of hil, e1, Bool.not_or]

end Go.Proofs.YtdmdfokkibijjaaGreatDoor
