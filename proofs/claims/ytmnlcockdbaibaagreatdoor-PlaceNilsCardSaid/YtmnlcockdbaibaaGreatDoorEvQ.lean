/-
  Laws by the small machine: a function at arguments that are not looked at, and variables that hold tables of numbers.
-/
import Derived.Test.YtmnlcockdbaibaaGreatDoorEvP
import Derived.Lib.LaidTab
namespace Go.Proofs.YtmnlcockdbaibaaGreatDoor
open Go.RowKit
namespace Ev
set_option linter.unusedVariables false
set_option linter.unusedSimpArgs false

/-- the memory at the start, with tables of numbers at some variables -/
noncomputable def tabs : List (Nat × IntKind × List Int) → Heap
  | [] => drops 64
  | (g, k, zs) :: l => T.set (.row 0 1 (zs.map (.int k)) false true) 40 (tabs l) g
/-- what a world holds at a variable -/
def TabAt (w : World) (g : Nat) (k : IntKind) (zs : List Int) : Prop := ∃ t z, w.heap[g]? = some (.cells (zs.map fun x => Value.int k x).toArray t z)
theorem tabs_start (w : World) : ∀ l : List (Nat × IntKind × List Int), (∀ x ∈ l, x.1 < 64 ∧ TabAt w x.1 x.2.1 x.2.2) → Start (tabs l) w
  | [], _ => drops_start w
  | (g, k, zs) :: l, h => by
    have ih := tabs_start w l fun x hx => h x (List.mem_cons_of_mem _ hx)
    obtain ⟨hg, t, z, hb⟩ := h (g, k, zs) (List.mem_cons_self ..)
    simp only at hg hb
    have hg40 : g + 1 < 2 ^ 40 := by omega
    refine ⟨fun b hb' => ?_, fun b hb' => ?_⟩
    · simp only [tabs]
      rw [T.get_set _ _ _ _ _ hg40]
      by_cases e : b = g
      · subst e
        rw [if_pos rfl]
        refine ⟨_, rfl, rfl, ?_⟩
        refine ⟨_, t, z, hb, fun i a hi => ?_⟩
        rw [List.getElem?_map] at hi
        cases hz : zs[i]? with
        | none => rw [hz] at hi; cases hi
        | some x =>
          rw [hz] at hi
          cases hi
          exact ⟨.int k x, by simp [hz], by simp only [VR]⟩
      · rw [if_neg e]
        exact ih.low b hb'
    · simp only [tabs]
      rw [T.get_set _ _ _ _ _ hg40, if_neg (by omega)]
      exact ih.high b hb'
theorem tabAt_of {P : Program} {w : World} {name : String} {g : Nat} {k : IntKind} {zs : List Int} (hg : P.globalNamed name = some g) (h : Lib.TabIs P w name k zs) : TabAt w g k zs := by
  unfold Lib.TabIs World.var? at h
  simp only [hg, Option.bind_some] at h
  split at h
  · rename_i cs t z hb
    cases h
    exact ⟨t, z, hb⟩
  · cases h

section
variable {E : World → Prop} {P : Program}
/-- the names at the start -/
def ρ0 : Ren := fun g => if g < 64 then some ⟨g, 0, 0⟩ else none
theorem law_of (hm : P.follows .mixedOrders = true) (hor : OrcOK E P ∧ CntOK E P) {fuel f : Nat} {h0 : Heap} {args : List AV} {xs : List Value} (hx : VRL ρ0 args xs) (h : isTrue (callA P (evC P fuel) f args 64 h0 []) = true) (w : World) (hE : E w) (hs : Start h0 w) :
    Calls P f xs.toArray w fun e w' => e = .returned (.bool true) ∧ Below w.heap.size w w' := by
  cases hr : callA P (evC P fuel) f args 64 h0 [] with
  | fail => rw [hr] at h; cases h
  | ok v n' h' l' =>
    rw [hr] at h
    cases v <;> simp only [isTrue] at h <;> first | (cases h; done) | skip
    subst h
    refine (call_sound (evC_sound hm hor fuel) _ f args xs hx w hE _ _ _ _ _ _ _ w hr hs.mo).mono ?_
    rintro e w' ⟨x, rfl, ρ', _, hv, m'⟩
    simp only [VR] at hv
    subst hv
    exact ⟨rfl, m'.below⟩
theorem vr_int (k : IntKind) (n : Int) : VR ρ0 (.int k n) (.int k n) := by simp only [VR]
theorem vr_str (s : ByteArray) : VR ρ0 (.str s.data.toList.length (numOf s.data.toList)) (.string s) := ofScalar_VR rfl
end
end Ev
end Go.Proofs.YtmnlcockdbaibaaGreatDoor
