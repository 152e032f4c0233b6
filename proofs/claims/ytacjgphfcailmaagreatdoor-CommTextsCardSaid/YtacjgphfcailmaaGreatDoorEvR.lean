/-
  The functions whose answers are known, by their contracts.
-/
import Derived.Test.YtacjgphfcailmaaGreatDoorEvP
import Derived.Lib.LaidTab
namespace Go.Proofs.YtacjgphfcailmaaGreatDoor
open Go.RowKit
namespace Ev
set_option linter.unusedVariables false
set_option linter.unusedSimpArgs false

/-- the memory at the start, with tables of numbers at some variables -/
noncomputable def tabs : List (Nat × IntKind × List Int) → Heap
  | [] => drops 64
  | (g, k, zs) :: l => T.set (.row 0 1 (zs.map (.int k)) false true) 40 (tabs l) g
/-- what a world holds at a variable -/
def TabAt (w : World) (g : Nat) (k : IntKind) (zs : List Int) : Prop := ∃ t z, w.heap[g]? = some (.cells (zs.map fun x => Value.int k x).toArray t z)
theorem tabs_start (w : World) : ∀ l : List (Nat × IntKind × List Int), (∀ x ∈ l, x.1 < 64 ∧ TabAt w x.1 x.2.1 x.2.2) → Start (tabs l) w
  | [], _ => drops_start w
  | (g, k, zs) :: l, h => by
    have ih := tabs_start w l fun x hx => h x (List.mem_cons_of_mem _ hx)
    obtain ⟨hg, t, z, hb⟩ := h (g, k, zs) (List.mem_cons_self ..)
    simp only at hg hb
    have hg40 : g + 1 < 2 ^ 40 := by omega
    refine ⟨fun b hb' => ?_, fun b hb' => ?_⟩
    · simp only [tabs]
      rw [T.get_set _ _ _ _ _ hg40]
      by_cases e : b = g
      · subst e
        rw [if_pos rfl]
        refine ⟨_, rfl, rfl, ?_⟩
        refine ⟨_, t, z, hb, fun i a hi => ?_⟩
        rw [List.getElem?_map] at hi
        cases hz : zs[i]? with
        | none => rw [hz] at hi; cases hi
        | some x =>
          rw [hz] at hi
          cases hi
          exact ⟨.int k x, by simp [hz], by simp only [VR]⟩
      · rw [if_neg e]
        exact ih.low b hb'
    · simp only [tabs]
      rw [T.get_set _ _ _ _ _ hg40, if_neg (by omega)]
      exact ih.high b hb'
theorem tabAt_of {P : Program} {w : World} {name : String} {g : Nat} {k : IntKind} {zs : List Int} (hg : P.globalNamed name = some g) (h : Lib.TabIs P w name k zs) : TabAt w g k zs := by
  unfold Lib.TabIs World.var? at h
  simp only [hg, Option.bind_some] at h
  split at h
  · rename_i cs t z hb
    cases h
    exact ⟨t, z, hb⟩
  · cases h

section
variable {E : World → Prop} {P : Program}
/-- the names at the start -/
def ρ0 : Ren := fun g => if g < 64 then some ⟨g, 0, 0⟩ else none
theorem law_of (hm : P.follows .mixedOrders = true) (hor : OrcOK E P ∧ CntOK E P) {fuel f : Nat} {h0 : Heap} {args : List AV} {xs : List Value} (hx : VRL ρ0 args xs) (h : isTrue (callA P (evC P fuel) f args 64 h0 []) = true) (w : World) (hE : E w) (hs : Start h0 w) :
    Calls P f xs.toArray w fun e w' => e = .returned (.bool true) ∧ Below w.heap.size w w' := by
  cases hr : callA P (evC P fuel) f args 64 h0 [] with
  | fail => rw [hr] at h; cases h
  | ok v n' h' l' =>
    rw [hr] at h
    cases v <;> simp only [isTrue] at h <;> first | (cases h; done) | skip
    subst h
    refine (call_sound (evC_sound hm hor fuel) _ f args xs hx w hE _ _ _ _ _ _ _ w hr hs.mo).mono ?_
    rintro e w' ⟨x, rfl, ρ', _, hv, m'⟩
    simp only [VR] at hv
    subst hv
    exact ⟨rfl, m'.below⟩
theorem vr_int (k : IntKind) (n : Int) : VR ρ0 (.int k n) (.int k n) := by simp only [VR]
theorem vr_str (s : ByteArray) : VR ρ0 (.str s.data.toList.length (numOf s.data.toList)) (.string s) := ofScalar_VR rfl
end
end Ev
end Go.Proofs.YtacjgphfcailmaaGreatDoor

namespace Go.Proofs.YtacjgphfcailmaaGreatDoor
open Go.RowKit
namespace Ev
set_option linter.unusedVariables false
set_option linter.unusedSimpArgs false

section
variable {E : World → Prop} {P : Program}
/-- only this function has the name -/
def onceB (P : Program) (nm : String) (F : Nat) : Bool := (List.range P.funcs.size).all fun i => match P.funcs[i]? with
  | some fn => !(fn.name == nm) || Nat.beq i F
  | none => true
theorem once {nm : String} {F f : Nat} {fn : Func} (h : onceB P nm F = true) (hf : P.funcs[f]? = some fn) (hn : fn.name = nm) : f = F := by
  unfold onceB at h
  have hlt : f < P.funcs.size := (Array.getElem?_eq_some_iff.1 hf).1
  have := List.all_eq_true.1 h f (List.mem_range.2 hlt)
  simp only [hf, hn, beq_self_eq_true, Bool.not_true, Bool.false_or] at this
  exact Nat.eq_of_beq_eq_true this
def NameOK (E : World → Prop) (P : Program) (F : Nat) : Prop :=
  ∀ (s : ByteArray) (W w : World), s.size ≤ 10000 → E W → Below W.heap.size W w → Calls P F #[.string s] w fun e w' => e = .returned (.bool (Tok.isName s.data.toList)) ∧ Below w.heap.size w w'
def OneOK (E : World → Prop) (P : Program) (F : Nat) : Prop :=
  ∀ (s : ByteArray) (a : Nat) (W w : World), s.size ≤ 10000 → a < s.size → E W → Below W.heap.size W w → Calls P F #[.string s, .int .i64 a] w fun e w' =>
    (∀ k t : List UInt8, Tok.first (s.data.toList.drop a) = some (k, t) → e = .returned (.tuple #[.agg #[.string ⟨k.toArray⟩, .string ⟨t.toArray⟩, .int .i64 a], .bool true])) ∧ Below w.heap.size w w'
theorem strA_VR {ρ : Ren} (l : List UInt8) : VR ρ (strA l) (.string ⟨l.toArray⟩) := ofScalar_VR (by simp [ofScalar, strA])
theorem orc_of' {F1 F2 F3 : Nat} (h1 : onceB P "purlieu/token.IsName" F1 = true) (h2 : onceB P "purlieu/purlieuref01.IsName" F2 = true) (h3 : onceB P "purlieu/purlieuref01.one" F3 = true)
    (c1 : NameOK E P F1) (c2 : NameOK E P F2) (c3 : F3 < P.funcs.size → OneOK E P F3) : OrcOK E P := by
  intro f fn c args v ρ xs W w hf hb ho hx hE hbl
  unfold orcN at ho
  split at ho
  · rename_i hn
    split at ho
    · rename_i n s
      split at ho
      · rename_i hle
        have hle := Nat.le_of_ble_eq_true hle
        cases ho
        obtain ⟨x1, y1, rfl, k1, k2⟩ := hx.cons_inv
        have k3 := k2.nil_inv
        simp only [VR] at k1
        subst k1 k3
        have hc : NameOK E P f := by
          simp only [Bool.or_eq_true, beq_iff_eq] at hn
          rcases hn with hn | hn
          · rw [once h1 hf hn]; exact c1
          · rw [once h2 hf hn]; exact c2
        refine (hc ⟨(strOf n s).toArray⟩ W w (by rw [str_size]; exact hle) hE hbl).mono ?_
        rintro e w' ⟨rfl, hb'⟩
        exact ⟨_, rfl, by simp only [VR], hb'⟩
      · cases ho
    · cases ho
  · split at ho
    · rename_i hn
      split at ho
      · rename_i n s a
        split at ho
        · rename_i hle
          simp only [Bool.and_eq_true, Nat.ble_eq, Nat.blt_eq] at hle
          split at ho
          · rename_i k t hfst
            cases ho
            obtain ⟨x1, y1, rfl, k1, k2⟩ := hx.cons_inv
            obtain ⟨x2, y2, rfl, k3, k4⟩ := k2.cons_inv
            have k5 := k4.nil_inv
            simp only [VR] at k1 k3
            subst k1 k3 k5
            have hc : OneOK E P f := by
              have hf3 := once h3 hf (by simpa using hn)
              rw [hf3]; exact c3 (hf3 ▸ (Array.getElem?_eq_some_iff.1 hf).1)
            refine (hc ⟨(strOf n s).toArray⟩ a W w (by rw [str_size]; exact hle.1) (by rw [str_size]; exact hle.2) hE hbl).mono ?_
            rintro e w' ⟨he, hb'⟩
            refine ⟨_, he k t (by simpa using hfst), ?_, hb'⟩
            simp only [VR]
            refine ⟨[_, _], .cons ?_ (.cons (by simp only [VR]) VRL.nil), rfl⟩
            simp only [VR]
            exact ⟨[_, _, _], .cons (strA_VR k) (.cons (strA_VR t) (.cons (by simp only [VR]; rfl) VRL.nil)), rfl⟩
          · cases ho
        · cases ho
      · cases ho
    · cases ho
theorem orc_of {F1 F2 F3 : Nat} (h1 : onceB P "purlieu/token.IsName" F1 = true) (h2 : onceB P "purlieu/purlieuref01.IsName" F2 = true) (h3 : onceB P "purlieu/purlieuref01.one" F3 = true)
    (c1 : NameOK E P F1) (c2 : NameOK E P F2) (c3 : OneOK E P F3) : OrcOK E P := orc_of' h1 h2 h3 c1 c2 fun _ => c3
/-- where the document's IsName and one are not in the program (onceB is then true at whatever number) -/
theorem orc_tok {F1 : Nat} (h1 : onceB P "purlieu/token.IsName" F1 = true) (h2 : onceB P "purlieu/purlieuref01.IsName" F1 = true) (h3 : onceB P "purlieu/purlieuref01.one" 1000000 = true) (hz : Nat.ble P.funcs.size 1000000 = true)
    (c1 : NameOK E P F1) : OrcOK E P := orc_of' h1 h2 h3 c1 c1 fun h => absurd h (Nat.not_lt.2 (Nat.le_of_ble_eq_true hz))
end
end Ev
end Go.Proofs.YtacjgphfcailmaaGreatDoor
