/-
  The functions whose answers are known, by their contracts.
-/
import Derived.Test.YtmnlcockdbaibaaGreatDoorEvQ
namespace Go.Proofs.YtmnlcockdbaibaaGreatDoor
open Go.RowKit
namespace Ev
set_option linter.unusedVariables false
set_option linter.unusedSimpArgs false

section
variable {E : World → Prop} {P : Program}
/-- only this function has the name -/
def onceB (P : Program) (nm : String) (F : Nat) : Bool := (List.range P.funcs.size).all fun i => match P.funcs[i]? with
  | some fn => !(fn.name == nm) || Nat.beq i F
  | none => true
theorem once {nm : String} {F f : Nat} {fn : Func} (h : onceB P nm F = true) (hf : P.funcs[f]? = some fn) (hn : fn.name = nm) : f = F := by
  unfold onceB at h
  have hlt : f < P.funcs.size := (Array.getElem?_eq_some_iff.1 hf).1
  have := List.all_eq_true.1 h f (List.mem_range.2 hlt)
  simp only [hf, hn, beq_self_eq_true, Bool.not_true, Bool.false_or] at this
  exact Nat.eq_of_beq_eq_true this
def NameOK (E : World → Prop) (P : Program) (F : Nat) : Prop :=
  ∀ (s : ByteArray) (W w : World), s.size ≤ 10000 → E W → Below W.heap.size W w → Calls P F #[.string s] w fun e w' => e = .returned (.bool (Tok.isName s.data.toList)) ∧ Below w.heap.size w w'
def OneOK (E : World → Prop) (P : Program) (F : Nat) : Prop :=
  ∀ (s : ByteArray) (a : Nat) (W w : World), s.size ≤ 10000 → a < s.size → E W → Below W.heap.size W w → Calls P F #[.string s, .int .i64 a] w fun e w' =>
    (∀ k t : List UInt8, Tok.first (s.data.toList.drop a) = some (k, t) → e = .returned (.tuple #[.agg #[.string ⟨k.toArray⟩, .string ⟨t.toArray⟩, .int .i64 a], .bool true])) ∧ Below w.heap.size w w'
theorem strA_VR {ρ : Ren} (l : List UInt8) : VR ρ (strA l) (.string ⟨l.toArray⟩) := ofScalar_VR (by simp [ofScalar, strA])
theorem orc_of {F1 F2 F3 : Nat} (h1 : onceB P "purlieu/token.IsName" F1 = true) (h2 : onceB P "purlieu/purlieuref01.IsName" F2 = true) (h3 : onceB P "purlieu/purlieuref01.one" F3 = true)
    (c1 : NameOK E P F1) (c2 : NameOK E P F2) (c3 : OneOK E P F3) : OrcOK E P := by
  intro f fn c args v ρ xs W w hf hb ho hx hE hbl
  unfold orcN at ho
  split at ho
  · rename_i hn
    split at ho
    · rename_i n s
      split at ho
      · rename_i hle
        have hle := Nat.le_of_ble_eq_true hle
        cases ho
        obtain ⟨x1, y1, rfl, k1, k2⟩ := hx.cons_inv
        have k3 := k2.nil_inv
        simp only [VR] at k1
        subst k1 k3
        have hc : NameOK E P f := by
          simp only [Bool.or_eq_true, beq_iff_eq] at hn
          rcases hn with hn | hn
          · rw [once h1 hf hn]; exact c1
          · rw [once h2 hf hn]; exact c2
        refine (hc ⟨(strOf n s).toArray⟩ W w (by rw [str_size]; exact hle) hE hbl).mono ?_
        rintro e w' ⟨rfl, hb'⟩
        exact ⟨_, rfl, by simp only [VR], hb'⟩
      · cases ho
    · cases ho
  · split at ho
    · rename_i hn
      split at ho
      · rename_i n s a
        split at ho
        · rename_i hle
          simp only [Bool.and_eq_true, Nat.ble_eq, Nat.blt_eq] at hle
          split at ho
          · rename_i k t hfst
            cases ho
            obtain ⟨x1, y1, rfl, k1, k2⟩ := hx.cons_inv
            obtain ⟨x2, y2, rfl, k3, k4⟩ := k2.cons_inv
            have k5 := k4.nil_inv
            simp only [VR] at k1 k3
            subst k1 k3 k5
            have hc : OneOK E P f := by
              rw [once h3 hf (by simpa using hn)]; exact c3
            refine (hc ⟨(strOf n s).toArray⟩ a W w (by rw [str_size]; exact hle.1) (by rw [str_size]; exact hle.2) hE hbl).mono ?_
            rintro e w' ⟨he, hb'⟩
            refine ⟨_, he k t (by simpa using hfst), ?_, hb'⟩
            simp only [VR]
            refine ⟨[_, _], .cons ?_ (.cons (by simp only [VR]) VRL.nil), rfl⟩
            simp only [VR]
            exact ⟨[_, _, _], .cons (strA_VR k) (.cons (strA_VR t) (.cons (by simp only [VR]; rfl) VRL.nil)), rfl⟩
          · cases ho
        · cases ho
      · cases ho
    · cases ho
end
end Ev
end Go.Proofs.YtmnlcockdbaibaaGreatDoor
