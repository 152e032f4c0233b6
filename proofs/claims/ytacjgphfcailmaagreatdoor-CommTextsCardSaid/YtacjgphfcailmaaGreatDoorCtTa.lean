/-
  What the tie of the listed variables needs: a quick test that no place is met twice; how three facts make two.
-/
import Derived.Test.YtacjgphfcailmaaGreatDoorEvC
import Derived.LaidByTextLater
namespace Go.Proofs.YtacjgphfcailmaaGreatDoor
open Go
namespace Ti
def codeP : MemPlace → Nat
  | .cell b off => 2 * (b * 65536 + off)
  | .map r => 2 * r + 1
def smallP : MemPlace → Bool
  | .cell b off => Nat.blt off 65536 && Nat.blt (2 * (b * 65536 + off)) 1000000000
  | .map r => Nat.blt (2 * r + 1) 1000000000
theorem codeP_inj {p q : MemPlace} (hp : smallP p = true) (hq : smallP q = true) (h : codeP p = codeP q) : p = q := by
  cases p <;> cases q <;> simp only [codeP, smallP, Bool.and_eq_true, Nat.blt_eq] at *
  · congr 1 <;> omega
  · omega
  · omega
  · congr 1; omega
theorem codeP_lt {p : MemPlace} (hp : smallP p = true) : codeP p + 1 < 2 ^ 40 := by
  cases p <;> simp only [codeP, smallP, Bool.and_eq_true, Nat.blt_eq] at * <;> omega
noncomputable def freshB : List MemPlace → Ev.T Unit → Bool
  | [], _ => true
  | p :: l, t => smallP p && (match Ev.T.get t (codeP p) with
    | some _ => false
    | none => freshB l (Ev.T.set () 40 t (codeP p)))
theorem freshB_spec : ∀ (l : List MemPlace) (t : Ev.T Unit), freshB l t = true → l.Nodup ∧ ∀ p ∈ l, smallP p = true ∧ Ev.T.get t (codeP p) = none
  | [], t, _ => ⟨List.nodup_nil, by simp⟩
  | p :: l, t, h => by
    simp only [freshB, Bool.and_eq_true] at h
    obtain ⟨h1, h2⟩ := h
    cases hg : Ev.T.get t (codeP p) with
    | some x => rw [hg] at h2; cases h2
    | none =>
      rw [hg] at h2
      obtain ⟨h3, h4⟩ := freshB_spec l _ h2
      have hs := fun q => Ev.T.get_set () 40 t (codeP p) q (codeP_lt h1)
      refine ⟨List.nodup_cons.2 ⟨fun hp => ?_, h3⟩, fun q hq => ?_⟩
      · have := (h4 p hp).2
        rw [hs, if_pos rfl] at this
        cases this
      · rcases List.mem_cons.1 hq with rfl | hq
        · exact ⟨h1, hg⟩
        · obtain ⟨h5, h6⟩ := h4 q hq
          refine ⟨h5, ?_⟩
          rw [hs] at h6
          split at h6
          · cases h6
          · exact h6
theorem comb {o : Option (List (String × DataW Unit) × List MemPlace)} {g : List MemPlace → Bool} (hf : o.map (fun x => freshB x.2 .leaf) = some true) (hg : o.map (fun x => g x.2) = some true) : o.map (fun x => decide x.2.Nodup && g x.2) = some true := by
  cases o with
  | none => cases hf
  | some x =>
    simp only [Option.map_some, Option.some.injEq] at hf hg ⊢
    rw [hg, decide_eq_true (freshB_spec _ _ hf).1]
    rfl
end Ti
end Go.Proofs.YtacjgphfcailmaaGreatDoor
