/-
  A drawn region whose operations have the same results in whatever order: each may be looked at by itself.
-/
import Derived.Test.YtdajlkmagmmdiaaGreatDoorEvX
namespace Go.Proofs.YtdajlkmagmmdiaaGreatDoor
open Go.RowKit
namespace Ev
set_option linter.unusedVariables false
set_option linter.unusedSimpArgs false

section
variable {P : Program} {ops : Array Oper} (val : Nat → Value) (wf : (Nat → Bool) → World) (a0 : Act)
/-- what is done has its result -/
def Vals (ops : Array Oper) (val : Nat → Value) (L : Nat → Bool) (a : Act) : Prop := ∀ (j : Nat) (o : Oper) (t : Nat), ops[j]? = some o → o.dst = some t → L j = true → a.tmps.getD t Go.undef = val j
/-- all else is kept -/
def Rest (ops : Array Oper) (a0 a : Act) : Prop := a.tmps.size = a0.tmps.size ∧ a.defers = a0.defers ∧ ∀ t, (∀ (i : Nat) (o : Oper), ops[i]? = some o → o.dst ≠ some t) → a.tmps.getD t Go.undef = a0.tmps.getD t Go.undef
theorem any_fixed (hm : P.follows .mixedOrders = true) (hg : ∀ (i : Nat) (o : Oper), ops[i]? = some o → o.guard = none)
    (hdist : ∀ (i j : Nat) (x y : Oper) (t : Nat), ops[i]? = some x → ops[j]? = some y → x.dst = some t → y.dst = some t → i = j) (hord : orderedB ops = true)
    (hsz : ∀ (i : Nat) (o : Oper) (t : Nat), ops[i]? = some o → o.dst = some t → t < a0.tmps.size) (hwf : ∀ L L' : Nat → Bool, (∀ i, i < ops.size → L i = L' i) → wf L = wf L')
    (step : ∀ (L : Nat → Bool) (i : Nat) (o : Oper) (a : Act), ops[i]? = some o → L i = false → (∀ e ∈ o.after, Region.binds .any e = true → L e.on = true) → Closed ops (fun j => L j = true) → Vals ops val L a → Rest ops a0 a →
      (execOp a.eval o).run P (wf L) = .ok (.value (val i)) (wf fun j => L j || j == i) ∨ (o.dst = none ∧ (execOp a.eval o).run P (wf L) = .ok .skip (wf fun j => L j || j == i)))
    {Q : Exit → Act → World → Prop} {id : Nat} {w0 : World} (hw : wf (fun _ => false) = w0.drew)
    (hQ : ∀ a, Vals ops val (fun _ => true) a → Rest ops a0 a → Q .normal a (wf fun _ => true)) : (Code.region id ops true).wp P Q a0 w0 := by
  refine wp_region_any hm ?_
  have main : ∀ (fuel : Nat) (listed : Array Bool) (a : Act) (w : World), w = wf (fun j => listed.getD j false) → Vals ops val (fun j => listed.getD j false) a → Rest ops a0 a → listed.size = ops.size → Closed ops (fun j => listed.getD j false = true) →
      listed.toList.count false ≤ fuel → wpAny P .any ops Q fuel listed a w := by
    have fin : ∀ (listed : Array Bool) (a : Act) (w : World), w = wf (fun j => listed.getD j false) → Vals ops val (fun j => listed.getD j false) a → Rest ops a0 a → listed.size = ops.size → (∀ i, i < ops.size → listed.getD i false = true) → Q .normal a w := by
      intro listed a w hw hv hr hs hall
      rw [hw, hwf _ (fun _ => true) (fun i hi => hall i hi)]
      exact hQ a (fun j o t h1 h2 _ => hv j o t h1 h2 (hall j (Array.getElem?_eq_some_iff.1 h1).1)) hr
    intro fuel
    induction fuel with
    | zero =>
      intro listed a w hw hv hr hs hc hcnt
      have hall : ∀ i, i < ops.size → listed.getD i false = true := by
        intro i hi
        have h0 : listed.toList.count false = 0 := by omega
        have hnm := List.count_eq_zero.1 h0
        have hli : i < listed.size := by omega
        cases hb : listed[i] with
        | true => simp [hli, hb]
        | false =>
          exfalso
          apply hnm
          rw [← hb]
          simp
      refine ⟨?_, fin listed a w hw hv hr hs hall⟩
      rw [List.eq_nil_iff_forall_not_mem]
      intro i hi
      rw [mem_ready] at hi
      obtain ⟨h1, o, ho, _⟩ := hi
      have hlt : i < ops.size := (Array.getElem?_eq_some_iff.1 ho).1
      have := hall i hlt
      rw [Array.getD_eq_getD_getElem?] at h1 this
      cases hx : listed[i]? with
      | none => rw [hx] at this; cases this
      | some b => rw [hx] at this h1; simp at this h1; rw [this] at h1; cases h1
    | succ fuel ih =>
      intro listed a w hw hv hr hs hc hcnt
      refine ⟨fun hrd => fin listed a w hw hv hr hs (listed_of hs hord hrd), fun i hi => ?_⟩
      rw [mem_ready] at hi
      obtain ⟨g1, o, ho, g2⟩ := hi
      have hlt : i < ops.size := (Array.getElem?_eq_some_iff.1 ho).1
      have hli : i < listed.size := by omega
      have hfalse : listed[i] = false := by simpa [hli] using g1
      have hL : listed.getD i false = false := by simp [hli, hfalse]
      have hstep := step (fun j => listed.getD j false) i o a ho hL (fun e he hb => g2 e he hb) hc hv hr
      have hfun : (fun j => listed.getD j false || j == i) = fun j => (listed.setIfInBounds i true).getD j false := by
        funext j
        by_cases hji : j = i
        · subst hji; simp [hli]
        · rw [getD_set_ne false (Ne.symm hji)]
          simp [hji]
      rw [hfun] at hstep
      have next : ∀ x : Value, (o.dst = none ∨ x = val i) → wpAny P .any ops Q fuel (listed.setIfInBounds i true) (a.put o.dst x) (wf fun j => (listed.setIfInBounds i true).getD j false) := by
        intro x hx
        refine ih _ _ _ rfl ?_ ?_ (by simp [hs]) ?_ ?_
        · intro j o' t h1 h2 h3
          cases hd : o.dst with
          | none =>
            simp only [Act.put]
            refine hv j o' t h1 h2 ?_
            have : j ≠ i := fun e => by subst e; rw [ho] at h1; cases h1; rw [hd] at h2; cases h2
            have h3' : (listed.setIfInBounds i true).getD j false = true := h3
            rwa [getD_set_ne false (Ne.symm this)] at h3'
          | some d =>
            have hxv : x = val i := hx.resolve_left (by rw [hd]; simp)
            simp only [Act.put, Array.getD_eq_getD_getElem?, Array.getElem?_setIfInBounds]
            by_cases hji : j = i
            · subst hji
              rw [ho] at h1
              cases h1
              rw [hd] at h2
              cases h2
              have := hsz j o t ho hd
              rw [← hr.1] at this
              simp [this, hxv]
            · have hne : ¬ d = t := fun e => hji (hdist j i o' o t h1 ho h2 (by rw [hd, e]))
              rw [if_neg hne]
              have h3' : (listed.setIfInBounds i true).getD j false = true := h3
              rw [getD_set_ne false (Ne.symm hji)] at h3'
              have := hv j o' t h1 h2 h3'
              rwa [Array.getD_eq_getD_getElem?] at this
        · obtain ⟨r1, r2, r3⟩ := hr
          cases hd : o.dst with
          | none => exact ⟨r1, r2, r3⟩
          | some d =>
            refine ⟨by simp [Act.put, r1], r2, fun t ht => ?_⟩
            have hne : ¬ d = t := fun e => ht i o ho (by rw [hd, e])
            simp only [Act.put, Array.getD_eq_getD_getElem?, Array.getElem?_setIfInBounds, if_neg hne]
            have := r3 t ht
            simpa [Array.getD_eq_getD_getElem?] using this
        · intro j o' ho' hj e he hbd
          by_cases hji : j = i
          · subst hji
            rw [ho] at ho'; cases ho'
            exact getD_set_true (g2 e he hbd)
          · have hj' : (listed.setIfInBounds i true).getD j false = true := hj
            rw [getD_set_ne false (Ne.symm hji)] at hj'
            exact getD_set_true (hc j o' ho' hj' e he hbd)
        · rw [Array.toList_setIfInBounds, List.count_set (by simpa using hli)]
          have : listed.toList[i]'(by simpa using hli) = false := by simpa using hfalse
          rw [this]
          have h9 : (false == false) = true := rfl
          have h10 : (true == false) = false := rfl
          simp only [h9, h10, if_true, Bool.false_eq_true, if_false]
          omega
      have hwn : Region.wanted o (yielded ops a.tmps) = true := by
        unfold Region.wanted
        rw [hg i o ho]
      unfold Go.wpOp
      simp only [ho, hwn, if_true, Oper.wp]
      left
      rw [hw]
      rcases hstep with h1 | ⟨hd, h1⟩
      · rw [h1]; exact next _ (.inr rfl)
      · rw [h1]; exact next _ (.inl hd)
  have hrep : ∀ i, (Array.replicate ops.size false).getD i false = false := by
    intro i
    rw [Array.getD_eq_getD_getElem?, Array.getElem?_replicate]
    split <;> rfl
  have hrep' : (fun j => (Array.replicate ops.size false).getD j false) = fun _ => false := funext hrep
  refine main ops.size _ a0 _ ?_ ?_ ⟨rfl, rfl, fun _ _ => rfl⟩ (by simp) ?_ (by simp)
  · rw [hrep', hw]; rfl
  · intro j o t _ _ h
    have h' : (Array.replicate ops.size false).getD j false = true := h
    rw [hrep j] at h'; cases h'
  · intro j o _ hj
    have h' : (Array.replicate ops.size false).getD j false = true := hj
    rw [hrep j] at h'
    cases h'
end
end Ev
end Go.Proofs.YtdajlkmagmmdiaaGreatDoor
