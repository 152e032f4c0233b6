/-
  The same, with what is asked of the operations found by looking.
-/
import Derived.Test.YtdajlkmagmmdiaaGreatDoorEvY
namespace Go.Proofs.YtdajlkmagmmdiaaGreatDoor
open Go.RowKit
namespace Ev
set_option linter.unusedVariables false
set_option linter.unusedSimpArgs false

def edgeB (ops : Array Oper) (i j : Nat) : Bool := (ops[i]?).any fun o => o.after.any fun e => Nat.beq e.on j && Region.binds .any e
def noDst (ops : Array Oper) (t : Nat) : Bool := ops.all fun o => match o.dst with | some d => !Nat.beq d t | none => true
def dstIs (ops : Array Oper) (i t : Nat) : Bool := (ops[i]?).any fun o => match o.dst with | some d => Nat.beq d t | none => false
def plainB (ops : Array Oper) (n : Nat) : Bool := ops.all fun o => o.guard.isNone && (match o.dst with | some d => Nat.blt d n | none => true)
def apartB (ops : Array Oper) : Bool := (List.range ops.size).all fun i => (List.range ops.size).all fun j => Nat.beq i j || !((ops[i]?).any fun x => match x.dst with | some d => dstIs ops j d | none => false)

section
variable {P : Program} {ops : Array Oper} {val : Nat → Value} {wf : (Nat → Bool) → World} {a0 a : Act} {L : Nat → Bool}
theorem at_dst {i t : Nat} (h : dstIs ops i t = true) (hv : Vals ops val L a) (hL : L i = true) : a.tmps.getD t Go.undef = val i := by
  unfold dstIs at h
  cases ho : ops[i]? with
  | none => rw [ho] at h; cases h
  | some o =>
    rw [ho] at h
    simp only [Option.any_some] at h
    cases hd : o.dst with
    | none => rw [hd] at h; cases h
    | some d =>
      rw [hd] at h
      exact hv i o t ho (by rw [hd, Nat.eq_of_beq_eq_true h]) hL
theorem at_rest {t : Nat} (h : noDst ops t = true) (hr : Rest ops a0 a) : a.tmps.getD t Go.undef = a0.tmps.getD t Go.undef := by
  refine hr.2.2 t fun i o ho hd => ?_
  have := Array.all_eq_true.1 h i (Array.getElem?_eq_some_iff.1 ho).1
  rw [(Array.getElem?_eq_some_iff.1 ho).2, hd] at this
  simp at this
theorem edge_closed {i j : Nat} (h : edgeB ops i j = true) (hc : Closed ops (fun j => L j = true)) (hL : L i = true) : L j = true := by
  unfold edgeB at h
  cases ho : ops[i]? with
  | none => rw [ho] at h; cases h
  | some o =>
    rw [ho] at h
    simp only [Option.any_some, Array.any_eq_true, Bool.and_eq_true] at h
    obtain ⟨k, hk, h1, h2⟩ := h
    have := hc i o ho hL o.after[k] (by simp) h2
    rwa [Nat.eq_of_beq_eq_true h1] at this
theorem edge_ready {i j : Nat} {o : Oper} (h : edgeB ops i j = true) (ho : ops[i]? = some o) (hb : ∀ e ∈ o.after, Region.binds .any e = true → L e.on = true) : L j = true := by
  unfold edgeB at h
  rw [ho] at h
  simp only [Option.any_some, Array.any_eq_true, Bool.and_eq_true] at h
  obtain ⟨k, hk, h1, h2⟩ := h
  have := hb o.after[k] (by simp) h2
  rwa [Nat.eq_of_beq_eq_true h1] at this
theorem draws_fixed (val : Nat → Value) (wf : (Nat → Bool) → World) (a0 : Act) (hm : P.follows .mixedOrders = true) (hp : plainB ops a0.tmps.size = true) (hap : apartB ops = true) (hord : orderedB ops = true)
    (hwf : ∀ L L' : Nat → Bool, (∀ i, i < ops.size → L i = L' i) → wf L = wf L')
    (step : ∀ (L : Nat → Bool) (i : Nat) (o : Oper) (a : Act), ops[i]? = some o → L i = false → (∀ j, edgeB ops i j = true → L j = true) → (∀ i j, edgeB ops i j = true → L i = true → L j = true) →
      (∀ i t, dstIs ops i t = true → L i = true → a.tmps.getD t Go.undef = val i) → (∀ t, noDst ops t = true → a.tmps.getD t Go.undef = a0.tmps.getD t Go.undef) →
      (execOp a.eval o).run P (wf L) = .ok (.value (val i)) (wf fun j => L j || j == i) ∨ (o.dst = none ∧ (execOp a.eval o).run P (wf L) = .ok .skip (wf fun j => L j || j == i)))
    {Q : Exit → Act → World → Prop} {id : Nat} {w0 : World} (hw : wf (fun _ => false) = w0.drew)
    (hQ : ∀ a, Rest ops a0 a → Q .normal a (wf fun _ => true)) : (Code.region id ops true).wp P Q a0 w0 := by
  refine any_fixed val wf a0 hm (fun i o ho => ?_) (fun i j x y t hx hy h1 h2 => ?_) hord (fun i o t ho hd => ?_) hwf (fun L i o a ho hL hb hc hv hr => ?_) hw (fun a _ hr => hQ a hr)
  · have := Array.all_eq_true.1 hp i (Array.getElem?_eq_some_iff.1 ho).1
    rw [(Array.getElem?_eq_some_iff.1 ho).2] at this
    simp only [Bool.and_eq_true] at this
    simpa using this.1
  · have hi := (Array.getElem?_eq_some_iff.1 hx).1
    have hj := (Array.getElem?_eq_some_iff.1 hy).1
    have := List.all_eq_true.1 (List.all_eq_true.1 hap i (List.mem_range.2 hi)) j (List.mem_range.2 hj)
    simp only [Bool.or_eq_true] at this
    rcases this with h | h
    · exact Nat.eq_of_beq_eq_true h
    · exfalso
      rw [hx] at h
      simp only [Option.any_some, h1, dstIs, hy, h2] at h
      simp at h
  · have := Array.all_eq_true.1 hp i (Array.getElem?_eq_some_iff.1 ho).1
    rw [(Array.getElem?_eq_some_iff.1 ho).2, hd] at this
    simp only [Bool.and_eq_true] at this
    simpa [Nat.blt_eq] using this.2
  · exact step L i o a ho hL (fun j h => edge_ready h ho hb) (fun i j h => edge_closed h hc) (fun i t h hl => at_dst h hv hl) (fun t h => at_rest h hr)
end
end Ev
end Go.Proofs.YtdajlkmagmmdiaaGreatDoor
