/-
  Long runs are cut: a part of a function's code ends in a memory that is written out (what is no longer looked at is dropped), and the next part begins there.
-/
import Derived.Test.YtdajlkmagmmdiaaGreatDoorEvR
namespace Go.Proofs.YtdajlkmagmmdiaaGreatDoor
open Go.RowKit
namespace Ev
set_option linter.unusedVariables false
set_option linter.unusedSimpArgs false

/-- all entries of a trie -/
noncomputable def T.allK {α : Type} (t : T α) : (Nat → α → Bool) → Bool :=
  T.rec (motive := fun _ => (Nat → α → Bool) → Bool) (fun _ => true)
    (fun _ v _ il ir p => (match v with | some x => p 0 x | none => true) && (il (fun k x => p (2 * k + 1) x) && ir (fun k x => p (2 * k + 2) x))) t
theorem allK_node {α : Type} (l r : T α) (v : Option α) (p : Nat → α → Bool) : (T.node l v r).allK p = ((match v with | some x => p 0 x | none => true) && (l.allK (fun k x => p (2 * k + 1) x) && r.allK (fun k x => p (2 * k + 2) x))) := rfl
theorem allK_spec {α : Type} {x : α} : ∀ (t : T α) (p : Nat → α → Bool) (k : Nat), t.allK p = true → t.get k = some x → p k x = true := by
  intro t
  induction t with
  | leaf => intro p k _ h; rw [T.get_leaf] at h; cases h
  | node l v r ihl ihr =>
    intro p k h hk
    rw [allK_node] at h
    simp only [Bool.and_eq_true] at h
    obtain ⟨h0, h1, h2⟩ := h
    cases k with
    | zero =>
      rw [T.get_zero] at hk
      subst hk
      exact h0
    | succ k =>
      rw [T.get_node] at hk
      split at hk
      · rename_i e
        have := ihl _ _ h1 hk
        rwa [show 2 * (k / 2) + 1 = k + 1 by omega] at this
      · rename_i e
        have := ihr _ _ h2 hk
        rwa [show 2 * (k / 2) + 2 = k + 1 by omega] at this

def eqI : Int → Int → Bool
  | .ofNat m, .ofNat n => Nat.beq m n
  | .negSucc m, .negSucc n => Nat.beq m n
  | _, _ => false
theorem eqI_spec {a b : Int} (h : eqI a b = true) : a = b := by
  cases a <;> cases b <;> simp only [eqI] at h <;> first | (cases h; done) | (rw [Nat.eq_of_beq_eq_true h])
mutual
noncomputable def eqAV : AV → AV → Bool
  | .bool a, .bool b => a == b
  | .int j a, .int k b => decide (j = k) && eqI a b
  | .str n v, .str m w => Nat.beq n m && Nat.beq v w
  | .nilp, .nilp => true
  | .ptr b o, .ptr c p => Nat.beq b c && Nat.beq o p
  | .nils, .nils => true
  | .slice b o n q c, .slice b' o' n' q' c' => Nat.beq b b' && (Nat.beq o o' && (Nat.beq n n' && ((q == q') && Nat.beq c c')))
  | .nilm, .nilm => true
  | .map b, .map c => Nat.beq b c
  | .fn f l, .fn g m => Nat.beq f g && eqAVL l m
  | .nilf, .nilf => true
  | .iface t a, .iface u b => Nat.beq t u && eqAV a b
  | .nili, .nili => true
  | .agg l, .agg m => eqAVL l m
  | .tup l, .tup m => eqAVL l m
  | _, _ => false
noncomputable def eqAVL : List AV → List AV → Bool
  | [], [] => true
  | a :: l, b :: m => eqAV a b && eqAVL l m
  | _, _ => false
end
mutual
theorem eqAV_spec : ∀ (a b : AV), eqAV a b = true → a = b
  | .bool a, b, h => by cases b <;> simp only [eqAV] at h <;> first | (cases h; done) | (rw [eq_of_beq h])
  | .int j a, b, h => by
    cases b <;> simp only [eqAV] at h <;> first | (cases h; done) | skip
    simp only [Bool.and_eq_true, decide_eq_true_eq] at h
    rw [h.1, eqI_spec h.2]
  | .str n v, b, h => by
    cases b <;> simp only [eqAV] at h <;> first | (cases h; done) | skip
    simp only [Bool.and_eq_true, Nat.beq_eq] at h
    rw [h.1, h.2]
  | .nilp, b, h => by cases b <;> simp only [eqAV] at h <;> first | (cases h; done) | rfl
  | .ptr x o, b, h => by
    cases b <;> simp only [eqAV] at h <;> first | (cases h; done) | skip
    simp only [Bool.and_eq_true, Nat.beq_eq] at h
    rw [h.1, h.2]
  | .nils, b, h => by cases b <;> simp only [eqAV] at h <;> first | (cases h; done) | rfl
  | .slice x o n q c, b, h => by
    cases b <;> simp only [eqAV] at h <;> first | (cases h; done) | skip
    simp only [Bool.and_eq_true, Nat.beq_eq, beq_iff_eq] at h
    obtain ⟨h1, h2, h3, h4, h5⟩ := h
    rw [h1, h2, h3, h4, h5]
  | .nilm, b, h => by cases b <;> simp only [eqAV] at h <;> first | (cases h; done) | rfl
  | .map x, b, h => by
    cases b <;> simp only [eqAV] at h <;> first | (cases h; done) | skip
    simp only [Nat.beq_eq] at h
    rw [h]
  | .fn f l, b, h => by
    cases b <;> simp only [eqAV] at h <;> first | (cases h; done) | skip
    rename_i g m
    simp only [Bool.and_eq_true, Nat.beq_eq] at h
    rw [h.1, eqAVL_spec l m h.2]
  | .nilf, b, h => by cases b <;> simp only [eqAV] at h <;> first | (cases h; done) | rfl
  | .iface t a, b, h => by
    cases b <;> simp only [eqAV] at h <;> first | (cases h; done) | skip
    rename_i u b
    simp only [Bool.and_eq_true, Nat.beq_eq] at h
    rw [h.1, eqAV_spec a b h.2]
  | .nili, b, h => by cases b <;> simp only [eqAV] at h <;> first | (cases h; done) | rfl
  | .agg l, b, h => by
    cases b <;> simp only [eqAV] at h <;> first | (cases h; done) | skip
    rename_i m
    rw [eqAVL_spec l m h]
  | .tup l, b, h => by
    cases b <;> simp only [eqAV] at h <;> first | (cases h; done) | skip
    rename_i m
    rw [eqAVL_spec l m h]
  | .yld x, b, h => by cases b <;> simp only [eqAV] at h <;> cases h
theorem eqAVL_spec : ∀ (l m : List AV), eqAVL l m = true → l = m
  | [], m, h => by cases m <;> simp only [eqAVL] at h <;> first | (cases h; done) | rfl
  | a :: l, m, h => by
    cases m <;> simp only [eqAVL] at h <;> first | (cases h; done) | skip
    rename_i b m
    simp only [Bool.and_eq_true] at h
    rw [eqAV_spec a b h.1, eqAVL_spec l m h.2]
end
noncomputable def eqEs : List (AV × AV × Nat) → List (AV × AV × Nat) → Bool
  | [], [] => true
  | (k, v, b) :: l, (k', v', b') :: m => eqAV k k' && (eqAV v v' && (Nat.beq b b' && eqEs l m))
  | _, _ => false
theorem eqEs_spec : ∀ (l m : List (AV × AV × Nat)), eqEs l m = true → l = m
  | [], m, h => by cases m <;> simp only [eqEs] at h <;> first | (cases h; done) | rfl
  | (k, v, b) :: l, m, h => by
    cases m <;> simp only [eqEs] at h <;> first | (cases h; done) | skip
    rename_i x m
    obtain ⟨k', v', b'⟩ := x
    simp only [eqEs, Bool.and_eq_true, Nat.beq_eq] at h
    obtain ⟨h1, h2, h3, h4⟩ := h
    rw [eqAV_spec _ _ h1, eqAV_spec _ _ h2, h3, eqEs_spec l m h4]
noncomputable def eqAB : AB → AB → Bool
  | .row e s cs opn ro, .row e' s' cs' opn' ro' => Nat.beq e e' && (Nat.beq s s' && ((opn == opn') && ((ro == ro') && eqAVL cs cs')))
  | .mp es c, .mp es' c' => Nat.beq c c' && eqEs es es'
  | .dead, .dead => true
  | _, _ => false
theorem eqAB_spec {x y : AB} (h : eqAB x y = true) : x = y := by
  cases x <;> cases y <;> simp only [eqAB] at h <;> first | (cases h; done) | rfl | skip
  · simp only [Bool.and_eq_true, Nat.beq_eq, beq_iff_eq] at h
    obtain ⟨h1, h2, h3, h4, h5⟩ := h
    rw [h1, h2, h3, h4, eqAVL_spec _ _ h5]
  · simp only [Bool.and_eq_true, Nat.beq_eq] at h
    rw [h.1, eqEs_spec _ _ h.2]
/-- h2 is h, but for blocks that are dropped -/
noncomputable def settles (h h2 : Heap) : Bool :=
  h.allK (fun k x => match h2.get k with
    | some .dead => true
    | some y => eqAB x y
    | none => false) && h2.allK (fun k _ => (h.get k).isSome)
theorem settles_get {h h2 : Heap} (s : settles h h2 = true) (b : Nat) : (h2.get b = h.get b) ∨ (h2.get b = some .dead ∧ (h.get b).isSome = true) := by
  unfold settles at s
  simp only [Bool.and_eq_true] at s
  obtain ⟨s1, s2⟩ := s
  cases hb : h.get b with
  | none =>
    cases hc : h2.get b with
    | none => exact .inl rfl
    | some y =>
      have := allK_spec _ _ _ s2 hc
      simp [hb] at this
  | some x =>
    have := allK_spec _ _ _ s1 hb
    split at this
    · rename_i e; exact .inr ⟨e, rfl⟩
    · rename_i y _ e
      rw [e, eqAB_spec this]
      exact .inl rfl
    · cases this
theorem Mo.settle {W w : World} {ρ : Ren} {h h2 : Heap} (m : Mo W ρ h w) (s : settles h h2 = true) : Mo W ρ h2 w where
  below := m.below
  dom b := by
    rcases settles_get s b with e | ⟨e, q⟩
    · rw [e]; exact m.dom b
    · have := m.dom b
      rw [e]
      cases hb : h.get b with
      | none => rw [hb] at q; cases q
      | some x => rw [hb] at this; simpa using this
  blk b x l h1 h3 := by
    rcases settles_get s b with e | ⟨e, q⟩
    · exact m.blk b x l (e ▸ h1) h3
    · rw [e] at h1
      cases h1
      trivial
  inj b c x y l k h1 h3 l1 l2 h5 h6 h7 := by
    rcases settles_get s b with e | ⟨e, q⟩
    · rcases settles_get s c with e' | ⟨e', q'⟩
      · exact m.inj b c x y l k (e ▸ h1) (e' ▸ h3) l1 l2 h5 h6 h7
      · rw [e'] at h3; cases h3; cases l2
    · rw [e] at h1; cases h1; cases l1
  new b x l h1 h3 h4 := by
    rcases settles_get s b with e | ⟨e, q⟩
    · exact m.new b x l (e ▸ h1) h3 h4
    · rw [e] at h1; cases h1; cases h4
  glob := m.glob
end Ev
end Go.Proofs.YtdajlkmagmmdiaaGreatDoor
