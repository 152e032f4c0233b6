/-
  Functions that count in a map, by the contract of the one that the program has: what the small machine does for them is what they do.
-/
import Derived.Test.YtacjgphfcailmaaGreatDoorEvR
namespace Go.Proofs.YtacjgphfcailmaaGreatDoor
open Go.RowKit
namespace Ev
set_option linter.unusedVariables false
set_option linter.unusedSimpArgs false

/-- all entries of a trie -/
noncomputable def T.allK {α : Type} (t : T α) : (Nat → α → Bool) → Bool :=
  T.rec (motive := fun _ => (Nat → α → Bool) → Bool) (fun _ => true)
    (fun _ v _ il ir p => (match v with | some x => p 0 x | none => true) && (il (fun k x => p (2 * k + 1) x) && ir (fun k x => p (2 * k + 2) x))) t
theorem allK_node {α : Type} (l r : T α) (v : Option α) (p : Nat → α → Bool) : (T.node l v r).allK p = ((match v with | some x => p 0 x | none => true) && (l.allK (fun k x => p (2 * k + 1) x) && r.allK (fun k x => p (2 * k + 2) x))) := rfl
theorem allK_spec {α : Type} {x : α} : ∀ (t : T α) (p : Nat → α → Bool) (k : Nat), t.allK p = true → t.get k = some x → p k x = true := by
  intro t
  induction t with
  | leaf => intro p k _ h; rw [T.get_leaf] at h; cases h
  | node l v r ihl ihr =>
    intro p k h hk
    rw [allK_node] at h
    simp only [Bool.and_eq_true] at h
    obtain ⟨h0, h1, h2⟩ := h
    cases k with
    | zero =>
      rw [T.get_zero] at hk
      subst hk
      exact h0
    | succ k =>
      rw [T.get_node] at hk
      split at hk
      · rename_i e
        have := ihl _ _ h1 hk
        rwa [show 2 * (k / 2) + 1 = k + 1 by omega] at this
      · rename_i e
        have := ihr _ _ h2 hk
        rwa [show 2 * (k / 2) + 2 = k + 1 by omega] at this

def eqI : Int → Int → Bool
  | .ofNat m, .ofNat n => Nat.beq m n
  | .negSucc m, .negSucc n => Nat.beq m n
  | _, _ => false
theorem eqI_spec {a b : Int} (h : eqI a b = true) : a = b := by
  cases a <;> cases b <;> simp only [eqI] at h <;> first | (cases h; done) | (rw [Nat.eq_of_beq_eq_true h])
mutual
noncomputable def eqAV : AV → AV → Bool
  | .bool a, .bool b => a == b
  | .int j a, .int k b => decide (j = k) && eqI a b
  | .str n v, .str m w => Nat.beq n m && Nat.beq v w
  | .nilp, .nilp => true
  | .ptr b o, .ptr c p => Nat.beq b c && Nat.beq o p
  | .nils, .nils => true
  | .slice b o n q c, .slice b' o' n' q' c' => Nat.beq b b' && (Nat.beq o o' && (Nat.beq n n' && ((q == q') && Nat.beq c c')))
  | .nilm, .nilm => true
  | .map b, .map c => Nat.beq b c
  | .fn f l, .fn g m => Nat.beq f g && eqAVL l m
  | .nilf, .nilf => true
  | .iface t a, .iface u b => Nat.beq t u && eqAV a b
  | .nili, .nili => true
  | .agg l, .agg m => eqAVL l m
  | .tup l, .tup m => eqAVL l m
  | _, _ => false
noncomputable def eqAVL : List AV → List AV → Bool
  | [], [] => true
  | a :: l, b :: m => eqAV a b && eqAVL l m
  | _, _ => false
end
mutual
theorem eqAV_spec : ∀ (a b : AV), eqAV a b = true → a = b
  | .bool a, b, h => by cases b <;> simp only [eqAV] at h <;> first | (cases h; done) | (rw [eq_of_beq h])
  | .int j a, b, h => by
    cases b <;> simp only [eqAV] at h <;> first | (cases h; done) | skip
    simp only [Bool.and_eq_true, decide_eq_true_eq] at h
    rw [h.1, eqI_spec h.2]
  | .str n v, b, h => by
    cases b <;> simp only [eqAV] at h <;> first | (cases h; done) | skip
    simp only [Bool.and_eq_true, Nat.beq_eq] at h
    rw [h.1, h.2]
  | .nilp, b, h => by cases b <;> simp only [eqAV] at h <;> first | (cases h; done) | rfl
  | .ptr x o, b, h => by
    cases b <;> simp only [eqAV] at h <;> first | (cases h; done) | skip
    simp only [Bool.and_eq_true, Nat.beq_eq] at h
    rw [h.1, h.2]
  | .nils, b, h => by cases b <;> simp only [eqAV] at h <;> first | (cases h; done) | rfl
  | .slice x o n q c, b, h => by
    cases b <;> simp only [eqAV] at h <;> first | (cases h; done) | skip
    simp only [Bool.and_eq_true, Nat.beq_eq, beq_iff_eq] at h
    obtain ⟨h1, h2, h3, h4, h5⟩ := h
    rw [h1, h2, h3, h4, h5]
  | .nilm, b, h => by cases b <;> simp only [eqAV] at h <;> first | (cases h; done) | rfl
  | .map x, b, h => by
    cases b <;> simp only [eqAV] at h <;> first | (cases h; done) | skip
    simp only [Nat.beq_eq] at h
    rw [h]
  | .fn f l, b, h => by
    cases b <;> simp only [eqAV] at h <;> first | (cases h; done) | skip
    rename_i g m
    simp only [Bool.and_eq_true, Nat.beq_eq] at h
    rw [h.1, eqAVL_spec l m h.2]
  | .nilf, b, h => by cases b <;> simp only [eqAV] at h <;> first | (cases h; done) | rfl
  | .iface t a, b, h => by
    cases b <;> simp only [eqAV] at h <;> first | (cases h; done) | skip
    rename_i u b
    simp only [Bool.and_eq_true, Nat.beq_eq] at h
    rw [h.1, eqAV_spec a b h.2]
  | .nili, b, h => by cases b <;> simp only [eqAV] at h <;> first | (cases h; done) | rfl
  | .agg l, b, h => by
    cases b <;> simp only [eqAV] at h <;> first | (cases h; done) | skip
    rename_i m
    rw [eqAVL_spec l m h]
  | .tup l, b, h => by
    cases b <;> simp only [eqAV] at h <;> first | (cases h; done) | skip
    rename_i m
    rw [eqAVL_spec l m h]
  | .yld x, b, h => by cases b <;> simp only [eqAV] at h <;> cases h
theorem eqAVL_spec : ∀ (l m : List AV), eqAVL l m = true → l = m
  | [], m, h => by cases m <;> simp only [eqAVL] at h <;> first | (cases h; done) | rfl
  | a :: l, m, h => by
    cases m <;> simp only [eqAVL] at h <;> first | (cases h; done) | skip
    rename_i b m
    simp only [Bool.and_eq_true] at h
    rw [eqAV_spec a b h.1, eqAVL_spec l m h.2]
end
noncomputable def eqEs : List (AV × AV × Nat) → List (AV × AV × Nat) → Bool
  | [], [] => true
  | (k, v, b) :: l, (k', v', b') :: m => eqAV k k' && (eqAV v v' && (Nat.beq b b' && eqEs l m))
  | _, _ => false
theorem eqEs_spec : ∀ (l m : List (AV × AV × Nat)), eqEs l m = true → l = m
  | [], m, h => by cases m <;> simp only [eqEs] at h <;> first | (cases h; done) | rfl
  | (k, v, b) :: l, m, h => by
    cases m <;> simp only [eqEs] at h <;> first | (cases h; done) | skip
    rename_i x m
    obtain ⟨k', v', b'⟩ := x
    simp only [eqEs, Bool.and_eq_true, Nat.beq_eq] at h
    obtain ⟨h1, h2, h3, h4⟩ := h
    rw [eqAV_spec _ _ h1, eqAV_spec _ _ h2, h3, eqEs_spec l m h4]
noncomputable def eqAB : AB → AB → Bool
  | .row e s cs opn ro, .row e' s' cs' opn' ro' => Nat.beq e e' && (Nat.beq s s' && ((opn == opn') && ((ro == ro') && eqAVL cs cs')))
  | .mp es c, .mp es' c' => Nat.beq c c' && eqEs es es'
  | .dead, .dead => true
  | _, _ => false
theorem eqAB_spec {x y : AB} (h : eqAB x y = true) : x = y := by
  cases x <;> cases y <;> simp only [eqAB] at h <;> first | (cases h; done) | rfl | skip
  · simp only [Bool.and_eq_true, Nat.beq_eq, beq_iff_eq] at h
    obtain ⟨h1, h2, h3, h4, h5⟩ := h
    rw [h1, h2, h3, h4, eqAVL_spec _ _ h5]
  · simp only [Bool.and_eq_true, Nat.beq_eq] at h
    rw [h.1, eqEs_spec _ _ h.2]
/-- h2 is h, but for blocks that are dropped -/
noncomputable def settles (h h2 : Heap) : Bool :=
  h.allK (fun k x => match h2.get k with
    | some .dead => true
    | some y => eqAB x y
    | none => false) && h2.allK (fun k _ => (h.get k).isSome)
theorem settles_get {h h2 : Heap} (s : settles h h2 = true) (b : Nat) : (h2.get b = h.get b) ∨ (h2.get b = some .dead ∧ (h.get b).isSome = true) := by
  unfold settles at s
  simp only [Bool.and_eq_true] at s
  obtain ⟨s1, s2⟩ := s
  cases hb : h.get b with
  | none =>
    cases hc : h2.get b with
    | none => exact .inl rfl
    | some y =>
      have := allK_spec _ _ _ s2 hc
      simp [hb] at this
  | some x =>
    have := allK_spec _ _ _ s1 hb
    split at this
    · rename_i e; exact .inr ⟨e, rfl⟩
    · rename_i y _ e
      rw [e, eqAB_spec this]
      exact .inl rfl
    · cases this
theorem Mo.settle {W w : World} {ρ : Ren} {h h2 : Heap} (m : Mo W ρ h w) (s : settles h h2 = true) : Mo W ρ h2 w where
  below := m.below
  dom b := by
    rcases settles_get s b with e | ⟨e, q⟩
    · rw [e]; exact m.dom b
    · have := m.dom b
      rw [e]
      cases hb : h.get b with
      | none => rw [hb] at q; cases q
      | some x => rw [hb] at this; simpa using this
  blk b x l h1 h3 := by
    rcases settles_get s b with e | ⟨e, q⟩
    · exact m.blk b x l (e ▸ h1) h3
    · rw [e] at h1
      cases h1
      trivial
  inj b c x y l k h1 h3 l1 l2 h5 h6 h7 := by
    rcases settles_get s b with e | ⟨e, q⟩
    · rcases settles_get s c with e' | ⟨e', q'⟩
      · exact m.inj b c x y l k (e ▸ h1) (e' ▸ h3) l1 l2 h5 h6 h7
      · rw [e'] at h3; cases h3; cases l2
    · rw [e] at h1; cases h1; cases l1
  new b x l h1 h3 h4 := by
    rcases settles_get s b with e | ⟨e, q⟩
    · exact m.new b x l (e ▸ h1) h3 h4
    · rw [e] at h1; cases h1; cases h4
  glob := m.glob
end Ev
end Go.Proofs.YtacjgphfcailmaaGreatDoor

namespace Go.Proofs.YtacjgphfcailmaaGreatDoor
open Go.RowKit
namespace Ev
open M
set_option linter.unusedVariables false
set_option linter.unusedSimpArgs false

/-- the first parts of a sequence -/
noncomputable def firstK (rec : Rec) : Nat → Code → Tm → M Tm
  | 0, _, tm => ret tm
  | k + 1, c, tm => match c with
    | .seq a b => bnd (rec false a tm []) fun x => match x with
      | (.normal, tm, []) => firstK rec k b tm
      | _ => err
    | _ => err
def restK : Nat → Code → Code
  | 0, c => c
  | k + 1, c => match c with
    | .seq a b => restK k b
    | c => c
noncomputable def landB (r : R Tm) (l : List AV) (n2 : Nat) (h2 : Heap) : Bool := match r with
  | .ok tm n h _ => Nat.beq tm.n l.length && (((List.range l.length).all fun k => eqAV (nth tm k) (l.getD k undefA)) && (Nat.beq n n2 && (settles h h2 && Nat.ble l.length 4000)))
  | .fail => false
noncomputable def yesB : R (List AV) → Bool
  | .ok [.bool b] _ _ _ => b
  | _ => false
noncomputable def endB (P : Program) (rs : List ResultVar) (r : R (Ex × Tm × List Nat)) : Bool := match r with
  | .ok (e, tm, []) n h _ => (match e with | .exit _ => false | _ => true) && yesB (resultA P tm rs n h [])
  | _ => false

section
variable {E : World → Prop} {P : Program} {rec : Rec}
theorem first_sound (hs : SoundR E P rec) {W : World} (hE : E W) {Q : Exit → Act → World → Prop} : ∀ (k : Nat) (c : Code) (tm : Tm) {n n' : Nat} {h h' : Heap} {l l' : Log} {tm' : Tm} {ρ : Ren} {a : Act} {w : World},
    firstK rec k c tm n h l = .ok tm' n' h' l' → Mo W ρ h w → TR ρ tm a.tmps → a.defers = [] →
    (∀ ρ' a' w', Ext ρ ρ' → TR ρ' tm' a'.tmps → a'.defers = [] → Mo W ρ' h' w' → (restK k c).wpIn (Fc none) 0 P Q a' w') → c.wpIn (Fc none) 0 P Q a w
  | 0, c, tm, n, n', h, h', l, l', tm', ρ, a, w, e, mo, ht, hd, K => by
    simp only [firstK] at e
    obtain ⟨rfl, rfl, rfl, rfl⟩ := ret_ok e
    exact K ρ a w (Ext.refl _) ht hd mo
  | k + 1, c, tm, n, n', h, h', l, l', tm', ρ, a, w, e, mo, ht, hd, K => by
    cases c <;> simp only [firstK] at e <;> first | exact (err_ok e).elim | skip
    rename_i x y
    obtain ⟨⟨e1, tm1, ds1⟩, n1, h1, l1, k1, k2⟩ := bind_ok e
    refine wpIn_seq (wpIn_mono (hs false x tm [] none W ρ n h l e1 tm1 ds1 n1 h1 l1 a w rfl k1 hE mo ht hd) ?_)
    rintro x' a1 w1 ⟨ρ1, g1, rfl, g2, g3, g4⟩
    cases e1 <;> cases ds1 <;> simp only at k2 <;> first | exact (err_ok k2).elim | skip
    exact first_sound hs hE k y tm1 k2 g4 g2 g3 fun ρ' a' w' q1 q2 q3 q4 => K ρ' a' w' (g1.trans q1) q2 q3 q4

/-- a chunk -/
theorem chunk (hs : SoundR E P rec) {W : World} (hE : E W) {Q : Exit → Act → World → Prop} (k : Nat) {c : Code} {tm : Tm} {l2 : List AV} {n n2 : Nat} {h h2 : Heap} {ρ : Ren} {a : Act} {w : World}
    (hb : landB (firstK rec k c tm n h []) l2 n2 h2 = true) (mo : Mo W ρ h w) (ht : TR ρ tm a.tmps) (hd : a.defers = [])
    (K : ∀ ρ' a' w', TR ρ' ⟨l2.length, fromL l2 0⟩ a'.tmps → a'.defers = [] → Mo W ρ' h2 w' → (restK k c).wpIn (Fc none) 0 P Q a' w') : c.wpIn (Fc none) 0 P Q a w := by
  cases hr : firstK rec k c tm n h [] with
  | fail => rw [hr] at hb; cases hb
  | ok tm' n' h' l' =>
    rw [hr] at hb
    simp only [landB, Bool.and_eq_true, Nat.beq_eq, Nat.ble_eq] at hb
    obtain ⟨b1, b2, b3, b4, b5⟩ := hb
    refine first_sound hs hE k c _ hr mo ht hd fun ρ' a' w' _ q2 q3 q4 => ?_
    refine K ρ' a' w' (q2.same b1.symm fun j => ?_) q3 (q4.settle b4)
    rw [nth_eq]
    simp only
    rw [fromL_get _ _ _ (by omega)]
    simp only [Nat.zero_le, if_true, Nat.sub_zero]
    by_cases hj : j < l2.length
    · have := eqAV_spec _ _ (List.all_eq_true.1 b2 j (List.mem_range.2 hj))
      rw [this]
      simp [List.getD_eq_getElem?_getD]
    · rw [List.getElem?_eq_none (by omega)]
      exact (q2.high j (by omega)).symm

/-- how a function that returns true is left -/
def FinQ (P : Program) (fn : Func) (W : World) (Q : Exit → Act → World → Prop) : Prop :=
  ∀ (x : Exit) (a : Act) (w : World), x = .normal ∨ x = .ret → a.defers = [] → (results fn a.tmps).run P w = .ok (.bool true) w → Below W.heap.size W w → Q x a w
theorem last (hs : SoundR E P rec) {fn : Func} {W : World} (hE : E W) {Q : Exit → Act → World → Prop} (hQ : FinQ P fn W Q) {c : Code} {tm : Tm} {n : Nat} {h : Heap} {ρ : Ren} {a : Act} {w : World}
    (hb : endB P fn.results.toList (rec false c tm [] n h []) = true) (mo : Mo W ρ h w) (ht : TR ρ tm a.tmps) (hd : a.defers = []) : c.wpIn (Fc none) 0 P Q a w := by
  cases hr : rec false c tm [] n h [] with
  | fail => rw [hr] at hb; cases hb
  | ok r n' h' l' =>
    obtain ⟨e, tm', ds⟩ := r
    rw [hr] at hb
    cases ds <;> simp only [endB] at hb <;> first | (cases hb; done) | skip
    simp only [Bool.and_eq_true] at hb
    obtain ⟨b1, b2⟩ := hb
    refine wpIn_mono (hs false c tm [] none W ρ n h [] e tm' [] n' h' l' a w rfl hr hE mo ht hd) ?_
    rintro x a1 w1 ⟨ρ1, g1, rfl, g2, g3, g4⟩
    cases h2 : resultA P tm' fn.results.toList n' h' [] with
    | fail => rw [h2] at b2; cases b2
    | ok vs n3 h3 l3 =>
      rw [h2] at b2
      obtain ⟨rfl, ys, g5, g6⟩ := resultA_sound g2 _ h2 g4
      have hv : vs = [.bool true] := by
        unfold yesB at b2
        split at b2
        · rename_i b _ _ _ q
          simp only [R.ok.injEq] at q
          rw [q.1, b2]
        · cases b2
      subst hv
      obtain ⟨y, zs, rfl, g7, g8⟩ := g5.cons_inv
      have g9 := g8.nil_inv
      simp only [VR] at g7
      subst g7 g9
      refine hQ _ a1 w1 ?_ g3 (results_run g6) g4.below
      cases e
      · exact .inl rfl
      · exact .inr rfl
      · cases b1
theorem law_chunks {f : Nat} {fn : Func} {c : Code} {args : List AV} {xs : List Value} {ρ : Ren} {W w : World} {h : Heap} (hf : fnOf P f = some (fn, c)) (hk : max fn.ntmps args.length ≤ 4000) (hx : VRL ρ args xs) (mo : Mo W ρ h w)
    (K : ∀ (Q : Exit → Act → World → Prop) (a : Act), FinQ P fn W Q → TR ρ ⟨max fn.ntmps args.length, fromL args 0⟩ a.tmps → a.defers = [] → c.wpIn (Fc none) 0 P Q a w) :
    Calls P f xs.toArray w fun e w' => e = .returned (.bool true) ∧ Below W.heap.size W w' := by
  obtain ⟨hf1, hf2⟩ := fnOf_some hf
  refine (callsIn_wide (n := 0)).1 (callsIn_of_wp_marks hf1 hf2 trivial ?_)
  refine K _ { tmps := xs.toArray ++ Array.replicate (fn.ntmps - xs.toArray.size) undef, defers := [] } ?_ (by simpa using TR.new hx fn.ntmps hk) rfl
  rintro x a w1 hx1 hd hr hb
  rcases hx1 with rfl | rfl
  all_goals
    show LeavesInM Fence.wide 0 P fn a.tmps (fun e w' => e = .returned (.bool true) ∧ Below W.heap.size W w') a.defers .returning w1
    rw [hd]
    exact ⟨_, hr, rfl, hb⟩
end
end Ev
end Go.Proofs.YtacjgphfcailmaaGreatDoor

namespace Go.Proofs.YtacjgphfcailmaaGreatDoor
open Go.RowKit
namespace Ev
open M
set_option linter.unusedVariables false
set_option linter.unusedSimpArgs false

/-- a key: from, to, kind, and 0 -/
def cKey (x y : Int) (s : ByteArray) : Value := .agg #[.int .i64 x, .int .i64 y, .string s, .int .i64 0]
/-- an entry of another key -/
def Other (x y : Int) (s : ByteArray) (e : MapEntry) : Prop := ∃ x' y' s' q, e.key = cKey x' y' s' ∧ e.val = .int .i64 q ∧ ((x == x') && ((y == y') && (s.toList == s'.toList))) = false
/-- the same memory and the same world without -/
def EqW (w w' : World) : Prop := w'.heap = w.heap ∧ w'.os = w.os ∧ w'.tape = w.tape ∧ w'.output = w.output
theorem Mo.eqW {W w w' : World} {ρ : Ren} {h : Heap} (m : Mo W ρ h w) (e : EqW w w') : Mo W ρ h w' := by
  obtain ⟨e1, e2, e3, e4⟩ := e
  refine m.grow ⟨e2, e3, e4, by rw [e1]; exact Nat.le_refl _, fun k _ => by rw [e1]⟩ fun k _ => by rw [e1]
/-- the contract of a function that counts -/
structure CountAt (P : Program) (F K : Nat) : Prop where
  same : ∀ (p : Value) (s : ByteArray) (x : Int) (w : World), Calls P F #[p, .string s, .int .i64 x, .int .i64 x] w fun e w' => e = .returned (.tuple #[]) ∧ EqW w w'
  new : ∀ (blk off : Nat) (s : ByteArray) (x y : Int) (m c : Nat) (E : Array MapEntry) (w : World), x ≠ y → w.cell? ⟨blk, off + K, none⟩ = some (.map (some m)) → w.heap[m]? = some (.map E c) →
    (∀ e ∈ E.toList, Other x y s e) → (∀ e ∈ E.toList, e.born ≠ c) →
    Calls P F #[.pointer (some ⟨blk, off, none⟩), .string s, .int .i64 x, .int .i64 y] w fun e w' => e = .returned (.tuple #[]) ∧ EqW { w with heap := w.heap.setIfInBounds m (.map (E.push ⟨cKey x y s, .int .i64 1, c⟩) (c + 1)) } w'
  old : ∀ (blk off : Nat) (s : ByteArray) (x y q : Int) (m c j : Nat) (e0 : MapEntry) (E : Array MapEntry) (w : World), x ≠ y → w.cell? ⟨blk, off + K, none⟩ = some (.map (some m)) → w.heap[m]? = some (.map E c) →
    (∀ e ∈ E.toList.take j, Other x y s e) → E.toList[j]? = some e0 → e0.key = cKey x y s → e0.val = .int .i64 q → (∀ e ∈ E.toList.take j, e.born ≠ e0.born) →
    Calls P F #[.pointer (some ⟨blk, off, none⟩), .string s, .int .i64 x, .int .i64 y] w fun e w' => e = .returned (.tuple #[]) ∧ EqW { w with heap := w.heap.setIfInBounds m (.map (E.modify j fun e => { e with key := cKey x y s, val := .int .i64 (IntKind.i64.wrap (q + 1)) }) c) } w'

section
variable {E : World → Prop} {P : Program} {ρ : Ren}
theorem cKey_VR {x y : Int} {n v : Nat} : VR ρ (.agg [.int .i64 x, .int .i64 y, .str n v, .int .i64 0]) (cKey x y ⟨(strOf n v).toArray⟩) := by
  simp only [VR]
  exact ⟨[_, _, _, _], .cons (by simp only [VR]) (.cons (by simp only [VR]) (.cons (by simp only [VR]) (.cons (by simp only [VR]) VRL.nil))), rfl⟩
theorem entry_form {e : MapEntry} {x' y' q : Int} {n' v' : Nat} (hk : VR ρ (.agg [.int .i64 x', .int .i64 y', .str n' v', .int .i64 0]) e.key) (hv : VR ρ (.int .i64 q) e.val) :
    e.key = cKey x' y' ⟨(strOf n' v').toArray⟩ ∧ e.val = .int .i64 q := by
  simp only [VR] at hk hv
  obtain ⟨xs, h1, h2⟩ := hk
  obtain ⟨a1, l1, rfl, g1, h3⟩ := h1.cons_inv
  obtain ⟨a2, l2, rfl, g2, h4⟩ := h3.cons_inv
  obtain ⟨a3, l3, rfl, g3, h5⟩ := h4.cons_inv
  obtain ⟨a4, l4, rfl, g4, h6⟩ := h5.cons_inv
  have g5 := h6.nil_inv
  simp only [VR] at g1 g2 g3 g4
  subst g1 g2 g3 g4 g5
  exact ⟨h2, hv⟩
/-- what the small machine finds -/
theorem findC_spec {x y : Int} {n v : Nat} : ∀ {es : List (AV × AV × Nat)} {L : List MapEntry} {i : Nat} {r : Option (Nat × Int × Nat)}, ERL ρ es L → findC x y n v es i = some r →
    (r = none ∧ ∀ e ∈ L, Other x y ⟨(strOf n v).toArray⟩ e) ∨
    ∃ j q born e0 k0, r = some (i + j, q, born) ∧ L[j]? = some e0 ∧ (∀ e ∈ L.take j, Other x y ⟨(strOf n v).toArray⟩ e) ∧ e0.key = cKey x y ⟨(strOf n v).toArray⟩ ∧ e0.val = .int .i64 q ∧ e0.born = born ∧ es[j]? = some (k0, .int .i64 q, born)
  | [], L, i, r, h, e => by
    simp only [ERL] at h
    subst h
    simp only [findC, Option.some.injEq] at e
    subst e
    exact .inl ⟨rfl, by simp⟩
  | (k, u, b) :: es, L, i, r, h, e => by
    simp only [ERL] at h
    obtain ⟨en, L', rfl, h1, h2, h3, h⟩ := h
    unfold findC at e
    split at e
    · rename_i heq
      cases heq
    · rename_i x' y' n' v' q born es' heq
      cases heq
      obtain ⟨f1, f2⟩ := entry_form h1 h2
      split at e
      · rename_i hc
        cases e
        simp only [Bool.and_eq_true, Nat.beq_eq] at hc
        obtain ⟨c1, c2, c3, c4⟩ := hc
        have c1 := eq_of_beq c1
        have c2 := eq_of_beq c2
        subst c1 c2 c3
        have hstr : strOf n v = strOf n v' := by
          have := str_beq n v n v'
          simp [c4] at this
          exact this
        refine .inr ⟨0, q, b, en, _, rfl, rfl, by simp, ?_, f2, h3, rfl⟩
        rw [f1, hstr]
      · rename_i hc
        have hoth : Other x y ⟨(strOf n v).toArray⟩ en := by
          refine ⟨x', y', _, q, f1, f2, ?_⟩
          simp only [ByteArray.toList_mk, str_beq]
          exact hc
        rcases findC_spec h e with ⟨rfl, g⟩ | ⟨j, q', born', e0, k0, rfl, g1, g2, g3, g4, g5, g6⟩
        · refine .inl ⟨rfl, fun e' he' => ?_⟩
          rcases List.mem_cons.1 he' with rfl | he'
          · exact hoth
          · exact g e' he'
        · refine .inr ⟨j + 1, q', born', e0, k0, by simp; omega, by simpa using g1, fun e' he' => ?_, g3, g4, g5, by simpa using g6⟩
          rw [List.take_succ_cons] at he'
          rcases List.mem_cons.1 he' with rfl | he'
          · exact hoth
          · exact g2 e' he'
    · cases e
/-- the fields of the record that counts -/
theorem cnt_of {F K : Nat} (hone : onceB P "(*purlieu/engine.World).count" F = true) (hoff : countOff P F = some K) (hc : CountAt P F K) : CntOK E P := by
  intro f fn c args ρ xs W w n n' h h' l l' v hf hb hcnt hx hE e mo
  have hF : f = F := once hone hf (by simpa [isCount] using hcnt)
  subst hF
  unfold countA at e
  split at e
  · rename_i b o n1 v1 x y
    obtain ⟨a1, l1, rfl, g1, h3⟩ := hx.cons_inv
    obtain ⟨a2, l2, rfl, g2, h4⟩ := h3.cons_inv
    obtain ⟨a3, l3, rfl, g3, h5⟩ := h4.cons_inv
    obtain ⟨a4, l4, rfl, g4, h6⟩ := h5.cons_inv
    have g5 := h6.nil_inv
    simp only [VR] at g1 g2 g3 g4
    subst g2 g3 g4 g5
    obtain ⟨lb, hρ, rfl⟩ := g1
    change Ok _ _ _ _ _ at e
    split at e
    · rename_i hxy
      have hxy := eq_of_beq hxy
      subst hxy
      obtain ⟨rfl, rfl, rfl, rfl⟩ := ret_ok e
      refine (hc.same _ _ _ _).mono ?_
      rintro e' w' ⟨rfl, ha⟩
      exact ⟨_, rfl, ρ, Ext.refl _, by simp only [VR]; exact ⟨[], VRL.nil, rfl⟩, mo.eqW ha⟩
    · rename_i hxy
      have hxy : x ≠ y := by simpa using hxy
      rw [hoff] at e
      simp only at e
      obtain ⟨cs, n2, h2, l2, e1, e2⟩ := bind_ok e
      obtain ⟨rfl, hn, ys, hv, hcell⟩ := getR_sound mo hρ e1
      change Ok _ _ _ _ _ at e2
      split at e2
      · rename_i m
        obtain ⟨z, n3, h3', l3, e3, e4⟩ := bind_ok e2
        obtain ⟨rfl, rfl, hg⟩ := getB_ok e3
        cases z <;> first | exact (err_ok e4).elim | skip
        rename_i es clk
        simp only at e4
        obtain ⟨y1, ys1, rfl, k1, k2⟩ := hv.cons_inv
        simp only [VR] at k1
        obtain ⟨lm, hm, rfl⟩ := k1
        have hcw := hcell 0 _ rfl
        rw [Nat.add_zero, ← Nat.add_assoc] at hcw
        obtain ⟨M, hM, hr⟩ := mo.blk _ _ _ hg hm
        cases hfc : findC x y n1 v1 es 0 with
        | none => simp only [hfc] at e4; exact (err_ok e4).elim
        | some r =>
          simp only [hfc] at e4
          rcases findC_spec hr hfc with ⟨rfl, q1⟩ | ⟨j, q, born, e0, k0, rfl, q1, q2, q3, q4, q5, q6⟩
          · simp only at e4
            change Ok _ _ _ _ _ at e4
            split at e4
            · rename_i hall
              obtain ⟨_, n5, h5', l5, e5, e6⟩ := bind_ok e4
              obtain ⟨rfl, rfl, rfl, rfl⟩ := ret_ok e6
              obtain ⟨rfl, rfl, _, hbb⟩ := setB_ok e5
              obtain ⟨w', k3, k4⟩ := setObj_sound (P := P) (x := .mp (es ++ [(.agg [.int .i64 x, .int .i64 y, .str n1 v1, .int .i64 0], .int .i64 1, clk)]) (clk + 1)) (o' := .map (M.push ⟨cKey x y ⟨(strOf n1 v1).toArray⟩, .int .i64 1, clk⟩) (clk + 1)) mo hbb hg hm rfl rfl rfl hM (by intros; simp)
                ⟨_, rfl, by rw [Array.toList_push]; exact hr.append (by simp only [ERL]; exact ⟨_, _, rfl, cKey_VR, by simp only [VR], rfl, rfl⟩)⟩
              have hw' : w' = { w with heap := w.heap.setIfInBounds lm.blk (.map (M.push ⟨cKey x y ⟨(strOf n1 v1).toArray⟩, .int .i64 1, clk⟩) (clk + 1)) } := by
                rw [run_setObj hM (by intros; simp)] at k3
                cases k3
                rfl
              have hborn : ∀ e ∈ M.toList, e.born ≠ clk := by
                have := hr.all (p := fun e => !Nat.beq e.2.2 clk) (q := fun e => !Nat.beq e.born clk) fun k v b e he => by subst he; rfl
                rw [this] at hall
                intro e he hq
                have := List.all_eq_true.1 hall e he
                rw [hq, Nat.beq_refl] at this
                cases this
              refine (hc.new lb.blk (lb.d + o) _ x y lm.blk clk M w hxy hcw hM q1 hborn).mono ?_
              rintro e' w2 ⟨rfl, ha⟩
              exact ⟨_, rfl, ρ, Ext.refl _, by simp only [VR]; exact ⟨[], VRL.nil, rfl⟩, (show Mo _ _ _ _ from hw' ▸ k4).eqW ha⟩
            · exact (err_ok e4).elim
          · simp only [Nat.zero_add] at e4
            change Ok _ _ _ _ _ at e4
            split at e4
            · rename_i hall
              obtain ⟨_, n5, h5', l5, e5, e6⟩ := bind_ok e4
              obtain ⟨rfl, rfl, rfl, rfl⟩ := ret_ok e6
              obtain ⟨rfl, rfl, _, hbb⟩ := setB_ok e5
              obtain ⟨w', k3, k4⟩ := setObj_sound (P := P) (x := .mp (setAt (.agg [.int .i64 x, .int .i64 y, .str n1 v1, .int .i64 0], .int .i64 (IntKind.i64.wrap (q + 1)), born) es j) clk)
                (o' := .map (M.modify j fun e => { e with key := cKey x y ⟨(strOf n1 v1).toArray⟩, val := .int .i64 (IntKind.i64.wrap (q + 1)) }) clk) mo hbb hg hm rfl rfl rfl hM (by intros; simp)
                ⟨_, rfl, by rw [Array.toList_modify]; exact hr.setAt cKey_VR (by simp only [VR]) j q6⟩
              have hw' : w' = { w with heap := w.heap.setIfInBounds lm.blk (.map (M.modify j fun e => { e with key := cKey x y ⟨(strOf n1 v1).toArray⟩, val := .int .i64 (IntKind.i64.wrap (q + 1)) }) clk) } := by
                rw [run_setObj hM (by intros; simp)] at k3
                cases k3
                rfl
              have hborn : ∀ e ∈ M.toList.take j, e.born ≠ e0.born := by
                have := (hr.take j).all (p := fun e => !Nat.beq e.2.2 born) (q := fun e => !Nat.beq e.born born) fun k v b e he => by subst he; rfl
                rw [this] at hall
                intro e he hq
                have := List.all_eq_true.1 hall e he
                rw [hq, q5, Nat.beq_refl] at this
                cases this
              refine (hc.old lb.blk (lb.d + o) _ x y q lm.blk clk j e0 M w hxy hcw hM q2 q1 q3 q4 hborn).mono ?_
              rintro e' w2 ⟨rfl, ha⟩
              exact ⟨_, rfl, ρ, Ext.refl _, by simp only [VR]; exact ⟨[], VRL.nil, rfl⟩, (show Mo _ _ _ _ from hw' ▸ k4).eqW ha⟩
            · exact (err_ok e4).elim
      · exact (err_ok e2).elim
  · exact (err_ok e).elim
end
end Ev
end Go.Proofs.YtacjgphfcailmaaGreatDoor
