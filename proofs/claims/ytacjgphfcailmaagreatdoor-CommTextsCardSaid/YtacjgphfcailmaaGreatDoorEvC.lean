/-
  The small machine looks at no more than it says: what it does hangs on what it has looked at alone.
-/
import Derived.Test.YtacjgphfcailmaaGreatDoorEvB
namespace Go.Proofs.YtacjgphfcailmaaGreatDoor
namespace Ev
set_option linter.unusedVariables false

theorem bnd_eq {α β : Type} (m : M α) (f : α → M β) (n : Nat) (h : Heap) (l : Log) : M.bnd m f n h l = match m n h l with
  | .fail => .fail
  | .ok x n h l => f x n h l := by
  unfold M.bnd
  cases m n h l <;> rfl
theorem forceN_eq {α : Type} (k : Nat) (f : Nat → α) : forceN k f = f k := by
  cases k <;> rfl
theorem T.get_node {α : Type} (l r : T α) (v : Option α) (k : Nat) : (T.node l v r).get (k + 1) = if k % 2 = 0 then l.get (k / 2) else r.get (k / 2) := by
  show Nat.rec (motive := fun _ => Option α) (l.get (k / 2)) (fun _ _ => r.get (k / 2)) (k % 2) = _
  cases k % 2 with
  | zero => rfl
  | succ q => rfl
theorem T.get_zero {α : Type} (l r : T α) (v : Option α) : (T.node l v r).get 0 = v := rfl
theorem T.get_leaf {α : Type} (k : Nat) : (T.leaf : T α).get k = none := rfl
theorem T.set_leaf {α : Type} (x : α) (f k : Nat) : T.set x (f + 1) .leaf (k + 1) = if k % 2 = 0 then .node (T.set x f .leaf (k / 2)) none .leaf else .node .leaf none (T.set x f .leaf (k / 2)) := by
  show Nat.rec (motive := fun _ => T α) (.node (T.set x f .leaf (k / 2)) none .leaf) (fun _ _ => .node .leaf none (T.set x f .leaf (k / 2))) (k % 2) = _
  cases k % 2 with
  | zero => rfl
  | succ q => rfl
theorem T.set_node {α : Type} (x : α) (f k : Nat) (l r : T α) (v : Option α) : T.set x (f + 1) (.node l v r) (k + 1) = if k % 2 = 0 then .node (T.set x f l (k / 2)) v r else .node l v (T.set x f r (k / 2)) := by
  show Nat.rec (motive := fun _ => T α) (.node (T.set x f l (k / 2)) v r) (fun _ _ => .node l v (T.set x f r (k / 2))) (k % 2) = _
  cases k % 2 with
  | zero => rfl
  | succ q => rfl
theorem T.set_zero_leaf {α : Type} (x : α) (f : Nat) : T.set x (f + 1) .leaf 0 = .node .leaf (some x) .leaf := rfl
theorem T.set_zero_node {α : Type} (x : α) (f : Nat) (l r : T α) (v : Option α) : T.set x (f + 1) (.node l v r) 0 = .node l (some x) r := rfl
theorem T.get_set {α : Type} (x : α) : ∀ (f : Nat) (t : T α) (k k' : Nat), k + 1 < 2 ^ f → (T.set x f t k).get k' = if k' = k then some x else t.get k' := by
  intro f
  induction f with
  | zero => intro t k k' h; simp at h
  | succ f ih =>
    intro t k k' h
    have hk : ∀ q, k = q + 1 → q / 2 + 1 < 2 ^ f := by
      intro q hq
      rw [Nat.pow_succ] at h
      omega
    cases t with
    | leaf =>
      cases k with
      | zero =>
        cases k' with
        | zero => simp [T.set_zero_leaf, T.get_zero]
        | succ k' => simp only [T.set_zero_leaf, T.get_node, T.get_leaf]; simp
      | succ k =>
        have h1 := ih .leaf (k / 2)
        rw [T.set_leaf]
        cases k' with
        | zero => split <;> simp [T.get_zero, T.get_leaf]
        | succ k' =>
          by_cases e : k % 2 = 0
          · rw [if_pos e, T.get_node, h1 (k' / 2) (hk k rfl)]
            simp only [T.get_leaf]
            by_cases e' : k' % 2 = 0
            · rw [if_pos e']
              by_cases q : k' / 2 = k / 2
              · rw [if_pos q, if_pos (by omega)]
              · rw [if_neg q, if_neg (by omega)]
            · rw [if_neg e', if_neg (by omega)]
          · rw [if_neg e, T.get_node, h1 (k' / 2) (hk k rfl)]
            simp only [T.get_leaf]
            by_cases e' : k' % 2 = 0
            · rw [if_pos e', if_neg (by omega)]
            · rw [if_neg e']
              by_cases q : k' / 2 = k / 2
              · rw [if_pos q, if_pos (by omega)]
              · rw [if_neg q, if_neg (by omega)]
    | node l v r =>
      cases k with
      | zero =>
        cases k' with
        | zero => simp [T.set_zero_node, T.get_zero]
        | succ k' => simp only [T.set_zero_node, T.get_node]; simp
      | succ k =>
        rw [T.set_node]
        cases k' with
        | zero => split <;> simp [T.get_zero]
        | succ k' =>
          by_cases e : k % 2 = 0
          · rw [if_pos e, T.get_node, T.get_node, ih l (k / 2) (k' / 2) (hk k rfl)]
            by_cases e' : k' % 2 = 0
            · rw [if_pos e', if_pos e']
              by_cases q : k' / 2 = k / 2
              · rw [if_pos q, if_pos (by omega)]
              · rw [if_neg q, if_neg (by omega)]
            · rw [if_neg e', if_neg e', if_neg (by omega)]
          · rw [if_neg e, T.get_node, T.get_node, ih r (k / 2) (k' / 2) (hk k rfl)]
            by_cases e' : k' % 2 = 0
            · rw [if_pos e', if_pos e', if_neg (by omega)]
            · rw [if_neg e', if_neg e']
              by_cases q : k' / 2 = k / 2
              · rw [if_pos q, if_pos (by omega)]
              · rw [if_neg q, if_neg (by omega)]

/-- what a heap shows at a place: the form of a block (0), its cells (from 1 on) -/
inductive AX where
  | row (e s len : Nat) (opn ro : Bool)
  | cell (v : AV)
  | obj (b : AB)
def AB.view : AB → Nat → Option AX
  | .row e s cs opn ro, 0 => some (.row e s cs.length opn ro)
  | .row e s cs opn ro, o + 1 => (cs[o]?).map .cell
  | x, 0 => some (.obj x)
  | _, _ + 1 => none
noncomputable def view (h : Heap) (b j : Nat) : Option AX := (h.get b).bind (·.view j)

theorem AB.view_ext {x y : AB} (h : ∀ j, x.view j = y.view j) : x = y := by
  have h0 := h 0
  cases x <;> cases y <;> simp [AB.view] at h0
  case row.row e s cs opn ro e' s' cs' opn' ro' =>
    obtain ⟨rfl, rfl, hl, rfl, rfl⟩ := h0
    have : cs = cs' := by
      apply List.ext_getElem? 
      intro i
      have hi := h (i + 1)
      simp only [AB.view] at hi
      cases h1 : cs[i]? <;> cases h2 : cs'[i]? <;> simp [h1, h2] at hi ⊢
      exact hi
    rw [this]
  all_goals first | rfl | (obtain ⟨rfl, rfl, rfl, rfl, rfl, rfl, rfl⟩ := h0; rfl) | (obtain ⟨rfl, rfl, rfl⟩ := h0; rfl) | (obtain ⟨rfl, rfl⟩ := h0; rfl)
theorem view_ext {h h2 : Heap} {b : Nat} (hv : ∀ j, view h b j = view h2 b j) : h.get b = h2.get b := by
  unfold view at hv
  cases h1 : h.get b with
  | none =>
    cases h3 : h2.get b with
    | none => rfl
    | some y =>
      have := hv 0
      rw [h1, h3] at this
      cases y <;> simp [AB.view] at this
  | some x =>
    cases h3 : h2.get b with
    | none =>
      have := hv 0
      rw [h1, h3] at this
      cases x <;> simp [AB.view] at this
    | some y =>
      rw [h1, h3] at hv
      exact congrArg some (AB.view_ext hv)

/-- what has been looked at, and what has been written -/
def Touch (d : Log) (n n' b j : Nat) : Prop := (n ≤ b ∧ b < n') ∨ ∃ e ∈ d, e.2.1 = b ∧ (e.2.2 = 0 ∨ j = 0 ∨ e.2.2 = j + 1)
def Write (d : Log) (n n' b j : Nat) : Prop := (n ≤ b ∧ b < n') ∨ ∃ e ∈ d, e.1 = true ∧ e.2.1 = b ∧ (e.2.2 = 0 ∨ e.2.2 = j + 1)
theorem Write.touch {d : Log} {n n' b j : Nat} (h : Write d n n' b j) : Touch d n n' b j := by
  rcases h with h | ⟨e, he, _, hb, ho⟩
  · exact .inl h
  · exact .inr ⟨e, he, hb, ho.elim .inl (fun h => .inr (.inr h))⟩

def LocalAt {α : Type} (m : M α) (n : Nat) (h : Heap) (d : Log) (x : α) (n' : Nat) (h' : Heap) : Prop :=
  n ≤ n' ∧ (∀ b j, ¬ Write d n n' b j → view h' b j = view h b j) ∧
  ∀ h2 l2, (∀ b j, Touch d n n' b j → view h2 b j = view h b j) →
    ∃ h2', m n h2 l2 = .ok x n' h2' (d ++ l2) ∧ (∀ b j, Write d n n' b j → view h2' b j = view h' b j) ∧ (∀ b j, ¬ Write d n n' b j → view h2' b j = view h2 b j)
def Local {α : Type} (m : M α) : Prop :=
  ∀ n h l x n' h' l', m n h l = .ok x n' h' l' → ∃ d, l' = d ++ l ∧ LocalAt m n h d x n' h'

theorem Local.ret {α : Type} (x : α) : Local (M.ret x) := by
  intro n h l x' n' h' l' e
  simp only [M.ret, R.ok.injEq] at e
  obtain ⟨rfl, rfl, rfl, rfl⟩ := e
  refine ⟨[], rfl, Nat.le_refl _, fun b j _ => rfl, fun h2 l2 _ => ⟨h2, rfl, fun b j hw => ?_, fun b j _ => rfl⟩⟩
  rcases hw with ⟨h1, h2⟩ | ⟨e, he, _⟩
  · omega
  · cases he
theorem Local.err {α : Type} : Local (M.err (α := α)) := by
  intro n h l x n' h' l' e
  simp [M.err] at e
theorem Local.opt {α : Type} (x : Option α) : Local (M.opt x) := by
  cases x
  · exact Local.err
  · exact Local.ret _
theorem Local.bnd {α β : Type} {m : M α} {f : α → M β} (hm : Local m) (hf : ∀ x, Local (f x)) : Local (M.bnd m f) := by
  intro n h l y n2 h2 l2 e
  simp only [bnd_eq] at e
  cases e1 : m n h l with
  | fail => rw [e1] at e; simp at e
  | ok x n1 h1 l1 =>
    rw [e1] at e
    obtain ⟨d1, rfl, hn1, hk1, hr1⟩ := hm _ _ _ _ _ _ _ e1
    obtain ⟨d2, rfl, hn2, hk2, hr2⟩ := hf x _ _ _ _ _ _ _ e
    have w1 : ∀ b j, Write d1 n n1 b j → Write (d2 ++ d1) n n2 b j := by
      rintro b j (⟨a, c⟩ | ⟨g, hg, q⟩)
      · exact .inl ⟨a, by omega⟩
      · exact .inr ⟨g, List.mem_append.2 (.inr hg), q⟩
    have w2 : ∀ b j, Write d2 n1 n2 b j → Write (d2 ++ d1) n n2 b j := by
      rintro b j (⟨a, c⟩ | ⟨g, hg, q⟩)
      · exact .inl ⟨by omega, c⟩
      · exact .inr ⟨g, List.mem_append.2 (.inl hg), q⟩
    have w12 : ∀ b j, Write (d2 ++ d1) n n2 b j → Write d1 n n1 b j ∨ Write d2 n1 n2 b j := by
      rintro b j (⟨a, c⟩ | ⟨g, hg, q⟩)
      · by_cases hb : b < n1
        · exact .inl (.inl ⟨a, hb⟩)
        · exact .inr (.inl ⟨by omega, c⟩)
      · rcases List.mem_append.1 hg with hg | hg
        · exact .inr (.inr ⟨g, hg, q⟩)
        · exact .inl (.inr ⟨g, hg, q⟩)
    have t1 : ∀ b j, Touch d1 n n1 b j → Touch (d2 ++ d1) n n2 b j := by
      rintro b j (⟨a, c⟩ | ⟨g, hg, q⟩)
      · exact .inl ⟨a, by omega⟩
      · exact .inr ⟨g, List.mem_append.2 (.inr hg), q⟩
    have t2 : ∀ b j, Touch d2 n1 n2 b j → Touch (d2 ++ d1) n n2 b j := by
      rintro b j (⟨a, c⟩ | ⟨g, hg, q⟩)
      · exact .inl ⟨by omega, c⟩
      · exact .inr ⟨g, List.mem_append.2 (.inl hg), q⟩
    refine ⟨d2 ++ d1, by simp, by omega, fun b j hw => ?_, fun g l2 hg => ?_⟩
    · rw [hk2 b j (fun h => hw (w2 b j h)), hk1 b j (fun h => hw (w1 b j h))]
    · obtain ⟨g1, eg1, ga, gb⟩ := hr1 g l2 (fun b j ht => hg b j (t1 b j ht))
      obtain ⟨g2, eg2, gc, gd⟩ := hr2 g1 (d1 ++ l2) (fun b j ht => by
        by_cases hw : Write d1 n n1 b j
        · exact ga b j hw
        · rw [gb b j hw, hg b j (t2 b j ht), hk1 b j hw])
      refine ⟨g2, by simp only [bnd_eq, eg1, eg2, List.append_assoc], fun b j hw => ?_, fun b j hw => ?_⟩
      · by_cases h2 : Write d2 n1 n2 b j
        · exact gc b j h2
        · rw [gd b j h2, hk2 b j h2]
          exact ga b j ((w12 b j hw).resolve_right h2)
      · rw [gd b j (fun h => hw (w2 b j h)), gb b j (fun h => hw (w1 b j h))]

theorem logs_eq (w : Bool) (b : Nat) : ∀ (n o : Nat) (l : Log), logs w b o n l = logs w b o n [] ++ l := by
  intro n
  induction n with
  | zero => intro o l; rfl
  | succ n ih => intro o l; simp only [logs]; rw [ih (o + 1) l]; rfl
theorem mem_logs (w : Bool) (b : Nat) : ∀ (n o : Nat) (e : Bool × Nat × Nat), e ∈ logs w b o n [] ↔ e = (false, b, 1) ∨ ∃ i, i < n ∧ e = (w, b, o + i + 2) := by
  intro n
  induction n with
  | zero => intro o e; simp [logs]
  | succ n ih =>
    intro o e
    simp only [logs, List.mem_cons, ih (o + 1) e]
    constructor
    · rintro (rfl | rfl | ⟨i, hi, rfl⟩)
      · exact .inr ⟨0, by omega, rfl⟩
      · exact .inl rfl
      · exact .inr ⟨i + 1, by omega, by simp; omega⟩
    · rintro (rfl | ⟨i, hi, rfl⟩)
      · exact .inr (.inl rfl)
      · cases i with
        | zero => exact .inl rfl
        | succ i => exact .inr (.inr ⟨i, by omega, by simp; omega⟩)

/-- a step that only reads -/
theorem Local.of_read {α : Type} {m : M α} (hr : ∀ n h l x n' h' l', m n h l = .ok x n' h' l' → n' = n ∧ h' = h ∧ ∃ d, l' = d ++ l ∧ (∀ e ∈ d, e.1 = false) ∧
    ∀ h2 l2, (∀ b j, Touch d n n b j → view h2 b j = view h b j) → m n h2 l2 = .ok x n h2 (d ++ l2)) : Local m := by
  intro n h l x n' h' l' e
  obtain ⟨rfl, rfl, d, rfl, hd, h2⟩ := hr _ _ _ _ _ _ _ e
  have nw : ∀ b j, ¬ Write d n' n' b j := by
    rintro b j (⟨a, c⟩ | ⟨g, hg, q, _⟩)
    · omega
    · rw [hd g hg] at q; cases q
  exact ⟨d, rfl, Nat.le_refl _, fun b j _ => rfl, fun g l2 hg => ⟨g, h2 g l2 hg, fun b j hw => absurd hw (nw b j), fun b j _ => rfl⟩⟩

theorem view_row {h : Heap} {b e s : Nat} {cs : List AV} {opn ro : Bool} (hb : h.get b = some (.row e s cs opn ro)) : view h b 0 = some (.row e s cs.length opn ro) := by
  simp [view, hb, AB.view]
theorem view_cell {h : Heap} {b e s j : Nat} {cs : List AV} {opn ro : Bool} (hb : h.get b = some (.row e s cs opn ro)) : view h b (j + 1) = (cs[j]?).map .cell := by
  simp [view, hb, AB.view]
theorem row_of_view {h : Heap} {b e s len : Nat} {opn ro : Bool} (hv : view h b 0 = some (.row e s len opn ro)) : ∃ cs, h.get b = some (.row e s cs opn ro) ∧ cs.length = len := by
  unfold view at hv
  cases hb : h.get b with
  | none => rw [hb] at hv; simp at hv
  | some x =>
    rw [hb] at hv
    cases x <;> simp [AB.view] at hv
    case row e' s' cs opn' ro' =>
      obtain ⟨rfl, rfl, rfl, rfl, rfl⟩ := hv
      exact ⟨cs, rfl, rfl⟩
theorem take_drop_same {α : Type} {cs cs' : List α} {o n : Nat} (hl : cs.length = cs'.length) (h : ∀ i, i < n → cs[o + i]? = cs'[o + i]?) : (cs.drop o).take n = (cs'.drop o).take n := by
  apply List.ext_getElem?
  intro i
  by_cases hi : i < n
  · simp only [List.getElem?_take, hi, if_true, List.getElem?_drop]
    exact h i hi
  · simp only [List.getElem?_take, hi, if_false]

theorem Local.getR (b o n : Nat) : Local (getR b o n) := by
  refine .of_read fun k h l x k' h' l' e => ?_
  unfold Ev.getR at e
  split at e
  · rename_i e0 s0 cs opn ro hb
    split at e
    · rename_i hl
      simp only [R.ok.injEq] at e
      obtain ⟨rfl, rfl, rfl, rfl⟩ := e
      refine ⟨rfl, rfl, logs false b o n [], logs_eq _ _ _ _ _, fun g hg => ?_, fun h2 l2 hv => ?_⟩
      · rcases (mem_logs _ _ _ _ _).1 hg with rfl | ⟨i, _, rfl⟩ <;> rfl
      · have h0 := hv b 0 (.inr ⟨(false, b, 1), (mem_logs _ _ _ _ _).2 (.inl rfl), rfl, .inr (.inl rfl)⟩)
        rw [view_row hb] at h0
        obtain ⟨cs', hb', hl'⟩ := row_of_view h0
        have hs : (cs'.drop o).take n = (cs.drop o).take n := take_drop_same hl' fun i hi => by
          have := hv b (o + i + 1) (.inr ⟨(false, b, o + i + 2), (mem_logs _ _ _ _ _).2 (.inr ⟨i, hi, rfl⟩), rfl, .inr (.inr rfl)⟩)
          rw [view_cell hb, view_cell hb'] at this
          cases q1 : cs[o + i]? <;> cases q2 : cs'[o + i]? <;> simp [q1, q2] at this ⊢
          exact this
        unfold Ev.getR
        rw [hb']
        simp only [hs, hl]
        rw [logs_eq]
    · cases e
  · cases e
theorem Local.form (b : Nat) : Local (form b) := by
  refine .of_read fun k h l x k' h' l' e => ?_
  unfold Ev.form at e
  split at e
  · rename_i e0 s0 cs opn ro hb
    simp only [R.ok.injEq] at e
    obtain ⟨rfl, rfl, rfl, rfl⟩ := e
    refine ⟨rfl, rfl, [(false, b, 1)], rfl, by simp, fun h2 l2 hv => ?_⟩
    have h0 := hv b 0 (.inr ⟨(false, b, 1), by simp, rfl, .inr (.inl rfl)⟩)
    rw [view_row hb] at h0
    obtain ⟨cs', hb', hl'⟩ := row_of_view h0
    unfold Ev.form
    rw [hb']
    simp [hl']
  · cases e
theorem get_of_all {h h2 : Heap} {b n n' : Nat} {d : Log} {w : Bool} (hd : (w, b, 0) ∈ d) (hv : ∀ b j, Touch d n n' b j → view h2 b j = view h b j) : h2.get b = h.get b :=
  view_ext fun j => hv b j (.inr ⟨(w, b, 0), hd, rfl, .inl rfl⟩)
theorem Local.getB (b : Nat) : Local (getB b) := by
  refine .of_read fun k h l x k' h' l' e => ?_
  unfold Ev.getB at e
  split at e
  · rename_i x0 hb
    simp only [R.ok.injEq] at e
    obtain ⟨rfl, rfl, rfl, rfl⟩ := e
    refine ⟨rfl, rfl, [(false, b, 0)], rfl, by simp, fun h2 l2 hv => ?_⟩
    have hb' := (get_of_all (d := [(false, b, 0)]) (w := false) (by simp) hv).trans hb
    unfold Ev.getB
    rw [hb']
    simp
  · cases e
theorem get_set_of_get {h : Heap} {b : Nat} {x y : AB} (hb : b + 1 < 2 ^ 40) (b' : Nat) : (T.set x 40 h b).get b' = if b' = b then some x else h.get b' := T.get_set x 40 h b b' hb
theorem view_set {h : Heap} {b : Nat} {x : AB} (hb : b + 1 < 2 ^ 40) (b' j : Nat) : view (T.set x 40 h b) b' j = if b' = b then x.view j else view h b' j := by
  unfold view
  rw [get_set_of_get (y := x) hb]
  split
  · rfl
  · rfl
theorem small_of {b : Nat} (h : Nat.ble b 1000000000 = true) : b + 1 < 2 ^ 40 := by
  have := Nat.le_of_ble_eq_true h
  omega
theorem Local.setB (b : Nat) (x : AB) : Local (setB b x) := by
  intro n h l y n' h' l' e
  unfold Ev.setB at e
  split at e
  · rename_i x0 hb
    split at e
    · rename_i hs
      have hs' := small_of hs
      simp only [R.ok.injEq] at e
      obtain ⟨_, rfl, rfl, rfl⟩ := e
      refine ⟨[(true, b, 0)], rfl, Nat.le_refl _, fun b' j hw => ?_, fun h2 l2 hv => ?_⟩
      · rw [view_set hs', if_neg]
        rintro rfl
        exact hw (.inr ⟨_, List.mem_singleton.2 rfl, rfl, rfl, .inl rfl⟩)
      · have hb' := (get_of_all (d := [(true, b, 0)]) (w := true) (by simp) hv).trans hb
        refine ⟨T.set x 40 h2 b, by unfold Ev.setB; rw [hb']; simp [hs], fun b' j hw => ?_, fun b' j hw => ?_⟩
        · rcases hw with ⟨a, c⟩ | ⟨g, hg, _, rfl, _⟩
          · omega
          · obtain rfl := List.mem_singleton.1 hg
            rw [view_set hs', view_set hs', if_pos rfl, if_pos rfl]
        · rw [view_set hs', if_neg]
          rintro rfl
          exact hw (.inr ⟨_, List.mem_singleton.2 rfl, rfl, rfl, .inl rfl⟩)
    · cases e
  · cases e
theorem set_view {cs vs : List AV} {o : Nat} (hl : o + vs.length ≤ cs.length) (j : Nat) : (cs.take o ++ (vs ++ cs.drop (o + vs.length)))[j]? = if o ≤ j ∧ j < o + vs.length then vs[j - o]? else cs[j]? := by
  have h1 : (cs.take o).length = o := by simp; omega
  by_cases ha : j < o
  · rw [List.getElem?_append_left (by omega), if_neg (by omega), List.getElem?_take, if_pos ha]
  · rw [List.getElem?_append_right (by omega), h1]
    by_cases hb : j < o + vs.length
    · rw [List.getElem?_append_left (by omega), if_pos ⟨by omega, hb⟩]
    · rw [List.getElem?_append_right (by omega), if_neg (by omega), List.getElem?_drop]
      congr 1
      omega
theorem set_length {cs vs : List AV} {o : Nat} (hl : o + vs.length ≤ cs.length) : (cs.take o ++ (vs ++ cs.drop (o + vs.length))).length = cs.length := by
  simp
  omega
theorem Local.setR (b o : Nat) (vs : List AV) : Local (setR b o vs) := by
  intro n h l y n' h' l' e
  unfold Ev.setR at e
  split at e
  · rename_i e0 s0 cs opn hb
    split at e
    · rename_i hs
      obtain ⟨hs1, hs2⟩ := (Bool.and_eq_true _ _).mp hs
      have hs' := small_of hs2
      have hl := Nat.le_of_ble_eq_true hs1
      simp only [R.ok.injEq] at e
      obtain ⟨_, rfl, rfl, rfl⟩ := e
      have vv : ∀ {g : Heap} {cs0 : List AV}, cs0.length = cs.length → g.get b = some (.row e0 s0 cs0 opn false) → ∀ b' j, view (T.set (.row e0 s0 (cs0.take o ++ (vs ++ cs0.drop (o + vs.length))) opn false) 40 g b) b' j =
          if b' = b ∧ o + 1 ≤ j ∧ j < o + vs.length + 1 then (vs[j - 1 - o]?).map .cell else view g b' j := by
        intro g cs0 hc hg b' j
        rw [view_set hs']
        by_cases e1 : b' = b
        · subst e1
          rw [if_pos rfl]
          cases j with
          | zero => rw [if_neg (by omega), view_row hg]; simp only [AB.view]; rw [set_length (by omega)]
          | succ j =>
            simp only [AB.view]
            rw [set_view (by omega)]
            by_cases q : o ≤ j ∧ j < o + vs.length
            · rw [if_pos q, if_pos (by simp; omega)]
              rfl
            · rw [if_neg q, if_neg (by omega), view_cell hg]
        · rw [if_neg e1, if_neg (fun q => e1 q.1)]
      have ww : ∀ b' j, Write (logs true b o vs.length []) n n b' j ↔ (b' = b ∧ o + 1 ≤ j ∧ j < o + vs.length + 1) := by
        intro b' j
        constructor
        · rintro (⟨a, c⟩ | ⟨g, hg, hw, rfl, ho⟩)
          · omega
          · rcases (mem_logs _ _ _ _ _).1 hg with rfl | ⟨i, hi, rfl⟩
            · cases hw
            · simp at ho ⊢
              omega
        · rintro ⟨rfl, h1, h2⟩
          exact .inr ⟨(true, b', o + (j - 1 - o) + 2), (mem_logs _ _ _ _ _).2 (.inr ⟨j - 1 - o, by omega, rfl⟩), rfl, rfl, .inr (by simp; omega)⟩
      refine ⟨logs true b o vs.length [], logs_eq _ _ _ _ _, Nat.le_refl _, fun b' j hw => ?_, fun h2 l2 hv => ?_⟩
      · rw [vv rfl hb, if_neg (fun q => hw ((ww b' j).2 q))]
      · have h0 := hv b 0 (.inr ⟨(false, b, 1), (mem_logs _ _ _ _ _).2 (.inl rfl), rfl, .inr (.inl rfl)⟩)
        rw [view_row hb] at h0
        obtain ⟨cs', hb', hl'⟩ := row_of_view h0
        refine ⟨_, by unfold Ev.setR; rw [hb']; simp only [hl', hs]; rw [logs_eq], fun b' j hw => ?_, fun b' j hw => ?_⟩
        · rw [vv hl' hb', vv rfl hb, if_pos ((ww b' j).1 hw), if_pos ((ww b' j).1 hw)]
        · rw [vv hl' hb', if_neg (fun q => hw ((ww b' j).2 q))]
    · cases e
  · cases e
theorem Local.alloc (x : AB) : Local (alloc x) := by
  intro n h l y n' h' l' e
  unfold Ev.alloc at e
  split at e
  · rename_i hs
    have hs' := small_of hs
    split at e
    · rename_i hb
      simp only [R.ok.injEq] at e
      obtain ⟨rfl, rfl, rfl, rfl⟩ := e
      refine ⟨[], rfl, Nat.le_succ _, fun b j hw => ?_, fun h2 l2 hv => ?_⟩
      · rw [view_set hs', if_neg]
        rintro rfl
        exact hw (.inl ⟨Nat.le_refl _, Nat.lt_succ_self _⟩)
      · have hb' : h2.get n = none := (view_ext fun j => hv n j (.inl ⟨Nat.le_refl _, Nat.lt_succ_self _⟩)).trans hb
        refine ⟨T.set x 40 h2 n, by unfold Ev.alloc; simp [hs, hb'], fun b j hw => ?_, fun b j hw => ?_⟩
        · rcases hw with ⟨a, c⟩ | ⟨g, hg, _⟩
          · obtain rfl : b = n := by omega
            rw [view_set hs', view_set hs', if_pos rfl, if_pos rfl]
          · cases hg
        · rw [view_set hs', if_neg]
          rintro rfl
          exact hw (.inl ⟨Nat.le_refl _, Nat.lt_succ_self _⟩)
    · cases e
  · cases e
theorem Local.traced {α : Type} {m : M α} (hm : Local m) : Local (traced m) := by
  intro n h l y n' h' l' e
  unfold Ev.traced at e
  cases e1 : m n h [] with
  | fail => rw [e1] at e; cases e
  | ok x n1 h1 l1 =>
    rw [e1] at e
    simp only [R.ok.injEq] at e
    obtain ⟨rfl, rfl, rfl, rfl⟩ := e
    obtain ⟨d, hd, hn, hk, hr⟩ := hm _ _ _ _ _ _ _ e1
    obtain rfl : l1 = d := by simpa using hd
    refine ⟨l1, rfl, hn, hk, fun h2 l2 hv => ?_⟩
    obtain ⟨g, eg, ga, gb⟩ := hr h2 [] hv
    exact ⟨g, by unfold Ev.traced; rw [eg]; simp, ga, gb⟩
theorem oldD_touch (n n' : Nat) : ∀ (d : Log) (b j : Nat), Touch (oldD n n' d) n n' b j ↔ Touch d n n' b j := by
  intro d
  induction d with
  | nil => intro b j; rfl
  | cons e d ih =>
    obtain ⟨w, c, o⟩ := e
    intro b j
    have key : Touch ((w, c, o) :: d) n n' b j ↔ (c = b ∧ (o = 0 ∨ j = 0 ∨ o = j + 1)) ∨ Touch d n n' b j := by
      constructor
      · rintro (h | ⟨g, hg, q⟩)
        · exact .inr (.inl h)
        · rcases List.mem_cons.1 hg with rfl | hg
          · exact .inl q
          · exact .inr (.inr ⟨g, hg, q⟩)
      · rintro (q | h | ⟨g, hg, q⟩)
        · exact .inr ⟨_, List.mem_cons_self, q⟩
        · exact .inl h
        · exact .inr ⟨g, List.mem_cons_of_mem _ hg, q⟩
    simp only [oldD]
    split
    · rename_i hc
      rw [ih, key]
      simp only [Bool.and_eq_true, Nat.ble_eq, Nat.blt_eq] at hc
      exact ⟨.inr, fun h => h.elim (fun q => .inl (q.1 ▸ hc)) id⟩
    · split
      · rename_i hc
        rw [ih, key]
        obtain ⟨g, hg, q⟩ := List.any_eq_true.1 hc
        simp only [Bool.and_eq_true, Nat.beq_eq] at q
        refine ⟨.inr, fun h => h.elim (fun p => (ih b j).1 (.inr ⟨g, hg, q.1.2.trans p.1, ?_⟩)) id⟩
        rw [q.2]; exact p.2
      · rw [key, ← ih]
        constructor
        · rintro (h | ⟨g, hg, q⟩)
          · exact .inr (.inl h)
          · rcases List.mem_cons.1 hg with rfl | hg
            · exact .inl q
            · exact .inr (.inr ⟨g, hg, q⟩)
        · rintro (q | h | ⟨g, hg, q⟩)
          · exact .inr ⟨_, List.mem_cons_self, q⟩
          · exact .inl h
          · exact .inr ⟨g, List.mem_cons_of_mem _ hg, q⟩
theorem oldD_write (n n' : Nat) : ∀ (d : Log) (b j : Nat), Write (oldD n n' d) n n' b j ↔ Write d n n' b j := by
  intro d
  induction d with
  | nil => intro b j; rfl
  | cons e d ih =>
    obtain ⟨w, c, o⟩ := e
    intro b j
    have key : ∀ d, Write ((w, c, o) :: d) n n' b j ↔ (w = true ∧ c = b ∧ (o = 0 ∨ o = j + 1)) ∨ Write d n n' b j := by
      intro d
      constructor
      · rintro (h | ⟨g, hg, q⟩)
        · exact .inr (.inl h)
        · rcases List.mem_cons.1 hg with rfl | hg
          · exact .inl q
          · exact .inr (.inr ⟨g, hg, q⟩)
      · rintro (q | h | ⟨g, hg, q⟩)
        · exact .inr ⟨_, List.mem_cons_self, q⟩
        · exact .inl h
        · exact .inr ⟨g, List.mem_cons_of_mem _ hg, q⟩
    simp only [oldD]
    split
    · rename_i hc
      rw [ih, key]
      simp only [Bool.and_eq_true, Nat.ble_eq, Nat.blt_eq] at hc
      exact ⟨.inr, fun h => h.elim (fun q => .inl (q.2.1 ▸ hc)) id⟩
    · split
      · rename_i hc
        rw [ih, key]
        obtain ⟨g, hg, q⟩ := List.any_eq_true.1 hc
        simp only [Bool.and_eq_true, Nat.beq_eq, Bool.or_eq_true, Bool.not_eq_true'] at q
        refine ⟨.inr, fun h => h.elim (fun p => (ih b j).1 (.inr ⟨g, hg, q.1.1.resolve_left (by rw [p.1]; simp), q.1.2.trans p.2.1, ?_⟩)) id⟩
        rw [q.2]; exact p.2.2
      · rw [key, key, ih]
theorem Local.inner {α : Type} {m : M α} (hm : Local m) : Local (inner m) := by
  intro n h l y n' h' l' e
  unfold Ev.inner at e
  cases e1 : m n h [] with
  | fail => rw [e1] at e; cases e
  | ok x n1 h1 l1 =>
    rw [e1] at e
    simp only [R.ok.injEq] at e
    obtain ⟨rfl, rfl, rfl, rfl⟩ := e
    obtain ⟨d, hd, hn, hk, hr⟩ := hm _ _ _ _ _ _ _ e1
    obtain rfl : l1 = d := by simpa using hd
    refine ⟨oldD n n1 l1, rfl, hn, fun b j hw => hk b j (fun q => hw ((oldD_write _ _ _ _ _).2 q)), fun h2 l2 hv => ?_⟩
    obtain ⟨g, eg, ga, gb⟩ := hr h2 [] (fun b j ht => hv b j ((oldD_touch _ _ _ _ _).2 ht))
    exact ⟨g, by unfold Ev.inner; rw [eg]; simp, fun b j hw => ga b j ((oldD_write _ _ _ _ _).1 hw), fun b j hw => gb b j (fun q => hw ((oldD_write _ _ _ _ _).2 q))⟩

section
variable (P : Program)
open M
theorem Local.test (b : Bool) : Local (M.test b) := by
  cases b
  · exact Local.err
  · exact Local.ret _
theorem Local.loadA (t b o : Nat) : Local (loadA P t b o) := by
  unfold Ev.loadA
  repeat' (first | exact Local.err | exact Local.ret _ | exact Local.getR _ _ _ | refine Local.bnd ?_ (fun _ => ?_) | split)
theorem Local.storeA (t b o : Nat) (v : AV) : Local (storeA P t b o v) := by
  unfold Ev.storeA
  repeat' (first | exact Local.err | exact Local.ret _ | exact Local.setR _ _ _ | refine Local.bnd ?_ (fun _ => ?_) | split)
theorem Local.newA (t : Nat) (cs : List AV) (opn : Bool) : Local (newA P t cs opn) := by
  unfold Ev.newA
  repeat' (first | exact Local.err | exact Local.alloc _ | split)
theorem Local.buildSliceA (t len : Nat) (parts : List (Nat × AV)) : Local (buildSliceA P t len parts) := by
  unfold Ev.buildSliceA
  repeat' (first | exact Local.err | exact Local.ret _ | exact Local.newA _ _ _ _ | refine Local.bnd ?_ (fun _ => ?_) | split)
theorem Local.binA (op : BinOp) (t : Nat) (x y : AV) : Local (binA P op t x y) := by
  unfold Ev.binA
  repeat' (first | exact Local.err | exact Local.ret _ | exact Local.opt _ | (unfold Ev.equalM) | exact Local.form _ | refine Local.bnd ?_ (fun _ => ?_) | split)
theorem Local.convA (s d : Nat) (x : AV) : Local (convA P s d x) := by
  unfold Ev.convA
  repeat' (first | exact Local.err | exact Local.ret _ | split)
theorem Local.makeSliceA (t : Nat) (l c : AV) : Local (makeSliceA P t l c) := by
  unfold Ev.makeSliceA
  repeat' (first | exact Local.err | exact Local.ret _ | exact Local.newA _ _ _ _ | refine Local.bnd ?_ (fun _ => ?_) | split)
theorem Local.firstA (size n : Nat) (x : AV) : Local (firstA size n x) := by
  unfold Ev.firstA
  repeat' (first | exact Local.err | exact Local.ret _ | exact Local.getR _ _ _ | split)
theorem Local.growA (e size n : Nat) (new : List AV) (b o len : Nat) (opn : Bool) (c : Nat) : Local (growA P e size n new b o len opn c) := by
  unfold Ev.growA
  repeat' (first | exact Local.err | exact Local.ret _ | exact Local.newA _ _ _ _ | exact Local.setR _ _ _ | exact Local.setB _ _ | exact Local.form _ | exact Local.firstA _ _ _ | refine Local.bnd ?_ (fun _ => ?_) | split)
theorem Local.appendA (ts : List Nat) (args : List AV) : Local (appendA P ts args) := by
  unfold Ev.appendA
  repeat' (first | exact Local.err | exact Local.ret _ | exact Local.newA _ _ _ _ | exact Local.growA _ _ _ _ _ _ _ _ _ _ | exact Local.firstA _ _ _ | refine Local.bnd ?_ (fun _ => ?_) | split)
theorem Local.copyA (ts : List Nat) (args : List AV) : Local (copyA P ts args) := by
  unfold Ev.copyA
  repeat' (first | exact Local.err | exact Local.ret _ | exact Local.setR _ _ _ | exact Local.firstA _ _ _ | refine Local.bnd ?_ (fun _ => ?_) | split)
theorem Local.lenOp (ts : List Nat) (args : List AV) : Local (lenOp P ts args) := by
  unfold Ev.lenOp
  repeat' (first | exact Local.err | exact Local.ret _ | exact Local.getB _ | refine Local.bnd ?_ (fun _ => ?_) | split)
theorem Local.capOp (ts : List Nat) (args : List AV) : Local (capOp P ts args) := by
  unfold Ev.capOp
  repeat' (first | exact Local.err | exact Local.ret _ | split)
theorem Local.entriesA (x : AV) : Local (entriesA x) := by
  unfold Ev.entriesA
  repeat' (first | exact Local.err | exact Local.ret _ | exact Local.getB _ | refine Local.bnd ?_ (fun _ => ?_) | split)
theorem Local.lookupA (t : Nat) (x k : AV) (ok : Bool) : Local (lookupA P t x k ok) := by
  unfold Ev.lookupA
  repeat' (first | exact Local.err | exact Local.ret _ | exact Local.entriesA _ | refine Local.bnd ?_ (fun _ => ?_) | split)
theorem Local.updateA (t : Nat) (m k v : AV) : Local (updateA P t m k v) := by
  unfold Ev.updateA
  repeat' (first | exact Local.err | exact Local.ret _ | exact Local.getB _ | exact Local.setB _ _ | refine Local.bnd ?_ (fun _ => ?_) | split)
theorem Local.countA (f : Nat) (args : List AV) : Local (countA P f args) := by
  unfold Ev.countA
  repeat' (first | exact Local.err | exact Local.ret _ | exact Local.getB _ | exact Local.getR _ _ _ | exact Local.setB _ _ | refine Local.bnd ?_ (fun _ => ?_) | split)
theorem Local.orcM {f : Nat} {args : List AV} {act : M AV} (h : orcM P f args = some act) : Local act := by
  unfold Ev.orcM at h
  split at h
  · split at h
    · cases h; exact Local.countA P f args
    · cases h
  · cases h
theorem Local.rangeMapA (t : Nat) (x : AV) : Local (rangeMapA P t x) := by
  unfold Ev.rangeMapA
  repeat' (first | exact Local.err | exact Local.ret _ | exact Local.getB _ | exact Local.alloc _ | refine Local.bnd ?_ (fun _ => ?_) | split)
theorem Local.nextA (x : AV) : Local (nextA x) := by
  unfold Ev.nextA
  repeat' (first | exact Local.err | exact Local.ret _ | exact Local.getB _ | exact Local.setB _ _ | refine Local.bnd ?_ (fun _ => ?_) | split)
theorem Local.entryA (x : AV) : Local (entryA x) := by
  unfold Ev.entryA
  repeat' (first | exact Local.err | exact Local.ret _ | exact Local.getB _ | refine Local.bnd ?_ (fun _ => ?_) | split)
theorem Local.sliceM (t : Nat) (x : AV) (lo hi mx : Option AV) : Local (sliceM P t x lo hi mx) := by
  unfold Ev.sliceM Ev.sliceX
  repeat' (first | exact Local.err | exact Local.ret _ | exact Local.form _ | refine Local.bnd ?_ (fun _ => ?_) | split)
theorem Local.deleteA (ts : List Nat) (args : List AV) : Local (deleteA P ts args) := by
  unfold Ev.deleteA
  repeat' (first | exact Local.err | exact Local.ret _ | exact Local.getB _ | exact Local.setB _ _ | refine Local.bnd ?_ (fun _ => ?_) | split)
theorem Local.clearA (ts : List Nat) (args : List AV) : Local (clearA P ts args) := by
  unfold Ev.clearA
  repeat' (first | exact Local.err | exact Local.ret _ | exact Local.setR _ _ _ | refine Local.bnd ?_ (fun _ => ?_) | split)
theorem Local.builtinA (b : Builtin) (ts : List Nat) (args : List AV) : Local (builtinA P b ts args) := by
  unfold Ev.builtinA
  split <;> first | exact Local.appendA _ _ _ | exact Local.lenOp _ _ _ | exact Local.capOp _ _ _ | exact Local.copyA _ _ _ | exact Local.deleteA _ _ _ | exact Local.clearA _ _ _ | exact Local.opt _ | exact Local.err
theorem Local.resultA (tm : Tm) : ∀ l, Local (resultA P tm l)
  | [] => Local.ret _
  | .tmp t :: l => Local.bnd (Local.resultA tm l) fun _ => Local.ret _
  | .cell a t :: l => by
    unfold Ev.resultA
    split
    · exact Local.bnd (Local.loadA _ _ _ _) fun _ => Local.bnd (Local.resultA tm l) fun _ => Local.ret _
    · exact Local.err
theorem Local.endA : ∀ ds, Local (endA ds)
  | [] => Local.ret _
  | d :: ds => by
    unfold Ev.endA
    refine Local.bnd (Local.getB _) fun x => ?_
    split
    · exact Local.bnd (Local.setB _ _) fun _ => Local.endA ds
    · exact Local.err
section
variable (P : Program) (rec : Rec) (ev : Operand → Option AV)
theorem evOp_move (p0 : _) : evOp P rec ev (.move p0) = op_move rec ev p0 := rfl
theorem evOp_assign (p0 : _) : evOp P rec ev (.assign p0) = op_assign rec ev p0 := rfl
theorem evOp_pick (p0 : _) (p1 : _) (p2 : _) : evOp P rec ev (.pick p0 p1 p2) = op_pick rec ev p0 p1 p2 := rfl
theorem evOp_alloc (p0 : _) : evOp P rec ev (.alloc p0) = op_alloc P rec ev p0 := rfl
theorem evOp_box (p0 : _) (p1 : _) : evOp P rec ev (.box p0 p1) = op_box P rec ev p0 p1 := rfl
theorem evOp_build (p0 : _) (p1 : _) : evOp P rec ev (.build p0 p1) = op_build P rec ev p0 p1 := rfl
theorem evOp_buildSlice (p0 : _) (p1 : _) (p2 : _) : evOp P rec ev (.buildSlice p0 p1 p2) = op_buildSlice P rec ev p0 p1 p2 := rfl
theorem evOp_insert (p0 : _) (p1 : _) (p2 : _) (p3 : _) : evOp P rec ev (.insert p0 p1 p2 p3) = op_insert P rec ev p0 p1 p2 p3 := rfl
theorem evOp_load (p0 : _) (p1 : _) : evOp P rec ev (.load p0 p1) = op_load P rec ev p0 p1 := rfl
theorem evOp_store (p0 : _) (p1 : _) (p2 : _) : evOp P rec ev (.store p0 p1 p2) = op_store P rec ev p0 p1 p2 := rfl
theorem evOp_ready (p0 : _) : evOp P rec ev (.ready p0) = M.err := rfl
theorem evOp_waits (p0 : _) : evOp P rec ev (.waits p0) = M.err := rfl
theorem evOp_nilCheck (p0 : _) : evOp P rec ev (.nilCheck p0) = op_nilCheck rec ev p0 := rfl
theorem evOp_binOp (p0 : _) (p1 : _) (p2 : _) (p3 : _) (p4 : _) : evOp P rec ev (.binOp p0 p1 p2 p3 p4) = op_binOp P rec ev p0 p1 p2 p3 p4 := rfl
theorem evOp_unOp (p0 : _) (p1 : _) (p2 : _) : evOp P rec ev (.unOp p0 p1 p2) = op_unOp rec ev p0 p1 p2 := rfl
theorem evOp_convert (p0 : _) (p1 : _) (p2 : _) : evOp P rec ev (.convert p0 p1 p2) = op_convert P rec ev p0 p1 p2 := rfl
theorem evOp_sliceToArrayPointer (p0 : _) (p1 : _) : evOp P rec ev (.sliceToArrayPointer p0 p1) = M.err := rfl
theorem evOp_makeInterface (p0 : _) (p1 : _) : evOp P rec ev (.makeInterface p0 p1) = op_makeInterface P rec ev p0 p1 := rfl
theorem evOp_makeFunc (p0 : _) (p1 : _) (p2 : _) : evOp P rec ev (.makeFunc p0 p1 p2) = op_makeFunc rec ev p0 p1 p2 := rfl
theorem evOp_makeMap (p0 : _) (p1 : _) : evOp P rec ev (.makeMap p0 p1) = op_makeMap P rec ev p0 p1 := rfl
theorem evOp_makeChan (p0 : _) (p1 : _) : evOp P rec ev (.makeChan p0 p1) = M.err := rfl
theorem evOp_makeSlice (p0 : _) (p1 : _) (p2 : _) : evOp P rec ev (.makeSlice p0 p1 p2) = op_makeSlice P rec ev p0 p1 p2 := rfl
theorem evOp_slice (p0 : _) (p1 : _) (p2 : _) (p3 : _) (p4 : _) : evOp P rec ev (.slice p0 p1 p2 p3 p4) = op_slice P rec ev p0 p1 p2 p3 p4 := rfl
theorem evOp_fieldAddr (p0 : _) (p1 : _) (p2 : _) : evOp P rec ev (.fieldAddr p0 p1 p2) = op_fieldAddr P rec ev p0 p1 p2 := rfl
theorem evOp_field (p0 : _) (p1 : _) (p2 : _) : evOp P rec ev (.field p0 p1 p2) = op_field P rec ev p0 p1 p2 := rfl
theorem evOp_indexAddr (p0 : _) (p1 : _) (p2 : _) : evOp P rec ev (.indexAddr p0 p1 p2) = op_indexAddr P rec ev p0 p1 p2 := rfl
theorem evOp_index (p0 : _) (p1 : _) (p2 : _) : evOp P rec ev (.index p0 p1 p2) = op_index P rec ev p0 p1 p2 := rfl
theorem evOp_lookup (p0 : _) (p1 : _) (p2 : _) (p3 : _) : evOp P rec ev (.lookup p0 p1 p2 p3) = op_lookup P rec ev p0 p1 p2 p3 := rfl
theorem evOp_mapUpdate (p0 : _) (p1 : _) (p2 : _) (p3 : _) : evOp P rec ev (.mapUpdate p0 p1 p2 p3) = op_mapUpdate P rec ev p0 p1 p2 p3 := rfl
theorem evOp_mapEntry (p0 : _) (p1 : _) (p2 : _) : evOp P rec ev (.mapEntry p0 p1 p2) = M.err := rfl
theorem evOp_entryStore (p0 : _) (p1 : _) (p2 : _) (p3 : _) : evOp P rec ev (.entryStore p0 p1 p2 p3) = M.err := rfl
theorem evOp_range (p0 : _) (p1 : _) : evOp P rec ev (.range p0 p1) = op_range P rec ev p0 p1 := rfl
theorem evOp_next (p0 : _) (p1 : _) : evOp P rec ev (.next p0 p1) = op_next rec ev p0 p1 := rfl
theorem evOp_entry (p0 : _) : evOp P rec ev (.entry p0) = op_entry rec ev p0 := rfl
theorem evOp_typeAssert (p0 : _) (p1 : _) (p2 : _) (p3 : _) : evOp P rec ev (.typeAssert p0 p1 p2 p3) = M.err := rfl
theorem evOp_extract (p0 : _) (p1 : _) : evOp P rec ev (.extract p0 p1) = op_extract rec ev p0 p1 := rfl
theorem evOp_call (p0 : _) : evOp P rec ev (.call p0) = op_call P rec ev p0 := rfl
theorem evOp_go (p0 : _) : evOp P rec ev (.go p0) = M.err := rfl
theorem evOp_defer (p0 : _) : evOp P rec ev (.defer p0) = M.err := rfl
theorem evOp_panic (p0 : _) : evOp P rec ev (.panic p0) = M.err := rfl
theorem evOp_send (p0 : _) (p1 : _) : evOp P rec ev (.send p0 p1) = M.err := rfl
theorem evOp_recv (p0 : _) (p1 : _) (p2 : _) : evOp P rec ev (.recv p0 p1 p2) = M.err := rfl
theorem evOp_select (p0 : _) (p1 : _) : evOp P rec ev (.select p0 p1) = M.err := rfl
end
section
variable (P : Program) (f : Nat) (r : Bool) (tm : Tm) (ds : List Nat)
theorem evC_zero (c : Code) : evC P 0 r c tm ds = M.err := rfl
theorem evC_skip : evC P (f + 1) r .skip tm ds = M.ret (.normal, tm, ds) := rfl
theorem evC_region (id : Nat) (ops : Array Oper) (dr : Bool) : evC P (f + 1) r (.region id ops dr) tm ds = c_region P (evC P f) ops dr tm ds := rfl
theorem evC_seq (a b : Code) : evC P (f + 1) r (.seq a b) tm ds = c_seq (evC P f) r a b tm ds := rfl
theorem evC_cond (x : Operand) (a b : Code) : evC P (f + 1) r (.cond x a b) tm ds = c_cond (evC P f) r x a b tm ds := rfl
theorem evC_block (id : Nat) (c : Code) : evC P (f + 1) r (.block id c) tm ds = c_block (evC P f) r id c tm ds := rfl
theorem evC_loop (c : Code) : evC P (f + 1) r (.loop c) tm ds = M.bnd (evC P f r c tm ds) (k_seq (evC P f) r (.loop c)) := rfl
theorem evC_rangeFunc (g : Operand) (ps : Array Nat) (asg body : Code) : evC P (f + 1) r (.rangeFunc g ps asg body) tm ds = c_rf P (evC P f) r g ps asg body tm ds := rfl
theorem evC_exit (id : Nat) : evC P (f + 1) r (.exit id) tm ds = M.ret (.exit id, tm, ds) := rfl
theorem evC_scope (c : Code) : evC P (f + 1) r (.scope c) tm ds = evC P f r c tm ds := rfl
theorem evC_label (l : Nat) : evC P (f + 1) r (.label l) tm ds = M.ret (.normal, tm, ds) := rfl
theorem evC_goto (l : Nat) : evC P (f + 1) r (.goto l) tm ds = M.err := rfl
theorem evC_ret : evC P (f + 1) r .ret tm ds = M.ret (.ret, tm, ds) := rfl
theorem evC_refuse (y : String) : evC P (f + 1) r (.refuse y) tm ds = M.err := rfl
end
section
variable {P} {rec : Rec}
theorem opsA_nil (ops : Array Oper) (tm : Tm) : opsA P rec ops [] tm = M.ret tm := rfl
theorem opsA_cons (ops : Array Oper) (o : Oper) (l : List Oper) (tm : Tm) : opsA P rec ops (o :: l) tm = M.bnd (stepA P rec ops o tm) fun tm => opsA P rec ops l tm := rfl
end
variable {P} {rec : Rec} (hrec : ∀ r c tm ds, Local (rec r c tm ds))
include hrec
theorem Local.yieldA (b : Nat) (args : List AV) : Local (yieldA rec b args) := by
  unfold Ev.yieldA
  repeat' (first | exact Local.err | exact Local.ret _ | exact Local.getB _ | exact Local.setB _ _ | exact hrec _ _ _ _ | refine Local.bnd ?_ (fun _ => ?_) | split)
theorem Local.callA (f : Nat) (args : List AV) : Local (callA P rec f args) := by
  unfold Ev.callA
  split
  · rw [forceN_eq]
    split
    case h_2 => exact Local.err
    refine Local.inner (Local.bnd (hrec _ _ _ _) fun x => ?_)
    repeat' (first | exact Local.err | exact Local.ret _ | exact Local.resultA _ _ _ | exact Local.endA _ | refine Local.bnd ?_ (fun _ => ?_) | split)
  · exact Local.err
theorem Local.evOp (ev : Operand → Option AV) (o : Op) : Local (evOp P rec ev o) := by
  cases o <;> simp only [evOp_move, evOp_assign, evOp_pick, evOp_alloc, evOp_box, evOp_build, evOp_buildSlice, evOp_insert, evOp_load, evOp_store, evOp_ready, evOp_waits, evOp_nilCheck, evOp_binOp, evOp_unOp, evOp_convert, evOp_sliceToArrayPointer, evOp_makeInterface, evOp_makeFunc, evOp_makeMap, evOp_makeChan, evOp_makeSlice, evOp_slice, evOp_fieldAddr, evOp_field, evOp_indexAddr, evOp_index, evOp_lookup, evOp_mapUpdate, evOp_mapEntry, evOp_entryStore, evOp_range, evOp_next, evOp_entry, evOp_typeAssert, evOp_extract, evOp_call, evOp_go, evOp_defer, evOp_panic, evOp_send, evOp_recv, evOp_select, op_move, op_assign, op_pick, op_alloc, op_box, op_build, op_buildSlice, op_insert, op_load, op_store, op_nilCheck, op_binOp, op_unOp, op_convert, op_makeInterface, op_makeFunc, op_makeMap, op_makeSlice, op_slice, op_fieldAddr, op_field, op_indexAddr, op_index, op_lookup, op_mapUpdate, op_range, op_next, op_entry, op_extract, op_call] <;> repeat' (first | exact Local.err | exact Local.ret _ | exact Local.opt _ | exact Local.loadA _ _ _ _ | exact Local.storeA _ _ _ _ _ | exact Local.newA _ _ _ _ | exact Local.alloc _ | exact Local.buildSliceA _ _ _ _ | exact Local.convA _ _ _ _ | exact Local.binA _ _ _ _ _ | exact Local.makeSliceA _ _ _ _ | exact Local.lookupA _ _ _ _ _ | exact Local.updateA _ _ _ _ _ | exact Local.rangeMapA _ _ _ | exact Local.nextA _ | exact Local.entryA _ | exact Local.sliceM _ _ _ _ _ _ | exact Local.callA hrec _ _ | exact Local.yieldA hrec _ _ | exact Local.orcM _ (by assumption) | exact Local.builtinA _ _ _ _ | refine Local.bnd ?_ (fun _ => ?_) | split)
theorem Local.stepA (ops : Array Oper) (o : Oper) (tm : Tm) : Local (stepA P rec ops o tm) := by
  unfold Ev.stepA
  repeat' (first | exact Local.err | exact Local.ret _ | exact Local.evOp hrec _ _ | refine Local.bnd ?_ (fun _ => ?_) | split)
theorem Local.opsA (ops : Array Oper) : ∀ (l : List Oper) (tm : Tm), Local (opsA P rec ops l tm)
  | [], tm => Local.ret _
  | o :: l, tm => by
    rw [opsA_cons]
    exact Local.bnd (Local.stepA hrec ops o tm) fun tm => Local.opsA ops l tm
theorem Local.marksA (ops : Array Oper) : ∀ (l : List Oper) (tm : Tm) (ms : List Mk), Local (marksA P rec ops l tm ms)
  | [], tm, ms => Local.ret _
  | o :: l, tm, ms => Local.bnd (Local.traced (Local.stepA hrec ops o tm)) fun x => Local.marksA ops l _ _
theorem Local.drawA (ops : Array Oper) (tm : Tm) : Local (drawA P rec ops tm) := by
  unfold Ev.drawA
  repeat' (first | exact Local.err | exact Local.ret _ | exact Local.marksA hrec _ _ _ _ | refine Local.bnd ?_ (fun _ => ?_) | split)
theorem Local.rangeA (g : Operand) (ps : Array Nat) (asg body : Code) (tm : Tm) (ds : List Nat) : Local (rangeA P rec g ps asg body tm ds) := by
  unfold Ev.rangeA
  repeat' (first | exact Local.err | exact Local.ret _ | exact Local.alloc _ | exact Local.getB _ | exact Local.setB _ _ | exact Local.callA hrec _ _ | refine Local.bnd ?_ (fun _ => ?_) | split)
omit hrec
theorem Local.k_seq {rec : Rec} (hr : ∀ r c tm ds, Local (rec r c tm ds)) (r : Bool) (b : Code) (x : Ex × Tm × List Nat) : Local (k_seq rec r b x) := by
  unfold Ev.k_seq
  repeat' (first | exact Local.ret _ | exact hr _ _ _ _ | split)
theorem Local.evC : ∀ (f : Nat) (r : Bool) (c : Code) (tm : Tm) (ds : List Nat), Local (evC P f r c tm ds)
  | 0, r, c, tm, ds => Local.err
  | f + 1, r, c, tm, ds => by
    have ih := fun r c tm ds => Local.evC f r c tm ds
    cases c <;> simp only [evC_skip, evC_region, evC_seq, evC_cond, evC_block, evC_loop, evC_rangeFunc, evC_exit, evC_scope, evC_label, evC_goto, evC_ret, evC_refuse, c_region, c_seq, c_cond, c_block, c_rf] <;>
      repeat' (first | exact Local.err | exact Local.ret _ | exact ih _ _ _ _ | exact Local.k_seq ih _ _ _ | exact Local.opsA ih _ _ _ | exact Local.drawA ih _ _ | exact Local.rangeA ih _ _ _ _ _ _ | refine Local.bnd ?_ (fun _ => ?_) | split)
end
end Ev
end Go.Proofs.YtacjgphfcailmaaGreatDoor
