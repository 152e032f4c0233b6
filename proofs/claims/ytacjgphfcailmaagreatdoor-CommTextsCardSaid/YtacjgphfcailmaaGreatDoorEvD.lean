/-
  Whatever order: operations that do not meet may change places. A law of plain states, and what stands ahead of an operation.
-/
import Derived.Test.YtacjgphfcailmaaGreatDoorEvC
namespace Go.Proofs.YtacjgphfcailmaaGreatDoor
namespace Ev
set_option linter.unusedVariables false

section
variable {S K U : Type} (V : S → K → U) (m : Nat) (s : Nat → S) (tch wrt : Nat → K → Prop) (bef : Nat → Nat → Prop)

/-- what is seen behind the operations of a set: at each key what the writers in the set have left -/
def Seen (L : Nat → Prop) (x : S) : Prop := ∀ k j, j ≤ m → (∀ i, i < m → wrt i k → (L i ↔ i < j)) → V x k = V (s j) k

variable {V m s tch wrt bef}
theorem Seen.begin (x : S) (h : ∀ k, V x k = V (s 0) k) (H3 : ∀ i, i < m → ∀ k, ¬ wrt i k → V (s (i + 1)) k = V (s i) k) : Seen V m s wrt (fun _ => False) x := by
  intro k j hj hw
  rw [h k]
  have : ∀ q, q ≤ j → V (s 0) k = V (s q) k := by
    intro q
    induction q with
    | zero => intro _; rfl
    | succ q ih =>
      intro hq
      rw [ih (by omega)]
      exact (H3 q (by omega) k (fun hwr => ((hw q (by omega) hwr).2 (by omega)))).symm
  exact this j (Nat.le_refl _)
theorem Seen.final {L : Nat → Prop} {x : S} (h : Seen V m s wrt L x) (hL : ∀ i, i < m → L i) (k : K) : V x k = V (s m) k :=
  h k m (Nat.le_refl _) fun i hi _ => ⟨fun _ => hi, fun _ => hL i hi⟩
theorem Seen.at {L : Nat → Prop} {x : S} (h : Seen V m s wrt L x) {i : Nat} (hi : i < m) (hn : ¬ L i) (hb : ∀ j, j < m → bef j i → L j) (ha : ∀ j, j < m → bef i j → ¬ L j)
    (H1 : ∀ i k, wrt i k → tch i k) (H4 : ∀ i j, i < j → j < m → ¬ bef i j → ∀ k, ¬ (wrt i k ∧ tch j k) ∧ ¬ (tch i k ∧ wrt j k)) (k : K) (ht : tch i k) : V x k = V (s i) k := by
  refine h k i (by omega) fun j hj hw => ?_
  rcases Nat.lt_trichotomy j i with hlt | rfl | hgt
  · refine ⟨fun _ => hlt, fun _ => hb j hj ?_⟩
    exact Classical.byContradiction fun hn' => (H4 j i hlt hi hn' k).1 ⟨hw, ht⟩
  · exact ⟨fun h => absurd h hn, fun h => absurd h (Nat.lt_irrefl _)⟩
  · refine ⟨fun hL => absurd hL (ha j hj ?_), fun h => absurd h (by omega)⟩
    exact Classical.byContradiction fun hn' => (H4 i j hgt hj hn' k).2 ⟨ht, hw⟩
theorem Seen.step {L : Nat → Prop} {x y : S} (h : Seen V m s wrt L x) {i : Nat} (hi : i < m) (hn : ¬ L i) (hb : ∀ j, j < m → bef j i → L j) (ha : ∀ j, j < m → bef i j → ¬ L j)
    (H1 : ∀ i k, wrt i k → tch i k) (H3 : ∀ i, i < m → ∀ k, ¬ wrt i k → V (s (i + 1)) k = V (s i) k)
    (H4 : ∀ i j, i < j → j < m → ¬ bef i j → ∀ k, ¬ (wrt i k ∧ tch j k) ∧ ¬ (tch i k ∧ wrt j k))
    (hw : ∀ k, wrt i k → V y k = V (s (i + 1)) k) (hr : ∀ k, ¬ wrt i k → V y k = V x k) : Seen V m s wrt (fun j => L j ∨ j = i) y := by
  intro k j hj hq
  by_cases hwi : wrt i k
  · have hij : i < j := (hq i hi hwi).1 (.inr rfl)
    rw [hw k hwi]
    have : ∀ q, i + 1 ≤ q → q ≤ j → V (s (i + 1)) k = V (s q) k := by
      intro q hiq
      induction q with
      | zero => omega
      | succ q ih =>
        intro hqj
        by_cases he : i = q
        · subst he; rfl
        · rw [ih (by omega) (by omega)]
          refine (H3 q (by omega) k fun hwq => ?_).symm
          have hL : L q := ((hq q (by omega) hwq).2 (by omega)).resolve_right (by omega)
          refine ha q (by omega) ?_ hL
          exact Classical.byContradiction fun hn' => (H4 i q (by omega) (by omega) hn' k).1 ⟨hwi, H1 _ _ hwq⟩
    exact this j (by omega) (Nat.le_refl _)
  · rw [hr k hwi]
    refine h k j hj fun q hqm hwq => ?_
    have hne : q ≠ i := fun e => hwi (e ▸ hwq)
    rw [← hq q hqm hwq]
    exact ⟨.inl, fun h => h.resolve_right hne⟩
end

/-! ### What stands ahead -/
theorem ancs_get : ∀ (l : List Oper) (acc : List Nat), ∃ q, ancs l acc = acc ++ q ∧ q.length = l.length ∧ ∀ j o, l[j]? = some o → q[j]? = some (ancOf (acc ++ q.take j) o) := by
  intro l
  induction l with
  | nil => intro acc; exact ⟨[], by simp [ancs], rfl, by simp⟩
  | cons o l ih =>
    intro acc
    obtain ⟨q, h1, h2, h3⟩ := ih (acc ++ [ancOf acc o])
    refine ⟨ancOf acc o :: q, ?_, by simp [h2], ?_⟩
    · simp only [ancs]
      have := h1
      unfold ancOf at this ⊢
      rw [this]
      simp
    · intro j x hx
      cases j with
      | zero =>
        simp at hx
        subst hx
        simp
      | succ j =>
        simp at hx
        have := h3 j x hx
        simpa using this
theorem bits_foldl (acc : List Nat) : ∀ (l : List Edge) (s i : Nat), (l.foldl (ancStep acc) s).testBit i = true → s.testBit i = true ∨ ∃ e ∈ l, Region.binds .any e = true ∧ (i = e.on ∨ (acc.getD e.on 0).testBit i = true) := by
  intro l
  induction l with
  | nil => intro s i h; exact .inl h
  | cons e l ih =>
    intro s i h
    rw [List.foldl_cons] at h
    rcases ih _ _ h with h | ⟨g, hg, q⟩
    · unfold ancStep at h
      cases hb : Region.binds .any e with
      | false => rw [hb] at h; exact .inl h
      | true =>
        rw [hb] at h
        simp only [Nat.testBit_or, Bool.or_eq_true, Nat.testBit_two_pow, decide_eq_true_eq] at h
        rcases h with (h | h) | h
        · exact .inl h
        · exact .inr ⟨e, List.mem_cons_self, hb, .inl h.symm⟩
        · exact .inr ⟨e, List.mem_cons_self, hb, .inr h⟩
    · exact .inr ⟨g, List.mem_cons_of_mem _ hg, q⟩
def ahead (ops : Array Oper) (i j : Nat) : Prop := ((ancs ops.toList []).getD j 0).testBit i = true
/-- a set into which what stands ahead of its members belongs -/
def Closed (ops : Array Oper) (L : Nat → Prop) : Prop := ∀ j o, ops[j]? = some o → L j → ∀ e ∈ o.after, Region.binds .any e = true → L e.on
theorem ahead_closed {ops : Array Oper} {L : Nat → Prop} (hc : Closed ops L) : ∀ (j i : Nat) (o : Oper), ops[j]? = some o → (∀ e ∈ o.after, Region.binds .any e = true → L e.on) → ahead ops i j → L i := by
  obtain ⟨q, h1, h2, h3⟩ := ancs_get ops.toList []
  intro j
  induction j using Nat.strongRecOn with
  | _ j ih =>
    intro i o ho hl ha
    have hj := h3 j o (by simpa using ho)
    unfold ahead at ha
    rw [h1] at ha
    simp only [List.nil_append, List.getD_eq_getElem?_getD, hj, Option.getD_some] at ha
    rcases bits_foldl _ _ _ _ ha with h | ⟨e, he, hb, h⟩
    · simp at h
    · have he' : e ∈ o.after := by simpa using he
      rcases h with rfl | h
      · exact hl e he' hb
      · by_cases hlt : e.on < j
        · have hlen : e.on < ops.size := by
            have : j < ops.size := (Array.getElem?_eq_some_iff.1 ho).1
            omega
          have hge : (q.take j).getD e.on 0 = (ancs ops.toList []).getD e.on 0 := by
            rw [h1]
            simp [List.getD_eq_getElem?_getD, hlt]
          rw [hge] at h
          have ho2 : ops[e.on]? = some ops[e.on] := by simp [hlen]
          exact ih e.on hlt i _ ho2 (hc e.on _ ho2 (hl e he' hb)) h
        · have : (q.take j).getD e.on 0 = 0 := by
            simp [List.getD_eq_getElem?_getD, List.getElem?_take, hlt]
          rw [this] at h
          simp at h
theorem mem_loose (an : List Nat) : ∀ (n i j : Nat), (i, j) ∈ loose an n ↔ i < j ∧ j < n ∧ (an.getD j 0).testBit i = false := by
  intro n
  induction n with
  | zero => intro i j; simp [loose]
  | succ n ih =>
    intro i j
    simp only [loose, List.mem_append, ih, List.mem_map, List.mem_filter, List.mem_range, Bool.not_eq_true', Prod.mk.injEq]
    constructor
    · rintro (⟨a, b, c⟩ | ⟨q, ⟨a, c⟩, rfl, rfl⟩)
      · exact ⟨a, by omega, c⟩
      · exact ⟨a, by omega, c⟩
    · rintro ⟨a, b, c⟩
      by_cases h : j < n
      · exact .inl ⟨a, h, c⟩
      · obtain rfl : j = n := by omega
        exact .inr ⟨i, ⟨a, c⟩, rfl, rfl⟩
theorem mem_pairs {ops : Array Oper} {i j : Nat} : (i, j) ∈ pairsOf ops ↔ i < j ∧ j < ops.size ∧ ¬ ahead ops i j := by
  unfold pairsOf ahead
  rw [mem_loose]
  simp
end Ev
end Go.Proofs.YtacjgphfcailmaaGreatDoor
