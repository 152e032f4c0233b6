/-
  Layer 20, plain laws of CommTexts: a table of counts as a text, written row by row or cell by cell; sums of counts by key.
-/
import Derived.IntWalk
import Derived.Laws.Strings
namespace Ct
open Go
set_option linter.unusedVariables false
set_option linter.unusedSimpArgs false

structure Cnt where
  frm : Int
  to : Int
  kind : ByteArray
  many : Int

/-! the table -/
def hit (c : Cnt) (i j : Nat) : Int := if c.frm = (i : Int) ∧ c.to = (j : Int) then c.many else 0
def cellOf : List Cnt → Nat → Nat → Int
  | [], _, _ => 0
  | c :: l, i, j => hit c i j + cellOf l i j
theorem cellOf_append : ∀ (l m : List Cnt) (i j : Nat), cellOf (l ++ m) i j = cellOf l i j + cellOf m i j
  | [], m, i, j => by simp [cellOf]
  | c :: l, m, i, j => by
    rw [List.cons_append, cellOf, cellOf, cellOf_append l m]
    omega
theorem cellOf_snoc (l : List Cnt) (c : Cnt) (i j : Nat) : cellOf (l ++ [c]) i j = cellOf l i j + hit c i j := by
  rw [cellOf_append]
  simp [cellOf]
/-- what stands in one order of the cells, for places P -/
def good (P : Nat) (c : Cnt) : Bool := decide (0 ≤ c.frm) && decide (c.frm < P) && decide (0 ≤ c.to) && decide (c.to < P) && decide (0 ≤ c.many)
/-- no count is too far -/
def near (c : Cnt) : Prop := c.many ≤ 1099511627776 ∧ -1099511627776 ≤ c.many
theorem cellOf_abs : ∀ (l : List Cnt) (i j : Nat), (∀ c ∈ l, near c) → cellOf l i j ≤ l.length * 1099511627776 ∧ -(l.length * 1099511627776) ≤ cellOf l i j
  | [], i, j, _ => by simp [cellOf]
  | c :: l, i, j, h => by
    have h1 := h c (by simp)
    have h2 := cellOf_abs l i j fun x hx => h x (by simp [hx])
    unfold near at h1
    rw [cellOf, List.length_cons]
    unfold hit
    split <;> omega
section
variable (f : Int → List UInt8) (P : Nat) (l : List Cnt)
def piece (k : Nat) : List UInt8 := f (cellOf l (k / P) (k % P)) ++ [if k % P = P - 1 then 10 else 32]
def textTo : Nat → List UInt8
  | 0 => []
  | k + 1 => textTo k ++ piece f P l k
/-- within a row: so many cells of it -/
def rowTo (i : Nat) : Nat → List UInt8
  | 0 => textTo f P l (i * P)
  | j + 1 => textTo f P l (i * P + j) ++ f (cellOf l i j)
theorem row_first (i : Nat) : rowTo f P l i 0 ++ f (cellOf l i 0) = rowTo f P l i 1 := rfl
theorem row_next (i j : Nat) (hj : j + 1 < P) : rowTo f P l i (j + 1) ++ [32] ++ f (cellOf l i (j + 1)) = rowTo f P l i (j + 2) := by
  show textTo f P l (i * P + j) ++ f (cellOf l i j) ++ [32] ++ f (cellOf l i (j + 1)) = textTo f P l (i * P + j) ++ piece f P l (i * P + j) ++ f (cellOf l i (j + 1))
  have h1 : (i * P + j) / P = i := by
    rw [Nat.mul_comm, Nat.mul_add_div (by omega), Nat.div_eq_of_lt (by omega), Nat.add_zero]
  have h2 : (i * P + j) % P = j := by
    rw [Nat.mul_comm, Nat.mul_add_mod, Nat.mod_eq_of_lt (by omega)]
  unfold piece
  rw [h1, h2, if_neg (by omega)]
  simp only [List.append_assoc]
theorem row_end (i : Nat) (hP : 0 < P) : rowTo f P l i P ++ [10] = rowTo f P l (i + 1) 0 := by
  obtain ⟨q, rfl⟩ : ∃ q, P = q + 1 := ⟨P - 1, by omega⟩
  have h1 : (i * (q + 1) + q) / (q + 1) = i := by
    rw [Nat.mul_comm, Nat.mul_add_div (by omega), Nat.div_eq_of_lt (by omega), Nat.add_zero]
  have h2 : (i * (q + 1) + q) % (q + 1) = q := by
    rw [Nat.mul_comm, Nat.mul_add_mod, Nat.mod_eq_of_lt (by omega)]
  have h3 : (i + 1) * (q + 1) = i * (q + 1) + q + 1 := by rw [Nat.add_mul]; omega
  show textTo f (q + 1) l (i * (q + 1) + q) ++ f (cellOf l i q) ++ [10] = textTo f (q + 1) l ((i + 1) * (q + 1))
  rw [h3]
  show _ = textTo f (q + 1) l (i * (q + 1) + q) ++ piece f (q + 1) l (i * (q + 1) + q)
  unfold piece
  rw [h1, h2, if_pos (by omega)]
  simp only [List.append_assoc]
end

/-! the sums -/
def sameKey (x y : Cnt) : Prop := x.frm = y.frm ∧ x.to = y.to ∧ x.kind = y.kind
def keyB (x y : Cnt) : Bool := (x.frm == y.frm) && ((x.to == y.to) && (x.kind.toList == y.kind.toList))
theorem bytes_ext {a b : ByteArray} (h : a.toList = b.toList) : a = b := by
  rw [Go.ByteArray.toList_eq, Go.ByteArray.toList_eq] at h
  exact ByteArray.ext (Array.toList_inj.1 h)
theorem keyB_iff (x y : Cnt) : keyB x y = true ↔ sameKey x y := by
  unfold keyB sameKey
  simp only [Bool.and_eq_true, beq_iff_eq]
  exact ⟨fun h => ⟨h.1, h.2.1, bytes_ext h.2.2⟩, fun h => ⟨h.1, h.2.1, by rw [h.2.2]⟩⟩
theorem keyB_false (x y : Cnt) : keyB x y = false ↔ ¬ sameKey x y := by rw [← keyB_iff]; simp
theorem sameKey.symm {x y : Cnt} (h : sameKey x y) : sameKey y x := ⟨h.1.symm, h.2.1.symm, h.2.2.symm⟩
theorem sameKey.trans {x y z : Cnt} (h : sameKey x y) (k : sameKey y z) : sameKey x z := ⟨h.1.trans k.1, h.2.1.trans k.2.1, h.2.2.trans k.2.2⟩
theorem sameKey.refl (x : Cnt) : sameKey x x := ⟨rfl, rfl, rfl⟩
def tot : List Cnt → Cnt → Int
  | [], _ => 0
  | c :: l, x => (if keyB c x = true then c.many else 0) + tot l x
theorem tot_append : ∀ (l m : List Cnt) (x : Cnt), tot (l ++ m) x = tot l x + tot m x
  | [], m, x => by simp [tot]
  | c :: l, m, x => by
    rw [List.cons_append, tot, tot, tot_append l m]
    omega
theorem tot_snoc (l : List Cnt) (c x : Cnt) : tot (l ++ [c]) x = tot l x + if keyB c x = true then c.many else 0 := by
  rw [tot_append]
  simp [tot]
theorem tot_abs : ∀ (l : List Cnt) (x : Cnt), (∀ c ∈ l, near c) → tot l x ≤ l.length * 1099511627776 ∧ -(l.length * 1099511627776) ≤ tot l x
  | [], x, _ => by simp [tot]
  | c :: l, x, h => by
    have h1 := h c (by simp)
    have h2 := tot_abs l x fun y hy => h y (by simp [hy])
    unfold near at h1
    rw [tot, List.length_cons]
    split <;> omega
theorem tot_key {l : List Cnt} {x y : Cnt} (h : sameKey x y) : tot l x = tot l y := by
  induction l with
  | nil => rfl
  | cons c l ih =>
    have e : keyB c x = keyB c y := by
      unfold keyB
      rw [h.1, h.2.1, h.2.2]
    rw [tot, tot, ih, e]
theorem tot_none {l : List Cnt} {x : Cnt} (h : ∀ c ∈ l, keyB c x = false) : tot l x = 0 := by
  induction l with
  | nil => rfl
  | cons c l ih =>
    rw [tot, h c (by simp), ih fun y hy => h y (by simp [hy])]
    simp
/-- a list has each key of l once, with its sum -/
structure Sums (m l : List Cnt) : Prop where
  un : m.Pairwise fun a b => ¬ sameKey a b
  eq : ∀ x ∈ m, x.many = tot l x
  all : ∀ y ∈ l, ∃ x ∈ m, sameKey x y
  has : ∀ x ∈ m, ∃ y ∈ l, sameKey x y
theorem Sums.nil : Sums [] [] := ⟨List.Pairwise.nil, by simp, by simp, by simp⟩
theorem Sums.abs {m l : List Cnt} (h : Sums m l) (hl : ∀ c ∈ l, near c) {x : Cnt} (hx : x ∈ m) : x.many ≤ l.length * 1099511627776 ∧ -(l.length * 1099511627776) ≤ x.many := by
  rw [h.eq x hx]
  exact tot_abs l x hl
theorem pw_mid {a b : List Cnt} {x : Cnt} (h : (a ++ x :: b).Pairwise fun a b => ¬ sameKey a b) : (∀ y ∈ a, ¬ sameKey y x) ∧ (∀ y ∈ b, ¬ sameKey y x) := by
  rw [List.pairwise_append] at h
  obtain ⟨_, h2, h3⟩ := h
  exact ⟨fun y hy => h3 y hy x (by simp), fun y hy k => (List.pairwise_cons.1 h2).1 y hy k.symm⟩
/-- a key that is there -/
theorem Sums.add {a b l : List Cnt} {x c : Cnt} (h : Sums (a ++ x :: b) l) (k : sameKey x c) : Sums (a ++ { x with many := x.many + c.many } :: b) (l ++ [c]) := by
  obtain ⟨m1, m2⟩ := pw_mid h.un
  have hk : ∀ y, sameKey { x with many := x.many + c.many } y ↔ sameKey x y := fun y => Iff.rfl
  refine ⟨?_, fun y hy => ?_, fun y hy => ?_, fun y hy => ?_⟩
  · have hu := h.un
    rw [List.pairwise_append, List.pairwise_cons] at hu ⊢
    refine ⟨hu.1, ⟨fun z hz => hu.2.1.1 z hz, hu.2.1.2⟩, fun y hy z hz => ?_⟩
    rcases List.mem_cons.1 hz with rfl | hz
    · exact hu.2.2 y hy x (by simp)
    · exact hu.2.2 y hy z (by simp [hz])
  · rw [tot_snoc]
    rcases List.mem_append.1 hy with hy | hy
    · rw [if_neg, h.eq y (by simp [hy])]
      · omega
      · rw [keyB_iff]
        exact fun q => m1 y hy (q.symm.trans k.symm)
    · rcases List.mem_cons.1 hy with rfl | hy
      · have e1 : keyB c { x with many := x.many + c.many } = true := (keyB_iff _ _).2 k.symm
        have e2 : tot l { x with many := x.many + c.many } = tot l x := tot_key ((hk x).2 (sameKey.refl x))
        rw [if_pos e1, e2]
        show x.many + c.many = tot l x + c.many
        rw [h.eq x (by simp)]
      · rw [if_neg, h.eq y (by simp [hy])]
        · omega
        · rw [keyB_iff]
          exact fun q => m2 y hy (q.symm.trans k.symm)
  · rcases List.mem_append.1 hy with hy | hy
    · obtain ⟨z, hz, q⟩ := h.all y hy
      rcases List.mem_append.1 hz with hz | hz
      · exact ⟨z, by simp [hz], q⟩
      · rcases List.mem_cons.1 hz with rfl | hz
        · exact ⟨_, List.mem_append.2 (.inr List.mem_cons_self), q⟩
        · exact ⟨z, by simp [hz], q⟩
    · simp only [List.mem_cons, List.not_mem_nil, or_false] at hy
      subst hy
      exact ⟨_, List.mem_append.2 (.inr List.mem_cons_self), k⟩
  · rcases List.mem_append.1 hy with hy | hy
    · obtain ⟨z, hz, q⟩ := h.has y (by simp [hy])
      exact ⟨z, by simp [hz], q⟩
    · rcases List.mem_cons.1 hy with rfl | hy
      · exact ⟨c, by simp, k⟩
      · obtain ⟨z, hz, q⟩ := h.has y (by simp [hy])
        exact ⟨z, by simp [hz], q⟩
/-- a key that is new -/
theorem Sums.ins {a b l : List Cnt} {c : Cnt} (h : Sums (a ++ b) l) (k : ∀ x ∈ a ++ b, ¬ sameKey x c) : Sums (a ++ c :: b) (l ++ [c]) := by
  have hn : ∀ y ∈ l, keyB y c = false := fun y hy => (keyB_false _ _).2 fun q => by
    obtain ⟨z, hz, q'⟩ := h.all y hy
    exact k z hz (q'.trans q)
  refine ⟨?_, fun y hy => ?_, fun y hy => ?_, fun y hy => ?_⟩
  · have hu := h.un
    rw [List.pairwise_append] at hu ⊢
    refine ⟨hu.1, List.pairwise_cons.2 ⟨fun z hz q => k z (by simp [hz]) q.symm, hu.2.1⟩, fun y hy z hz => ?_⟩
    rcases List.mem_cons.1 hz with rfl | hz
    · exact k y (by simp [hy])
    · exact hu.2.2 y hy z hz
  · rw [tot_snoc]
    by_cases hc : y = c
    · subst hc
      rw [if_pos ((keyB_iff _ _).2 (sameKey.refl _)), tot_none hn]
      omega
    · have hy' : y ∈ a ++ b := by
        rcases List.mem_append.1 hy with hy | hy
        · simp [hy]
        · rcases List.mem_cons.1 hy with h' | hy
          · exact absurd h' hc
          · simp [hy]
      rw [if_neg, h.eq y hy']
      · omega
      · rw [keyB_iff]
        exact fun q => k y hy' q.symm
  · rcases List.mem_append.1 hy with hy | hy
    · obtain ⟨z, hz, q⟩ := h.all y hy
      refine ⟨z, ?_, q⟩
      rcases List.mem_append.1 hz with hz | hz <;> simp [hz]
    · simp only [List.mem_cons, List.not_mem_nil, or_false] at hy
      subst hy
      exact ⟨y, by simp, sameKey.refl _⟩
  · by_cases hc : y = c
    · subst hc
      exact ⟨y, by simp, sameKey.refl _⟩
    · have hy' : y ∈ a ++ b := by
        rcases List.mem_append.1 hy with hy | hy
        · simp [hy]
        · rcases List.mem_cons.1 hy with h' | hy
          · exact absurd h' hc
          · simp [hy]
      obtain ⟨z, hz, q⟩ := h.has y hy'
      exact ⟨z, by simp [hz], q⟩
/-- those that are not 0 -/
def some0 (m : List Cnt) : List Cnt := m.filter fun x => !(x.many == 0)
theorem Sums.mem {m l : List Cnt} (h : Sums m l) (x : Cnt) : x ∈ some0 m ↔ x.many = tot l x ∧ x.many ≠ 0 ∧ ∃ y ∈ l, sameKey x y := by
  unfold some0
  rw [List.mem_filter]
  constructor
  · rintro ⟨h1, h2⟩
    exact ⟨h.eq x h1, by simpa using h2, h.has x h1⟩
  · rintro ⟨h1, h2, y, hy, hk⟩
    obtain ⟨z, hz, hq⟩ := h.all y hy
    have hzx : sameKey z x := hq.trans hk.symm
    have hm : z.many = x.many := by rw [h.eq z hz, h1, tot_key hzx]
    have : z = x := by
      cases z; cases x
      obtain ⟨a, b, c⟩ := hzx
      simp only at a b c hm
      subst a b c hm
      rfl
    subst this
    exact ⟨hz, by simpa using h2⟩

/-! the order -/
def keyLt (x y : Cnt) : Prop := x.frm < y.frm ∨ x.frm = y.frm ∧ (x.to < y.to ∨ x.to = y.to ∧ x.kind.toList < y.kind.toList)
theorem keyLt_irrefl (x : Cnt) : ¬ keyLt x x := by
  rintro (h | ⟨-, h | ⟨-, h⟩⟩)
  · omega
  · omega
  · exact List.lt_irrefl _ h
theorem keyLt_trans {x y z : Cnt} (h : keyLt x y) (h' : keyLt y z) : keyLt x z := by
  rcases h with h | ⟨e, h | ⟨e2, h⟩⟩ <;> rcases h' with h' | ⟨f, h' | ⟨f2, h'⟩⟩
  · exact .inl (by omega)
  · exact .inl (by omega)
  · exact .inl (by omega)
  · exact .inl (by omega)
  · exact .inr ⟨by omega, .inl (by omega)⟩
  · exact .inr ⟨by omega, .inl (by omega)⟩
  · exact .inl (by omega)
  · exact .inr ⟨by omega, .inl (by omega)⟩
  · exact .inr ⟨by omega, .inr ⟨by omega, List.lt_trans h h'⟩⟩
theorem keyLt_asymm {x y : Cnt} (h : keyLt x y) (h' : keyLt y x) : False := keyLt_irrefl _ (keyLt_trans h h')
theorem lst_tri (a b : List UInt8) (h1 : ¬ a < b) (h2 : ¬ b < a) : a = b := List.le_antisymm (List.not_lt.1 h2) (List.not_lt.1 h1)
theorem keyLt_total (x y : Cnt) (h1 : ¬ keyLt x y) (h2 : ¬ keyLt y x) : sameKey x y := by
  unfold keyLt at h1 h2
  have e1 : x.frm = y.frm := by omega
  have e2 : x.to = y.to := by omega
  refine ⟨e1, e2, bytes_ext (lst_tri _ _ (fun h => ?_) (fun h => ?_))⟩
  · exact h1 (.inr ⟨e1, .inr ⟨e2, h⟩⟩)
  · exact h2 (.inr ⟨e1.symm, .inr ⟨e2.symm, h⟩⟩)
theorem keyLt_not_same {x y : Cnt} (h : keyLt x y) : ¬ sameKey x y := by
  rintro ⟨a, b, c⟩
  rcases h with h | ⟨-, h | ⟨-, h⟩⟩
  · omega
  · omega
  · rw [c] at h
    exact List.lt_irrefl _ h
theorem keyLt_key {x y z : Cnt} (h : sameKey x y) : keyLt x z ↔ keyLt y z := by
  unfold keyLt
  rw [h.1, h.2.1, h.2.2]
theorem keyLt_key' {x y z : Cnt} (h : sameKey x y) : keyLt z x ↔ keyLt z y := by
  unfold keyLt
  rw [h.1, h.2.1, h.2.2]
theorem sorted_ext : ∀ (l m : List Cnt), l.Pairwise keyLt → m.Pairwise keyLt → (∀ x, x ∈ l ↔ x ∈ m) → l = m
  | [], [], _, _, _ => rfl
  | [], y :: m, _, _, h => by have := (h y).2 (by simp); simp at this
  | x :: l, [], _, _, h => by have := (h x).1 (by simp); simp at this
  | x :: l, y :: m, hl, hm, h => by
    obtain ⟨l1, l2⟩ := List.pairwise_cons.1 hl
    obtain ⟨m1, m2⟩ := List.pairwise_cons.1 hm
    have exy : x = y := by
      by_cases e : x = y
      · exact e
      · have hx : x ∈ m := by
          rcases List.mem_cons.1 ((h x).1 (by simp)) with h' | h'
          · exact absurd h' e
          · exact h'
        have hy : y ∈ l := by
          rcases List.mem_cons.1 ((h y).2 (by simp)) with h' | h'
          · exact absurd h'.symm e
          · exact h'
        exact (keyLt_asymm (l1 y hy) (m1 x hx)).elim
    subst exy
    congr 1
    refine sorted_ext l m l2 m2 fun z => ⟨fun hz => ?_, fun hz => ?_⟩
    · rcases List.mem_cons.1 ((h z).1 (by simp [hz])) with rfl | h'
      · exact (keyLt_irrefl _ (l1 _ hz)).elim
      · exact h'
    · rcases List.mem_cons.1 ((h z).2 (by simp [hz])) with rfl | h'
      · exact (keyLt_irrefl _ (m1 _ hz)).elim
      · exact h'
/-- the place of a key in a sorted list: how many stand ahead of it -/
def posOf : List Cnt → Cnt → Nat
  | [], _ => 0
  | x :: r, c => if x.frm < c.frm ∨ x.frm = c.frm ∧ (x.to < c.to ∨ x.to = c.to ∧ x.kind.toList < c.kind.toList) then posOf r c + 1 else 0
/-- what the program's sum and the document's sum are -/
theorem sums_same {m1 m2 l s1 s2 : List Cnt} (h1 : Sums m1 l) (h2 : Sums m2 l) (p1 : s1.Perm (some0 m1)) (q1 : s1.Pairwise fun a b => ¬ keyLt b a) (q2 : m2.Pairwise keyLt) : s1 = some0 m2 := by
  have hu : s1.Pairwise fun a b => ¬ sameKey a b := (List.Pairwise.perm (h1.un.filter _) p1.symm fun h k => h k.symm)
  refine sorted_ext s1 (some0 m2) ((q1.and hu).imp fun {a b} hab => ?_) (q2.filter _) fun x => ?_
  · by_cases q : keyLt a b
    · exact q
    · exact absurd (keyLt_total a b q hab.1) hab.2
  · rw [p1.mem_iff, h1.mem, h2.mem]
/-- a step of the document's sum -/
theorem ref_add {a b : List Cnt} {x c : Cnt} (h : (a ++ x :: b).Pairwise keyLt) : (a ++ { x with many := x.many + c.many } :: b).Pairwise keyLt := by
  rw [List.pairwise_append, List.pairwise_cons] at h ⊢
  refine ⟨h.1, ⟨fun z hz => h.2.1.1 z hz, h.2.1.2⟩, fun y hy z hz => ?_⟩
  rcases List.mem_cons.1 hz with rfl | hz
  · exact h.2.2 y hy x (by simp)
  · exact h.2.2 y hy z (by simp [hz])
theorem ref_ins {a b : List Cnt} {c : Cnt} (h : (a ++ b).Pairwise keyLt) (h1 : ∀ x ∈ a, keyLt x c) (h2 : ∀ x, b.head? = some x → keyLt c x) : (a ++ c :: b).Pairwise keyLt := by
  rw [List.pairwise_append] at h ⊢
  obtain ⟨ha, hb, hab⟩ := h
  have hc : ∀ z ∈ b, keyLt c z := by
    cases b with
    | nil => simp
    | cons y r =>
      have hy := h2 y rfl
      intro z hz
      rcases List.mem_cons.1 hz with rfl | hz
      · exact hy
      · exact keyLt_trans hy ((List.pairwise_cons.1 hb).1 z hz)
  refine ⟨ha, List.pairwise_cons.2 ⟨hc, hb⟩, fun y hy z hz => ?_⟩
  rcases List.mem_cons.1 hz with rfl | hz
  · exact h1 y hy
  · exact hab y hy z hz
theorem ref_new {a b : List Cnt} {c : Cnt} (h : (a ++ b).Pairwise keyLt) (h1 : ∀ x ∈ a, keyLt x c) (h2 : ∀ x, b.head? = some x → keyLt c x) : ∀ x ∈ a ++ b, ¬ sameKey x c := by
  intro x hx
  rcases List.mem_append.1 hx with hx | hx
  · exact keyLt_not_same (h1 x hx)
  · cases b with
    | nil => simp at hx
    | cons y r =>
      have hy := h2 y rfl
      intro k
      rcases List.mem_cons.1 hx with rfl | hx
      · exact keyLt_not_same hy k.symm
      · have hb := (List.pairwise_cons.1 (List.pairwise_append.1 h).2.1).1 x hx
        exact keyLt_not_same (keyLt_trans hy hb) k.symm
end Ct
