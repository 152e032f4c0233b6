/-
  Layer 16, plain laws of NetPlays: the document's net keeps cells in one list and counts in a table; what both tell is one.
-/
import Derived.Test.YtimmmbjdaibplaaP3
namespace Nt
open Go
set_option linter.unusedVariables false
set_option linter.unusedSimpArgs false

section
variable {α : Type}
theorem flatten_len {C : Nat} : ∀ l : List (List α), (∀ r ∈ l, r.length = C) → l.flatten.length = l.length * C
  | [], _ => by simp
  | x :: r, h => by
    have h1 := h x (by simp)
    have h2 := flatten_len r fun y hy => h y (by simp [hy])
    rw [List.flatten_cons, List.length_append, h1, h2, List.length_cons, Nat.add_mul]
    omega
theorem flatten_at {C : Nat} : ∀ (l : List (List α)), (∀ r ∈ l, r.length = C) → ∀ (p : Nat) (hp : p < l.length) (c : Nat), c < C → l.flatten[p * C + c]? = l[p][c]?
  | x :: r, h, 0, _, c, hc => by
    rw [List.flatten_cons, List.getElem?_append_left (by rw [h x (by simp)]; omega)]
    simp
  | x :: r, h, p + 1, hp, c, hc => by
    have h1 := h x (by simp)
    have hge : x.length ≤ (p + 1) * C + c := by rw [h1, Nat.add_mul]; omega
    rw [List.flatten_cons, List.getElem?_append_right hge, h1]
    have e : (p + 1) * C + c - C = p * C + c := by rw [Nat.add_mul]; omega
    rw [e, flatten_at r (fun y hy => h y (by simp [hy])) p (by simpa using hp) c hc]
    simp
theorem flatten_set {C : Nat} : ∀ (l : List (List α)), (∀ r ∈ l, r.length = C) → ∀ (p : Nat) (hp : p < l.length) (c : Nat) (v : α), c < C → l.flatten.set (p * C + c) v = (l.set p (l[p].set c v)).flatten
  | x :: r, h, 0, _, c, v, hc => by
    rw [List.flatten_cons, List.set_append, if_pos (by rw [h x (by simp)]; omega)]
    simp
  | x :: r, h, p + 1, hp, c, v, hc => by
    have h1 := h x (by simp)
    have hge : ¬ (p + 1) * C + c < x.length := by rw [h1, Nat.add_mul]; omega
    rw [List.flatten_cons, List.set_append, if_neg hge, h1]
    have e : (p + 1) * C + c - C = p * C + c := by rw [Nat.add_mul]; omega
    rw [e, flatten_set r (fun y hy => h y (by simp [hy])) p (by simpa using hp) c v hc]
    simp
theorem flatten_inj {C : Nat} (hC : 0 < C) : ∀ (l m : List (List α)), (∀ r ∈ l, r.length = C) → (∀ r ∈ m, r.length = C) → l.flatten = m.flatten → l = m
  | [], [], _, _, _ => rfl
  | [], y :: m, _, h, e => by
    have h1 := h y (by simp)
    have := congrArg List.length e
    rw [List.flatten_cons, List.length_append] at this
    simp at this
    omega
  | x :: l, [], h, _, e => by
    have h1 := h x (by simp)
    have := congrArg List.length e
    rw [List.flatten_cons, List.length_append] at this
    simp only [List.flatten_nil, List.length_nil] at this
    omega
  | x :: l, y :: m, h, h', e => by
    rw [List.flatten_cons, List.flatten_cons] at e
    obtain ⟨e1, e2⟩ := List.append_inj e ((h x (by simp)).trans (h' y (by simp)).symm)
    rw [e1, flatten_inj hC l m (fun z hz => h z (by simp [hz])) (fun z hz => h' z (by simp [hz])) e2]
end

/-- how many messages of a kind went from a place to another one -/
def manyOf : List Cnt → Int → Int → ByteArray → Int
  | [], _, _, _ => 0
  | x :: r, f, t, k => if isCnt x f t k = true then x.many else manyOf r f t k
theorem isCnt_iff {x : Cnt} {f t : Int} {k : ByteArray} : isCnt x f t k = true ↔ x.frm = f ∧ x.to = t ∧ x.kind = k :=
  ⟨isCnt_kind, fun ⟨h1, h2, h3⟩ => by simp [isCnt, h1, h2, h3]⟩
theorem many_bump (f t : Int) (k : ByteArray) (f' t' : Int) (k' : ByteArray) : ∀ (l : List Cnt), (∀ x ∈ l, 0 ≤ x.many ∧ x.many ≤ 100000) →
    manyOf (bump l f t k) f' t' k' = manyOf l f' t' k' + (if f' = f ∧ t' = t ∧ k' = k then 1 else 0)
  | [], _ => by
    simp only [bump, manyOf]
    by_cases e : f' = f ∧ t' = t ∧ k' = k
    · obtain ⟨rfl, rfl, rfl⟩ := e
      rw [if_pos (isCnt_iff.2 ⟨rfl, rfl, rfl⟩), if_pos ⟨rfl, rfl, rfl⟩]
      rfl
    · rw [if_neg (fun h => e (by obtain ⟨h1, h2, h3⟩ := isCnt_iff.1 h; exact ⟨h1.symm, h2.symm, h3.symm⟩)), if_neg e]
      rfl
  | x :: r, h => by
    have h1 := h x (by simp)
    unfold bump
    split
    · rename_i e
      obtain ⟨e1, e2, e3⟩ := isCnt_iff.1 e
      have ew : IntKind.i64.wrap (x.many + 1) = x.many + 1 := IntWalk.i64_in _ (by omega)
      have es : isCnt ⟨x.frm, x.to, x.kind, IntKind.i64.wrap (x.many + 1)⟩ f' t' k' = isCnt x f' t' k' := rfl
      simp only [manyOf, es]
      by_cases q : isCnt x f' t' k' = true
      · obtain ⟨q1, q2, q3⟩ := isCnt_iff.1 q
        rw [if_pos q, if_pos q, if_pos ⟨q1.symm.trans e1, q2.symm.trans e2, q3.symm.trans e3⟩, ew]
      · rw [if_neg q, if_neg q, if_neg (fun h => q (isCnt_iff.2 ⟨e1.trans h.1.symm, e2.trans h.2.1.symm, e3.trans h.2.2.symm⟩))]
        simp
    · simp only [manyOf]
      by_cases q : isCnt x f' t' k' = true
      · rename_i e
        rw [if_pos q, if_pos q, if_neg (fun h => e (by obtain ⟨rfl, rfl, rfl⟩ := h; exact q))]
        simp
      · rw [if_neg q, if_neg q, many_bump f t k f' t' k' r fun z hz => h z (by simp [hz])]
theorem many_mem : ∀ (l : List Cnt) (f t : Int) (k : ByteArray), manyOf l f t k ≠ 0 → ∃ x ∈ l, x.frm = f ∧ x.to = t ∧ x.kind = k ∧ x.many = manyOf l f t k
  | [], _, _, _, h => absurd rfl h
  | x :: r, f, t, k, h => by
    unfold manyOf at h ⊢
    by_cases q : isCnt x f t k = true
    · rw [if_pos q] at h ⊢
      obtain ⟨q1, q2, q3⟩ := isCnt_iff.1 q
      exact ⟨x, by simp, q1, q2, q3, rfl⟩
    · rw [if_neg q] at h ⊢
      obtain ⟨y, hy, rest⟩ := many_mem r f t k h
      exact ⟨y, by simp [hy], rest⟩
def keyEq (x y : Cnt) : Prop := x.frm = y.frm ∧ x.to = y.to ∧ x.kind = y.kind
def Uniq (l : List Cnt) : Prop := l.Pairwise (fun x y => ¬ keyEq x y)
theorem many_of_mem : ∀ (l : List Cnt), Uniq l → ∀ x ∈ l, manyOf l x.frm x.to x.kind = x.many
  | y :: r, h, x, hx => by
    obtain ⟨h1, h2⟩ := List.pairwise_cons.1 h
    unfold manyOf
    rcases List.mem_cons.1 hx with rfl | hx
    · rw [if_pos (isCnt_iff.2 ⟨rfl, rfl, rfl⟩)]
    · rw [if_neg (fun q => h1 x hx (isCnt_iff.1 q)), many_of_mem r h2 x hx]
theorem many_none : ∀ (l : List Cnt) (f t : Int) (k : ByteArray), (∀ x ∈ l, ¬ (x.frm = f ∧ x.to = t ∧ x.kind = k)) → manyOf l f t k = 0
  | [], _, _, _, _ => rfl
  | x :: r, f, t, k, h => by
    unfold manyOf
    rw [if_neg (fun q => h x (by simp) (isCnt_iff.1 q)), many_none r f t k fun y hy => h y (by simp [hy])]
theorem many_perm {l m : List Cnt} (hp : l.Perm m) (hu : Uniq l) (f t : Int) (k : ByteArray) : manyOf l f t k = manyOf m f t k := by
  have hum : Uniq m := hu.perm hp (fun h h' => h ⟨h'.1.symm, h'.2.1.symm, h'.2.2.symm⟩)
  by_cases q : ∃ x ∈ l, x.frm = f ∧ x.to = t ∧ x.kind = k
  · obtain ⟨x, hx, rfl, rfl, rfl⟩ := q
    rw [many_of_mem l hu x hx, many_of_mem m hum x ((hp.mem_iff).1 hx)]
  · rw [many_none l f t k fun x hx h => q ⟨x, hx, h⟩, many_none m f t k fun x hx h => q ⟨x, (hp.mem_iff).2 hx, h⟩]

/-- a row of the table of counts -/
def cntRow (P : Nat) (l : List Cnt) (i : Nat) : List Int := [0, manyOf l (i / P : Nat) (i % P : Nat) (kname 1), manyOf l (i / P : Nat) (i % P : Nat) (kname 2), manyOf l (i / P : Nat) (i % P : Nat) (kname 3), manyOf l (i / P : Nat) (i % P : Nat) (kname 4)]
theorem kname_inj {a b : Int} (ha : 1 ≤ a ∧ a ≤ 4) (hb : 1 ≤ b ∧ b ≤ 4) (h : kname a = kname b) : a = b := by
  have h1 : a = 1 ∨ a = 2 ∨ a = 3 ∨ a = 4 := by omega
  have h2 : b = 1 ∨ b = 2 ∨ b = 3 ∨ b = 4 := by omega
  rcases h1 with rfl | rfl | rfl | rfl <;> rcases h2 with rfl | rfl | rfl | rfl <;> first | rfl | (exact absurd h (by decide))
theorem ix_div {P f t : Nat} (ht : t < P) : (f * P + t) / P = f ∧ (f * P + t) % P = t := by
  have hP : 0 < P := by omega
  constructor
  · rw [Nat.add_comm, Nat.add_mul_div_right _ _ hP, Nat.div_eq_of_lt ht, Nat.zero_add]
  · rw [Nat.add_comm, Nat.add_mul_mod_self_right, Nat.mod_eq_of_lt ht]
theorem cntRow_other {P f t i : Nat} {k : Int} {l : List Cnt} (hm : ∀ x ∈ l, 0 ≤ x.many ∧ x.many ≤ 100000) (hi : i ≠ f * P + t) : cntRow P (bump l f t (kname k)) i = cntRow P l i := by
  have e : ∀ q, manyOf (bump l f t (kname k)) (i / P : Nat) (i % P : Nat) q = manyOf l (i / P : Nat) (i % P : Nat) q := fun q => by
    rw [many_bump _ _ _ _ _ _ _ hm, if_neg (fun h => hi ?_)]
    · simp
    · have h1 : i / P = f := by omega
      have h2 : i % P = t := by omega
      have := Nat.div_add_mod i P
      rw [h1, h2, Nat.mul_comm] at this
      exact this.symm
  unfold cntRow
  rw [e, e, e, e]
theorem cntRow_hit {P f t : Nat} {k : Nat} {l : List Cnt} (hm : ∀ x ∈ l, 0 ≤ x.many ∧ x.many ≤ 100000) (ht : t < P) (hk : 1 ≤ k ∧ k ≤ 4) : cntRow P (bump l f t (kname k)) (f * P + t) = (cntRow P l (f * P + t)).set k (manyOf l f t (kname k) + 1) := by
  obtain ⟨e1, e2⟩ := ix_div (f := f) ht
  have hk' : k = 1 ∨ k = 2 ∨ k = 3 ∨ k = 4 := by omega
  unfold cntRow
  rw [e1, e2]
  simp only [many_bump _ _ _ _ _ _ _ hm]
  rcases hk' with rfl | rfl | rfl | rfl <;> simp [kname]
theorem cntRow_at {P f t k : Nat} {l : List Cnt} (ht : t < P) (hk : 1 ≤ k ∧ k ≤ 4) : (cntRow P l (f * P + t))[k]? = some (manyOf l f t (kname k)) := by
  obtain ⟨e1, e2⟩ := ix_div (f := f) ht
  have hk' : k = 1 ∨ k = 2 ∨ k = 3 ∨ k = 4 := by omega
  unfold cntRow
  rw [e1, e2]
  rcases hk' with rfl | rfl | rfl | rfl <;> rfl

/-- what is so of the counts of each net -/
structure Cn (P : Nat) (N : Net) : Prop where
  mn : ∀ x ∈ N.sent, 1 ≤ x.many ∧ x.many + reqs N.fl ≤ 2 * N.hs.length
  kd : ∀ x ∈ N.sent, 0 ≤ x.frm ∧ x.frm < P ∧ 0 ≤ x.to ∧ x.to < P ∧ ∃ k : Int, 1 ≤ k ∧ k ≤ 4 ∧ x.kind = kname k
  un : Uniq N.sent
theorem bump_mem2 (f t : Int) (k : ByteArray) : ∀ (l : List Cnt), (∀ x ∈ l, 0 ≤ x.many ∧ x.many ≤ 100000) → ∀ y ∈ bump l f t k, (y.frm = f ∧ y.to = t ∧ y.kind = k ∧ y.many = 1) ∨ ∃ x ∈ l, keyEq y x ∧ x.many ≤ y.many ∧ y.many ≤ x.many + 1
  | [], _, y, hy => by
    simp only [bump, List.mem_singleton] at hy
    subst hy
    exact .inl ⟨rfl, rfl, rfl, rfl⟩
  | x :: r, h, y, hy => by
    have h1 := h x (by simp)
    unfold bump at hy
    split at hy
    · rcases List.mem_cons.1 hy with rfl | hy
      · have ew : IntKind.i64.wrap (x.many + 1) = x.many + 1 := IntWalk.i64_in _ (by omega)
        exact .inr ⟨x, by simp, ⟨rfl, rfl, rfl⟩, by simp only [ew]; omega, by simp only [ew]; omega⟩
      · exact .inr ⟨y, by simp [hy], ⟨rfl, rfl, rfl⟩, by omega, by omega⟩
    · rcases List.mem_cons.1 hy with rfl | hy
      · exact .inr ⟨y, by simp, ⟨rfl, rfl, rfl⟩, by omega, by omega⟩
      · rcases bump_mem2 f t k r (fun z hz => h z (by simp [hz])) y hy with h2 | ⟨z, hz, h2⟩
        · exact .inl h2
        · exact .inr ⟨z, by simp [hz], h2⟩
theorem bump_uniq (f t : Int) (k : ByteArray) : ∀ (l : List Cnt), (∀ x ∈ l, 0 ≤ x.many ∧ x.many ≤ 100000) → Uniq l → Uniq (bump l f t k)
  | [], _, _ => by simp [bump, Uniq]
  | x :: r, hm, h => by
    obtain ⟨h1, h2⟩ := List.pairwise_cons.1 h
    unfold bump
    split
    · exact List.pairwise_cons.2 ⟨fun y hy => h1 y hy, h2⟩
    · rename_i e
      refine List.pairwise_cons.2 ⟨fun y hy hk => ?_, bump_uniq f t k r (fun z hz => hm z (by simp [hz])) h2⟩
      rcases bump_mem2 f t k r (fun z hz => hm z (by simp [hz])) y hy with ⟨q1, q2, q3, -⟩ | ⟨z, hz, hq, -⟩
      · exact e (isCnt_iff.2 ⟨hk.1.trans q1, hk.2.1.trans q2, hk.2.2.trans q3⟩)
      · exact h1 z hz ⟨hk.1.trans hq.1, hk.2.1.trans hq.2.1, hk.2.2.trans hq.2.2⟩
theorem Cn.bound {P : Nat} {N : Net} (h : Cn P N) (hn : N.hs.length ≤ 1000) : ∀ x ∈ N.sent, 0 ≤ x.many ∧ x.many ≤ 100000 := fun x hx => by
  have := h.mn x hx
  omega
theorem cn_send {P : Nat} {N : Net} {hs' : List Hd} {m : Msg} {fl' : List Msg} (h : Cn P N) (hn : N.hs.length ≤ 1000) (f0 : 0 ≤ m.frm) (f1 : m.frm < P) (t0 : 0 ≤ m.to) (t1 : m.to < P) (k0 : 1 ≤ m.kind) (k1 : m.kind ≤ 4) (hl : 2 * N.hs.length + reqs fl' + 1 ≤ 2 * hs'.length + reqs N.fl) (hl2 : reqs fl' + 1 ≤ 2 * hs'.length) :
    (∀ x ∈ bump N.sent m.frm m.to (kname m.kind), 1 ≤ x.many ∧ x.many + reqs fl' ≤ 2 * hs'.length) ∧ (∀ x ∈ bump N.sent m.frm m.to (kname m.kind), 0 ≤ x.frm ∧ x.frm < P ∧ 0 ≤ x.to ∧ x.to < P ∧ ∃ k : Int, 1 ≤ k ∧ k ≤ 4 ∧ x.kind = kname k) ∧ Uniq (bump N.sent m.frm m.to (kname m.kind)) := by
  have hb := h.bound hn
  refine ⟨fun y hy => ?_, fun y hy => ?_, bump_uniq _ _ _ _ hb h.un⟩
  · rcases bump_mem2 _ _ _ _ hb y hy with ⟨-, -, -, q⟩ | ⟨z, hz, -, q1, q2⟩
    · omega
    · have := h.mn z hz
      omega
  · rcases bump_mem2 _ _ _ _ hb y hy with ⟨q1, q2, q3, -⟩ | ⟨z, hz, q, -⟩
    · rw [q1, q2, q3]
      exact ⟨f0, f1, t0, t1, _, k0, k1, rfl⟩
    · have := h.kd z hz
      rw [← q.1, ← q.2.1, ← q.2.2] at this
      exact this
theorem cn_new (P : Nat) (cs : List (List Int)) : Cn P ⟨cs, [], [], []⟩ := ⟨fun x hx => by simp at hx, fun x hx => by simp at hx, List.Pairwise.nil⟩
theorem cn_req {P C : Nat} {N : Net} (hw : Wf P C N) (h : Cn P N) {m : Msg} (f0 : 0 ≤ m.frm) (f1 : m.frm < P) (t0 : 0 ≤ m.to) (t1 : m.to < P) (k0 : 1 ≤ m.kind) (k1 : m.kind ≤ 3) : Cn P (reqN N m) := by
  unfold reqN
  have hh := hw.hs
  split
  · refine ⟨fun x hx => ?_, h.kd, h.un⟩
    have := h.mn x hx
    simp [doneN, doN, hangN]
    omega
  · have hr : reqs [(⟨m.frm, m.to, m.kind, m.cell, m.val, N.hs.length + 1⟩ : Msg)] = 1 := by
      have : m.kind ≠ 4 := by omega
      simp [reqs, this]
    have hf := hw.fl
    have hr2 : reqs N.fl ≤ N.fl.length := List.length_filter_le _ _
    obtain ⟨a, b, c⟩ := cn_send (hs' := N.hs ++ [⟨m.frm, 0, false⟩]) (fl' := N.fl ++ [⟨m.frm, m.to, m.kind, m.cell, m.val, N.hs.length + 1⟩]) h hh f0 f1 t0 t1 k0 (by omega) (by rw [reqs_append, hr]; simp; omega) (by rw [reqs_append, hr]; simp; omega)
    exact ⟨a, b, c⟩
theorem cn_del {P C : Nat} {N : Net} (hw : Wf P C N) (h : Cn P N) {k : Nat} (hk : k < N.fl.length) : Cn P (delN N k N.fl[k]) := by
  have hm := hw.ms _ (List.getElem_mem hk)
  have hre := reqs_erase N.fl k hk
  have hh := hw.hs
  have hf := hw.fl
  generalize N.fl[k] = m at *
  unfold delN
  split
  · rename_i e4
    rw [if_pos e4] at hre
    refine ⟨fun x hx => ?_, h.kd, h.un⟩
    have := h.mn x hx
    simp only [doneN, dropN, List.length_set]
    omega
  · rename_i e4
    rw [if_neg e4] at hre
    have e : reqs [ansM m (ansN (dropN N k) m)] = 0 := by simp [reqs, ansM]
    have e' : reqs [ansM m (ansN N m)] = 0 := by simp [reqs, ansM]
    have hr2 : reqs N.fl ≤ N.fl.length := List.length_filter_le _ _
    obtain ⟨a, b, c⟩ := cn_send (hs' := N.hs) (fl' := N.fl.eraseIdx k ++ [ansM m (ansN N m)]) (m := ansM m (ansN N m)) h hh hm.t0 hm.t1 hm.f0 hm.f1 (by simp [ansM]) (by simp [ansM]) (by rw [reqs_append, e']; omega) (by rw [reqs_append, e']; omega)
    exact ⟨a, b, c⟩

/-- what the document's net tells of what was sent -/
def refRow (P : Nat) (l : List Cnt) (i : Nat) : List Cnt := [3, 4, 2, 1].filterMap fun k : Int => if 0 < manyOf l (i / P : Nat) (i % P : Nat) (kname k) then some ⟨(i / P : Nat), (i % P : Nat), kname k, manyOf l (i / P : Nat) (i % P : Nat) (kname k)⟩ else none
def refSent (P : Nat) (l : List Cnt) : List Cnt := (List.range (P * P)).flatMap (refRow P l)
def keyLt (x y : Cnt) : Prop := x.frm < y.frm ∨ x.frm = y.frm ∧ (x.to < y.to ∨ x.to = y.to ∧ x.kind.toList < y.kind.toList)
theorem keyLt_irrefl (x : Cnt) : ¬ keyLt x x := by
  rintro (h | ⟨-, h | ⟨-, h⟩⟩)
  · omega
  · omega
  · exact List.lt_irrefl _ h
theorem keyLt_asymm {x y : Cnt} (h : keyLt x y) (h' : keyLt y x) : False := by
  rcases h with h | ⟨e, h | ⟨e2, h⟩⟩ <;> rcases h' with h' | ⟨f, h' | ⟨f2, h'⟩⟩ <;> first | omega | exact List.lt_irrefl _ (List.lt_trans h h')
theorem sorted_ext : ∀ (l m : List Cnt), l.Pairwise keyLt → m.Pairwise keyLt → (∀ x, x ∈ l ↔ x ∈ m) → l = m
  | [], [], _, _, _ => rfl
  | [], y :: m, _, _, h => by have := (h y).2 (by simp); simp at this
  | x :: l, [], _, _, h => by have := (h x).1 (by simp); simp at this
  | x :: l, y :: m, hl, hm, h => by
    obtain ⟨l1, l2⟩ := List.pairwise_cons.1 hl
    obtain ⟨m1, m2⟩ := List.pairwise_cons.1 hm
    have exy : x = y := by
      by_cases e : x = y
      · exact e
      · have hx : x ∈ m := by
          rcases List.mem_cons.1 ((h x).1 (by simp)) with h' | h'
          · exact absurd h' e
          · exact h'
        have hy : y ∈ l := by
          rcases List.mem_cons.1 ((h y).2 (by simp)) with h' | h'
          · exact absurd h'.symm e
          · exact h'
        exact (keyLt_asymm (l1 y hy) (m1 x hx)).elim
    subst exy
    congr 1
    refine sorted_ext l m l2 m2 fun z => ⟨fun hz => ?_, fun hz => ?_⟩
    · rcases List.mem_cons.1 ((h z).1 (by simp [hz])) with rfl | h'
      · exact (keyLt_irrefl _ (l1 _ hz)).elim
      · exact h'
    · rcases List.mem_cons.1 ((h z).2 (by simp [hz])) with rfl | h'
      · exact (keyLt_irrefl _ (m1 _ hz)).elim
      · exact h'
theorem refRow_mem {P : Nat} {l : List Cnt} {i : Nat} {x : Cnt} (h : x ∈ refRow P l i) : x.frm = (i / P : Nat) ∧ x.to = (i % P : Nat) ∧ (∃ k : Int, 1 ≤ k ∧ k ≤ 4 ∧ x.kind = kname k) ∧ x.many = manyOf l x.frm x.to x.kind ∧ 0 < x.many := by
  unfold refRow at h
  obtain ⟨k, hk, hx⟩ := List.mem_filterMap.1 h
  split at hx
  · rename_i hp
    injection hx with hx
    subst hx
    refine ⟨rfl, rfl, ⟨k, ?_, ?_, rfl⟩, rfl, hp⟩
    · simp only [List.mem_cons, List.not_mem_nil, or_false] at hk; omega
    · simp only [List.mem_cons, List.not_mem_nil, or_false] at hk; omega
  · cases hx
theorem kname_lt : (kname 3).toList < (kname 4).toList ∧ (kname 3).toList < (kname 2).toList ∧ (kname 3).toList < (kname 1).toList ∧ (kname 4).toList < (kname 2).toList ∧ (kname 4).toList < (kname 1).toList ∧ (kname 2).toList < (kname 1).toList := by
  simp only [Go.ByteArray.toList_eq]
  decide
theorem pw_filterMap {α β : Type} {R : α → α → Prop} {S : β → β → Prop} {f : α → Option β} (hf : ∀ a b x y, R a b → f a = some x → f b = some y → S x y) : ∀ l : List α, l.Pairwise R → (l.filterMap f).Pairwise S
  | [], _ => List.Pairwise.nil
  | a :: l, h => by
    obtain ⟨h1, h2⟩ := List.pairwise_cons.1 h
    rw [List.filterMap_cons]
    split
    · exact pw_filterMap hf l h2
    · rename_i x hx
      refine List.pairwise_cons.2 ⟨fun y hy => ?_, pw_filterMap hf l h2⟩
      obtain ⟨b, hb, hy⟩ := List.mem_filterMap.1 hy
      exact hf a b x y (h1 b hb) hx hy
theorem refRow_sorted (P : Nat) (l : List Cnt) (i : Nat) : (refRow P l i).Pairwise keyLt := by
  unfold refRow
  refine pw_filterMap (R := fun a b : Int => (kname a).toList < (kname b).toList) (fun a b x y hab hx hy => ?_) _ ?_
  · split at hx
    · split at hy
      · injection hx with hx
        injection hy with hy
        subst hx
        subst hy
        exact .inr ⟨rfl, .inr ⟨rfl, hab⟩⟩
      · cases hy
    · cases hx
  · obtain ⟨a, b, c, d, e, f⟩ := kname_lt
    simp [a, b, c, d, e, f]
theorem refSent_sorted (P : Nat) (l : List Cnt) : (refSent P l).Pairwise keyLt := by
  unfold refSent
  rw [List.flatMap, List.pairwise_flatten]
  refine ⟨fun m hm => ?_, ?_⟩
  · obtain ⟨i, _, rfl⟩ := List.mem_map.1 hm
    exact refRow_sorted P l i
  · rw [List.pairwise_map]
    refine List.Pairwise.imp_of_mem (fun {i j} hi hj hij x hx y hy => ?_) (List.pairwise_lt_range (n := P * P))
    obtain ⟨a1, a2, -⟩ := refRow_mem hx
    obtain ⟨b1, b2, -⟩ := refRow_mem hy
    have hP : 0 < P := by
      rcases Nat.eq_zero_or_pos P with h | h
      · subst h; simp at hi
      · exact h
    have h1 : i / P ≤ j / P := Nat.div_le_div_right (Nat.le_of_lt hij)
    unfold keyLt
    rw [a1, a2, b1, b2]
    by_cases e : i / P = j / P
    · have e1 := Nat.div_add_mod i P
      have e2 := Nat.div_add_mod j P
      rw [e] at e1
      exact .inr ⟨by omega, .inl (by omega)⟩
    · exact .inl (by omega)
theorem refSent_mem {P : Nat} {N : Net} (h : Cn P N) (x : Cnt) : x ∈ refSent P N.sent ↔ x ∈ N.sent := by
  constructor
  · intro hx
    unfold refSent at hx
    obtain ⟨i, hi, hx⟩ := List.mem_flatMap.1 hx
    obtain ⟨-, -, -, h4, h5⟩ := refRow_mem hx
    obtain ⟨y, hy, y1, y2, y3, y4⟩ := many_mem N.sent x.frm x.to x.kind (by omega)
    have : x = y := by
      obtain ⟨a, b, c, d⟩ := x
      obtain ⟨a', b', c', d'⟩ := y
      simp only at y1 y2 y3 y4 h4
      subst y1 y2 y3
      rw [h4, ← y4]
    rw [this]
    exact hy
  · intro hx
    obtain ⟨f0, f1, t0, t1, k, k0, k1, hk⟩ := h.kd x hx
    have hm := many_of_mem N.sent h.un x hx
    have hp := (h.mn x hx).1
    obtain ⟨f, hf⟩ : ∃ f : Nat, x.frm = f := ⟨x.frm.toNat, by omega⟩
    obtain ⟨t, ht⟩ : ∃ t : Nat, x.to = t := ⟨x.to.toNat, by omega⟩
    have htP : t < P := by omega
    have hfP : f < P := by omega
    obtain ⟨e1, e2⟩ := ix_div (f := f) htP
    unfold refSent
    refine List.mem_flatMap.2 ⟨f * P + t, List.mem_range.2 ?_, ?_⟩
    · have := Nat.mul_le_mul_right P (show f + 1 ≤ P from hfP)
      rw [Nat.add_mul] at this
      omega
    · unfold refRow
      refine List.mem_filterMap.2 ⟨k, ?_, ?_⟩
      · have : k = 1 ∨ k = 2 ∨ k = 3 ∨ k = 4 := by omega
        rcases this with rfl | rfl | rfl | rfl <;> simp
      · rw [e1, e2, ← hf, ← ht, ← hk, hm, if_pos (by omega)]
theorem refSent_perm {P : Nat} {N : Net} (h : Cn P N) {l : List Cnt} (hp : l.Perm N.sent) (hs : l.Pairwise (fun a b => ¬ keyLt b a)) : l = refSent P N.sent := by
  have hu : Uniq l := h.un.perm hp.symm (fun h h' => h ⟨h'.1.symm, h'.2.1.symm, h'.2.2.symm⟩)
  refine sorted_ext l _ ?_ (refSent_sorted P N.sent) fun x => (hp.mem_iff).trans (refSent_mem h x).symm
  refine (hs.and hu).imp fun {a b} hab => ?_
  by_cases q : keyLt a b
  · exact q
  · refine (hab.2 ?_).elim
    have h1 := q
    have h2 := hab.1
    unfold keyLt at h1 h2
    have e1 : a.frm = b.frm := by omega
    have e2 : a.to = b.to := by omega
    refine ⟨e1, e2, bytes_ext (List.le_antisymm (List.not_lt.1 fun h => ?_) (List.not_lt.1 fun h => ?_))⟩
    · exact h2 (.inr ⟨e1.symm, .inr ⟨e2.symm, h⟩⟩)
    · exact h1 (.inr ⟨e1, .inr ⟨e2, h⟩⟩)
/-- whether two nets' counts are the same -/
theorem cnt_same {P : Nat} {N M : Net} (h : Cn P N) (h' : Cn P M) : (∀ i, i < P * P → cntRow P N.sent i = cntRow P M.sent i) ↔ refSent P N.sent = refSent P M.sent := by
  constructor
  · intro e
    unfold refSent
    rw [List.flatMap_def, List.flatMap_def]
    congr 1
    refine List.map_congr_left fun i hi => ?_
    have := e i (List.mem_range.1 hi)
    unfold cntRow at this
    simp only [List.cons.injEq, and_true, true_and] at this
    obtain ⟨q1, q2, q3, q4⟩ := this
    unfold refRow
    simp only [List.filterMap_cons, List.filterMap_nil, q1, q2, q3, q4]
  · intro e i hi
    have hm : ∀ f t k, manyOf N.sent f t k = manyOf M.sent f t k := fun f t k => by
      by_cases q : ∃ x ∈ N.sent, x.frm = f ∧ x.to = t ∧ x.kind = k
      · obtain ⟨x, hx, rfl, rfl, rfl⟩ := q
        have hx' : x ∈ M.sent := (refSent_mem h' x).1 (e ▸ (refSent_mem h x).2 hx)
        rw [many_of_mem _ h.un x hx, many_of_mem _ h'.un x hx']
      · rw [many_none _ f t k fun x hx h => q ⟨x, hx, h⟩, many_none _ f t k fun x hx h'' => q ⟨x, (refSent_mem h x).1 (e ▸ (refSent_mem h' x).2 hx), h''⟩]
    unfold cntRow
    simp only [hm]
end Nt
