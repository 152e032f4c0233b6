/-
  What the small machine's values and memory are in a world of the model: names of blocks stand for blocks.
-/
import Derived.Test.YtacjgphfcailmaaGreatDoorEvD
import Derived.Deep.AppendSrc
import Derived.Laws.CopyRow
import Derived.Laws.StructEq
namespace Go.Proofs.YtacjgphfcailmaaGreatDoor
open Go.RowKit
namespace Ev
set_option linter.unusedVariables false

/-- where a name lies: the block, how far in, and how many elements there is room for -/
structure Loc where
  blk : Nat
  d : Nat
  cap : Nat
abbrev Ren := Nat → Option Loc
def Ext (ρ ρ' : Ren) : Prop := ∀ b l, ρ b = some l → ρ' b = some l
theorem Ext.refl (ρ : Ren) : Ext ρ ρ := fun _ _ h => h
theorem Ext.trans {a b c : Ren} (h : Ext a b) (k : Ext b c) : Ext a c := fun _ _ q => k _ _ (h _ _ q)

/-- a function value: with what is captured; or, of a number beyond the functions', with its first arguments -/
def FnV (f : Nat) (xs : List Value) (g : Nat) (a b : Array Value) : Prop :=
  (Nat.blt f 1000000 = true → g = f ∧ a = #[] ∧ b = xs.toArray) ∧ (Nat.blt f 1000000 = false → g = f - 1000000 ∧ a = xs.toArray ∧ b = #[])
mutual
def VR (ρ : Ren) : AV → Value → Prop
  | .bool b, v => v = .bool b
  | .int k n, v => v = .int k n
  | .str n x, v => v = .string ⟨(strOf n x).toArray⟩
  | .nilp, v => v = .pointer none
  | .ptr b o, v => ∃ l, ρ b = some l ∧ v = .pointer (some ⟨l.blk, l.d + o, none⟩)
  | .nils, v => v = .slice none 0 0
  | .slice b o len opn c, v => ∃ l x cap, ρ b = some l ∧ v = .slice (some ⟨l.blk, x, none⟩) len cap ∧ len ≤ cap ∧ (cap ≠ 0 → x = l.d + o) ∧ (opn = false → cap = c) ∧ (opn = true → cap + c = l.cap)
  | .nilm, v => v = .map none
  | .map b, v => ∃ l, ρ b = some l ∧ v = .map (some l.blk)
  | .fn f cs, v => ∃ xs g a b, VRL ρ cs xs ∧ v = .func (.func g) a b ∧ FnV f xs g a b
  | .nilf, v => v = .nilFunc
  | .iface t a, v => ∃ x, VR ρ a x ∧ v = .iface t x
  | .nili, v => v = .nilIface
  | .agg cs, v => ∃ xs, VRL ρ cs xs ∧ v = .agg xs.toArray
  | .tup cs, v => ∃ xs, VRL ρ cs xs ∧ v = .tuple xs.toArray
  | .yld b, v => ∃ l, ρ b = some l ∧ v = .func (.yield l.blk) #[] #[]
def VRL (ρ : Ren) : List AV → List Value → Prop
  | [], xs => xs = []
  | a :: av, xs => ∃ x ys, xs = x :: ys ∧ VR ρ a x ∧ VRL ρ av ys
end

section
variable {ρ ρ' : Ren}
mutual
theorem VR.mono (he : Ext ρ ρ') : ∀ (a : AV) (v : Value), VR ρ a v → VR ρ' a v
  | .bool b, v, h => by simpa only [VR] using h
  | .int k n, v, h => by simpa only [VR] using h
  | .str n x, v, h => by simpa only [VR] using h
  | .nilp, v, h => by simpa only [VR] using h
  | .ptr b o, v, h => by
    simp only [VR] at h ⊢
    obtain ⟨l, h1, h2⟩ := h
    exact ⟨l, he _ _ h1, h2⟩
  | .nils, v, h => by simpa only [VR] using h
  | .slice b o len opn c, v, h => by
    simp only [VR] at h ⊢
    obtain ⟨l, x, cap, h1, h2⟩ := h
    exact ⟨l, x, cap, he _ _ h1, h2⟩
  | .nilm, v, h => by simpa only [VR] using h
  | .map b, v, h => by
    simp only [VR] at h ⊢
    obtain ⟨l, h1, h2⟩ := h
    exact ⟨l, he _ _ h1, h2⟩
  | .fn f cs, v, h => by
    simp only [VR] at h ⊢
    obtain ⟨xs, g, a, b, h1, h2⟩ := h
    exact ⟨xs, g, a, b, VRL.mono he _ _ h1, h2⟩
  | .nilf, v, h => by simpa only [VR] using h
  | .iface t a, v, h => by
    simp only [VR] at h ⊢
    obtain ⟨x, h1, h2⟩ := h
    exact ⟨x, VR.mono he _ _ h1, h2⟩
  | .nili, v, h => by simpa only [VR] using h
  | .agg cs, v, h => by
    simp only [VR] at h ⊢
    obtain ⟨xs, h1, h2⟩ := h
    exact ⟨xs, VRL.mono he _ _ h1, h2⟩
  | .tup cs, v, h => by
    simp only [VR] at h ⊢
    obtain ⟨xs, h1, h2⟩ := h
    exact ⟨xs, VRL.mono he _ _ h1, h2⟩
  | .yld b, v, h => by
    simp only [VR] at h ⊢
    obtain ⟨l, h1, h2⟩ := h
    exact ⟨l, he _ _ h1, h2⟩
theorem VRL.mono (he : Ext ρ ρ') : ∀ (av : List AV) (xs : List Value), VRL ρ av xs → VRL ρ' av xs
  | [], xs, h => by simpa only [VRL] using h
  | a :: av, xs, h => by
    simp only [VRL] at h ⊢
    obtain ⟨x, ys, h1, h2, h3⟩ := h
    exact ⟨x, ys, h1, VR.mono he _ _ h2, VRL.mono he _ _ h3⟩
end

theorem VRL.nil : VRL ρ [] [] := by simp [VRL]
theorem VRL.cons {a : AV} {x : Value} {av : List AV} {xs : List Value} (h : VR ρ a x) (k : VRL ρ av xs) : VRL ρ (a :: av) (x :: xs) := by
  simp only [VRL]
  exact ⟨x, xs, rfl, h, k⟩
theorem VRL.nil_inv {xs : List Value} (h : VRL ρ [] xs) : xs = [] := by simpa only [VRL] using h
theorem VRL.cons_inv {a : AV} {av : List AV} {xs : List Value} (h : VRL ρ (a :: av) xs) : ∃ x ys, xs = x :: ys ∧ VR ρ a x ∧ VRL ρ av ys := by simpa only [VRL] using h
theorem VRL.length : ∀ {av : List AV} {xs : List Value}, VRL ρ av xs → av.length = xs.length
  | [], xs, h => by rw [h.nil_inv]; rfl
  | a :: av, xs, h => by
    obtain ⟨x, ys, rfl, _, h2⟩ := h.cons_inv
    simp [VRL.length h2]
theorem VRL.get : ∀ {av : List AV} {xs : List Value} {i : Nat} {a : AV}, VRL ρ av xs → av[i]? = some a → ∃ x, xs[i]? = some x ∧ VR ρ a x
  | [], xs, i, a, h, hi => by simp at hi
  | b :: av, xs, 0, a, h, hi => by
    obtain ⟨x, ys, rfl, h1, h2⟩ := h.cons_inv
    simp at hi
    subst hi
    exact ⟨x, rfl, h1⟩
  | b :: av, xs, i + 1, a, h, hi => by
    obtain ⟨x, ys, rfl, h1, h2⟩ := h.cons_inv
    simp at hi
    simpa using VRL.get h2 hi
theorem VRL.append : ∀ {av bs : List AV} {xs ys : List Value}, VRL ρ av xs → VRL ρ bs ys → VRL ρ (av ++ bs) (xs ++ ys)
  | [], bs, xs, ys, h, k => by rw [h.nil_inv]; exact k
  | a :: av, bs, xs, ys, h, k => by
    obtain ⟨x, zs, rfl, h1, h2⟩ := h.cons_inv
    exact .cons h1 (VRL.append h2 k)
theorem VRL.take : ∀ {av : List AV} {xs : List Value} (n : Nat), VRL ρ av xs → VRL ρ (av.take n) (xs.take n)
  | av, xs, 0, h => by simpa using VRL.nil
  | [], xs, n + 1, h => by rw [h.nil_inv]; simpa using VRL.nil
  | a :: av, xs, n + 1, h => by
    obtain ⟨x, zs, rfl, h1, h2⟩ := h.cons_inv
    simpa using VRL.cons h1 (VRL.take n h2)
theorem VRL.drop : ∀ {av : List AV} {xs : List Value} (n : Nat), VRL ρ av xs → VRL ρ (av.drop n) (xs.drop n)
  | av, xs, 0, h => by simpa using h
  | [], xs, n + 1, h => by rw [h.nil_inv]; simpa using VRL.nil
  | a :: av, xs, n + 1, h => by
    obtain ⟨x, zs, rfl, h1, h2⟩ := h.cons_inv
    simpa using VRL.drop n h2
theorem VRL.mk : ∀ {av : List AV} {xs : List Value}, av.length = xs.length → (∀ (i : Nat) (a : AV) (x : Value), av[i]? = some a → xs[i]? = some x → VR ρ a x) → VRL ρ av xs
  | [], [], _, _ => VRL.nil
  | a :: av, x :: xs, hl, h => .cons (h 0 a x rfl rfl) (VRL.mk (by simpa using hl) fun i a x h1 h2 => h (i + 1) a x (by simpa using h1) (by simpa using h2))
theorem VR.undef : VR ρ undefA undef := by
  simp only [undefA, VR]
  exact ⟨[], VRL.nil, rfl⟩
/-! temporaries -/
def TR (ρ : Ren) (m : Tm) (ts : Array Value) : Prop := m.n = ts.size ∧ m.n ≤ 4000 ∧ ∀ k, VR ρ (Ev.nth m k) (ts.getD k Go.undef)
theorem nth_eq (m : Tm) (k : Nat) : nth m k = (m.t.get k).getD undefA := by
  obtain ⟨n, t⟩ := m
  show Option.rec (motive := fun _ => AV) undefA (fun x => x) (T.get t k) = (t.get k).getD undefA
  cases t.get k <;> rfl
theorem put_eq (x : AV) (m : Tm) (k : Nat) : put x m k = match Nat.blt k m.n with
  | true => ⟨m.n, T.set x 12 m.t k⟩
  | false => m := by
  obtain ⟨n, t⟩ := m
  show Bool.rec (motive := fun _ => Tm) ⟨n, t⟩ ⟨n, T.set x 12 t k⟩ (Nat.blt k n) = _
  simp only
  cases Nat.blt k n <;> rfl
theorem nth_put {a : AV} {m : Tm} (h : m.n ≤ 4000) (d k : Nat) : nth (put a m d) k = if k = d ∧ d < m.n then a else nth m k := by
  rw [put_eq]
  cases hb : Nat.blt d m.n with
  | false =>
    have : ¬ d < m.n := fun q => by
      have q' : Nat.blt d m.n = true := by rw [Nat.blt_eq]; exact q
      rw [q'] at hb
      cases hb
    simp [this]
  | true =>
    have hd : d < m.n := by simpa using hb
    simp only [nth_eq]
    rw [T.get_set _ _ _ _ _ (by omega)]
    by_cases e : k = d
    · simp [e, hd]
    · simp [e]
theorem put_n (a : AV) (m : Tm) (d : Nat) : (put a m d).n = m.n := by
  rw [put_eq]
  cases Nat.blt d m.n <;> rfl
theorem TR.mono {ρ' : Ren} (he : Ext ρ ρ') {m : Tm} {ts : Array Value} (h : TR ρ m ts) : TR ρ' m ts := ⟨h.1, h.2.1, fun k => VR.mono he _ _ (h.2.2 k)⟩
theorem TR.nth {m : Tm} {ts : Array Value} (h : TR ρ m ts) (k : Nat) : VR ρ (nth m k) (ts.getD k Go.undef) := h.2.2 k
theorem TR.put {a : AV} {x : Value} (h0 : VR ρ a x) {m : Tm} {ts : Array Value} (d : Nat) (h : TR ρ m ts) : TR ρ (put a m d) (ts.setIfInBounds d x) := by
  refine ⟨by rw [put_n, h.1]; simp, by rw [put_n]; exact h.2.1, fun k => ?_⟩
  rw [nth_put h.2.1]
  by_cases e : k = d ∧ d < m.n
  · rw [if_pos e]
    obtain ⟨rfl, hd⟩ := e
    rw [h.1] at hd
    simp [hd]
    exact h0
  · rw [if_neg e]
    have := h.2.2 k
    have heq : (ts.setIfInBounds d x).getD k Go.undef = ts.getD k Go.undef := by
      simp only [Array.getD_eq_getD_getElem?, Array.getElem?_setIfInBounds]
      by_cases q : d = k
      · subst q
        have hge : ¬ d < ts.size := fun hh => e ⟨rfl, by rw [h.1]; exact hh⟩
        simp [hge]
      · simp [q]
    rw [heq]
    exact this
theorem VR.undef_inv {a : AV} (h : VR ρ a Go.undef) : a = undefA := by
  cases a <;> simp only [VR, Go.undef] at h
  case tup vs =>
    obtain ⟨xs, h1, h2⟩ := h
    simp only [Value.tuple.injEq] at h2
    have : xs = [] := by
      have := congrArg Array.toList h2
      simpa using this.symm
    subst this
    cases vs with
    | nil => rfl
    | cons b vs => obtain ⟨x, ys, h3, _⟩ := h1.cons_inv; cases h3
  all_goals first | (cases h; done) | (obtain ⟨_, _, h⟩ := h; cases h; done) | (obtain ⟨_, _, _, _, h, _⟩ := h; cases h; done) | (obtain ⟨_, h⟩ := h; cases h; done) | (obtain ⟨_, h, _⟩ := h; cases h; done) | (obtain ⟨_, _, _, _, _, h, _⟩ := h; cases h; done) | skip
theorem TR.high {m : Tm} {ts : Array Value} (h : TR ρ m ts) (k : Nat) (hk : m.n ≤ k) : Ev.nth m k = undefA := by
  have := h.2.2 k
  rw [Array.getD_eq_getD_getElem?, Array.getElem?_eq_none (by rw [← h.1]; exact hk)] at this
  exact VR.undef_inv this
theorem TR.same {m m' : Tm} {ts : Array Value} (h : TR ρ m ts) (hn : m'.n = m.n) (he : ∀ k, Ev.nth m' k = Ev.nth m k) : TR ρ m' ts :=
  ⟨hn.trans h.1, hn ▸ h.2.1, fun k => (he k).symm ▸ h.2.2 k⟩
theorem fromL_get : ∀ (l : List AV) (k j : Nat), k + l.length ≤ 4000 → (fromL l k).get j = if k ≤ j then l[j - k]? else none
  | [], k, j, _ => by
    show (T.leaf : T AV).get j = _
    simp [T.get_leaf]
  | a :: l, k, j, h => by
    show (T.set a 12 (fromL l (k + 1)) k).get j = _
    simp only [List.length_cons] at h
    rw [T.get_set _ _ _ _ _ (by omega), fromL_get l (k + 1) j (by omega)]
    by_cases e : j = k
    · subst e
      simp
    · by_cases q : k ≤ j
      · rw [if_neg e, if_pos (by omega), if_pos q, show j - k = (j - (k + 1)) + 1 by omega]
        simp
      · rw [if_neg e, if_neg (by omega), if_neg q]
theorem TR.new {args : List AV} {xs : List Value} (h : VRL ρ args xs) (n : Nat) (hn : max n args.length ≤ 4000) : TR ρ ⟨max n args.length, fromL args 0⟩ (xs.toArray ++ Array.replicate (n - xs.length) Go.undef) := by
  have hl := h.length
  refine ⟨by simp; omega, hn, fun k => ?_⟩
  rw [nth_eq]
  simp only
  rw [fromL_get _ _ _ (by omega)]
  simp only [Nat.zero_le, if_true, Nat.sub_zero, Array.getD_eq_getD_getElem?]
  cases ha : args[k]? with
  | none =>
    have hk : xs.length ≤ k := by
      rw [List.getElem?_eq_none_iff] at ha
      omega
    have : (xs.toArray ++ Array.replicate (n - xs.length) Go.undef)[k]?.getD Go.undef = Go.undef := by
      rw [Array.getElem?_append_right (by simpa using hk), Array.getElem?_replicate]
      split <;> rfl
    rw [this]
    exact VR.undef
  | some a =>
    obtain ⟨x, hx, hv⟩ := h.get ha
    have hk : k < xs.length := by
      have := (List.getElem?_eq_some_iff.1 hx).1
      exact this
    rw [Array.getElem?_append_left (by simpa using hk)]
    simp [hx]
    exact hv
/-- what is a constant here is one there -/
theorem ofScalar_VR {v : Value} {a : AV} (h : ofScalar v = some a) : VR ρ a v := by
  unfold ofScalar at h
  split at h <;> simp at h <;> subst h <;> simp only [VR]
  rename_i s
  obtain ⟨⟨l⟩⟩ := s
  congr
  have : ∀ l : List UInt8, strOf l.length (numOf l) = l := by
    intro l
    induction l with
    | nil => rfl
    | cons b l ih =>
      have h1 : (b.toNat + 256 * numOf l) % 256 = b.toNat := by have := b.toNat_lt; omega
      have h2 : (b.toNat + 256 * numOf l) / 256 = numOf l := by have := b.toNat_lt; omega
      simp only [List.length_cons, strOf, numOf, h1, h2, ih]
      simp
  exact (this l).symm
theorem ofScalars_VRL : ∀ {vs : List Value} {av : List AV}, ofScalars vs = some av → VRL ρ av vs
  | [], av, h => by simp [ofScalars] at h; subst h; exact VRL.nil
  | v :: vs, av, h => by
    simp only [ofScalars] at h
    split at h
    · rename_i a bs h1 h2
      simp at h
      subst h
      exact .cons (ofScalar_VR h1) (ofScalars_VRL h2)
    · simp at h
theorem ofValue_VR {v : Value} {a : AV} (h : ofValue v = some a) : VR ρ a v := by
  unfold ofValue at h
  split at h
  · rename_i cs
    cases h1 : ofScalars cs.toList with
    | none => rw [h1] at h; simp at h
    | some av =>
      rw [h1] at h
      simp at h
      subst h
      simp only [VR]
      exact ⟨cs.toList, ofScalars_VRL h1, by simp⟩
  · exact ofScalar_VR h
theorem cellsA_VRL {a : AV} {v : Value} (h : VR ρ a v) : VRL ρ (cellsA a) v.cells.toList := by
  cases a <;> simp only [VR] at h <;> simp only [cellsA]
  case agg cs =>
    obtain ⟨xs, h1, rfl⟩ := h
    simpa [Value.cells] using h1
  all_goals first
    | (subst h; exact .cons (by simp only [VR]) VRL.nil)
    | (obtain ⟨l, x, cap, h1, rfl, h2⟩ := h; exact .cons (by simp only [VR]; exact ⟨l, x, cap, h1, rfl, h2⟩) VRL.nil)
    | (obtain ⟨x, h1, rfl⟩ := h; exact .cons (by simp only [VR]; exact ⟨x, h1, rfl⟩) VRL.nil)
    | (obtain ⟨xs, g, a, b, h1, rfl, h2⟩ := h; exact .cons (by simp only [VR]; exact ⟨xs, g, a, b, h1, rfl, h2⟩) VRL.nil)
theorem plain_one {a : AV} {v : Value} (h : VR ρ a v) (hp : plainA a = true) : v.oneCell' = true := by
  cases a <;> simp only [VR] at h <;> simp only [plainA] at hp <;> first
    | (subst h; rfl)
    | (obtain ⟨l, x, cap, h1, rfl, h2⟩ := h; rfl)
    | (obtain ⟨x, h1, rfl⟩ := h; rfl)
    | (obtain ⟨xs, g, a, b, h1, rfl, h2⟩ := h; rfl)
    | (cases hp)
theorem plains_one {av : List AV} {xs : List Value} (h : VRL ρ av xs) (hp : av.all plainA = true) : ∀ u ∈ xs, u.oneCell' = true := by
  intro u hu
  obtain ⟨i, hi⟩ := List.mem_iff_getElem?.1 hu
  have hl := h.length
  have hlt : i < xs.length := (List.getElem?_eq_some_iff.1 hi).1
  have ha : av[i]? = some av[i] := by simp [hl, hlt]
  obtain ⟨x, hx, hv⟩ := h.get ha
  rw [hi] at hx
  simp at hx
  subst hx
  exact plain_one hv (List.all_eq_true.1 hp _ (List.getElem_mem _))
end

/-! ### Blocks -/
def keyV : AV → Bool
  | .bool _ => true
  | .int _ _ => true
  | .str _ _ => true
  | _ => false
def ERL (ρ : Ren) : List (AV × AV × Nat) → List MapEntry → Prop
  | [], es => es = []
  | (k, v, b) :: l, es => ∃ e r, es = e :: r ∧ VR ρ k e.key ∧ VR ρ v e.val ∧ e.born = b ∧ ERL ρ l r
def BR (ρ : Ren) (l : Loc) : AB → Option Obj → Prop
  | .row e s cs opn true, o => ∃ C t z, o = some (.cells C t z) ∧ ∀ i a, cs[i]? = some a → ∃ x, C[l.d + i]? = some x ∧ VR ρ a x
  | .row e s cs opn false, o => ∃ C, o = some (.cells C e (0, 0)) ∧ (∀ i a, cs[i]? = some a → ∃ x, C[l.d + i]? = some x ∧ VR ρ a x) ∧
      (opn = false → l.d = 0 ∧ C.size = cs.length) ∧ (opn = true → l.d + l.cap * s = C.size)
  | .mp es c, o => ∃ E, o = some (.map E c) ∧ ERL ρ es E.toList
  | .it n v pos, o => o = some (.stringIter ⟨(strOf n v).toArray⟩ pos)
  | .mi m since seen last, o => l.d = 0 ∧ ∃ lm, ρ m = some lm ∧ o = some (.mapIter (some lm.blk) since seen.toArray last)
  | .lp st tm ps asg body pend df, o => ∃ f xs q, ρ df = some q ∧ TR ρ tm xs ∧ o = some (.loop { state := st, pending := pend, fn := f, tmps := xs, params := ps.toArray, assign := asg, body := body, defers := q.blk })
  | .df, o => o = some (.deferred (some []))
  | .dead, _ => True
theorem ERL.mono {ρ ρ' : Ren} (he : Ext ρ ρ') : ∀ {av : List (AV × AV × Nat)} {es : List MapEntry}, ERL ρ av es → ERL ρ' av es
  | [], es, h => h
  | (k, v, b) :: l, es, h => by
    simp only [ERL] at h ⊢
    obtain ⟨e, r, h1, h2, h3, h4, h5⟩ := h
    exact ⟨e, r, h1, VR.mono he _ _ h2, VR.mono he _ _ h3, h4, h5.mono he⟩
theorem BR.mono {ρ ρ' : Ren} (he : Ext ρ ρ') {l : Loc} {x : AB} {o : Option Obj} (h : BR ρ l x o) : BR ρ' l x o := by
  cases x with
  | row e s cs opn ro =>
    cases ro with
    | true =>
      obtain ⟨C, t, z, h1, h2⟩ := h
      exact ⟨C, t, z, h1, fun i a hi => let ⟨x, hx, hv⟩ := h2 i a hi; ⟨x, hx, VR.mono he _ _ hv⟩⟩
    | false =>
      obtain ⟨C, h1, h2, h3, h4⟩ := h
      exact ⟨C, h1, fun i a hi => let ⟨x, hx, hv⟩ := h2 i a hi; ⟨x, hx, VR.mono he _ _ hv⟩, h3, h4⟩
  | mp es c =>
    obtain ⟨E, h1, h2⟩ := h
    exact ⟨E, h1, h2.mono he⟩
  | it n v pos => exact h
  | mi m since seen last =>
    obtain ⟨h0, lm, h1, h2⟩ := h
    exact ⟨h0, lm, he _ _ h1, h2⟩
  | lp st tm ps asg body pend df =>
    obtain ⟨f, xs, q, h1, h2, h3⟩ := h
    exact ⟨f, xs, q, he _ _ h1, TR.mono he h2, h3⟩
  | df => exact h
  | dead => exact h
def live : AB → Bool
  | .dead => false
  | _ => true
def fixed : AB → Bool
  | .row _ _ _ _ ro => ro
  | .dead => true
  | _ => false
theorem BR.some {ρ : Ren} {l : Loc} {x : AB} {w : World} (h : BR ρ l x w.heap[l.blk]?) (hl : live x = true) : l.blk < w.heap.size := by
  have : w.heap[l.blk]? ≠ none := by
    intro e
    rw [e] at h
    cases x with
    | row e s cs opn ro =>
      cases ro with
      | true => obtain ⟨C, t, z, h1, _⟩ := h; cases h1
      | false => obtain ⟨C, h1, _⟩ := h; cases h1
    | mp es c => obtain ⟨E, h1, _⟩ := h; cases h1
    | it n v pos => cases h
    | mi m since seen last => obtain ⟨_, lm, _, h2⟩ := h; cases h2
    | lp st tm ps asg body pend df => obtain ⟨f, xs, q, h1, h2, h3⟩ := h; cases h3
    | df => cases h
    | dead => cases hl
  exact Classical.byContradiction fun hn => this (Array.getElem?_eq_none (Nat.le_of_not_lt hn))

/-- a memory of names in a world: W is the world at the start, of which nothing has changed; the first 64 names are the blocks of the package-level variables -/
structure Mo (W : World) (ρ : Ren) (h : Heap) (w : World) : Prop where
  below : Below W.heap.size W w
  dom : ∀ b, h.get b = none ↔ ρ b = none
  blk : ∀ b x l, h.get b = some x → ρ b = some l → BR ρ l x w.heap[l.blk]?
  inj : ∀ b c x y l k, h.get b = some x → h.get c = some y → live x = true → live y = true → ρ b = some l → ρ c = some k → l.blk = k.blk → b = c
  new : ∀ b x l, h.get b = some x → ρ b = some l → fixed x = false → W.heap.size ≤ l.blk
  glob : ∀ g, g < 64 → ρ g = some ⟨g, 0, 0⟩

theorem Mo.grow {W w w' : World} {ρ : Ren} {h : Heap} (m : Mo W ρ h w) (hb : Below W.heap.size w w') (hk : ∀ j, j < w.heap.size → w'.heap[j]? = w.heap[j]?) : Mo W ρ h w' where
  below := m.below.trans hb
  dom := m.dom
  blk b x l h1 h2 := by
    have := m.blk b x l h1 h2
    cases hl : live x with
    | true => rw [hk _ (this.some hl)]; exact this
    | false => cases x <;> simp [live] at hl; trivial
  inj := m.inj
  new := m.new
  glob := m.glob
theorem Mo.drew {W w : World} {ρ : Ren} {h : Heap} (m : Mo W ρ h w) : Mo W ρ h w.drew := m.grow (Below.drew (Below.refl _ _)) (fun _ _ => rfl)
theorem Mo.alloc {W w : World} {ρ : Ren} {h : Heap} (m : Mo W ρ h w) (o : Obj) : Mo W ρ h (w.alloc o) :=
  m.grow ((Below.refl _ _).alloc m.below.size _) (fun j hj => Below.heap_alloc _ _ _ hj)
/-- a new name -/
theorem Mo.add {W w : World} {ρ : Ren} {h : Heap} (m : Mo W ρ h w) {k : Nat} {x : AB} {l : Loc} (hk : k + 1 < 2 ^ 40) (hn : h.get k = none) (hb : BR ρ l x w.heap[l.blk]?)
    (hi : ∀ c y lc, h.get c = some y → live y = true → ρ c = some lc → lc.blk ≠ l.blk) (hnew : W.heap.size ≤ l.blk) :
    ∃ ρ', Ext ρ ρ' ∧ ρ' k = some l ∧ Mo W ρ' (T.set x 40 h k) w := by
  have hρ : ρ k = none := (m.dom k).1 hn
  let ρ' : Ren := fun c => if c = k then some l else ρ c
  have he : Ext ρ ρ' := by
    intro b q hb
    by_cases hbk : b = k
    · subst hbk; rw [hρ] at hb; cases hb
    · simp [ρ', hbk, hb]
  refine ⟨ρ', he, by simp [ρ'], m.below, fun b => ?_, fun b y q h1 h2 => ?_, fun b c y z q r h1 h2 l1 l2 h3 h4 h5 => ?_, fun b y q h1 h2 h3 => ?_, fun g hg => he _ _ (m.glob g hg)⟩
  · rw [T.get_set _ _ _ _ _ hk]
    by_cases hbk : b = k
    · simp [ρ', hbk]
    · simp [ρ', hbk, m.dom b]
  · rw [T.get_set _ _ _ _ _ hk] at h1
    by_cases hbk : b = k
    · subst hbk
      simp [ρ'] at h1 h2
      subst h1; subst h2
      exact hb.mono he
    · simp [ρ', hbk] at h1 h2
      exact (m.blk b y q h1 h2).mono he
  · rw [T.get_set _ _ _ _ _ hk] at h1 h2
    by_cases hbk : b = k
    · by_cases hck : c = k
      · rw [hbk, hck]
      · simp [ρ', hbk, hck] at h1 h2 h3 h4
        subst h3
        exact absurd h5.symm (hi c z r h2 l2 h4)
    · by_cases hck : c = k
      · simp [ρ', hbk, hck] at h1 h2 h3 h4
        subst h4
        exact absurd h5 (hi b y q h1 l1 h3)
      · simp [ρ', hbk, hck] at h1 h2 h3 h4
        exact m.inj b c y z q r h1 h2 l1 l2 h3 h4 h5
  · rw [T.get_set _ _ _ _ _ hk] at h1
    by_cases hbk : b = k
    · simp [ρ', hbk] at h1 h2
      subst h2
      exact hnew
    · simp [ρ', hbk] at h1 h2
      exact m.new b y q h1 h2 h3
/-- a new block -/
theorem Mo.fresh {W w : World} {ρ : Ren} {h : Heap} (m : Mo W ρ h w) {k : Nat} {x : AB} {o : Obj} (cap : Nat) (hk : k + 1 < 2 ^ 40) (hn : h.get k = none) (hb : BR ρ ⟨w.heap.size, 0, cap⟩ x (some o)) :
    ∃ ρ', Ext ρ ρ' ∧ ρ' k = some ⟨w.heap.size, 0, cap⟩ ∧ Mo W ρ' (T.set x 40 h k) (w.alloc o) := by
  refine (m.alloc o).add hk hn ?_ (fun c y lc h1 h2 h3 => ?_) m.below.size
  · show BR ρ _ x (w.heap.push o)[w.heap.size]?
    rw [Array.getElem?_push_size]
    exact hb
  · have := (m.blk c y lc h1 h3).some h2
    simp only
    omega
/-- a block is written -/
theorem Mo.write {W w w' : World} {ρ : Ren} {h : Heap} (m : Mo W ρ h w) {b : Nat} {x y : AB} {l : Loc} (hb : b + 1 < 2 ^ 40) (hg : h.get b = some y) (hρ : ρ b = some l) (hl : live y = true) (hf : fixed y = false) (hfx : fixed x = false)
    (hbr : BR ρ l x w'.heap[l.blk]?) (hk : ∀ j, j ≠ l.blk → w'.heap[j]? = w.heap[j]?) (hbl : Below W.heap.size w w') : Mo W ρ (T.set x 40 h b) w' := by
  refine ⟨m.below.trans hbl, fun c => ?_, fun c z q h1 h2 => ?_, fun c d y' z q r h1 h2 l1 l2 h3 h4 h5 => ?_, fun c z q h1 h2 h3 => ?_, m.glob⟩
  · rw [T.get_set _ _ _ _ _ hb]
    by_cases hc : c = b
    · simp [hc, hρ]
    · simp [hc, m.dom c]
  · rw [T.get_set _ _ _ _ _ hb] at h1
    by_cases hc : c = b
    · subst hc
      simp at h1
      subst h1
      rw [hρ] at h2
      cases h2
      exact hbr
    · simp [hc] at h1
      have hz := m.blk c z q h1 h2
      cases hlz : live z with
      | false => cases z <;> simp [live] at hlz; trivial
      | true =>
        have : q.blk ≠ l.blk := fun e => hc (m.inj c b z y q l h1 hg hlz hl h2 hρ e)
        rw [hk _ this]
        exact hz
  · rw [T.get_set _ _ _ _ _ hb] at h1 h2
    have key : ∀ c y', (if c = b then some x else h.get c) = some y' → live y' = true → ∃ y0, h.get c = some y0 ∧ live y0 = true := by
      intro c y' hc hy'
      by_cases e : c = b
      · subst e; exact ⟨y, hg, hl⟩
      · simp [e] at hc; exact ⟨y', hc, hy'⟩
    obtain ⟨y1, g1, g2⟩ := key c y' h1 l1
    obtain ⟨y2, g3, g4⟩ := key d z h2 l2
    exact m.inj c d y1 y2 q r g1 g3 g2 g4 h3 h4 h5
  · rw [T.get_set _ _ _ _ _ hb] at h1
    by_cases hc : c = b
    · subst hc
      rw [hρ] at h2
      cases h2
      exact m.new _ _ _ hg hρ hf
    · simp [hc] at h1
      exact m.new c z q h1 h2 h3
theorem Mo.loc {W w : World} {ρ : Ren} {h : Heap} (m : Mo W ρ h w) {b : Nat} {x : AB} (hg : h.get b = some x) : ∃ l, ρ b = some l ∧ BR ρ l x w.heap[l.blk]? := by
  cases hρ : ρ b with
  | none => rw [(m.dom b).2 hρ] at hg; cases hg
  | some l => exact ⟨l, rfl, m.blk b x l hg hρ⟩
/-- a name that is dropped -/
theorem Mo.kill {W w : World} {ρ : Ren} {h : Heap} (m : Mo W ρ h w) {b : Nat} {y : AB} (hb : b + 1 < 2 ^ 40) (hg : h.get b = some y) (hf : fixed y = false) : Mo W ρ (T.set .dead 40 h b) w := by
  obtain ⟨l, hρ, _⟩ := m.loc hg
  refine ⟨m.below, fun c => ?_, fun c z q h1 h2 => ?_, fun c d y' z q r h1 h2 l1 l2 h3 h4 h5 => ?_, fun c z q h1 h2 h3 => ?_, m.glob⟩
  · rw [T.get_set _ _ _ _ _ hb]
    by_cases hc : c = b
    · simp [hc, hρ]
    · simp [hc, m.dom c]
  · rw [T.get_set _ _ _ _ _ hb] at h1
    by_cases hc : c = b
    · simp [hc] at h1
      subst h1
      trivial
    · simp [hc] at h1
      exact m.blk c z q h1 h2
  · rw [T.get_set _ _ _ _ _ hb] at h1 h2
    by_cases hc : c = b
    · simp [hc] at h1; subst h1; cases l1
    · by_cases hd : d = b
      · simp [hd] at h2; subst h2; cases l2
      · simp [hc] at h1
        simp [hd] at h2
        exact m.inj c d y' z q r h1 h2 l1 l2 h3 h4 h5
  · rw [T.get_set _ _ _ _ _ hb] at h1
    by_cases hc : c = b
    · subst hc
      rw [hρ] at h2
      cases h2
      exact m.new _ _ _ hg hρ hf
    · simp [hc] at h1
      exact m.new c z q h1 h2 h3
end Ev
end Go.Proofs.YtacjgphfcailmaaGreatDoor
