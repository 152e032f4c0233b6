/-
  What the small machine's values and memory are in a world of the model: names of blocks stand for blocks.
-/
import Derived.Test.YtclafjbbdhnhlaaGreatDoorEvD
import Derived.Deep.AppendSrc
import Derived.Laws.CopyRow
import Derived.Laws.StructEq
namespace Go.Proofs.YtclafjbbdhnhlaaGreatDoor
open Go.RowKit
namespace Ev
set_option linter.unusedVariables false

/-- where a name lies: the block, how far in, and how many elements there is room for -/
structure Loc where
  blk : Nat
  d : Nat
  cap : Nat
abbrev Ren := Nat → Option Loc
def Ext (ρ ρ' : Ren) : Prop := ∀ b l, ρ b = some l → ρ' b = some l
theorem Ext.refl (ρ : Ren) : Ext ρ ρ := fun _ _ h => h
theorem Ext.trans {a b c : Ren} (h : Ext a b) (k : Ext b c) : Ext a c := fun _ _ q => k _ _ (h _ _ q)

mutual
def VR (ρ : Ren) : AV → Value → Prop
  | .bool b, v => v = .bool b
  | .int k n, v => v = .int k n
  | .str n x, v => v = .string ⟨(strOf n x).toArray⟩
  | .nilp, v => v = .pointer none
  | .ptr b o, v => ∃ l, ρ b = some l ∧ v = .pointer (some ⟨l.blk, l.d + o, none⟩)
  | .nils, v => v = .slice none 0 0
  | .slice b o len opn c, v => ∃ l x cap, ρ b = some l ∧ v = .slice (some ⟨l.blk, x, none⟩) len cap ∧ len ≤ cap ∧ (cap ≠ 0 → x = l.d + o) ∧ (opn = false → cap = c) ∧ (opn = true → cap + c = l.cap)
  | .nilm, v => v = .map none
  | .map b, v => ∃ l, ρ b = some l ∧ v = .map (some l.blk)
  | .fn f cs, v => ∃ xs, VRL ρ cs xs ∧ v = .func (.func f) #[] xs.toArray
  | .nilf, v => v = .nilFunc
  | .iface t a, v => ∃ x, VR ρ a x ∧ v = .iface t x
  | .nili, v => v = .nilIface
  | .agg cs, v => ∃ xs, VRL ρ cs xs ∧ v = .agg xs.toArray
  | .tup cs, v => ∃ xs, VRL ρ cs xs ∧ v = .tuple xs.toArray
  | .yld b, v => ∃ l, ρ b = some l ∧ v = .func (.yield l.blk) #[] #[]
def VRL (ρ : Ren) : List AV → List Value → Prop
  | [], xs => xs = []
  | a :: av, xs => ∃ x ys, xs = x :: ys ∧ VR ρ a x ∧ VRL ρ av ys
end

section
variable {ρ ρ' : Ren}
mutual
theorem VR.mono (he : Ext ρ ρ') : ∀ (a : AV) (v : Value), VR ρ a v → VR ρ' a v
  | .bool b, v, h => by simpa only [VR] using h
  | .int k n, v, h => by simpa only [VR] using h
  | .str n x, v, h => by simpa only [VR] using h
  | .nilp, v, h => by simpa only [VR] using h
  | .ptr b o, v, h => by
    simp only [VR] at h ⊢
    obtain ⟨l, h1, h2⟩ := h
    exact ⟨l, he _ _ h1, h2⟩
  | .nils, v, h => by simpa only [VR] using h
  | .slice b o len opn c, v, h => by
    simp only [VR] at h ⊢
    obtain ⟨l, x, cap, h1, h2⟩ := h
    exact ⟨l, x, cap, he _ _ h1, h2⟩
  | .nilm, v, h => by simpa only [VR] using h
  | .map b, v, h => by
    simp only [VR] at h ⊢
    obtain ⟨l, h1, h2⟩ := h
    exact ⟨l, he _ _ h1, h2⟩
  | .fn f cs, v, h => by
    simp only [VR] at h ⊢
    obtain ⟨xs, h1, h2⟩ := h
    exact ⟨xs, VRL.mono he _ _ h1, h2⟩
  | .nilf, v, h => by simpa only [VR] using h
  | .iface t a, v, h => by
    simp only [VR] at h ⊢
    obtain ⟨x, h1, h2⟩ := h
    exact ⟨x, VR.mono he _ _ h1, h2⟩
  | .nili, v, h => by simpa only [VR] using h
  | .agg cs, v, h => by
    simp only [VR] at h ⊢
    obtain ⟨xs, h1, h2⟩ := h
    exact ⟨xs, VRL.mono he _ _ h1, h2⟩
  | .tup cs, v, h => by
    simp only [VR] at h ⊢
    obtain ⟨xs, h1, h2⟩ := h
    exact ⟨xs, VRL.mono he _ _ h1, h2⟩
  | .yld b, v, h => by
    simp only [VR] at h ⊢
    obtain ⟨l, h1, h2⟩ := h
    exact ⟨l, he _ _ h1, h2⟩
theorem VRL.mono (he : Ext ρ ρ') : ∀ (av : List AV) (xs : List Value), VRL ρ av xs → VRL ρ' av xs
  | [], xs, h => by simpa only [VRL] using h
  | a :: av, xs, h => by
    simp only [VRL] at h ⊢
    obtain ⟨x, ys, h1, h2, h3⟩ := h
    exact ⟨x, ys, h1, VR.mono he _ _ h2, VRL.mono he _ _ h3⟩
end

theorem VRL.nil : VRL ρ [] [] := by simp [VRL]
theorem VRL.cons {a : AV} {x : Value} {av : List AV} {xs : List Value} (h : VR ρ a x) (k : VRL ρ av xs) : VRL ρ (a :: av) (x :: xs) := by
  simp only [VRL]
  exact ⟨x, xs, rfl, h, k⟩
theorem VRL.nil_inv {xs : List Value} (h : VRL ρ [] xs) : xs = [] := by simpa only [VRL] using h
theorem VRL.cons_inv {a : AV} {av : List AV} {xs : List Value} (h : VRL ρ (a :: av) xs) : ∃ x ys, xs = x :: ys ∧ VR ρ a x ∧ VRL ρ av ys := by simpa only [VRL] using h
theorem VRL.length : ∀ {av : List AV} {xs : List Value}, VRL ρ av xs → av.length = xs.length
  | [], xs, h => by rw [h.nil_inv]; rfl
  | a :: av, xs, h => by
    obtain ⟨x, ys, rfl, _, h2⟩ := h.cons_inv
    simp [VRL.length h2]
theorem VRL.get : ∀ {av : List AV} {xs : List Value} {i : Nat} {a : AV}, VRL ρ av xs → av[i]? = some a → ∃ x, xs[i]? = some x ∧ VR ρ a x
  | [], xs, i, a, h, hi => by simp at hi
  | b :: av, xs, 0, a, h, hi => by
    obtain ⟨x, ys, rfl, h1, h2⟩ := h.cons_inv
    simp at hi
    subst hi
    exact ⟨x, rfl, h1⟩
  | b :: av, xs, i + 1, a, h, hi => by
    obtain ⟨x, ys, rfl, h1, h2⟩ := h.cons_inv
    simp at hi
    simpa using VRL.get h2 hi
theorem VRL.append : ∀ {av bs : List AV} {xs ys : List Value}, VRL ρ av xs → VRL ρ bs ys → VRL ρ (av ++ bs) (xs ++ ys)
  | [], bs, xs, ys, h, k => by rw [h.nil_inv]; exact k
  | a :: av, bs, xs, ys, h, k => by
    obtain ⟨x, zs, rfl, h1, h2⟩ := h.cons_inv
    exact .cons h1 (VRL.append h2 k)
theorem VRL.take : ∀ {av : List AV} {xs : List Value} (n : Nat), VRL ρ av xs → VRL ρ (av.take n) (xs.take n)
  | av, xs, 0, h => by simpa using VRL.nil
  | [], xs, n + 1, h => by rw [h.nil_inv]; simpa using VRL.nil
  | a :: av, xs, n + 1, h => by
    obtain ⟨x, zs, rfl, h1, h2⟩ := h.cons_inv
    simpa using VRL.cons h1 (VRL.take n h2)
theorem VRL.drop : ∀ {av : List AV} {xs : List Value} (n : Nat), VRL ρ av xs → VRL ρ (av.drop n) (xs.drop n)
  | av, xs, 0, h => by simpa using h
  | [], xs, n + 1, h => by rw [h.nil_inv]; simpa using VRL.nil
  | a :: av, xs, n + 1, h => by
    obtain ⟨x, zs, rfl, h1, h2⟩ := h.cons_inv
    simpa using VRL.drop n h2
theorem VRL.mk : ∀ {av : List AV} {xs : List Value}, av.length = xs.length → (∀ (i : Nat) (a : AV) (x : Value), av[i]? = some a → xs[i]? = some x → VR ρ a x) → VRL ρ av xs
  | [], [], _, _ => VRL.nil
  | a :: av, x :: xs, hl, h => .cons (h 0 a x rfl rfl) (VRL.mk (by simpa using hl) fun i a x h1 h2 => h (i + 1) a x (by simpa using h1) (by simpa using h2))
theorem VRL.put {a : AV} {x : Value} (h0 : VR ρ a x) : ∀ {av : List AV} {xs : List Value} (d : Nat), VRL ρ av xs → VRL ρ (put a av d) (xs.set d x)
  | [], xs, d, h => by rw [h.nil_inv]; cases d <;> simpa [Ev.put] using VRL.nil
  | b :: av, xs, 0, h => by
    obtain ⟨y, zs, rfl, h1, h2⟩ := h.cons_inv
    simpa [Ev.put] using VRL.cons h0 h2
  | b :: av, xs, d + 1, h => by
    obtain ⟨y, zs, rfl, h1, h2⟩ := h.cons_inv
    simpa [Ev.put] using VRL.cons h1 (VRL.put h0 d h2)
theorem VR.undef : VR ρ undefA undef := by
  simp only [undefA, VR]
  exact ⟨[], VRL.nil, rfl⟩
theorem nth_get (av : List AV) (t : Nat) : nth av t = (av[t]?).getD undefA := by
  induction av generalizing t with
  | nil => simp [nth]
  | cons a av ih => cases t <;> simp [nth, ih]
theorem VRL.nth {av : List AV} {xs : List Value} (h : VRL ρ av xs) (t : Nat) : VR ρ (nth av t) (xs.toArray.getD t Go.undef) := by
  rw [nth_get]
  cases ha : av[t]? with
  | none =>
    have hl := h.length
    have : xs[t]? = none := by
      rw [List.getElem?_eq_none_iff] at ha ⊢
      omega
    simp [this]
    exact VR.undef
  | some a =>
    obtain ⟨x, hx, hv⟩ := h.get ha
    simp [hx]
    exact hv
/-- what is a constant here is one there -/
theorem ofScalar_VR {v : Value} {a : AV} (h : ofScalar v = some a) : VR ρ a v := by
  unfold ofScalar at h
  split at h <;> simp at h <;> subst h <;> simp only [VR]
  rename_i s
  obtain ⟨⟨l⟩⟩ := s
  congr
  have : ∀ l : List UInt8, strOf l.length (numOf l) = l := by
    intro l
    induction l with
    | nil => rfl
    | cons b l ih =>
      have h1 : (b.toNat + 256 * numOf l) % 256 = b.toNat := by have := b.toNat_lt; omega
      have h2 : (b.toNat + 256 * numOf l) / 256 = numOf l := by have := b.toNat_lt; omega
      simp only [List.length_cons, strOf, numOf, h1, h2, ih]
      simp
  exact (this l).symm
theorem ofScalars_VRL : ∀ {vs : List Value} {av : List AV}, ofScalars vs = some av → VRL ρ av vs
  | [], av, h => by simp [ofScalars] at h; subst h; exact VRL.nil
  | v :: vs, av, h => by
    simp only [ofScalars] at h
    split at h
    · rename_i a bs h1 h2
      simp at h
      subst h
      exact .cons (ofScalar_VR h1) (ofScalars_VRL h2)
    · simp at h
theorem ofValue_VR {v : Value} {a : AV} (h : ofValue v = some a) : VR ρ a v := by
  unfold ofValue at h
  split at h
  · rename_i cs
    cases h1 : ofScalars cs.toList with
    | none => rw [h1] at h; simp at h
    | some av =>
      rw [h1] at h
      simp at h
      subst h
      simp only [VR]
      exact ⟨cs.toList, ofScalars_VRL h1, by simp⟩
  · exact ofScalar_VR h
theorem cellsA_VRL {a : AV} {v : Value} (h : VR ρ a v) : VRL ρ (cellsA a) v.cells.toList := by
  cases a <;> simp only [VR] at h <;> simp only [cellsA]
  case agg cs =>
    obtain ⟨xs, h1, rfl⟩ := h
    simpa [Value.cells] using h1
  all_goals first
    | (subst h; exact .cons (by simp only [VR]) VRL.nil)
    | (obtain ⟨l, x, cap, h1, rfl, h2⟩ := h; exact .cons (by simp only [VR]; exact ⟨l, x, cap, h1, rfl, h2⟩) VRL.nil)
    | (obtain ⟨x, h1, rfl⟩ := h; exact .cons (by simp only [VR]; exact ⟨x, h1, rfl⟩) VRL.nil)
theorem plain_one {a : AV} {v : Value} (h : VR ρ a v) (hp : plainA a = true) : v.oneCell' = true := by
  cases a <;> simp only [VR] at h <;> simp only [plainA] at hp <;> first
    | (subst h; rfl)
    | (obtain ⟨l, x, cap, h1, rfl, h2⟩ := h; rfl)
    | (obtain ⟨x, h1, rfl⟩ := h; rfl)
    | (cases hp)
theorem plains_one {av : List AV} {xs : List Value} (h : VRL ρ av xs) (hp : av.all plainA = true) : ∀ u ∈ xs, u.oneCell' = true := by
  intro u hu
  obtain ⟨i, hi⟩ := List.mem_iff_getElem?.1 hu
  have hl := h.length
  have hlt : i < xs.length := (List.getElem?_eq_some_iff.1 hi).1
  have ha : av[i]? = some av[i] := by simp [hl, hlt]
  obtain ⟨x, hx, hv⟩ := h.get ha
  rw [hi] at hx
  simp at hx
  subst hx
  exact plain_one hv (List.all_eq_true.1 hp _ (List.getElem_mem _))
end

/-! ### Blocks -/
def keyV : AV → Bool
  | .bool _ => true
  | .int _ _ => true
  | .str _ _ => true
  | _ => false
def ERL (ρ : Ren) : List (AV × AV × Nat) → List MapEntry → Prop
  | [], es => es = []
  | (k, v, b) :: l, es => ∃ e r, es = e :: r ∧ VR ρ k e.key ∧ VR ρ v e.val ∧ e.born = b ∧ ERL ρ l r
def BR (ρ : Ren) (l : Loc) : AB → Option Obj → Prop
  | .row e s cs opn ro, o => ∃ C, o = some (.cells C e (0, 0)) ∧ (∀ i a, cs[i]? = some a → ∃ x, C[l.d + i]? = some x ∧ VR ρ a x) ∧
      (opn = false → l.d = 0 ∧ C.size = cs.length) ∧ (opn = true → l.d + l.cap * s = C.size)
  | .mp es c, o => ∃ E, o = some (.map E c) ∧ ERL ρ es E.toList
  | .it n v pos, o => o = some (.stringIter ⟨(strOf n v).toArray⟩ pos)
  | .lp st tm ps asg body pend df, o => ∃ f xs q, ρ df = some q ∧ VRL ρ tm xs ∧ o = some (.loop { state := st, pending := pend, fn := f, tmps := xs.toArray, params := ps.toArray, assign := asg, body := body, defers := q.blk })
  | .df, o => o = some (.deferred (some []))
  | .dead, _ => True
theorem ERL.mono {ρ ρ' : Ren} (he : Ext ρ ρ') : ∀ {av : List (AV × AV × Nat)} {es : List MapEntry}, ERL ρ av es → ERL ρ' av es
  | [], es, h => h
  | (k, v, b) :: l, es, h => by
    simp only [ERL] at h ⊢
    obtain ⟨e, r, h1, h2, h3, h4, h5⟩ := h
    exact ⟨e, r, h1, VR.mono he _ _ h2, VR.mono he _ _ h3, h4, h5.mono he⟩
theorem BR.mono {ρ ρ' : Ren} (he : Ext ρ ρ') {l : Loc} {x : AB} {o : Option Obj} (h : BR ρ l x o) : BR ρ' l x o := by
  cases x with
  | row e s cs opn ro =>
    obtain ⟨C, h1, h2, h3, h4⟩ := h
    exact ⟨C, h1, fun i a hi => let ⟨x, hx, hv⟩ := h2 i a hi; ⟨x, hx, VR.mono he _ _ hv⟩, h3, h4⟩
  | mp es c =>
    obtain ⟨E, h1, h2⟩ := h
    exact ⟨E, h1, h2.mono he⟩
  | it n v pos => exact h
  | lp st tm ps asg body pend df =>
    obtain ⟨f, xs, q, h1, h2, h3⟩ := h
    exact ⟨f, xs, q, he _ _ h1, VRL.mono he _ _ h2, h3⟩
  | df => exact h
  | dead => exact h
def live : AB → Bool
  | .dead => false
  | _ => true
def fixed : AB → Bool
  | .row _ _ _ _ ro => ro
  | _ => false
theorem BR.some {ρ : Ren} {l : Loc} {x : AB} {w : World} (h : BR ρ l x w.heap[l.blk]?) (hl : live x = true) : l.blk < w.heap.size := by
  have : w.heap[l.blk]? ≠ none := by
    intro e
    rw [e] at h
    cases x with
    | row e s cs opn ro => obtain ⟨C, h1, _⟩ := h; cases h1
    | mp es c => obtain ⟨E, h1, _⟩ := h; cases h1
    | it n v pos => cases h
    | lp st tm ps asg body pend df => obtain ⟨f, xs, q, h1, h2, h3⟩ := h; cases h3
    | df => cases h
    | dead => cases hl
  exact Classical.byContradiction fun hn => this (Array.getElem?_eq_none (Nat.le_of_not_lt hn))

/-- a memory of names in a world: W is the world at the start, of which nothing has changed -/
structure Mo (W : World) (ρ : Ren) (h : Heap) (w : World) : Prop where
  below : Below W.heap.size W w
  dom : ∀ b, h.get b = none ↔ ρ b = none
  blk : ∀ b x l, h.get b = some x → ρ b = some l → BR ρ l x w.heap[l.blk]?
  inj : ∀ b c x y l k, h.get b = some x → h.get c = some y → live x = true → live y = true → ρ b = some l → ρ c = some k → l.blk = k.blk → b = c
  new : ∀ b x l, h.get b = some x → ρ b = some l → fixed x = false → W.heap.size ≤ l.blk

theorem Mo.grow {W w w' : World} {ρ : Ren} {h : Heap} (m : Mo W ρ h w) (hb : Below W.heap.size w w') (hk : ∀ j, j < w.heap.size → w'.heap[j]? = w.heap[j]?) : Mo W ρ h w' where
  below := m.below.trans hb
  dom := m.dom
  blk b x l h1 h2 := by
    have := m.blk b x l h1 h2
    cases hl : live x with
    | true => rw [hk _ (this.some hl)]; exact this
    | false => cases x <;> simp [live] at hl; trivial
  inj := m.inj
  new := m.new
theorem Mo.drew {W w : World} {ρ : Ren} {h : Heap} (m : Mo W ρ h w) : Mo W ρ h w.drew := m.grow (Below.drew (Below.refl _ _)) (fun _ _ => rfl)
theorem Mo.alloc {W w : World} {ρ : Ren} {h : Heap} (m : Mo W ρ h w) (o : Obj) : Mo W ρ h (w.alloc o) :=
  m.grow ((Below.refl _ _).alloc m.below.size _) (fun j hj => Below.heap_alloc _ _ _ hj)
/-- a new name -/
theorem Mo.add {W w : World} {ρ : Ren} {h : Heap} (m : Mo W ρ h w) {k : Nat} {x : AB} {l : Loc} (hk : k + 1 < 2 ^ 40) (hn : h.get k = none) (hb : BR ρ l x w.heap[l.blk]?)
    (hi : ∀ c y lc, h.get c = some y → live y = true → ρ c = some lc → lc.blk ≠ l.blk) (hnew : W.heap.size ≤ l.blk) :
    ∃ ρ', Ext ρ ρ' ∧ ρ' k = some l ∧ Mo W ρ' (T.set x 40 h k) w := by
  have hρ : ρ k = none := (m.dom k).1 hn
  let ρ' : Ren := fun c => if c = k then some l else ρ c
  have he : Ext ρ ρ' := by
    intro b q hb
    by_cases hbk : b = k
    · subst hbk; rw [hρ] at hb; cases hb
    · simp [ρ', hbk, hb]
  refine ⟨ρ', he, by simp [ρ'], m.below, fun b => ?_, fun b y q h1 h2 => ?_, fun b c y z q r h1 h2 l1 l2 h3 h4 h5 => ?_, fun b y q h1 h2 h3 => ?_⟩
  · rw [T.get_set _ _ _ _ _ hk]
    by_cases hbk : b = k
    · simp [ρ', hbk]
    · simp [ρ', hbk, m.dom b]
  · rw [T.get_set _ _ _ _ _ hk] at h1
    by_cases hbk : b = k
    · subst hbk
      simp [ρ'] at h1 h2
      subst h1; subst h2
      exact hb.mono he
    · simp [ρ', hbk] at h1 h2
      exact (m.blk b y q h1 h2).mono he
  · rw [T.get_set _ _ _ _ _ hk] at h1 h2
    by_cases hbk : b = k
    · by_cases hck : c = k
      · rw [hbk, hck]
      · simp [ρ', hbk, hck] at h1 h2 h3 h4
        subst h3
        exact absurd h5.symm (hi c z r h2 l2 h4)
    · by_cases hck : c = k
      · simp [ρ', hbk, hck] at h1 h2 h3 h4
        subst h4
        exact absurd h5 (hi b y q h1 l1 h3)
      · simp [ρ', hbk, hck] at h1 h2 h3 h4
        exact m.inj b c y z q r h1 h2 l1 l2 h3 h4 h5
  · rw [T.get_set _ _ _ _ _ hk] at h1
    by_cases hbk : b = k
    · simp [ρ', hbk] at h1 h2
      subst h2
      exact hnew
    · simp [ρ', hbk] at h1 h2
      exact m.new b y q h1 h2 h3
/-- a new block -/
theorem Mo.fresh {W w : World} {ρ : Ren} {h : Heap} (m : Mo W ρ h w) {k : Nat} {x : AB} {o : Obj} (cap : Nat) (hk : k + 1 < 2 ^ 40) (hn : h.get k = none) (hb : BR ρ ⟨w.heap.size, 0, cap⟩ x (some o)) :
    ∃ ρ', Ext ρ ρ' ∧ ρ' k = some ⟨w.heap.size, 0, cap⟩ ∧ Mo W ρ' (T.set x 40 h k) (w.alloc o) := by
  refine (m.alloc o).add hk hn ?_ (fun c y lc h1 h2 h3 => ?_) m.below.size
  · show BR ρ _ x (w.heap.push o)[w.heap.size]?
    rw [Array.getElem?_push_size]
    exact hb
  · have := (m.blk c y lc h1 h3).some h2
    simp only
    omega
/-- a block is written -/
theorem Mo.write {W w w' : World} {ρ : Ren} {h : Heap} (m : Mo W ρ h w) {b : Nat} {x y : AB} {l : Loc} (hb : b + 1 < 2 ^ 40) (hg : h.get b = some y) (hρ : ρ b = some l) (hl : live y = true) (hf : fixed y = false) (hfx : fixed x = false)
    (hbr : BR ρ l x w'.heap[l.blk]?) (hk : ∀ j, j ≠ l.blk → w'.heap[j]? = w.heap[j]?) (hbl : Below W.heap.size w w') : Mo W ρ (T.set x 40 h b) w' := by
  refine ⟨m.below.trans hbl, fun c => ?_, fun c z q h1 h2 => ?_, fun c d y' z q r h1 h2 l1 l2 h3 h4 h5 => ?_, fun c z q h1 h2 h3 => ?_⟩
  · rw [T.get_set _ _ _ _ _ hb]
    by_cases hc : c = b
    · simp [hc, hρ]
    · simp [hc, m.dom c]
  · rw [T.get_set _ _ _ _ _ hb] at h1
    by_cases hc : c = b
    · subst hc
      simp at h1
      subst h1
      rw [hρ] at h2
      cases h2
      exact hbr
    · simp [hc] at h1
      have hz := m.blk c z q h1 h2
      cases hlz : live z with
      | false => cases z <;> simp [live] at hlz; trivial
      | true =>
        have : q.blk ≠ l.blk := fun e => hc (m.inj c b z y q l h1 hg hlz hl h2 hρ e)
        rw [hk _ this]
        exact hz
  · rw [T.get_set _ _ _ _ _ hb] at h1 h2
    have key : ∀ c y', (if c = b then some x else h.get c) = some y' → live y' = true → ∃ y0, h.get c = some y0 ∧ live y0 = true := by
      intro c y' hc hy'
      by_cases e : c = b
      · subst e; exact ⟨y, hg, hl⟩
      · simp [e] at hc; exact ⟨y', hc, hy'⟩
    obtain ⟨y1, g1, g2⟩ := key c y' h1 l1
    obtain ⟨y2, g3, g4⟩ := key d z h2 l2
    exact m.inj c d y1 y2 q r g1 g3 g2 g4 h3 h4 h5
  · rw [T.get_set _ _ _ _ _ hb] at h1
    by_cases hc : c = b
    · subst hc
      rw [hρ] at h2
      cases h2
      exact m.new _ _ _ hg hρ hf
    · simp [hc] at h1
      exact m.new c z q h1 h2 h3
theorem Mo.loc {W w : World} {ρ : Ren} {h : Heap} (m : Mo W ρ h w) {b : Nat} {x : AB} (hg : h.get b = some x) : ∃ l, ρ b = some l ∧ BR ρ l x w.heap[l.blk]? := by
  cases hρ : ρ b with
  | none => rw [(m.dom b).2 hρ] at hg; cases hg
  | some l => exact ⟨l, rfl, m.blk b x l hg hρ⟩
/-- a name that is dropped -/
theorem Mo.kill {W w : World} {ρ : Ren} {h : Heap} (m : Mo W ρ h w) {b : Nat} {y : AB} (hb : b + 1 < 2 ^ 40) (hg : h.get b = some y) (hf : fixed y = false) : Mo W ρ (T.set .dead 40 h b) w := by
  obtain ⟨l, hρ, _⟩ := m.loc hg
  refine ⟨m.below, fun c => ?_, fun c z q h1 h2 => ?_, fun c d y' z q r h1 h2 l1 l2 h3 h4 h5 => ?_, fun c z q h1 h2 h3 => ?_⟩
  · rw [T.get_set _ _ _ _ _ hb]
    by_cases hc : c = b
    · simp [hc, hρ]
    · simp [hc, m.dom c]
  · rw [T.get_set _ _ _ _ _ hb] at h1
    by_cases hc : c = b
    · simp [hc] at h1
      subst h1
      trivial
    · simp [hc] at h1
      exact m.blk c z q h1 h2
  · rw [T.get_set _ _ _ _ _ hb] at h1 h2
    by_cases hc : c = b
    · simp [hc] at h1; subst h1; cases l1
    · by_cases hd : d = b
      · simp [hd] at h2; subst h2; cases l2
      · simp [hc] at h1
        simp [hd] at h2
        exact m.inj c d y' z q r h1 h2 l1 l2 h3 h4 h5
  · rw [T.get_set _ _ _ _ _ hb] at h1
    by_cases hc : c = b
    · subst hc
      rw [hρ] at h2
      cases h2
      exact m.new _ _ _ hg hρ hf
    · simp [hc] at h1
      exact m.new c z q h1 h2 h3
end Ev
end Go.Proofs.YtclafjbbdhnhlaaGreatDoor
