/-
  Layer 20: slices.SortFunc at counts, by the shelf's contract.
-/
import Derived.Test.YtacjgphfcailmaaGreatDoorCtM16
import Derived.Test.YtacjgphfcailmaaGreatDoorShelfS
import Derived.Shelf.SlSortCmp.NoneTotal
namespace Go.Proofs.YtacjgphfcailmaaGreatDoor
open Go.RowKit Go.Shelf Go.Sort
open Ct
set_option linter.unusedVariables false
set_option linter.unusedSimpArgs false

instance : Inhabited Cnt := ⟨⟨0, 0, ⟨#[]⟩, 0⟩⟩
theorem blk_lt {w : World} {b : Nat} {o : Obj} (h : w.heap[b]? = some o) : b < w.heap.size := (Array.getElem?_eq_some_iff.1 h).1
theorem ordI_neg (a b : Int) : ordI a b < 0 ↔ a < b := by
  unfold ordI
  split
  · simp [*]
  · split <;> simp [*]
theorem ordI_zero (a b : Int) : ordI a b = 0 ↔ a = b := by
  unfold ordI
  split
  · simp; omega
  · split
    · simp; omega
    · simp; omega
theorem ordS_neg (a b : ByteArray) : ordS a b < 0 ↔ a.toList < b.toList := by
  unfold ordS
  rw [bytesLess_eq]
  by_cases h : a.toList < b.toList
  · simp [h]
  · simp only [h, decide_false, Bool.false_eq_true, if_false, Bool.false_or, iff_false]
    split <;> omega
theorem or3_neg (a b c : Int) : or3 a b c < 0 ↔ a < 0 ∨ a = 0 ∧ (b < 0 ∨ b = 0 ∧ c < 0) := by
  unfold or3
  by_cases h1 : a = 0
  · by_cases h2 : b = 0
    · simp [h1, h2]
    · simp [h1, h2]
  · simp [h1]
theorem cmpC_neg (x y : Cnt) : cmpC x y < 0 ↔ keyLt x y := by
  unfold cmpC keyLt
  rw [or3_neg, ordI_neg, ordI_neg, ordI_zero, ordI_zero, ordS_neg]
theorem ltOf_key (x y : Cnt) : ltOf cmpC x y = true ↔ keyLt x y := by
  unfold ltOf
  rw [decide_eq_true_iff, cmpC_neg]
theorem ltOf_key' (x y : Cnt) : ltOf cmpC x y = false ↔ ¬ keyLt x y := by
  rw [← ltOf_key]
  simp
theorem swoC : SWO (ltOf cmpC) where
  irrefl x := by
    rw [ltOf_key']
    unfold keyLt
    rintro (h | ⟨-, h | ⟨-, h⟩⟩)
    · omega
    · omega
    · exact List.lt_irrefl _ h
  trans x y z h1 h2 := by
    rw [ltOf_key] at *
    unfold keyLt at *
    rcases h1 with h1 | ⟨e1, h1 | ⟨f1, h1⟩⟩ <;> rcases h2 with h2 | ⟨e2, h2 | ⟨f2, h2⟩⟩
    · exact .inl (by omega)
    · exact .inl (by omega)
    · exact .inl (by omega)
    · exact .inl (by omega)
    · exact .inr ⟨by omega, .inl (by omega)⟩
    · exact .inr ⟨by omega, .inl (by omega)⟩
    · exact .inl (by omega)
    · exact .inr ⟨by omega, .inl (by omega)⟩
    · exact .inr ⟨by omega, .inr ⟨by omega, List.lt_trans h1 h2⟩⟩
  ntrans x y z h1 h2 := by
    rw [ltOf_key'] at *
    intro h
    unfold keyLt at *
    rcases h with h | ⟨e, h | ⟨f, h⟩⟩
    · omega
    · omega
    · have a1 : x.frm = y.frm := by omega
      have a2 : y.frm = z.frm := by omega
      have b1 : x.to = y.to := by omega
      have b2 : y.to = z.to := by omega
      have k1 : ¬ x.kind.toList < y.kind.toList := fun h' => h1 (.inr ⟨a1, .inr ⟨b1, h'⟩⟩)
      have k2 : ¬ y.kind.toList < z.kind.toList := fun h' => h2 (.inr ⟨a2, .inr ⟨b2, h'⟩⟩)
      exact (List.not_lt.2 (List.le_trans (List.not_lt.1 k2) (List.not_lt.1 k1))) h

theorem flatK_at (l : List Cnt) : (flatK cntV 4 l.toArray).toList = l.flatMap cntV := by
  apply List.ext_getElem
  · rw [Array.length_toList, size_flatK, flat_len]
    simp
  · intro t h1 h2
    have ht : t < l.length * 4 := by rw [flat_len] at h2; exact h2
    have hq : t / 4 < l.length := by omega
    have hr : t % 4 < (cntV l[t / 4]).length := by rw [cntV_len]; omega
    have h := flat_at l (t / 4) hq (t % 4) (by omega)
    rw [show t / 4 * 4 + t % 4 = t by omega, List.getElem?_eq_getElem h2, List.getElem?_eq_getElem hr] at h
    injection h with h
    rw [h]
    simp only [Array.getElem_toList, flatK, Array.getElem_map, Array.getElem_range]
    rw [getElem!_pos l.toArray (t / 4) (by simpa using hq)]
    simp only [List.getElem_toArray]
    rw [getElem!_pos (cntV l[t / 4]) (t % 4) hr]
theorem holds_cnt {w : World} {base g n cap : Nat} {l : List Cnt} (h : w.ownsRow base 32 4 (.slice (some ⟨g, 0, none⟩) n cap) n (l.flatMap cntV)) : HoldsK cntV 4 w g 0 l.toArray := by
  intro j hj
  have hc := h.cells (g := g) rfl
  have hj' : j < (l.flatMap cntV).length := by rw [← flatK_at, Array.length_toList]; exact hj
  have e : (flatK cntV 4 l.toArray)[j]! = (l.flatMap cntV)[j] := by
    rw [getElem!_pos _ j hj, ← Array.getElem_toList hj]
    have : ∀ (a b : List Value) (hab : a = b) (h1 : j < a.length) (h2 : j < b.length), a[j] = b[j] := fun a b hab _ _ => by subst hab; rfl
    exact this _ _ (flatK_at l) _ _
  have h1 := hc j _ (List.getElem?_eq_getElem hj')
  rw [e]
  rcases h.2 with ⟨h0, _⟩ | ⟨g', cap', cur, hv, _, hb, _⟩
  · cases h0
  · cases hv
    refine ⟨?_, blk_free hb _⟩
    have ea : (⟨g, 0, none⟩ : Addr).add j = ⟨g, 0 + j, none⟩ := by
      unfold Addr.add
      cases j <;> simp
    rw [← ea]
    exact h1
theorem take_put (cur : Array Value) (xs : List Value) (h : xs.length ≤ cur.size) : (putCells id 0 xs.toArray cur).toList.take xs.length = xs := by
  apply List.ext_getElem?
  intro j
  by_cases hj : j < xs.length
  · rw [List.getElem?_take_of_lt hj, Array.getElem?_toList]
    simp [putCells, hj, show j < cur.size by omega]
  · rw [List.getElem?_take_eq_none (by omega), List.getElem?_eq_none (by omega)]
theorem own_put {w : World} {base g n cap m : Nat} {l l' : List Cnt} {os : Array Obj} (h : w.ownsRow base 32 4 (.slice (some ⟨g, 0, none⟩) n cap) n (l.flatMap cntV)) (hl : l'.length = l.length) :
    (sortWorldK cntV 4 w g 0 m l'.toArray os).ownsRow base 32 4 (.slice (some ⟨g, 0, none⟩) n cap) n (l'.flatMap cntV) ∧ w.grownBy (sortWorldK cntV 4 w g 0 m l'.toArray os) (some g) := by
  have e : flatK cntV 4 l'.toArray = (l'.flatMap cntV).toArray := by rw [← flatK_at]
  rcases h.2 with ⟨h0, _⟩ | ⟨g', cap', cur, hv, hb0, hb, h1, h2, h3, h4⟩
  · cases h0
  · cases hv
    have hlen : (l'.flatMap cntV).length = n * 4 := by
      rw [flat_len, hl, ← flat_len]
      exact h.1
    unfold sortWorldK putRowK
    rw [e]
    have hg := blk_lt hb
    refine ⟨⟨hlen, .inr ⟨g, cap, putCells id 0 (l'.flatMap cntV).toArray cur, rfl, hb0, ?_, h1, h2, by simpa [putCells] using h3, ?_⟩⟩, rfl, rfl, rfl, by simp, fun k hk hne => ?_⟩
    · rw [heap_grow_old _ _ (by simpa using hg)]
      simp [putRow, mapBlock, Sort.ahead, Array.getElem?_modify, hb, onCells]
    · rw [← hlen]
      exact take_put cur _ (by rw [hlen, h3]; omega)
    · rw [heap_grow_old _ _ (by simpa using hk)]
      have : g ≠ k := fun e => hne (by rw [e])
      simp [putRow, mapBlock, Sort.ahead, Array.getElem?_modify, this]
def SortedC (l : List Cnt) : Prop := l.Pairwise (fun a b => ¬ keyLt b a)
theorem perm_of {d d' : Array Cnt} (h : PermIn 0 d.size d d') : d'.toList.Perm d.toList := by
  have h3 := h.2.2
  have h1 := h.1
  rw [show d'.extract 0 d.size = d' by rw [← h1]; simp, show d.extract 0 d.size = d by simp] at h3
  exact h3
theorem sorted_of {d' : Array Cnt} {n : Nat} (hn : n = d'.size) (h : SortedIn (ltOf cmpC) 0 n d') : SortedC d'.toList := by
  unfold SortedC
  rw [List.pairwise_iff_getElem]
  intro i j hi hj hij
  have := h i j (Nat.zero_le _) hij (by rw [hn]; simpa using hj)
  rw [getElem!_pos d' i (by simpa using hi), getElem!_pos d' j (by simpa using hj), ltOf_key'] at this
  simpa using this

def SortE (base : Nat) (v : Value) (zs : List Cnt) (w : World) (e : Ending) (w' : World) : Prop := e = .returned (.tuple #[]) ∧ ∃ l : List Cnt, l.Perm zs ∧ SortedC l ∧ w'.ownsRow base 32 4 v zs.length (l.flatMap cntV) ∧ Below base w w'
theorem sort_at (base : Nat) (v : Value) (zs : List Cnt) (w : World) (h : w.ownsRow base 32 4 v zs.length (zs.flatMap cntV)) (hb : base ≤ w.heap.size) (hz : zs.length ≤ 100000) :
    Calls Tryz.prog 18 #[v, .func (.func 19) #[] #[]] w (SortE base v zs w) := by
  rcases Nat.eq_zero_or_pos zs.length with h0 | h0
  · obtain rfl : zs = [] := List.eq_nil_of_length_eq_zero h0
    have hv : ∃ A cap, v = .slice A 0 cap := by
      rcases h.2 with ⟨rfl, _⟩ | ⟨g, cap, cur, rfl, _⟩
      · exact ⟨_, _, rfl⟩
      · exact ⟨_, _, rfl⟩
    obtain ⟨A, cap, rfl⟩ := hv
    have K := AnyF.slices_SortFunc_none Tryz.laysSort A cap (.func (.func 19) #[] #[]) w
    refine Calls.mono (show Calls Tryz.prog 18 _ _ _ from K) fun e w' hw => ?_
    obtain ⟨he, rfl⟩ := hw
    exact ⟨he, [], List.Perm.refl _, List.Pairwise.nil, h, Below.refl _ _⟩
  · obtain ⟨g, cap, rfl, hg⟩ : ∃ g cap, v = .slice (some ⟨g, 0, none⟩) zs.length cap ∧ base ≤ g := by
      rcases h.2 with ⟨rfl, hn⟩ | ⟨g, cap, cur, rfl, hg, _⟩
      · omega
      · exact ⟨_, _, rfl, hg⟩
    have hgl := (h.lt g rfl).2
    have eg : ∀ args w, (callFunc 19 args).run Tryz.prog w = .ok (.enter 19 args) w := enters_of Tryz.func19 (by kernel_rfl) rfl
    have K := AnyQ.slices_SortFunc Tryz.laysSort 4 Tryz.isAgg32 Tryz.sizeOf32 cntV (fun _ => rfl) (fun x v hv => by simp only [cntV, List.mem_cons, List.not_mem_nil, or_false] at hv; rcases hv with rfl | rfl | rfl | rfl <;> rfl)
      cmpC swoC 19 #[] g 0 cap zs.toArray w eg (fun m os dk _ x y => sumCmp_at x y _) (holds_cnt h) hgl (by simp; omega)
    have e : zs.toArray.size = zs.length := by simp
    rw [e] at K
    refine Calls.mono (show Calls Tryz.prog 18 _ _ _ from K) fun e w' hw => ?_
    obtain ⟨he, d', n, os, hp, hs, rfl⟩ := hw
    have hp' := perm_of (d := zs.toArray) (d' := d') (by rw [‹zs.toArray.size = zs.length›]; exact hp)
    have hl : d'.toList.length = zs.length := hp'.length_eq
    obtain ⟨h1, h2⟩ := own_put (m := n) (os := os) (l' := d'.toList) h hl
    rw [show d'.toList.toArray = d' from rfl] at h1 h2
    exact ⟨he, d'.toList, hp', sorted_of (by rw [← hl]; simp) hs, h1, (Below.refl _ w).grown h2 hb (fun k e => by cases e; exact hg)⟩

end Go.Proofs.YtacjgphfcailmaaGreatDoor
