/-
  Layer 16: the walks of slices.SortFunc and SortedFunc at counts, and of Sent.
-/
import Derived.Test.YtimmmbjdaibplaaW18
import Derived.Shelf.SlSortCmp.NoneTotal
namespace Go.Proofs.Ytimmmbjdaibplaa
open Go.RowKit Go.Shelf Go.Sort
open Nt
set_option linter.unusedVariables false
set_option linter.unusedSimpArgs false

instance : Inhabited Cnt := ⟨⟨0, 0, ⟨#[]⟩, 0⟩⟩

/-- the order of counts -/
def keyLt (x y : Cnt) : Prop := x.frm < y.frm ∨ x.frm = y.frm ∧ (x.to < y.to ∨ x.to = y.to ∧ x.kind.toList < y.kind.toList)
theorem cmpS_neg (a b : ByteArray) : cmpS a b < 0 ↔ a.toList < b.toList := by
  unfold cmpS
  rw [bytesLess_eq]
  by_cases h : a.toList < b.toList
  · simp [h]
  · simp only [h, decide_false, Bool.false_eq_true, if_false, Bool.false_or, iff_false]
    split <;> omega
theorem cmpInt_neg (a b : Int) : Lib.compareInt a b < 0 ↔ a < b := by
  unfold Lib.compareInt
  split
  · simp [*]
  · split <;> simp [*]
theorem cmpInt_zero (a b : Int) : Lib.compareInt a b = 0 ↔ a = b := by
  unfold Lib.compareInt
  split
  · simp; omega
  · split
    · simp; omega
    · simp; omega
theorem or3_neg (a b c : Int) : or3 a b c < 0 ↔ a < 0 ∨ a = 0 ∧ (b < 0 ∨ b = 0 ∧ c < 0) := by
  unfold or3
  by_cases h1 : a = 0
  · by_cases h2 : b = 0
    · simp [h1, h2]
    · simp [h1, h2]
  · simp [h1]
theorem cmpC_neg (x y : Cnt) : cmpC x y < 0 ↔ keyLt x y := by
  unfold cmpC keyLt
  rw [or3_neg, cmpInt_neg, cmpInt_neg, cmpInt_zero, cmpInt_zero, cmpS_neg]
theorem ltOf_key (x y : Cnt) : ltOf cmpC x y = true ↔ keyLt x y := by
  unfold ltOf
  rw [decide_eq_true_iff, cmpC_neg]
theorem ltOf_key' (x y : Cnt) : ltOf cmpC x y = false ↔ ¬ keyLt x y := by
  rw [← ltOf_key]
  simp
theorem lst_tri (a b : List UInt8) (h1 : ¬ a < b) (h2 : ¬ b < a) : a = b := List.le_antisymm (List.not_lt.1 h2) (List.not_lt.1 h1)
theorem keyLt_total (x y : Cnt) (h1 : ¬ keyLt x y) (h2 : ¬ keyLt y x) : x.frm = y.frm ∧ x.to = y.to ∧ x.kind = y.kind := by
  unfold keyLt at h1 h2
  have e1 : x.frm = y.frm := by omega
  have e2 : x.to = y.to := by omega
  refine ⟨e1, e2, bytes_ext (lst_tri _ _ (fun h => ?_) (fun h => ?_))⟩
  · exact h1 (.inr ⟨e1, .inr ⟨e2, h⟩⟩)
  · exact h2 (.inr ⟨e1.symm, .inr ⟨e2.symm, h⟩⟩)
theorem swoC : SWO (ltOf cmpC) where
  irrefl x := by
    rw [ltOf_key']
    unfold keyLt
    rintro (h | ⟨-, h | ⟨-, h⟩⟩)
    · omega
    · omega
    · exact List.lt_irrefl _ h
  trans x y z h1 h2 := by
    rw [ltOf_key] at *
    unfold keyLt at *
    rcases h1 with h1 | ⟨e1, h1 | ⟨f1, h1⟩⟩ <;> rcases h2 with h2 | ⟨e2, h2 | ⟨f2, h2⟩⟩
    · exact .inl (by omega)
    · exact .inl (by omega)
    · exact .inl (by omega)
    · exact .inl (by omega)
    · exact .inr ⟨by omega, .inl (by omega)⟩
    · exact .inr ⟨by omega, .inl (by omega)⟩
    · exact .inl (by omega)
    · exact .inr ⟨by omega, .inl (by omega)⟩
    · exact .inr ⟨by omega, .inr ⟨by omega, List.lt_trans h1 h2⟩⟩
  ntrans x y z h1 h2 := by
    rw [ltOf_key'] at *
    intro h
    unfold keyLt at *
    rcases h with h | ⟨e, h | ⟨f, h⟩⟩
    · omega
    · omega
    · have a1 : x.frm = y.frm := by omega
      have a2 : y.frm = z.frm := by omega
      have b1 : x.to = y.to := by omega
      have b2 : y.to = z.to := by omega
      have k1 : ¬ x.kind.toList < y.kind.toList := fun h' => h1 (.inr ⟨a1, .inr ⟨b1, h'⟩⟩)
      have k2 : ¬ y.kind.toList < z.kind.toList := fun h' => h2 (.inr ⟨a2, .inr ⟨b2, h'⟩⟩)
      exact (List.not_lt.2 (List.le_trans (List.not_lt.1 k2) (List.not_lt.1 k1))) h

theorem flatK_at (l : List Cnt) : (flatK cntV 4 l.toArray).toList = l.flatMap cntV := by
  apply List.ext_getElem
  · rw [Array.length_toList, size_flatK, flat_len cntV_len]
    simp
  · intro t h1 h2
    have ht : t < l.length * 4 := by rw [flat_len cntV_len] at h2; exact h2
    have hq : t / 4 < l.length := by omega
    have hr : t % 4 < (cntV l[t / 4]).length := by rw [cntV_len]; omega
    have h := flat_at cntV_len l (t / 4) hq (t % 4) (by omega)
    rw [show t / 4 * 4 + t % 4 = t by omega, List.getElem?_eq_getElem h2, List.getElem?_eq_getElem hr] at h
    injection h with h
    rw [h]
    simp only [Array.getElem_toList, flatK, Array.getElem_map, Array.getElem_range]
    rw [getElem!_pos l.toArray (t / 4) (by simpa using hq)]
    simp only [List.getElem_toArray]
    rw [getElem!_pos (cntV l[t / 4]) (t % 4) hr]
theorem holds_cnt {w : World} {base g n cap : Nat} {l : List Cnt} (h : w.ownsRow base 48 4 (.slice (some ⟨g, 0, none⟩) n cap) n (l.flatMap cntV)) : HoldsK cntV 4 w g 0 l.toArray := by
  intro j hj
  have hc := h.cells (g := g) rfl
  have hj' : j < (l.flatMap cntV).length := by rw [← flatK_at, Array.length_toList]; exact hj
  have e : (flatK cntV 4 l.toArray)[j]! = (l.flatMap cntV)[j] := by
    rw [getElem!_pos _ j hj, ← Array.getElem_toList hj]
    have : ∀ (a b : List Value) (hab : a = b) (h1 : j < a.length) (h2 : j < b.length), a[j] = b[j] := fun a b hab _ _ => by subst hab; rfl
    exact this _ _ (flatK_at l) _ _
  have h1 := hc j _ (List.getElem?_eq_getElem hj')
  rw [e]
  rcases h.2 with ⟨h0, _⟩ | ⟨g', cap', cur, hv, _, hb, _⟩
  · cases h0
  · cases hv
    refine ⟨?_, blk_free hb _⟩
    have ea : (⟨g, 0, none⟩ : Addr).add j = ⟨g, 0 + j, none⟩ := by
      unfold Addr.add
      cases j <;> simp
    rw [← ea]
    exact h1
theorem take_put (cur : Array Value) (xs : List Value) (h : xs.length ≤ cur.size) : (putCells id 0 xs.toArray cur).toList.take xs.length = xs := by
  apply List.ext_getElem?
  intro j
  by_cases hj : j < xs.length
  · rw [List.getElem?_take_of_lt hj, Array.getElem?_toList]
    simp [putCells, hj, show j < cur.size by omega]
  · rw [List.getElem?_take_eq_none (by omega), List.getElem?_eq_none (by omega)]
theorem own_put {w : World} {base g n cap m : Nat} {l l' : List Cnt} {os : Array Obj} (h : w.ownsRow base 48 4 (.slice (some ⟨g, 0, none⟩) n cap) n (l.flatMap cntV)) (hl : l'.length = l.length) :
    (sortWorldK cntV 4 w g 0 m l'.toArray os).ownsRow base 48 4 (.slice (some ⟨g, 0, none⟩) n cap) n (l'.flatMap cntV) ∧ w.grownBy (sortWorldK cntV 4 w g 0 m l'.toArray os) (some g) := by
  have e : flatK cntV 4 l'.toArray = (l'.flatMap cntV).toArray := by rw [← flatK_at]
  rcases h.2 with ⟨h0, _⟩ | ⟨g', cap', cur, hv, hb0, hb, h1, h2, h3, h4⟩
  · cases h0
  · cases hv
    have hlen : (l'.flatMap cntV).length = n * 4 := by
      rw [flat_len cntV_len, hl, ← flat_len cntV_len]
      exact h.1
    unfold sortWorldK putRowK
    rw [e]
    have hg := blk_lt hb
    refine ⟨⟨hlen, .inr ⟨g, cap, putCells id 0 (l'.flatMap cntV).toArray cur, rfl, hb0, ?_, h1, h2, by simpa [putCells] using h3, ?_⟩⟩, rfl, rfl, rfl, by simp, fun k hk hne => ?_⟩
    · rw [heap_grow_old _ _ (by simpa using hg)]
      simp [putRow, mapBlock, Sort.ahead, Array.getElem?_modify, hb, onCells]
    · rw [← hlen]
      exact take_put cur _ (by rw [hlen, h3]; omega)
    · rw [heap_grow_old _ _ (by simpa using hk)]
      have : g ≠ k := fun e => hne (by rw [e])
      simp [putRow, mapBlock, Sort.ahead, Array.getElem?_modify, this]
def SortedC (l : List Cnt) : Prop := l.Pairwise (fun a b => ¬ keyLt b a)
theorem perm_of {d d' : Array Cnt} (h : PermIn 0 d.size d d') : d'.toList.Perm d.toList := by
  have h3 := h.2.2
  have h1 := h.1
  rw [show d'.extract 0 d.size = d' by rw [← h1]; simp, show d.extract 0 d.size = d by simp] at h3
  exact h3
theorem sorted_of {d' : Array Cnt} {n : Nat} (hn : n = d'.size) (h : SortedIn (ltOf cmpC) 0 n d') : SortedC d'.toList := by
  unfold SortedC
  rw [List.pairwise_iff_getElem]
  intro i j hi hj hij
  have := h i j (Nat.zero_le _) hij (by rw [hn]; simpa using hj)
  rw [getElem!_pos d' i (by simpa using hi), getElem!_pos d' j (by simpa using hj), ltOf_key'] at this
  simpa using this

def SortE (base : Nat) (v : Value) (zs : List Cnt) (w : World) (e : Ending) (w' : World) : Prop := e = .returned (.tuple #[]) ∧ ∃ l : List Cnt, l.Perm zs ∧ SortedC l ∧ w'.ownsRow base 48 4 v zs.length (l.flatMap cntV) ∧ Below base w w'
theorem sort_at (base : Nat) (v : Value) (zs : List Cnt) (w : World) (h : w.ownsRow base 48 4 v zs.length (zs.flatMap cntV)) (hb : base ≤ w.heap.size) (hz : zs.length ≤ 100000) :
    Calls Try.prog 66 #[v, .func (.func 43) #[] #[]] w (SortE base v zs w) := by
  rcases Nat.eq_zero_or_pos zs.length with h0 | h0
  · obtain rfl : zs = [] := List.eq_nil_of_length_eq_zero h0
    have hv : ∃ A cap, v = .slice A 0 cap := by
      rcases h.2 with ⟨rfl, _⟩ | ⟨g, cap, cur, rfl, _⟩
      · exact ⟨_, _, rfl⟩
      · exact ⟨_, _, rfl⟩
    obtain ⟨A, cap, rfl⟩ := hv
    have K := AnyF.slices_SortFunc_none Try.laysSort A cap (.func (.func 43) #[] #[]) w
    refine Calls.mono (show Calls Try.prog 66 _ _ _ from K) fun e w' hw => ?_
    obtain ⟨he, rfl⟩ := hw
    exact ⟨he, [], List.Perm.refl _, List.Pairwise.nil, h, Below.refl _ _⟩
  · obtain ⟨g, cap, rfl, hg⟩ : ∃ g cap, v = .slice (some ⟨g, 0, none⟩) zs.length cap ∧ base ≤ g := by
      rcases h.2 with ⟨rfl, hn⟩ | ⟨g, cap, cur, rfl, hg, _⟩
      · omega
      · exact ⟨_, _, rfl, hg⟩
    have hgl := (h.lt g rfl).2
    have eg : ∀ args w, (callFunc 43 args).run Try.prog w = .ok (.enter 43 args) w := enters_of Try.func43 (by kernel_rfl) rfl
    have K := AnyQ.slices_SortFunc Try.laysSort 4 Try.isAgg48 Try.sizeOf48 cntV (fun _ => rfl) (fun x v hv => by simp only [cntV, List.mem_cons, List.not_mem_nil, or_false] at hv; rcases hv with rfl | rfl | rfl | rfl <;> rfl)
      cmpC swoC 43 #[] g 0 cap zs.toArray w eg (fun m os dk _ x y => sentCmp_at x y _) (holds_cnt h) hgl (by simp; omega)
    have e : zs.toArray.size = zs.length := by simp
    rw [e] at K
    refine Calls.mono (show Calls Try.prog 66 _ _ _ from K) fun e w' hw => ?_
    obtain ⟨he, d', n, os, hp, hs, rfl⟩ := hw
    have hp' := perm_of (d := zs.toArray) (d' := d') (by rw [‹zs.toArray.size = zs.length›]; exact hp)
    have hl : d'.toList.length = zs.length := hp'.length_eq
    obtain ⟨h1, h2⟩ := own_put (m := n) (os := os) (l' := d'.toList) h hl
    rw [show d'.toList.toArray = d' from rfl] at h1 h2
    exact ⟨he, d'.toList, hp', sorted_of (by rw [← hl]; simp) hs, h1, (Below.refl _ w).grown h2 hb (fun k e => by cases e; exact hg)⟩

theorem ownsRow_base_le {W : World} {base base' : Nat} {e : TypeId} {size : Nat} {v : Value} {k : Nat} {xs : List Value} (h : W.ownsRow base e size v k xs) (hb : base' ≤ base) : W.ownsRow base' e size v k xs := by
  refine ⟨h.1, ?_⟩
  rcases h.2 with hn | ⟨g, cap, cur, hv, hbg, rest⟩
  · exact .inl hn
  · exact .inr ⟨g, cap, cur, hv, Nat.le_trans hb hbg, rest⟩
def SentE (zs : List Cnt) (w : World) (e : Ending) (w' : World) : Prop := ∃ A cap, ∃ l : List Cnt, e = .returned (.slice A zs.length cap) ∧ l.Perm zs ∧ SortedC l ∧ w'.ownsRow w.heap.size 48 4 (.slice A zs.length cap) zs.length (l.flatMap cntV) ∧ Below w.heap.size w w'
theorem sentE_of {v : Value} {zs l : List Cnt} {w w' : World} (h1 : l.Perm zs) (h2 : SortedC l) (h3 : w'.ownsRow w.heap.size 48 4 v zs.length (l.flatMap cntV)) (h4 : Below w.heap.size w w') : SentE zs w (.returned v) w' := by
  rcases h3.2 with ⟨rfl, hn⟩ | ⟨g, cap, cur, rfl, _⟩
  · rw [hn] at h3
    exact ⟨none, 0, l, by rw [hn], h1, h2, by rw [hn]; exact h3, h4⟩
  · exact ⟨_, _, l, rfl, h1, h2, h3, h4⟩

set_option maxHeartbeats 4000000 in
set_option maxRecDepth 100000 in
theorem sortedFunc_at (Bs : Nat) (A : Option Addr) (cap : Nat) (zs : List Cnt) (hreach : zs.length ≤ 100000) (w : World) (hBs : Bs < w.heap.size)
    (hc : w.cell? ⟨Bs, 0, none⟩ = some (.slice A zs.length cap)) (hown : w.ownsRow 0 48 4 (.slice A zs.length cap) zs.length (zs.flatMap cntV)) (hlt : ∀ g, Value.ownBlock (.slice A zs.length cap) = some g → g < w.heap.size) :
    Calls Try.prog 41 #[.func (.func 67) #[] #[.pointer (some ⟨Bs, 0, none⟩)], .func (.func 43) #[] #[]] w (SentE zs w) := by
  have K1 := Lib.hid ((callsIn_wide (n := 6)).1 (collect_in Fence.wide 6 trivial trivial trivial rfl (by omega) Bs A cap zs hreach w hBs hc hown hlt))
  have K2 := fun v (u : World) h hb => Lib.hid (sort_at w.heap.size v zs u h hb hreach)
  clear hc hown hlt hBs
  go_enter Try.func41, Try.ntmps41
  go_wp2_with fail
  refine K1.out.mono ?_
  rintro e w1 ⟨v, rfl, ho, -, hb⟩
  have K3 := K2 v w1 ho hb.size
  have HB := Lib.hid hb
  clear ho hb K1 K2
  go_wp2_with fail
  refine K3.out.mono ?_
  rintro e w2 ⟨rfl, l, hp, hs, ho, hb⟩
  have HE := Lib.hid (sentE_of hp hs ho (HB.out.trans hb))
  clear hp hs ho hb K3 HB
  go_wp2_with fail
  go_ret
  exact HE.out

set_option maxHeartbeats 4000000 in
set_option maxRecDepth 100000 in
theorem sent_at (a C : Nat) (T : List Nat) (N : Nt.Net) (w : World) (h : NetX w a C T N) (hP0 : 0 < N.cs.length) (hP : N.cs.length ≤ 8) (hn : N.sent.length ≤ 100000) :
    Calls Try.prog 17 #[.pointer (some ⟨a, 0, none⟩)] w (SentE N.sent w) := by
  obtain ⟨bc, kc, cur, rs, vf, vh, vs, rfl, hN⟩ := h
  obtain ⟨A, cap, rfl, hA, hcap⟩ := own_form hN.so
  obtain ⟨c0, -, -, c3⟩ := hN.cells
  have K0 := Lib.hid (none_at a (some ⟨bc, 0, none⟩) N.cs.length kc w c0 hP0 hP)
  have K1 := Lib.hid ((callsIn_wide (n := 6)).1 (values_in Fence.wide 6 trivial rfl A N.sent.length cap w))
  have hb1 : Below w.heap.size w (w.alloc (.cells #[.slice A N.sent.length cap] 45)) := (Below.refl _ _).alloc (Nat.le_refl _) _
  have hs1 : (w.alloc (.cells #[.slice A N.sent.length cap] 45)).heap.size = w.heap.size + 1 := by simp
  have K2 := Lib.hid (sortedFunc_at w.heap.size A cap N.sent hn (w.alloc (.cells #[.slice A N.sent.length cap] 45)) (by omega) (blk_cell (heap_alloc_new w _) 0) (own_keep hN.so fun g hg => hb1.block g (hN.so.lt g hg).2) (fun g hg => by have := (hN.so.lt g hg).2; omega))
  have HB := Lib.hid hb1
  clear hN hP0 hP hn c0 hA hb1 hs1
  go_enter Try.func17, Try.ntmps17
  go_wp2_with fail
  refine K0.out.mono ?_
  rintro e w1 ⟨rfl, rfl⟩
  go_wp2_with fail
  refine K1.out.mono ?_
  rintro e w2 ⟨rfl, rfl⟩
  clear K0 K1
  go_wp2_with fail
  refine K2.out.mono ?_
  rintro e w3 ⟨A', cap', l, rfl, hp, hs, ho, hb⟩
  have HE := Lib.hid (sentE_of hp hs (ownsRow_base_le ho HB.out.size) (HB.out.trans (hb.mono HB.out.size)))
  clear hp hs ho hb K2 HB
  go_wp2_with fail
  go_ret
  exact HE.out
end Go.Proofs.Ytimmmbjdaibplaa
