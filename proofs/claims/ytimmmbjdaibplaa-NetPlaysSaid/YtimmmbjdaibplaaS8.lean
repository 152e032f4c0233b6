/-
  Layer 17: the walk of the document's Copy.
-/
import Derived.Test.YtimmmbjdaibplaaS7
namespace Go.Proofs.Ytimmmbjdaibplaa
open Go.RowKit
open Nt
set_option linter.unusedVariables false
set_option linter.unusedSimpArgs false

theorem loose_fresh (w : World) (e : TypeId) (size : Nat) : Loose (w.alloc (.cells #[] e)) e size (.slice (some ⟨w.heap.size, 0, none⟩) 0 0) 0 [] :=
  ⟨by simp, .inr ⟨w.heap.size, 0, #[], rfl, heap_alloc_new w _, Nat.le_refl _, by unfold maxLen; omega, by simp, by simp⟩⟩
/-- the copy, as far as it is built -/
structure Cp (H P C : Nat) (v2 v3 v4 v5 : Value) (w wx : World) : Prop where
  hd : wx.heap[H]? = some (.cells #[.int .i64 P, .int .i64 C, v2, v3, v4, v5] 61 (0, 0))
  be : Below H w wx
  eq : H = w.heap.size
/-- a list of the copy's own -/
def OwnL (H : Nat) (w : World) (e : TypeId) (size : Nat) (v : Value) (n : Nat) (xs : List Value) : Prop := ∃ g cap, v = .slice (some ⟨g, 0, none⟩) n cap ∧ H < g ∧ Loose w e size v n xs
theorem below_grown {wx w1 : World} {o : Obj} {g0 : Nat} (h : (wx.alloc o).grownBy w1 (some g0)) (hg : wx.heap.size ≤ g0) : Below wx.heap.size wx w1 :=
  ((Below.refl _ wx).alloc (Nat.le_refl _) o).grown h (by simp) fun k hk => by cases hk; exact hg
theorem OwnL.put {H : Nat} {wx w1 : World} {e : TypeId} {size : Nat} {v : Value} {n : Nat} {xs : List Value} (h : OwnL H wx e size v n xs) (hb : Below wx.heap.size wx w1) (i : Nat) (u : Value) : OwnL H (w1.setCell ⟨H, i, none⟩ u) e size v n xs := by
  obtain ⟨g, cap, rfl, hg, hl⟩ := h
  exact ⟨g, cap, rfl, hg, (hl.below hb).other (by simp only [Value.ownBlock, ne_eq, Option.some.injEq]; omega) _⟩
section
variable {H P C : Nat} {v2 v3 v4 v5 : Value} {w wx w1 : World}
theorem Cp.lt (h : Cp H P C v2 v3 v4 v5 w wx) : H < wx.heap.size := blk_lt h.hd
theorem Cp.put2 (h : Cp H P C v2 v3 v4 v5 w wx) (hb : Below wx.heap.size wx w1) (u : Value) : Cp H P C u v3 v4 v5 w (w1.setCell ⟨H, 2, none⟩ u) :=
  ⟨by rw [heap_setCell_same _ _ _ _ _ _ ((hb.block H h.lt).trans h.hd)]; rfl, (h.be.trans (hb.mono (Nat.le_of_lt h.lt))).setCell (Nat.le_refl _) _, h.eq⟩
theorem Cp.put3 (h : Cp H P C v2 v3 v4 v5 w wx) (hb : Below wx.heap.size wx w1) (u : Value) : Cp H P C v2 u v4 v5 w (w1.setCell ⟨H, 3, none⟩ u) :=
  ⟨by rw [heap_setCell_same _ _ _ _ _ _ ((hb.block H h.lt).trans h.hd)]; rfl, (h.be.trans (hb.mono (Nat.le_of_lt h.lt))).setCell (Nat.le_refl _) _, h.eq⟩
theorem Cp.put4 (h : Cp H P C v2 v3 v4 v5 w wx) (hb : Below wx.heap.size wx w1) (u : Value) : Cp H P C v2 v3 u v5 w (w1.setCell ⟨H, 4, none⟩ u) :=
  ⟨by rw [heap_setCell_same _ _ _ _ _ _ ((hb.block H h.lt).trans h.hd)]; rfl, (h.be.trans (hb.mono (Nat.le_of_lt h.lt))).setCell (Nat.le_refl _) _, h.eq⟩
theorem Cp.put5 (h : Cp H P C v2 v3 v4 v5 w wx) (hb : Below wx.heap.size wx w1) (u : Value) : Cp H P C v2 v3 v4 u w (w1.setCell ⟨H, 5, none⟩ u) :=
  ⟨by rw [heap_setCell_same _ _ _ _ _ _ ((hb.block H h.lt).trans h.hd)]; rfl, (h.be.trans (hb.mono (Nat.le_of_lt h.lt))).setCell (Nat.le_refl _) _, h.eq⟩
end
/-- a list appended to a fresh one lies in a block of its own -/
theorem ownL_new {H n cap g : Nat} {wx w1 : World} {e : TypeId} {size : Nat} {xs : List Value} (hH : H < wx.heap.size) (hl : Loose w1 e size (.slice (some ⟨g, 0, none⟩) n cap) n xs) (hat : g = wx.heap.size ∨ g = wx.heap.size + 1) (i : Nat) (u : Value) : OwnL H (w1.setCell ⟨H, i, none⟩ u) e size (.slice (some ⟨g, 0, none⟩) n cap) n xs := by
  have hg : H < g := by
    rcases hat with rfl | rfl <;> omega
  exact ⟨g, cap, rfl, hg, hl.other (by simp only [Value.ownBlock, ne_eq, Option.some.injEq]; omega) _⟩
theorem intL_one (l : List Int) : ∀ u ∈ intL l, u.oneCell' = true := by
  intro u hu
  obtain ⟨x, _, rfl⟩ := List.mem_map.1 hu
  rfl
theorem flat_one {α : Type} {f : α → List Value} (h : ∀ x, ∀ u ∈ f x, u.oneCell' = true) (l : List α) : ∀ u ∈ l.flatMap f, u.oneCell' = true := by
  intro u hu
  obtain ⟨x, _, hx⟩ := List.mem_flatMap.1 hu
  exact h x u hx
theorem Loose.no_block {w : World} {e e' : TypeId} {size size' : Nat} {v v' : Value} {n n' : Nat} {xs xs' : List Value} (h : Loose w e size v n xs) (h' : Loose w e' size' v' n' xs') (hne : e ≠ e') {g : Nat} (hg : v.ownBlock = some g) : v'.ownBlock ≠ some g := fun e2 => by
  obtain ⟨c, hc⟩ := h.type hg
  obtain ⟨c', hc'⟩ := h'.type e2
  exact hne (blk_type hc hc')
/-- the loop over the rows of counts -/
structure Lp (H P C : Nat) (v2 v3 v4 v5 : Value) (N : Nt.Net) (w wr : World) (k : Nat) (vr' : List Value) (rs' : List Nat) : Prop where
  cp : Cp H P C v2 v3 v4 v5 w wr
  o2 : OwnL H wr 3 1 v2 (P * C) (intL N.cs.flatten)
  o3 : OwnL H wr 74 6 v3 N.fl.length (N.fl.flatMap msgV)
  o4 : OwnL H wr 101 3 v4 N.hs.length (N.hs.flatMap rhV)
  o5 : Loose wr 22 1 v5 k vr'
  b5 : ∀ g, v5.ownBlock = some g → H < g
  rl : rs'.length = k
  row : ∀ (i : Nat) (h : i < rs'.length), ∃ kk, vr'[i]? = some (.slice (some ⟨rs'[i], 0, none⟩) 5 kk) ∧ H < rs'[i] ∧ Loose wr 3 1 (.slice (some ⟨rs'[i], 0, none⟩) 5 kk) 5 (intL (cntRow P N.sent i))
  nd : rs'.Nodup
  n2 : ∀ g, v2.ownBlock = some g → g ∉ rs'
theorem OwnL.keep {H : Nat} {w w' : World} {e : TypeId} {size : Nat} {v : Value} {n : Nat} {xs : List Value} (h : OwnL H w e size v n xs) (hk : ∀ k, k < w.heap.size → v.ownBlock = some k → w'.heap[k]? = w.heap[k]?) : OwnL H w' e size v n xs := by
  obtain ⟨g, cap, rfl, hg, hl⟩ := h
  exact ⟨g, cap, rfl, hg, hl.keep fun k e => hk k (hl.lt e) e⟩
theorem OwnL.loose {H : Nat} {w : World} {e : TypeId} {size : Nat} {v : Value} {n : Nat} {xs : List Value} (h : OwnL H w e size v n xs) : Loose w e size v n xs := by
  obtain ⟨g, cap, rfl, hg, hl⟩ := h
  exact hl
theorem OwnL.gt {H : Nat} {w : World} {e : TypeId} {size : Nat} {v : Value} {n : Nat} {xs : List Value} (h : OwnL H w e size v n xs) {k : Nat} (hk : v.ownBlock = some k) : H < k := by
  obtain ⟨g, cap, rfl, hg, hl⟩ := h
  cases hk
  exact hg
theorem Lp.next {H P C k g cap g5 cap5 : Nat} {v2 v3 v4 v5 : Value} {N : Nt.Net} {w wr w3 w4 : World} {vr' : List Value} {rs' : List Nat} {o2 : Obj} (h : Lp H P C v2 v3 v4 v5 N w wr k vr' rs')
    (hl : Loose w3 3 1 (.slice (some ⟨g, 0, none⟩) 5 cap) 5 (intL (cntRow P N.sent k))) (hb3 : Below wr.heap.size wr w3) (hat : g = wr.heap.size ∨ g = wr.heap.size + 1)
    (hl5 : Loose w4 22 1 (.slice (some ⟨g5, 0, none⟩) (k + 1) cap5) (k + 1) (vr' ++ [.slice (some ⟨g, 0, none⟩) 5 cap])) (hg5 : (w3.alloc o2).grownBy w4 v5.ownBlock) (hat5 : v5.ownBlock = some g5 ∨ g5 = w3.heap.size + 1) :
    Lp H P C v2 v3 v4 (.slice (some ⟨g5, 0, none⟩) (k + 1) cap5) N w (w4.setCell ⟨H, 5, none⟩ (.slice (some ⟨g5, 0, none⟩) (k + 1) cap5)) (k + 1) (vr' ++ [.slice (some ⟨g, 0, none⟩) 5 cap]) (rs' ++ [g]) := by
  have hH := h.cp.lt
  have hs3 := hb3.size
  have glt : g < w3.heap.size := hl.lt rfl
  have gge : wr.heap.size ≤ g := by omega
  have kp4 : ∀ q, q < w3.heap.size → v5.ownBlock ≠ some q → w4.heap[q]? = w3.heap[q]? := fun q hq hne => (hg5.block q (by simp; omega) (fun e => hne e.symm)).trans (Below.heap_alloc w3 _ q hq)
  have kp : ∀ q, q < wr.heap.size → v5.ownBlock ≠ some q → w4.heap[q]? = wr.heap[q]? := fun q hq hne => (kp4 q (by omega) hne).trans (hb3.block q hq)
  have h5H : v5.ownBlock ≠ some H := fun e => Nat.lt_irrefl _ (h.b5 H e)
  have g5H : H < g5 := by
    rcases hat5 with e | e
    · exact h.b5 g5 e
    · omega
  have hbH : Below H w (w4.setCell ⟨H, 5, none⟩ (.slice (some ⟨g5, 0, none⟩) (k + 1) cap5)) := by
    refine Below.setCell (p := ⟨H, 5, none⟩) ?_ (Nat.le_refl _) _
    have h1 : Below H w w3 := h.cp.be.trans (hb3.mono (Nat.le_of_lt hH))
    exact (h1.alloc (by omega) o2).grown hg5 (by simp; omega) fun q hq => Nat.le_of_lt (h.b5 q hq)
  have set_ne : ∀ q, q ≠ H → (w4.setCell ⟨H, 5, none⟩ (.slice (some ⟨g5, 0, none⟩) (k + 1) cap5)).heap[q]? = w4.heap[q]? := fun q hq => Below.heap_setCell _ _ _ _ hq
  have own : ∀ {e : TypeId} {size n : Nat} {v : Value} {xs : List Value}, OwnL H wr e size v n xs → e ≠ 22 → OwnL H (w4.setCell ⟨H, 5, none⟩ (.slice (some ⟨g5, 0, none⟩) (k + 1) cap5)) e size v n xs := fun ho he =>
    ho.keep fun q hq e' => (set_ne q (by have := ho.gt e'; omega)).trans (kp q hq (ho.loose.no_block h.o5 he e'))
  refine ⟨⟨?_, hbH, h.cp.eq⟩, own h.o2 (by decide), own h.o3 (by decide), own h.o4 (by decide), hl5.other (by simp only [Value.ownBlock, ne_eq, Option.some.injEq]; omega) _, fun q hq => ?_, by rw [List.length_append, h.rl]; rfl, fun i hi => ?_, ?_, fun q hq hm => ?_⟩
  · rw [heap_setCell_same _ _ _ _ _ _ ((kp H hH h5H).trans h.cp.hd)]
    rfl
  · cases hq
    exact g5H
  · by_cases hik : i < rs'.length
    · obtain ⟨kk, r1, r2, r3⟩ := h.row i hik
      have e1 : (rs' ++ [g])[i] = rs'[i] := List.getElem_append_left hik
      rw [e1]
      refine ⟨kk, ?_, r2, r3.keep fun q hq => ?_⟩
      · rw [List.getElem?_append_left (by have := h.o5.1; have := h.rl; omega)]
        exact r1
      · simp only [Value.ownBlock, Option.some.injEq] at hq
        subst hq
        exact (set_ne _ (by omega)).trans (kp _ (r3.lt rfl) (r3.no_block h.o5 (by decide) rfl))
    · have hi' : i = rs'.length := by
        have : i < (rs' ++ [g]).length := hi
        rw [List.length_append] at this
        simp at this
        omega
      subst hi'
      have e1 : (rs' ++ [g])[rs'.length]'hi = g := by simp
      rw [e1]
      refine ⟨cap, ?_, by omega, ?_⟩
      · have hvl : vr'.length = rs'.length := by have := h.o5.1; have := h.rl; omega
        rw [← hvl]
        simp
      · have := hl.keep (w' := w4.setCell ⟨H, 5, none⟩ (.slice (some ⟨g5, 0, none⟩) (k + 1) cap5)) fun q hq => by
          simp only [Value.ownBlock, Option.some.injEq] at hq
          subst hq
          exact (set_ne _ (by omega)).trans (kp4 _ glt fun e => by have := h.o5.lt e; omega)
        rw [h.rl]
        exact this
  · rw [List.nodup_append]
    refine ⟨h.nd, by simp, fun x hx y hy e => ?_⟩
    simp only [List.mem_singleton] at hy
    obtain ⟨i, hi, e'⟩ := List.getElem_of_mem hx
    obtain ⟨kk, -, -, r3⟩ := h.row i hi
    have := r3.lt (g := rs'[i]) rfl
    omega
  · rw [List.mem_append, List.mem_singleton] at hm
    rcases hm with hm | rfl
    · exact h.n2 q hq hm
    · have := h.o2.loose.lt hq
      omega
/-- .. and at its end -/
theorem Lp.done {H P C : Nat} {v2 v3 v4 v5 : Value} {N : Nt.Net} {w wr : World} {vr' : List Value} {rs' : List Nat} (h : Lp H P C v2 v3 v4 v5 N w wr (P * P) vr' rs') : ∃ T, RefX wr H P C T N ∧ (∀ k ∈ T, w.heap.size ≤ k) ∧ Below w.heap.size w wr := by
  have o2 := h.o2
  obtain ⟨vb, c2, rfl, hg2, hl2⟩ := o2
  refine ⟨refL H vb rs' v3 v4 v5, ⟨_, v3, v4, v5, vr', vb, rs', rfl, h.cp.hd, hl2, h.o3.loose, h.o4.loose, h.o5, h.rl, rfl, fun i hi => ?_, List.nodup_cons.2 ⟨h.n2 vb rfl, h.nd⟩⟩, fun k hk => ?_, by rw [← h.cp.eq]; exact h.cp.be⟩
  · obtain ⟨kk, r1, -, r3⟩ := h.row i hi
    exact ⟨kk, r1, r3⟩
  · rw [← h.cp.eq]
    simp only [refL, List.mem_cons, List.mem_append] at hk
    rcases hk with rfl | rfl | hk | hk | hk | hk
    · exact Nat.le_refl _
    · exact Nat.le_of_lt hg2
    · obtain ⟨i, hi, rfl⟩ := List.getElem_of_mem hk
      obtain ⟨kk, -, r2, -⟩ := h.row i hi
      exact Nat.le_of_lt r2
    · exact Nat.le_of_lt (h.o3.gt (ownL_mem hk))
    · exact Nat.le_of_lt (h.o4.gt (ownL_mem hk))
    · exact Nat.le_of_lt (h.b5 k (ownL_mem hk))
end Go.Proofs.Ytimmmbjdaibplaa
