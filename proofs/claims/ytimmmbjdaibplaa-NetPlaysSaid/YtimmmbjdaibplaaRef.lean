/-
  Layer 16: how the document's net lies in memory: the same abstract net, its cells in one list, its counts in a table.
-/
import Derived.Test.YtimmmbjdaibplaaLoose
import Derived.Test.YtimmmbjdaibplaaP4
namespace Go.Proofs.Ytimmmbjdaibplaa
open Go.RowKit
open Nt
set_option linter.unusedVariables false
set_option linter.unusedSimpArgs false

def rhV (h : Hd) : List Value := [.int .i64 h.frm, .bool h.dn, .int .i64 h.val]
theorem rhV_len (h : Hd) : (rhV h).length = 3 := rfl
def intL (l : List Int) : List Value := l.map (Value.int .i64)
theorem intL_at {l : List Int} {i : Nat} (h : i < l.length) : (intL l)[i]? = some (.int .i64 l[i]) := by simp [intL, h]
theorem intL_set (l : List Int) (i : Nat) (v : Int) : (intL l).set i (.int .i64 v) = intL (l.set i v) := by simp [intL, List.map_set]

structure RefAt (w : World) (b P C : Nat) (vv vf vh vc : Value) (vr : List Value) (vb : Nat) (rs : List Nat) (N : Nt.Net) : Prop where
  hd : w.heap[b]? = some (.cells #[.int .i64 P, .int .i64 C, vv, vf, vh, vc] 61 (0, 0))
  va : Loose w 3 1 vv (P * C) (intL N.cs.flatten)
  fo : Loose w 74 6 vf N.fl.length (N.fl.flatMap msgV)
  ho : Loose w 101 3 vh N.hs.length (N.hs.flatMap rhV)
  co : Loose w 22 1 vc (P * P) vr
  rl : rs.length = P * P
  ob : vv.ownBlock = some vb
  row : ∀ (i : Nat) (h : i < rs.length), ∃ k, vr[i]? = some (.slice (some ⟨rs[i], 0, none⟩) 5 k) ∧ Loose w 3 1 (.slice (some ⟨rs[i], 0, none⟩) 5 k) 5 (intL (cntRow P N.sent i))
  nd : (vb :: rs).Nodup
def refL (b vb : Nat) (rs : List Nat) (vf vh vc : Value) : List Nat := b :: vb :: (rs ++ (ownL vf ++ (ownL vh ++ ownL vc)))
def RefX (w : World) (b P C : Nat) (T : List Nat) (N : Nt.Net) : Prop := ∃ vv vf vh vc vr vb rs, T = refL b vb rs vf vh vc ∧ RefAt w b P C vv vf vh vc vr vb rs N
def RefPost (b P C : Nat) (T : List Nat) (N' : Nt.Net) (w w' : World) : Prop := ∃ T', RefX w' b P C T' N' ∧ Grows T T' w ∧ Keeps T w w'
theorem loose_lt {w : World} {e : TypeId} {size : Nat} {v : Value} {n : Nat} {xs : List Value} (h : Loose w e size v n xs) : ∀ k ∈ ownL v, k < w.heap.size := fun k hk => h.lt (ownL_mem hk)

section
variable {w w' : World} {b P C : Nat} {vv vf vh vc : Value} {vr : List Value} {vb : Nat} {rs : List Nat} {N : Nt.Net}
theorem RefAt.rlt (h : RefAt w b P C vv vf vh vc vr vb rs N) {i : Nat} (hi : i < rs.length) : rs[i] < w.heap.size := by
  obtain ⟨k, -, hk⟩ := h.row i hi
  exact hk.lt rfl
theorem RefAt.rty (h : RefAt w b P C vv vf vh vc vr vb rs N) {i : Nat} (hi : i < rs.length) : ∃ cur, w.heap[rs[i]]? = some (.cells cur 3 (0, 0)) := by
  obtain ⟨k, -, hk⟩ := h.row i hi
  exact hk.type rfl
theorem RefAt.lt (h : RefAt w b P C vv vf vh vc vr vb rs N) : ∀ k ∈ refL b vb rs vf vh vc, k < w.heap.size := by
  intro k hk
  simp only [refL, List.mem_cons, List.mem_append] at hk
  rcases hk with rfl | rfl | hk | hk | hk | hk
  · exact blk_lt h.hd
  · exact h.va.lt h.ob
  · obtain ⟨p, hp, rfl⟩ := List.getElem_of_mem hk
    exact h.rlt hp
  · exact loose_lt h.fo k hk
  · exact loose_lt h.ho k hk
  · exact loose_lt h.co k hk
theorem RefAt.keep (h : RefAt w b P C vv vf vh vc vr vb rs N) (hb : ∀ k ∈ refL b vb rs vf vh vc, w'.heap[k]? = w.heap[k]?) : RefAt w' b P C vv vf vh vc vr vb rs N := by
  have hm : ∀ k, k = b ∨ k = vb ∨ k ∈ rs ∨ k ∈ ownL vf ∨ k ∈ ownL vh ∨ k ∈ ownL vc → w'.heap[k]? = w.heap[k]? := fun k hk => hb k (by simpa only [refL, List.mem_cons, List.mem_append] using hk)
  refine ⟨(hm b (by simp)).trans h.hd, h.va.keep fun g hg => hm g ?_, h.fo.keep fun g hg => hm g (by simp [mem_ownL hg]), h.ho.keep fun g hg => hm g (by simp [mem_ownL hg]), h.co.keep fun g hg => hm g (by simp [mem_ownL hg]), h.rl, h.ob, fun i hi => ?_, h.nd⟩
  · rw [h.ob] at hg
    exact .inr (.inl (Option.some.inj hg).symm)
  · obtain ⟨k, h1, h2⟩ := h.row i hi
    refine ⟨k, h1, h2.keep fun g hg => hm g (.inr (.inr (.inl ?_)))⟩
    simp only [Value.ownBlock, Option.some.injEq] at hg
    subst hg
    exact List.getElem_mem hi
theorem RefAt.below (h : RefAt w b P C vv vf vh vc vr vb rs N) (hb : Below w.heap.size w w') : RefAt w' b P C vv vf vh vc vr vb rs N := h.keep fun k hk => hb.block k (h.lt k hk)
/-- the struct's block is none of the others -/
theorem RefAt.b_ne (h : RefAt w b P C vv vf vh vc vr vb rs N) : vb ≠ b ∧ b ∉ rs ∧ vf.ownBlock ≠ some b ∧ vh.ownBlock ≠ some b ∧ vc.ownBlock ≠ some b := by
  have h0 := h.hd
  have no : ∀ {e : TypeId} {cur : Array Value}, w.heap[b]? = some (.cells cur e (0, 0)) → e ≠ 61 → False := fun hc he => he (blk_type hc h0)
  refine ⟨fun e => ?_, fun hm => ?_, fun e => ?_, fun e => ?_, fun e => ?_⟩
  · obtain ⟨c, hc⟩ := h.va.type h.ob
    rw [e] at hc
    exact no hc (by decide)
  · obtain ⟨i, hi, e⟩ := List.getElem_of_mem hm
    obtain ⟨c, hc⟩ := h.rty hi
    rw [e] at hc
    exact no hc (by decide)
  · obtain ⟨c, hc⟩ := h.fo.type e
    exact no hc (by decide)
  · obtain ⟨c, hc⟩ := h.ho.type e
    exact no hc (by decide)
  · obtain ⟨c, hc⟩ := h.co.type e
    exact no hc (by decide)
/-- a block of ints is none of the others -/
theorem RefAt.i_ne (h : RefAt w b P C vv vf vh vc vr vb rs N) {g : Nat} {cur : Array Value} (hg : w.heap[g]? = some (.cells cur 3 (0, 0))) : g ≠ b ∧ vf.ownBlock ≠ some g ∧ vh.ownBlock ≠ some g ∧ vc.ownBlock ≠ some g := by
  refine ⟨fun e => ?_, fun e => ?_, fun e => ?_, fun e => ?_⟩
  · have := h.hd
    rw [← e] at this
    exact absurd (blk_type hg this) (by decide)
  · obtain ⟨c, hc⟩ := h.fo.type e
    exact absurd (blk_type hg hc) (by decide)
  · obtain ⟨c, hc⟩ := h.ho.type e
    exact absurd (blk_type hg hc) (by decide)
  · obtain ⟨c, hc⟩ := h.co.type e
    exact absurd (blk_type hg hc) (by decide)
/-- a block of messages is none of the others -/
theorem RefAt.f_ne (h : RefAt w b P C vv vf vh vc vr vb rs N) {g : Nat} {cur : Array Value} (hg : w.heap[g]? = some (.cells cur 74 (0, 0))) : g ≠ b ∧ g ≠ vb ∧ g ∉ rs ∧ vh.ownBlock ≠ some g ∧ vc.ownBlock ≠ some g := by
  refine ⟨fun e => ?_, fun e => ?_, fun hm => ?_, fun e => ?_, fun e => ?_⟩
  · have := h.hd
    rw [← e] at this
    exact absurd (blk_type hg this) (by decide)
  · obtain ⟨c, hc⟩ := h.va.type h.ob
    rw [← e] at hc
    exact absurd (blk_type hg hc) (by decide)
  · obtain ⟨i, hi, e⟩ := List.getElem_of_mem hm
    obtain ⟨c, hc⟩ := h.rty hi
    rw [e] at hc
    exact absurd (blk_type hg hc) (by decide)
  · obtain ⟨c, hc⟩ := h.ho.type e
    exact absurd (blk_type hg hc) (by decide)
  · obtain ⟨c, hc⟩ := h.co.type e
    exact absurd (blk_type hg hc) (by decide)
/-- a block of handles is none of the others -/
theorem RefAt.h_ne (h : RefAt w b P C vv vf vh vc vr vb rs N) {g : Nat} {cur : Array Value} (hg : w.heap[g]? = some (.cells cur 101 (0, 0))) : g ≠ b ∧ g ≠ vb ∧ g ∉ rs ∧ vf.ownBlock ≠ some g ∧ vc.ownBlock ≠ some g := by
  refine ⟨fun e => ?_, fun e => ?_, fun hm => ?_, fun e => ?_, fun e => ?_⟩
  · have := h.hd
    rw [← e] at this
    exact absurd (blk_type hg this) (by decide)
  · obtain ⟨c, hc⟩ := h.va.type h.ob
    rw [← e] at hc
    exact absurd (blk_type hg hc) (by decide)
  · obtain ⟨i, hi, e⟩ := List.getElem_of_mem hm
    obtain ⟨c, hc⟩ := h.rty hi
    rw [e] at hc
    exact absurd (blk_type hg hc) (by decide)
  · obtain ⟨c, hc⟩ := h.fo.type e
    exact absurd (blk_type hg hc) (by decide)
  · obtain ⟨c, hc⟩ := h.co.type e
    exact absurd (blk_type hg hc) (by decide)
theorem RefAt.cells (h : RefAt w b P C vv vf vh vc vr vb rs N) : w.cell? ⟨b, 0, none⟩ = some (.int .i64 P) ∧ w.cell? ⟨b, 1, none⟩ = some (.int .i64 C) ∧ w.cell? ⟨b, 2, none⟩ = some vv ∧ w.cell? ⟨b, 3, none⟩ = some vf ∧ w.cell? ⟨b, 4, none⟩ = some vh ∧ w.cell? ⟨b, 5, none⟩ = some vc :=
  ⟨blk_cell h.hd 0, blk_cell h.hd 1, blk_cell h.hd 2, blk_cell h.hd 3, blk_cell h.hd 4, blk_cell h.hd 5⟩
theorem RefAt.frees (h : RefAt w b P C vv vf vh vc vr vb rs N) (i : Nat) : w.frozen? ⟨b, i, none⟩ = false := blk_free h.hd i
/-- a cell rewritten -/
theorem RefAt.set_val (h : RefAt w b P C vv vf vh vc vr vb rs N) {cs : List (List Int)} {j : Nat} {z : Int} (hc : cs.flatten = N.cs.flatten.set j z) : RefAt (w.setCell ⟨vb, j, none⟩ (.int .i64 z)) b P C vv vf vh vc vr vb rs ⟨cs, N.fl, N.hs, N.sent⟩ := by
  obtain ⟨cur, hcur⟩ := h.va.type h.ob
  obtain ⟨n1, n2, n3, n4⟩ := h.i_ne hcur
  have hv : ∃ n cap, vv = .slice (some ⟨vb, 0, none⟩) n cap ∧ n = P * C := by
    obtain ⟨A, cap, e, hA, -⟩ := h.va.form
    have hob := h.ob
    rcases h.va.2 with ⟨rfl, _⟩ | ⟨g, cap, cur, rfl, _⟩
    · simp [Value.ownBlock] at hob
    · simp only [Value.ownBlock, Option.some.injEq] at hob
      subst hob
      exact ⟨_, cap, rfl, rfl⟩
  obtain ⟨n, cap, rfl, rfl⟩ := hv
  refine ⟨(Below.heap_setCell _ _ _ _ n1.symm).trans h.hd, ?_, h.fo.other n2 _, h.ho.other n3 _, h.co.other n4 _, h.rl, h.ob, fun i hi => ?_, h.nd⟩
  · show Loose _ _ _ _ _ (intL cs.flatten)
    rw [hc, ← intL_set]
    exact h.va.stored j _
  · obtain ⟨k, h1, h2⟩ := h.row i hi
    refine ⟨k, h1, h2.other ?_ _⟩
    simp only [Value.ownBlock, ne_eq, Option.some.injEq]
    intro e
    exact (List.nodup_cons.1 h.nd).1 (e ▸ List.getElem_mem hi)
/-- a count rewritten -/
theorem RefAt.set_cnt (h : RefAt w b P C vv vf vh vc vr vb rs N) {sent : List Cnt} {i j : Nat} {z : Int} (hi : i < rs.length) (h1 : cntRow P sent i = (cntRow P N.sent i).set j z) (h2 : ∀ q, q ≠ i → cntRow P sent q = cntRow P N.sent q) : RefAt (w.setCell ⟨rs[i], j, none⟩ (.int .i64 z)) b P C vv vf vh vc vr vb rs ⟨N.cs, N.fl, N.hs, sent⟩ := by
  obtain ⟨cur, hcur⟩ := h.rty hi
  obtain ⟨n1, n2, n3, n4⟩ := h.i_ne hcur
  refine ⟨(Below.heap_setCell _ _ _ _ n1.symm).trans h.hd, h.va.other ?_ _, h.fo.other n2 _, h.ho.other n3 _, h.co.other n4 _, h.rl, h.ob, fun q hq => ?_, h.nd⟩
  · rw [h.ob]
    intro e
    exact (List.nodup_cons.1 h.nd).1 (by rw [Option.some.inj e]; exact List.getElem_mem hi)
  · obtain ⟨k, k1, k2⟩ := h.row q hq
    refine ⟨k, k1, ?_⟩
    by_cases e : q = i
    · subst e
      show Loose _ _ _ _ _ (intL (cntRow P sent q))
      rw [h1, ← intL_set]
      exact k2.stored j _
    · show Loose _ _ _ _ _ (intL (cntRow P sent q))
      rw [h2 q e]
      refine k2.other ?_ _
      simp only [Value.ownBlock, ne_eq, Option.some.injEq]
      intro e'
      have hnd := (List.nodup_cons.1 h.nd).2
      exact (Nat.lt_or_gt_of_ne e).elim (fun hlt => List.pairwise_iff_getElem.1 hnd q i hq hi hlt e') (fun hlt => List.pairwise_iff_getElem.1 hnd i q hi hq hlt e'.symm)
/-- Fly replaced -/
theorem RefAt.set_fly (h : RefAt w b P C vv vf vh vc vr vb rs N) {w2 : World} {fl' : List Msg} {n' g cap : Nat} (hn : fl'.length = n') (hown : Loose w2 74 6 (.slice (some ⟨g, 0, none⟩) n' cap) n' (fl'.flatMap msgV)) (hg : vf.ownBlock = some g ∨ w.heap.size ≤ g) (hk : ∀ k, k < w.heap.size → vf.ownBlock ≠ some k → w2.heap[k]? = w.heap[k]?) :
    RefAt (w2.setCell ⟨b, 3, none⟩ (.slice (some ⟨g, 0, none⟩) n' cap)) b P C vv (.slice (some ⟨g, 0, none⟩) n' cap) vh vc vr vb rs ⟨N.cs, fl', N.hs, N.sent⟩ := by
  obtain ⟨m1, m2, m3, m4, m5⟩ := h.b_ne
  have hbl := blk_lt h.hd
  have gb : g ≠ b := by
    rcases hg with e | e
    · exact fun e' => m3 (e' ▸ e)
    · omega
  have keep : ∀ k, k < w.heap.size → k ≠ b → vf.ownBlock ≠ some k → (w2.setCell ⟨b, 3, none⟩ (.slice (some ⟨g, 0, none⟩) n' cap)).heap[k]? = w.heap[k]? := fun k h1 h2 h3 => (Below.heap_setCell _ _ _ _ h2).trans (hk k h1 h3)
  have fne : ∀ {k : Nat}, vf.ownBlock = some k → k ≠ vb ∧ k ∉ rs ∧ vh.ownBlock ≠ some k ∧ vc.ownBlock ≠ some k := fun e => by
    obtain ⟨c, hc⟩ := h.fo.type e
    exact (h.f_ne hc).2
  refine ⟨?_, h.va.keep fun k e => keep k (h.va.lt e) ?_ ?_, ?_, h.ho.keep fun k e => keep k (h.ho.lt e) (fun e' => m4 (e' ▸ e)) (fun e' => (fne e').2.2.1 e), h.co.keep fun k e => keep k (h.co.lt e) (fun e' => m5 (e' ▸ e)) (fun e' => (fne e').2.2.2 e), h.rl, h.ob, fun i hi => ?_, h.nd⟩
  · rw [heap_setCell_same _ _ _ _ _ _ ((hk b hbl m3).trans h.hd)]
    rfl
  · rw [h.ob] at e
    exact (Option.some.inj e) ▸ m1
  · rw [h.ob] at e
    exact fun e' => (fne e').1 (Option.some.inj e).symm
  · show Loose _ _ _ _ fl'.length _
    rw [hn]
    exact hown.other (by simp only [Value.ownBlock, ne_eq, Option.some.injEq]; exact gb) _
  · obtain ⟨k, k1, k2⟩ := h.row i hi
    refine ⟨k, k1, k2.keep fun q e => ?_⟩
    simp only [Value.ownBlock, Option.some.injEq] at e
    subst e
    exact keep _ (h.rlt hi) (fun e => m2 (e ▸ List.getElem_mem hi)) (fun e => (fne e).2.1 (List.getElem_mem hi))
/-- Handles replaced -/
theorem RefAt.set_hs (h : RefAt w b P C vv vf vh vc vr vb rs N) {w2 : World} {hs' : List Hd} {n' g cap : Nat} (hn : hs'.length = n') (hown : Loose w2 101 3 (.slice (some ⟨g, 0, none⟩) n' cap) n' (hs'.flatMap rhV)) (hg : vh.ownBlock = some g ∨ w.heap.size ≤ g) (hk : ∀ k, k < w.heap.size → vh.ownBlock ≠ some k → w2.heap[k]? = w.heap[k]?) :
    RefAt (w2.setCell ⟨b, 4, none⟩ (.slice (some ⟨g, 0, none⟩) n' cap)) b P C vv vf (.slice (some ⟨g, 0, none⟩) n' cap) vc vr vb rs ⟨N.cs, N.fl, hs', N.sent⟩ := by
  obtain ⟨m1, m2, m3, m4, m5⟩ := h.b_ne
  have hbl := blk_lt h.hd
  have gb : g ≠ b := by
    rcases hg with e | e
    · exact fun e' => m4 (e' ▸ e)
    · omega
  have keep : ∀ k, k < w.heap.size → k ≠ b → vh.ownBlock ≠ some k → (w2.setCell ⟨b, 4, none⟩ (.slice (some ⟨g, 0, none⟩) n' cap)).heap[k]? = w.heap[k]? := fun k h1 h2 h3 => (Below.heap_setCell _ _ _ _ h2).trans (hk k h1 h3)
  have fne : ∀ {k : Nat}, vh.ownBlock = some k → k ≠ vb ∧ k ∉ rs ∧ vf.ownBlock ≠ some k ∧ vc.ownBlock ≠ some k := fun e => by
    obtain ⟨c, hc⟩ := h.ho.type e
    exact (h.h_ne hc).2
  refine ⟨?_, h.va.keep fun k e => keep k (h.va.lt e) ?_ ?_, h.fo.keep fun k e => keep k (h.fo.lt e) (fun e' => m3 (e' ▸ e)) (fun e' => (fne e').2.2.1 e), ?_, h.co.keep fun k e => keep k (h.co.lt e) (fun e' => m5 (e' ▸ e)) (fun e' => (fne e').2.2.2 e), h.rl, h.ob, fun i hi => ?_, h.nd⟩
  · rw [heap_setCell_same _ _ _ _ _ _ ((hk b hbl m4).trans h.hd)]
    rfl
  · rw [h.ob] at e
    exact (Option.some.inj e) ▸ m1
  · rw [h.ob] at e
    exact fun e' => (fne e').1 (Option.some.inj e).symm
  · show Loose _ _ _ _ hs'.length _
    rw [hn]
    exact hown.other (by simp only [Value.ownBlock, ne_eq, Option.some.injEq]; exact gb) _
  · obtain ⟨k, k1, k2⟩ := h.row i hi
    refine ⟨k, k1, k2.keep fun q e => ?_⟩
    simp only [Value.ownBlock, Option.some.injEq] at e
    subst e
    exact keep _ (h.rlt hi) (fun e => m2 (e ▸ List.getElem_mem hi)) (fun e => (fne e).2.1 (List.getElem_mem hi))
/-- a cell of a handle rewritten -/
theorem RefAt.set_hd {g n cap : Nat} (h : RefAt w b P C vv vf (.slice (some ⟨g, 0, none⟩) n cap) vc vr vb rs N) {hs' : List Hd} {j : Nat} {u : Value} (hl : hs'.length = N.hs.length) (he : hs'.flatMap rhV = (N.hs.flatMap rhV).set j u) : RefAt (w.setCell ⟨g, j, none⟩ u) b P C vv vf (.slice (some ⟨g, 0, none⟩) n cap) vc vr vb rs ⟨N.cs, N.fl, hs', N.sent⟩ := by
  obtain ⟨c, hc⟩ := h.ho.type (g := g) rfl
  obtain ⟨n1, n2, n3, n4, n5⟩ := h.h_ne hc
  have hnn : n = N.hs.length := by
    obtain ⟨A, cap', e, -⟩ := h.ho.form
    cases e
    rfl
  refine ⟨(Below.heap_setCell _ _ _ _ n1.symm).trans h.hd, h.va.other (by rw [h.ob]; exact fun e => n2 (Option.some.inj e).symm) _, h.fo.other n4 _, ?_, h.co.other n5 _, h.rl, h.ob, fun i hi => ?_, h.nd⟩
  · show Loose _ _ _ _ hs'.length _
    rw [hl, he]
    have := h.ho
    rw [← hnn] at this ⊢
    exact this.stored j u
  · obtain ⟨k, k1, k2⟩ := h.row i hi
    refine ⟨k, k1, k2.other ?_ _⟩
    simp only [Value.ownBlock, ne_eq, Option.some.injEq]
    exact fun e => n3 (e ▸ List.getElem_mem hi)
end
theorem RefX.lt {w : World} {b P C : Nat} {T : List Nat} {N : Nt.Net} (h : RefX w b P C T N) : ∀ k ∈ T, k < w.heap.size := by
  obtain ⟨_, _, _, _, _, _, _, rfl, h⟩ := h
  exact h.lt
theorem RefX.keep {w w' : World} {b P C : Nat} {T : List Nat} {N : Nt.Net} (h : RefX w b P C T N) (hb : ∀ k ∈ T, w'.heap[k]? = w.heap[k]?) : RefX w' b P C T N := by
  obtain ⟨vv, vf, vh, vc, vr, vb, rs, e, h⟩ := h
  exact ⟨vv, vf, vh, vc, vr, vb, rs, e, h.keep fun k hk => hb k (e ▸ hk)⟩
theorem RefX.below {w w' : World} {b P C : Nat} {T : List Nat} {N : Nt.Net} (h : RefX w b P C T N) (hb : Below w.heap.size w w') : RefX w' b P C T N := h.keep fun k hk => hb.block k (h.lt k hk)
end Go.Proofs.Ytimmmbjdaibplaa
