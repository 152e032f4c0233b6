/-
  Layer 17: the net's Copy: what is built, and its end (plain).
-/
import Derived.Test.YtimmmbjdaibplaaT2
namespace Go.Proofs.Ytimmmbjdaibplaa
open Go.RowKit
open Nt
set_option linter.unusedVariables false
set_option linter.unusedSimpArgs false

/-- the copy of a net as far as it is made: k rows -/
structure Cq (H C : Nat) (v0 v1 v2 v3 : Value) (N : Nt.Net) (w wr : World) (k : Nat) (vr' : List Value) (rs' : List Nat) : Prop where
  hd : wr.heap[H]? = some (.cells #[v0, v1, v2, v3] 67 (0, 0))
  hB : w.heap.size ≤ H
  fo : wr.ownsRow w.heap.size 74 6 v1 N.fl.length (N.fl.flatMap msgV)
  ho : wr.ownsRow w.heap.size 81 3 v2 N.hs.length (N.hs.flatMap hdV)
  so : wr.ownsRow w.heap.size 48 4 v3 N.sent.length (N.sent.flatMap cntV)
  tb : wr.ownsRow w.heap.size 22 1 v0 k vr'
  rl : rs'.length = k
  row : ∀ (i : Nat) (h : i < rs'.length) (h' : i < N.cs.length), ∃ kk, vr'[i]? = some (.slice (some ⟨rs'[i], 0, none⟩) C kk) ∧ w.heap.size ≤ rs'[i] ∧ RowAt wr rs'[i] N.cs[i]
  nd : rs'.Nodup
  be : Below w.heap.size w wr
theorem own_base {w : World} {base : Nat} {e : TypeId} {size : Nat} {v : Value} {n : Nat} {xs : List Value} (h : w.ownsRow base e size v n xs) : w.ownsRow 0 e size v n xs := by
  refine ⟨h.1, ?_⟩
  rcases h.2 with hn | ⟨g, cap, cur, rfl, h0, rest⟩
  · exact .inl hn
  · exact .inr ⟨g, cap, cur, rfl, Nat.zero_le _, rest⟩
theorem Cq.done {H C : Nat} {v0 v1 v2 v3 : Value} {N : Nt.Net} {w wr : World} {vr' : List Value} {rs' : List Nat} (h : Cq H C v0 v1 v2 v3 N w wr N.cs.length vr' rs') (hP : 1 ≤ N.cs.length) : ∃ T, NetX wr H C T N ∧ (∀ k ∈ T, w.heap.size ≤ k) := by
  have htb := h.tb
  rcases htb.2 with ⟨_, hn⟩ | ⟨bc, kc, cur, rfl, hb0, hg, hnc, hcm, hcs, htake⟩
  · omega
  · refine ⟨_, ⟨bc, kc, cur, rs', v1, v2, v3, rfl, h.hd, hg, hnc, by unfold maxLen at hcm; omega, h.rl, fun p hp => ?_, h.nd, fun p hp hp' => ?_, own_base h.fo, own_base h.ho, own_base h.so⟩, fun k hk => ?_⟩
    · obtain ⟨kk, r1, -, -⟩ := h.row p hp (by rw [← h.rl]; exact hp)
      have h1 := own_at (own_base htb) (j := p) r1
      rw [blk_cell hg p] at h1
      exact ⟨kk, h1⟩
    · exact (h.row p hp hp').choose_spec.2.2
    · simp only [netL, List.mem_cons, List.mem_append] at hk
      rcases hk with rfl | rfl | hk | hk | hk | hk
      · exact h.hB
      · exact hb0
      · obtain ⟨i, hi, rfl⟩ := List.getElem_of_mem hk
        exact (h.row i hi (by rw [← h.rl]; exact hi)).choose_spec.2.1
      · exact (h.fo.lt k (ownL_mem hk)).1
      · exact (h.ho.lt k (ownL_mem hk)).1
      · exact (h.so.lt k (ownL_mem hk)).1
theorem own_keepB {w w' : World} {base : Nat} {e : TypeId} {size : Nat} {v : Value} {n : Nat} {xs : List Value} (h : w.ownsRow base e size v n xs) (hb : ∀ g, g < w.heap.size → v.ownBlock = some g → w'.heap[g]? = w.heap[g]?) : w'.ownsRow base e size v n xs := by
  have hl := h.lt
  refine ⟨h.1, ?_⟩
  rcases h.2 with hn | ⟨g, cap, cur, rfl, h0, hg, rest⟩
  · exact .inl hn
  · exact .inr ⟨g, cap, cur, rfl, h0, (hb g (hl g rfl).2 rfl).trans hg, rest⟩
theorem row_of_own {w : World} {base g n cap : Nat} {l : List Int} (h : w.ownsRow base 3 1 (.slice (some ⟨g, 0, none⟩) n cap) n (intL l)) : RowAt w g l := by
  rcases h.2 with ⟨h0, _⟩ | ⟨g', cap', cur, hv, _, hg, _, _, hcs, htake⟩
  · cases h0
  · cases hv
    refine ⟨(cur.toList.drop (n * 1)).toArray, ?_⟩
    rw [hg]
    have e : cur = intsV l ++ (cur.toList.drop (n * 1)).toArray := by
      apply Array.ext'
      rw [Array.toList_append, intsV_list, ← htake]
      exact (List.take_append_drop _ _).symm
    rw [← e]
theorem Cq.next {H C k g cap g5 cap5 : Nat} {v0 v1 v2 v3 : Value} {N : Nt.Net} {w wr w3 w4 : World} {vr' : List Value} {rs' : List Nat} {o2 : Obj} (h : Cq H C v0 v1 v2 v3 N w wr k vr' rs') (hk : k < N.cs.length)
    (hl : w3.ownsRow wr.heap.size 3 1 (.slice (some ⟨g, 0, none⟩) C cap) C (intL N.cs[k])) (hb3 : Below wr.heap.size wr w3)
    (hl5 : w4.ownsRow w.heap.size 22 1 (.slice (some ⟨g5, 0, none⟩) (k + 1) cap5) (k + 1) (vr' ++ [.slice (some ⟨g, 0, none⟩) C cap])) (hg5 : (w3.alloc o2).grownBy w4 v0.ownBlock) (hat5 : v0.ownBlock = some g5 ∨ g5 = w3.heap.size + 1) :
    Cq H C (.slice (some ⟨g5, 0, none⟩) (k + 1) cap5) v1 v2 v3 N w (w4.setCell ⟨H, 0, none⟩ (.slice (some ⟨g5, 0, none⟩) (k + 1) cap5)) (k + 1) (vr' ++ [.slice (some ⟨g, 0, none⟩) C cap]) (rs' ++ [g]) := by
  have hH := blk_lt h.hd
  have hs3 := hb3.size
  have hbe := h.be.size
  obtain ⟨gge, glt⟩ := hl.lt g rfl
  have nb : ∀ {e : TypeId} {size n : Nat} {v : Value} {xs : List Value} {q : Nat} {c : Array Value} {t : TypeId}, wr.ownsRow w.heap.size e size v n xs → wr.heap[q]? = some (.cells c t (0, 0)) → e ≠ t → v.ownBlock ≠ some q := fun ho hq hne e => by
    obtain ⟨c', hc'⟩ := own_type (own_base ho) e
    exact hne (blk_type hc' hq)
  have kp4 : ∀ q, q < w3.heap.size → v0.ownBlock ≠ some q → w4.heap[q]? = w3.heap[q]? := fun q hq hne => (hg5.block q (by simp; omega) (fun e => hne e.symm)).trans (Below.heap_alloc w3 _ q hq)
  have kp : ∀ q, q < wr.heap.size → v0.ownBlock ≠ some q → w4.heap[q]? = wr.heap[q]? := fun q hq hne => (kp4 q (by omega) hne).trans (hb3.block q hq)
  have h5H : v0.ownBlock ≠ some H := nb h.tb h.hd (by decide)
  have g5H : g5 ≠ H := by
    rcases hat5 with e | e
    · exact fun e' => h5H (e' ▸ e)
    · omega
  have set_ne : ∀ q, q ≠ H → (w4.setCell ⟨H, 0, none⟩ (.slice (some ⟨g5, 0, none⟩) (k + 1) cap5)).heap[q]? = w4.heap[q]? := fun q hq => Below.heap_setCell _ _ _ _ hq
  have own : ∀ {e : TypeId} {size n : Nat} {v : Value} {xs : List Value}, wr.ownsRow w.heap.size e size v n xs → e ≠ 22 → e ≠ 67 → (w4.setCell ⟨H, 0, none⟩ (.slice (some ⟨g5, 0, none⟩) (k + 1) cap5)).ownsRow w.heap.size e size v n xs := fun ho he he2 =>
    own_keepB ho fun q hq e' => by
      obtain ⟨c, hc⟩ := own_type (own_base ho) e'
      exact (set_ne q (fun e2 => nb ho h.hd he2 (e2 ▸ e'))).trans (kp q hq (nb h.tb hc (Ne.symm he)))
  refine ⟨?_, h.hB, own h.fo (by decide) (by decide), own h.ho (by decide) (by decide), own h.so (by decide) (by decide), own_keepB hl5 (fun q hq e => set_ne q ?_), by rw [List.length_append, h.rl]; rfl, fun i hi hi' => ?_, ?_, ?_⟩
  · rw [heap_setCell_same _ _ _ _ _ _ ((kp H hH h5H).trans h.hd)]
    rfl
  · simp only [Value.ownBlock, Option.some.injEq] at e
    omega
  · by_cases hik : i < rs'.length
    · obtain ⟨kk, r1, r2, r3⟩ := h.row i hik hi'
      have e1 : (rs' ++ [g])[i] = rs'[i] := List.getElem_append_left hik
      rw [e1]
      obtain ⟨c, hc⟩ := r3.blk
      refine ⟨kk, ?_, r2, r3.keep ((set_ne _ (fun e2 => ?_)).trans (kp _ r3.lt (nb h.tb hc (by decide))))⟩
      · rw [List.getElem?_append_left (by have := h.tb.1; have := h.rl; omega)]
        exact r1
      · rw [e2] at hc
        exact absurd (blk_type hc h.hd) (by decide)
    · have hi2 : i = rs'.length := by
        have : i < (rs' ++ [g]).length := hi
        rw [List.length_append] at this
        simp at this
        omega
      subst hi2
      have e1 : (rs' ++ [g])[rs'.length]'hi = g := by simp
      have e2 : N.cs[rs'.length]'hi' = N.cs[k] := by congr 1; exact h.rl
      rw [e1, e2]
      refine ⟨cap, ?_, by omega, (row_of_own hl).keep ((set_ne _ (by omega)).trans (kp4 _ glt fun e => ?_))⟩
      · have hvl : vr'.length = rs'.length := by have := h.tb.1; have := h.rl; omega
        rw [← hvl]
        simp
      · have := (h.tb.lt g e).2
        omega
  · rw [List.nodup_append]
    refine ⟨h.nd, by simp, fun x hx y hy e => ?_⟩
    simp only [List.mem_singleton] at hy
    obtain ⟨i, hi, e'⟩ := List.getElem_of_mem hx
    obtain ⟨kk, -, -, r3⟩ := h.row i hi (by have := h.rl; omega)
    have := r3.lt
    omega
  · have h1 : Below w.heap.size w w3 := h.be.trans (hb3.mono hbe)
    exact ((h1.alloc h1.size o2).grown hg5 (by simp; have := h1.size; omega) fun q hq => (h.tb.lt q hq).1).setCell (p := ⟨H, 0, none⟩) h.hB _
end Go.Proofs.Ytimmmbjdaibplaa
