/-
  Layer 16: how far the loops of NetSums are, in memory.
-/
import Derived.Test.YtimmmbjdaibplaaW20
namespace Go.Proofs.Ytimmmbjdaibplaa
open Go.RowKit
open Nt
set_option linter.unusedVariables false
set_option linter.unusedSimpArgs false

/-- a call of a net, as it lies in a list -/
structure OpD where
  d : Int
  f : Int
  t : Int
  c : Int
  v : Int
  k : Int
def opV (o : OpD) : List Value := [.int .u8 o.d, .int .i64 o.f, .int .i64 o.t, .int .i64 o.c, .int .i64 o.v, .int .i64 o.k]
/-- a list of calls in memory -/
def Ops (w : World) (v : Value) (l : List OpD) : Prop := ∃ A cap, v = .slice A l.length cap ∧ l.length ≤ cap ∧ cap ≤ 9223372036854775807 ∧ (0 < l.length → ∃ b off, A = some ⟨b, off, none⟩ ∧ ∀ (j : Nat) (h : j < l.length) (i : Nat) (u : Value), (opV l[j])[i]? = some u → w.cell? ⟨b, off + j * 6 + i, none⟩ = some u)
theorem make_ints (n : Nat) (hn : n ≤ 100) (u : World) : (Instr.makeSlice 22 (.int .i64 n) (.int .i64 n)).run Try.prog u = .ok (.slice (some ⟨u.heap.size, 0, none⟩) n n) (u.alloc (.cells (intsV (List.replicate n 0)) 3)) := by
  obtain ⟨i0, hi0, hz0, hz1, hz2⟩ := info_parts (show (Try.prog.info? 3).map (fun i => (i.zero, i.size, i.bytes)) = some (some (.int .i64 0), 1, 8) by kernel_rfl)
  have h := run_make (P := Try.prog) u 22 3 i0 _ Try.underlying22 hi0 hz0 .i64 .i64 n n (by omega) (Int.le_refl _) (by rw [hz2]; omega) (by omega)
  rw [Int.toNat_natCast, hz1, Nat.mul_one] at h
  have e : madeCells (Value.int .i64 0).cells n = intsV (List.replicate n 0) := by
    apply Array.ext
    · simp [madeCells, intsV]
    · intro i h1 h2
      simp [madeCells, intsV, Value.cells, Nat.mod_one]
  rw [e] at h
  exact h
def uptoV (i : Nat) : List Value := (upto1 i).map (Value.int .i64)
theorem uptoV_snoc (i : Nat) : uptoV (i + 1) = uptoV i ++ [.int .i64 ((i : Int) + 1)] := by
  unfold uptoV
  rw [upto1_snoc, List.map_append]
  rfl
theorem uptoV_at {i j : Nat} (h : j < i) : (uptoV i)[j]? = some (.int .i64 ((j : Int) + 1)) := by
  simp [uptoV, upto1, h]
  omega
theorem uptoV_len (i : Nat) : (uptoV i).length = i := by simp [uptoV, upto1]
theorem own_keep' {w w' : World} {base : Nat} {e : TypeId} {size : Nat} {v : Value} {n : Nat} {xs : List Value} (h : w.ownsRow base e size v n xs) (hb : ∀ g, v.ownBlock = some g → w'.heap[g]? = w.heap[g]?) : w'.ownsRow base e size v n xs := by
  refine ⟨h.1, ?_⟩
  rcases h.2 with hn | ⟨g, cap, cur, rfl, h0, hg, rest⟩
  · exact .inl hn
  · exact .inr ⟨g, cap, cur, rfl, h0, (hb g rfl).trans hg, rest⟩

/-- the net, the sums and the handles -/
structure Tri (a P sb : Nat) (w wr : World) (vh : Value) (n far : Nat) (N : Nt.Net) (T : List Nat) (S : List Int) (hl : Nat) : Prop where
  nx : NetX wr a 4 T N
  tn : ∀ k ∈ T, w.heap.size ≤ k
  ts : sb ∉ T
  th : ∀ g, vh.ownBlock = some g → g ∉ T ∧ g ≠ sb
  wf : Wf P 4 N
  su : Su P S far N
  ln : N.hs.length = n
  sm : wr.heap[sb]? = some (.cells (intsV S) 3 (0, 0))
  hw : wr.ownsRow w.heap.size 3 1 vh hl (uptoV hl)
  be : Below w.heap.size w wr
  sz : w.heap.size ≤ sb
section
variable {a P sb : Nat} {w wr w1 w2 : World} {vh v' : Value} {n far hl : Nat} {N N' : Nt.Net} {T T' : List Nat} {S : List Int}
theorem Tri.below (h : Tri a P sb w wr vh n far N T S hl) (hb : Below wr.heap.size wr w1) : Tri a P sb w w1 vh n far N T S hl :=
  ⟨h.nx.below hb, h.tn, h.ts, h.th, h.wf, h.su, h.ln, (hb.block _ (blk_lt h.sm)).trans h.sm, own_keep' h.hw fun g hg => hb.block g (h.hw.lt g hg).2, h.be.trans (hb.mono h.be.size), h.sz⟩
theorem Tri.netpost (h : Tri a P sb w wr vh n far N T S hl) (hp : NetPost a 4 T N' wr w1) : ∃ T', NetX w1 a 4 T' N' ∧ (∀ k ∈ T', w.heap.size ≤ k) ∧ sb ∉ T' ∧ (∀ g, vh.ownBlock = some g → g ∉ T' ∧ g ≠ sb) ∧ w1.heap[sb]? = some (.cells (intsV S) 3 (0, 0)) ∧ w1.ownsRow w.heap.size 3 1 vh hl (uptoV hl) ∧ Below w.heap.size w w1 := by
  obtain ⟨T', hx, hg, hk⟩ := hp
  have hs := blk_lt h.sm
  refine ⟨T', hx, fun k hk' => ?_, fun hm => ?_, fun g hg' => ⟨fun hm => ?_, (h.th g hg').2⟩, (hk.block sb hs h.ts).trans h.sm, own_keep' h.hw fun g hg' => hk.block g (h.hw.lt g hg').2 (h.th g hg').1, h.be.trans (hk.below h.be.size h.tn)⟩
  · rcases hg k hk' with h' | h'
    · exact h.tn k h'
    · exact Nat.le_trans h.be.size h'
  · rcases hg sb hm with h' | h'
    · exact h.ts h'
    · omega
  · rcases hg g hm with h' | h'
    · exact (h.th g hg').1 h'
    · have := (h.hw.lt g hg').2; omega
theorem Tri.deliv (h : Tri a P sb w wr vh n far N T S hl) (hn : n ≤ 40) {k : Nat} (hk : k < N.fl.length) (hp : NetPost a 4 T (delN N k N.fl[k]) wr w1) : ∃ T', Tri a P sb w w1 vh n far (delN N k N.fl[k]) T' S hl := by
  obtain ⟨T', h1, h2, h3, h4, h5, h6, h7⟩ := h.netpost hp
  obtain ⟨k1, k2⟩ := wf_del h.wf hk
  exact ⟨T', h1, h2, h3, h4, k1, su_del h.wf h.su (by rw [h.ln]; exact hn) hk, by rw [k2, h.ln], h5, h6, h7, h.sz⟩
theorem Tri.added (h : Tri a P sb w wr vh n far N T S n) (hn : n < 40) {f v : Int} {t c : Nat} (f0 : 0 ≤ f) (f1 : f < P) (t1 : t < P) (c1 : c < 4) (hp : NetPost a 4 T (reqN N ⟨f, t, 3, c, v, 0⟩) wr w1)
    {tmp : Obj} (hown : w2.ownsRow w.heap.size 3 1 v' (n + 1) (uptoV n ++ [.int .i64 ((n : Int) + 1)])) (hgrow : (w1.alloc tmp).grownBy w2 vh.ownBlock) (hat : v'.ownBlock = vh.ownBlock ∨ v'.ownBlock = some (w1.alloc tmp).heap.size) :
    w2.cell? ⟨sb, 4 * t + c, none⟩ = some (.int .i64 (getL S (4 * t + c))) ∧ w2.frozen? ⟨sb, 4 * t + c, none⟩ = false ∧ Below w.heap.size w w2 ∧
      ∃ T', Tri a P sb w (w2.setCell ⟨sb, 4 * t + c, none⟩ (.int .i64 (IntKind.i64.wrap (getL S (4 * t + c) + v)))) v' (n + 1) (if f = t then far else far + 1) (reqN N ⟨f, t, 3, c, v, 0⟩) T' (S.set (4 * t + c) (IntKind.i64.wrap (getL S (4 * t + c) + v))) (n + 1) := by
  obtain ⟨T', h1, h2, h3, h4, h5, h6, h7⟩ := h.netpost hp
  have hl := h.ln
  obtain ⟨k1, k2⟩ := wf_req (m := ⟨f, t, 3, c, v, 0⟩) h.wf (by omega) f0 f1 (by simp) (by simp; omega) (by simp) (by simp) (by simp) (by simp; omega)
  have hsu := su_req (v := v) h.wf h.su (by rw [h.ln]; exact hn) f0 f1 t1 c1
  have hsl := h.su.sl
  have hb2 : Below w.heap.size w w2 := (h7.alloc h7.size tmp).grown hgrow (by have := h7.size; simp; omega) (fun k e => (h6.lt k e).1)
  have keep : ∀ k, k < w1.heap.size → vh.ownBlock ≠ some k → w2.heap[k]? = w1.heap[k]? := fun k hk hne => (hgrow.block k (by simp; omega) (fun e => hne e.symm)).trans (Below.heap_alloc _ _ k hk)
  have hvs : vh.ownBlock ≠ some sb := fun e => (h4 sb e).2 rfl
  have hs2 := (keep sb (blk_lt h5) hvs).trans h5
  have hi : 4 * t + c < S.length := by rw [hsl]; omega
  have hg' : ∀ g, v'.ownBlock = some g → g ∉ T' ∧ g ≠ sb := fun g hg => by
    rcases hat with e | e
    · exact h4 g (e ▸ hg)
    · rw [e] at hg
      injection hg with hg
      have := h1.lt
      have := blk_lt h5
      simp at hg
      refine ⟨fun hm => ?_, ?_⟩
      · have := h1.lt g hm; omega
      · omega
  refine ⟨?_, blk_free hs2 _, hb2, T', ?_, h2, h3, hg', k1, hsu, by rw [k2, h.ln], ?_, ?_, hb2.setCell (p := ⟨sb, _, none⟩) h.sz _, h.sz⟩
  · rw [blk_cell hs2, ints_at hi]
    simp [getL, List.getD, hi]
  · have hlt := h1.lt
    obtain ⟨bc, kc, cur, rs, vf, vh0, vs, e, hN⟩ := h1
    refine ⟨bc, kc, cur, rs, vf, vh0, vs, e, hN.keep fun k hk => ?_⟩
    rw [← e] at hk
    have hk1 := hlt k hk
    refine (Below.heap_setCell w2 ⟨sb, 4 * t + c, none⟩ _ k (fun e1 => h3 ((show k = sb from e1) ▸ hk))).trans (keep k hk1 (fun e' => (h4 k e').1 hk))
  · rw [heap_setCell_same _ _ _ _ _ _ hs2, ints_set]
  · rw [uptoV_snoc]
    exact ownsRow_setCell_other hown (fun e => (hg' sb e).2 rfl) _
end
end Go.Proofs.Ytimmmbjdaibplaa
