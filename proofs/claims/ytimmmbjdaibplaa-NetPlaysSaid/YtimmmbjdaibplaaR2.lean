/-
  Layer 16, the document's net: the walk of fly.
-/
import Derived.Test.YtimmmbjdaibplaaR1
namespace Go.Proofs.Ytimmmbjdaibplaa
open Go.RowKit
open Nt
set_option linter.unusedVariables false
set_option linter.unusedSimpArgs false

theorem Keeps.drew' {T : List Nat} {w w' : World} (h : Keeps T w w') : Keeps T w w'.drew := ⟨h.os, h.tape, h.output, h.size, h.block⟩
def RFlyCut (b P C : Nat) (vv vf vh vc : Value) (vr : List Value) (vb : Nat) (rs : List Nat) (N : Nt.Net) (m : Msg) (w wx : World) : Prop :=
  ∃ vf', RefAt wx b P C vv vf' vh vc vr vb rs ⟨N.cs, N.fl ++ [m], N.hs, N.sent⟩ ∧ Keeps (refL b vb rs vf vh vc) w wx ∧ Grows (refL b vb rs vf vh vc) (refL b vb rs vf' vh vc) w ∧ wx.heap[w.heap.size]? = some (.cells (boxOf m) 74 (0, 0))
theorem refL_grow {b vb : Nat} {rs : List Nat} {vf vf' vh vh' vc : Value} {w : World} (hf : ∀ g, vf'.ownBlock = some g → vf.ownBlock = some g ∨ w.heap.size ≤ g) (hh : ∀ g, vh'.ownBlock = some g → vh.ownBlock = some g ∨ w.heap.size ≤ g) : Grows (refL b vb rs vf vh vc) (refL b vb rs vf' vh' vc) w := by
  intro k hk
  simp only [refL, List.mem_cons, List.mem_append] at hk ⊢
  rcases hk with hk | hk | hk | hk | hk | hk
  · simp [hk]
  · simp [hk]
  · simp [hk]
  · rcases hf k (ownL_mem hk) with e | e
    · simp [mem_ownL e]
    · exact .inr e
  · rcases hh k (ownL_mem hk) with e | e
    · simp [mem_ownL e]
    · exact .inr e
  · simp [hk]
theorem rfly_cut {w w1 : World} {b P C : Nat} {vv vf vh vc : Value} {vr : List Value} {vb : Nat} {rs : List Nat} {N : Nt.Net} (h : RefAt w b P C vv vf vh vc vr vb rs N) (m : Msg) (o : Obj) {g cap : Nat}
    (hown : Loose w1 74 6 (.slice (some ⟨g, 0, none⟩) (N.fl.length + 1) cap) (N.fl.length + 1) (N.fl.flatMap msgV ++ msgV m)) (hgrow : ((w.alloc (.cells (boxOf m) 74)).alloc o).drew.grownBy w1 vf.ownBlock) (hat : vf.ownBlock = some g ∨ g = w.heap.size + 2) :
    RFlyCut b P C vv vf vh vc vr vb rs N m w (w1.setCell ⟨b, 3, none⟩ (.slice (some ⟨g, 0, none⟩) (N.fl.length + 1) cap)) := by
  have hb : Below w.heap.size w ((w.alloc (.cells (boxOf m) 74)).alloc o).drew := (((Below.refl _ _).alloc (Nat.le_refl _) _).alloc (by simp) _).drew
  have hsz : ((w.alloc (.cells (boxOf m) 74)).alloc o).drew.heap.size = w.heap.size + 2 := by simp
  have hat' : vf.ownBlock = some g ∨ w.heap.size ≤ g := hat.imp id (fun e => by omega)
  have h1 := h.set_fly (w2 := w1) (fl' := N.fl ++ [m]) (n' := N.fl.length + 1) (by simp) (by simpa using hown) hat' (fun k hk hne => (hgrow.block k (by rw [hsz]; omega) (fun e => hne e.symm)).trans (hb.block k hk))
  refine ⟨_, h1, ?_, refL_grow (fun k hk => ?_) (fun k hk => .inl hk), ?_⟩
  · refine Keeps.setCell ((Keeps.of_below hb).trans ((Keeps.refl _ _).grown hgrow fun k hk => .inl ?_) (Grows.refl _ _)) (.inl (by simp [refL])) _
    simp [refL, mem_ownL hk]
  · simp only [Value.ownBlock, Option.some.injEq] at hk
    subst hk
    exact hat'
  · have hbl := blk_lt h.hd
    refine (Below.heap_setCell _ _ _ _ (by simp only; omega)).trans ((hgrow.block _ (by rw [hsz]; omega) (fun e => ?_)).trans ?_)
    · exact absurd (h.fo.lt e.symm) (Nat.lt_irrefl _)
    · exact (Below.heap_alloc _ _ _ (by simp)).trans (heap_alloc_new w _)
def RSendE (b P C : Nat) (vv vf vh vc : Value) (vr : List Value) (vb : Nat) (rs : List Nat) (N : Nt.Net) (m : Msg) (w : World) (e : Ending) (w' : World) : Prop :=
  e = .returned (.tuple #[]) ∧ ∃ vf', RefAt w' b P C vv vf' vh vc vr vb rs (sendN N m) ∧ Grows (refL b vb rs vf vh vc) (refL b vb rs vf' vh vc) w ∧ Keeps (refL b vb rs vf vh vc) w w'

set_option maxHeartbeats 16000000 in
set_option maxRecDepth 100000 in
theorem rfly_at (b P C : Nat) (vv vf vh vc : Value) (vr : List Value) (vb : Nat) (rs : List Nat) (N : Nt.Net) (m : Msg) (w : World) (h : RefAt w b P C vv vf vh vc vr vb rs N) (hP : P ≤ 8) (f0 : 0 ≤ m.frm) (f1 : m.frm < P) (t0 : 0 ≤ m.to) (t1 : m.to < P) (hk : 1 ≤ m.kind ∧ m.kind ≤ 4) (hf : N.fl.length ≤ 100000) (hm : ∀ x ∈ N.sent, 0 ≤ x.many ∧ x.many ≤ 100000) :
    Calls Try.prog 63 #[.pointer (some ⟨b, 0, none⟩), .agg #[.int .i64 m.frm, .int .i64 m.to, .int .i64 m.kind, .int .i64 m.cell, .int .i64 m.val, .int .i64 m.hnd]] w (RSendE b P C vv vf vh vc vr vb rs N m w) := by
  obtain ⟨i0, hi0, hz0, hz1, hz2⟩ := info_parts infoMsg
  obtain ⟨-, -, -, c3, -, -⟩ := h.cells
  have e3 := h.frees 3
  have lg := blk_lt h.hd
  have hfo := Lib.hid h.fo
  have ag : vf.ownBlock ≠ some b := h.b_ne.2.2.1
  have hfn : N.fl.length + 1 ≤ 100001 := by omega
  have q1 := fun o => free_alloc (o := o) c3 e3
  have q2 := fun o o2 => free_alloc (o := o2) (cell_alloc (o := o) c3) (q1 o)
  have q3 := fun o o2 => cell_alloc (o := o2) (cell_alloc (o := o) c3)
  have hl2 : Hid (∀ o o2, Loose ((w.alloc o).alloc o2).drew 74 6 vf N.fl.length (N.fl.flatMap msgV)) := fun o o2 => h.fo.below (((Below.refl _ _).alloc (Nat.le_refl _) _).alloc (by simp) _).drew
  have H := Lib.hid h
  clear h
  go_enter Try.func63, Try.ntmps63
  go_upto_region 1 with fail
  go_cut [] (fun wx => RFlyCut b P C vv vf vh vc vr vb rs N m w wx)
  case first =>
    go_region_law
      ((refine step_append_loose _ (by rfl) _ _ _ (by rfl) 74 i0 _ 6 48 Try.underlying33 hi0 hz0 hz1 hz2 rfl (by omega) vf N.fl.length (N.fl.flatMap msgV) (by rfl) (hl2.out _ _)
            ⟨w.heap.size + 1, 0, none⟩ 1 1 (msgV m) (by rfl) (by rfl) (World.news_of_block (cs := (msgV m).toArray) (t := 74) (fr := (0, 0)) (news2 w _ _ _)) (by simp [Value.oneCell', msgV])
            (by unfold maxLen; omega) (by omega) (.inr (by omega)) (w.heap.size + 2) (by simp) ?_; intro gg cap w1 hown1 hgrow hat hlt; have hs1 := (hgrow.cell_far ⟨b, 3, none⟩ (by simp; omega) (Ne.symm ag)).trans (q3 _ _); have hs2 := (hgrow.frozen_far ⟨b, 3, none⟩ (by simp; omega) (Ne.symm ag)).trans (q2 _ _)))
    all_goals (go_wp2_with fail; go_meet; exact rfly_cut H.out m _ hown1 hgrow hat)
  case rest =>
    obtain ⟨vf', hN, hG1, hG2, hbx⟩ := hcut
    obtain ⟨f, hfe⟩ : ∃ f : Nat, m.frm = f := ⟨m.frm.toNat, by omega⟩
    obtain ⟨t, hte⟩ : ∃ t : Nat, m.to = t := ⟨m.to.toNat, by omega⟩
    obtain ⟨kd, hke⟩ : ∃ k : Nat, m.kind = k := ⟨m.kind.toNat, by omega⟩
    have htP : t < P := by omega
    have hfP : f < P := by omega
    have hiP : f * P + t < P * P := by
      have := Nat.mul_le_mul_right P (show f + 1 ≤ P from hfP)
      rw [Nat.add_mul] at this
      omega
    have hir : f * P + t < rs.length := by rw [hN.rl]; exact hiP
    obtain ⟨A, cap, hvc, hA, -⟩ := hN.co.form
    obtain ⟨tb, rfl⟩ := hA (by omega)
    obtain ⟨a0, -, -, -, -, a5⟩ := hN.cells
    rw [hvc] at a5
    obtain ⟨k, hk1, hk2⟩ := hN.row (f * P + t) hir
    have hco := hN.co
    rw [hvc] at hco
    have y0 := hco.cellAt hk1
    have hold := cntRow_at (f := f) (l := N.sent) htP (show 1 ≤ kd ∧ kd ≤ 4 by omega)
    have y1 := hk2.cellAt (j := kd) (u := .int .i64 (manyOf N.sent f t (kname kd))) (by unfold intL; rw [List.getElem?_map, hold]; rfl)
    have y2 := hk2.frozenAt kd
    have hmb : 0 ≤ manyOf N.sent f t (kname kd) ∧ manyOf N.sent f t (kname kd) ≤ 100000 := by
      by_cases z : manyOf N.sent f t (kname kd) = 0
      · omega
      · obtain ⟨x, hx, -, -, -, e⟩ := many_mem _ _ _ _ z
        rw [← e]
        exact hm x hx
    have HE := Lib.hid (hN.set_cnt (i := f * P + t) (j := kd) (sent := bump N.sent f t (kname kd)) hir (cntRow_hit hm htP (by omega)) (fun q hq => cntRow_other hm hq))
    obtain ⟨r, hr⟩ : ∃ r, rs[f * P + t] = r := ⟨_, rfl⟩
    have hrT : r ∈ refL b vb rs vf vh vc := by rw [← hr]; simp [refL]
    have KK := Lib.hid (fun z => hG1.setCell (p := ⟨r, kd, none⟩) (.inl hrT) (.int .i64 z))
    have HG2 := Lib.hid hG2
    rw [hr] at y0 y1 y2 HE
    obtain ⟨old, ho⟩ : ∃ o, manyOf N.sent f t (kname kd) = o := ⟨_, rfl⟩
    rw [ho] at y1 HE hmb
    obtain ⟨i, hi⟩ : ∃ i, f * P + t = i := ⟨_, rfl⟩
    rw [hi] at y0 hiP
    obtain ⟨j, hj⟩ : ∃ j : Nat, f * P = j := ⟨_, rfl⟩
    have hfp : (f : Int) * (P : Int) = (j : Int) := by rw [← hj]; simp
    have hji : (j : Int) + (t : Int) = (i : Int) := by omega
    obtain ⟨q, hq⟩ : ∃ q : Nat, P * P = q := ⟨_, rfl⟩
    rw [hq] at hiP a5
    have hqb : q ≤ 64 := by rw [← hq]; exact Nat.mul_le_mul hP hP
    have b0 : wc.cell? ⟨w.heap.size, 0, none⟩ = some (.int .i64 f) := hfe ▸ blk_cell hbx 0
    have b1 : wc.cell? ⟨w.heap.size, 1, none⟩ = some (.int .i64 t) := hte ▸ blk_cell hbx 1
    have b2 : wc.cell? ⟨w.heap.size, 2, none⟩ = some (.int .i64 kd) := hke ▸ blk_cell hbx 2
    have HFE := Lib.hid hfe
    have HTE := Lib.hid hte
    have HKE := Lib.hid hke
    have g0 : (0 : Int) ≤ (j : Int) := by omega
    have g1 : (j : Int) ≤ 64 := by omega
    have g2 : (0 : Int) ≤ (t : Int) := by omega
    have g3 : (t : Int) ≤ 8 := by omega
    have g4 : (0 : Int) ≤ (i : Int) := by omega
    have g5 : (i : Int) < (q : Int) := by omega
    have g6 : (0 : Int) ≤ (kd : Int) := by omega
    have g7 : (kd : Int) < 5 := by omega
    have g8 : (0 : Int) ≤ (f : Int) := by omega
    have g9 : (f : Int) ≤ 8 := by omega
    have g10 : (0 : Int) ≤ (P : Int) := by omega
    have g11 : (P : Int) ≤ 8 := by omega
    obtain ⟨ho0, ho1⟩ := hmb
    clear hN hG1 hG2 hbx hA hvc hk1 hk2 hco hold hr hrT ho hi hj hq hfe hte hke H hl2 q1 q2 q3 hfo hir hm hf hfn hk f0 f1 t0 t1 c3 e3 hi0 hz0 hz1 hz2
    go_wp2_with fail
    go_region
    all_goals
      go_wp2_with fail
      go_end0
      refine ⟨rfl, vf', ?_, HG2.out, Keeps.drew' (KK.out _)⟩
      have := HE.out
      unfold sendN
      rw [HFE.out, HTE.out, HKE.out]
      exact this.below (Below.refl _ _).drew
end Go.Proofs.Ytimmmbjdaibplaa
