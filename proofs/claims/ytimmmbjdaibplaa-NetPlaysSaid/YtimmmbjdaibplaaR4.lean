/-
  Layer 16, the document's net: the walk of Deliver.
-/
import Derived.Test.YtimmmbjdaibplaaR3
namespace Go.Proofs.Ytimmmbjdaibplaa
open Go.RowKit
open Nt
set_option linter.unusedVariables false
set_option linter.unusedSimpArgs false

theorem addr_plus (g o j : Nat) : (⟨g, o, none⟩ : Addr).add j = ⟨g, o + j, none⟩ := by
  unfold Addr.add
  split <;> simp_all
theorem RefAt.foN {w : World} {b P C g n cap : Nat} {vv vh vc : Value} {vr : List Value} {vb : Nat} {rs : List Nat} {N : Nt.Net} (h : RefAt w b P C vv (.slice (some ⟨g, 0, none⟩) n cap) vh vc vr vb rs N) : n = N.fl.length ∧ Loose w 74 6 (.slice (some ⟨g, 0, none⟩) n cap) n (N.fl.flatMap msgV) ∧ n ≤ cap ∧ cap ≤ maxLen := by
  have hh := h.fo
  obtain ⟨A, cap', e, -, h1, h2⟩ := hh.form
  cases e
  exact ⟨rfl, hh, h1, h2⟩
theorem loose_cut {w : World} {g n cap k : Nat} {l : List Msg} (h : Loose w 74 6 (.slice (some ⟨g, 0, none⟩) n cap) n (l.flatMap msgV)) (hk : k ≤ n) (hl : l.length = n) : Loose w 74 6 (.slice (some ⟨g, 0, none⟩) k k) k ((l.take k).flatMap msgV) := by
  have hlen : ((l.take k).flatMap msgV).length = k * 6 := by rw [flat_len msgV_len, List.length_take, Nat.min_eq_left (by omega)]
  rcases h.2 with ⟨h0, _⟩ | ⟨g', cap', cur, hv, hg, h1, h2, h3, h4⟩
  · cases h0
  · cases hv
    refine ⟨hlen, .inr ⟨g, k, cur, rfl, hg, Nat.le_refl _, by omega, Nat.le_trans (Nat.mul_le_mul_right _ (by omega)) h3, ?_⟩⟩
    have e : l.flatMap msgV = (l.take k).flatMap msgV ++ (l.drop k).flatMap msgV := by rw [← List.flatMap_append, List.take_append_drop]
    have h5 : cur.toList.take (k * 6) = (cur.toList.take (n * 6)).take (k * 6) := by
      rw [List.take_take, Nat.min_eq_left (Nat.mul_le_mul_right _ hk)]
    rw [h5, h4, e, ← hlen, List.take_left]
def RDelCut (b P C : Nat) (vv vf vh vc : Value) (vr : List Value) (vb : Nat) (rs : List Nat) (N : Nt.Net) (k : Nat) (m : Msg) (w wx : World) : Prop :=
  ∃ vf', RefAt wx b P C vv vf' vh vc vr vb rs (dropN N k) ∧ Keeps (refL b vb rs vf vh vc) w wx ∧ Grows (refL b vb rs vf vh vc) (refL b vb rs vf' vh vc) w ∧ wx.heap[w.heap.size]? = some (.cells (boxOf m) 74 (0, 0))
theorem rdel_cut {w w1 : World} {b P C k d : Nat} {vv vf vh vc : Value} {vr : List Value} {vb : Nat} {rs : List Nat} {N : Nt.Net} (h : RefAt w b P C vv vf vh vc vr vb rs N) (m : Msg) (hl : N.fl.length = k + d + 1) {g cap : Nat}
    (hown : Loose w1 74 6 (.slice (some ⟨g, 0, none⟩) (k + d) cap) (k + d) ((N.fl.take k).flatMap msgV ++ (N.fl.drop (k + 1)).flatMap msgV)) (hgrow : (w.alloc (.cells (boxOf m) 74)).drew.grownBy w1 vf.ownBlock) (hat : vf.ownBlock = some g ∨ g = w.heap.size + 1) :
    RDelCut b P C vv vf vh vc vr vb rs N k m w (w1.setCell ⟨b, 3, none⟩ (.slice (some ⟨g, 0, none⟩) (k + d) cap)) := by
  have hb : Below w.heap.size w (w.alloc (.cells (boxOf m) 74)).drew := ((Below.refl _ _).alloc (Nat.le_refl _) _).drew
  have hsz : (w.alloc (.cells (boxOf m) 74)).drew.heap.size = w.heap.size + 1 := by simp
  have hat' : vf.ownBlock = some g ∨ w.heap.size ≤ g := hat.imp id (fun e => by omega)
  have he : (N.fl.eraseIdx k).length = k + d := by rw [List.length_eraseIdx_of_lt (by omega)]; omega
  have hfl : (N.fl.eraseIdx k).flatMap msgV = (N.fl.take k).flatMap msgV ++ (N.fl.drop (k + 1)).flatMap msgV := by rw [List.eraseIdx_eq_take_drop_succ, List.flatMap_append]
  have h1 := h.set_fly (w2 := w1) (fl' := N.fl.eraseIdx k) (n' := k + d) he (by rw [hfl]; exact hown) hat' (fun k hk hne => (hgrow.block k (by rw [hsz]; omega) (fun e => hne e.symm)).trans (hb.block k hk))
  refine ⟨_, h1, ?_, refL_grow (fun k hk => ?_) (fun k hk => .inl hk), ?_⟩
  · refine Keeps.setCell ((Keeps.of_below hb).trans ((Keeps.refl _ _).grown hgrow fun k hk => .inl ?_) (Grows.refl _ _)) (.inl (by simp [refL])) _
    simp [refL, mem_ownL hk]
  · simp only [Value.ownBlock, Option.some.injEq] at hk
    subst hk
    exact hat'
  · have hbl := blk_lt h.hd
    refine (Below.heap_setCell _ _ _ _ (by simp only; omega)).trans ((hgrow.block _ (by rw [hsz]; omega) (fun e => ?_)).trans ?_)
    · exact absurd (h.fo.lt e.symm) (Nat.lt_irrefl _)
    · exact heap_alloc_new w _
def RDelivE (b P C : Nat) (T : List Nat) (N' : Nt.Net) (w : World) (e : Ending) (w' : World) : Prop := e = .returned (.int .i64 0) ∧ RefPost b P C T N' w w'

set_option maxHeartbeats 16000000 in
set_option maxRecDepth 100000 in
theorem rdeliver_at (b P C : Nat) (T : List Nat) (N : Nt.Net) (k : Nat) (w : World) (h : RefX w b P C T N) (hw : Wf P C N) (hcn : Cn P N) (hP : P ≤ 8) (hC : C ≤ 64) (hk : k < N.fl.length) :
    Calls Try.prog 24 #[.pointer (some ⟨b, 0, none⟩), .int .i64 k] w (RDelivE b P C T (delN N k N.fl[k]) w) := by
  obtain ⟨vv, vf, vh, vc, vr, vb, rs, rfl, hR⟩ := h
  obtain ⟨i0, hi0, hz0, hz1, hz2⟩ := info_parts infoMsg
  obtain ⟨-, -, -, c3, -, -⟩ := hR.cells
  have e3 := hR.frees 3
  obtain ⟨A, cap, rfl, hA, -⟩ := hR.fo.form
  obtain ⟨g, rfl⟩ := hA (by omega)
  obtain ⟨-, hfo, hcap, hcm⟩ := hR.foN
  have hmw := hw.ms _ (List.getElem_mem hk)
  obtain ⟨d, hd⟩ : ∃ d, N.fl.length = k + d + 1 := ⟨N.fl.length - k - 1, by omega⟩
  rw [hd] at hR hfo hcap c3 ⊢
  have hfl := hw.fl
  have hhs := hw.hs
  have lg := blk_lt hR.hd
  have lgg : g < w.heap.size := hfo.lt rfl
  have agb : g ≠ b := fun e => hR.b_ne.2.2.1 (by rw [e]; rfl)
  have x0 := hfo.cellAt ((flat_at msgV_len N.fl k hk 0 (by omega)).trans rfl)
  have x1 := hfo.cellAt ((flat_at msgV_len N.fl k hk 1 (by omega)).trans rfl)
  have x2 := hfo.cellAt ((flat_at msgV_len N.fl k hk 2 (by omega)).trans rfl)
  have x3 := hfo.cellAt ((flat_at msgV_len N.fl k hk 3 (by omega)).trans rfl)
  have x4 := hfo.cellAt ((flat_at msgV_len N.fl k hk 4 (by omega)).trans rfl)
  have x5 := hfo.cellAt ((flat_at msgV_len N.fl k hk 5 (by omega)).trans rfl)
  simp only [Nat.add_zero] at x0
  have hcut := loose_cut hfo (k := k) (by omega) hd
  have hnews : ∀ j u, ((N.fl.drop (k + 1)).flatMap msgV)[j]? = some u → w.cell? ⟨g, (k + 1) * 6 + j, none⟩ = some u := fun j u hu => hfo.cellAt (by
    have e : N.fl.flatMap msgV = (N.fl.take (k + 1)).flatMap msgV ++ (N.fl.drop (k + 1)).flatMap msgV := by rw [← List.flatMap_append, List.take_append_drop]
    have hl : ((N.fl.take (k + 1)).flatMap msgV).length = (k + 1) * 6 := by rw [flat_len msgV_len, List.length_take, Nat.min_eq_left (by omega)]
    rw [e, List.getElem?_append_right (by omega), hl]
    rw [show (k + 1) * 6 + j - (k + 1) * 6 = j by omega]
    exact hu)
  have hnl : ((N.fl.drop (k + 1)).flatMap msgV).length = d * 6 := by rw [flat_len msgV_len, List.length_drop]; congr 1; omega
  have hn1 : ∀ u ∈ (N.fl.drop (k + 1)).flatMap msgV, u.oneCell' = true := by
    intro u hu
    obtain ⟨m, _, hm⟩ := List.mem_flatMap.1 hu
    simp only [msgV, List.mem_cons, List.not_mem_nil, or_false] at hm
    rcases hm with rfl | rfl | rfl | rfl | rfl | rfl <;> rfl
  obtain ⟨m, hm⟩ : ∃ m, N.fl[k] = m := ⟨_, rfl⟩
  rw [hm] at x0 x1 x2 x3 x4 x5 hmw ⊢
  have HCUT := Lib.hid (fun (u : World) (hb : Below w.heap.size w u) => hcut.below hb)
  have HNEWS := Lib.hid (fun (u : World) (hb : Below w.heap.size w u) j v hv => (hb.cell (p := ⟨g, (k + 1) * 6 + j, none⟩) lgg).trans (hnews j v hv))
  have HNL := Lib.hid hnl
  have HN1 := Lib.hid hn1
  have HW := Lib.hid hw
  have HR := Lib.hid hR
  have HM := Lib.hid hmw
  have HCN := Lib.hid (hcn.bound hhs)
  have HD := Lib.hid (fun (w1 : World) (g' cap' : Nat) hown hgrow hat => rdel_cut (w1 := w1) (g := g') (cap := cap') hR m hd hown hgrow hat)
  have HFL := Lib.hid hfl
  have HHS := Lib.hid hhs
  have k0 : (0 : Int) ≤ (k : Int) := by omega
  have k1 : (k : Int) < (k : Int) + (d : Int) + 1 := by omega
  have k2 : (k : Int) + (d : Int) + 1 ≤ 1000 := by omega
  have k3 : (k : Int) + 1 ≤ (k : Int) + (d : Int) + 1 := by omega
  have k4 : (k : Int) + 1 ≤ (cap : Int) := by omega
  have k5 : (k : Int) + (d : Int) + 1 ≤ (cap : Int) := by omega
  have k6 : (k : Int) ≤ (cap : Int) := by omega
  have k7 : (cap : Int) ≤ 9223372036854775807 := by unfold maxLen at hcm; omega
  have k8 : (0 : Int) ≤ (d : Int) := by omega
  have k13 : (0 : Int) ≤ (k : Int) + 1 := by omega
  have k9 : IntKind.i64.wrap ((k : Int) + 1) = (k : Int) + 1 := IntWalk.i64_in _ (by omega)
  have k10 : ((k : Int) + 1).toNat = k + 1 := by omega
  have k11 : ¬ ((k : Int) + (d : Int) + 1 ≤ (k : Int)) := by omega
  have k12 : decide ((k : Int) + (d : Int) + 1 ≤ (k : Int)) = false := by simpa using k11
  have q1 := fun o => free_alloc (o := o) c3 e3
  have q3 := fun o => cell_alloc (o := o) c3
  have hbx : Hid (∀ o : Obj, Below w.heap.size w (w.alloc o).drew) := fun o => ((Below.refl _ _).alloc (Nat.le_refl _) _).drew
  clear hcut hnews hnl hn1 hw hR hmw hcn hfl hhs hfo hA hm hd hk
  go_enter Try.func24, Try.ntmps24
  go_upto_region 4 with fail
  go_cut [] (fun wx => RDelCut b P C vv (.slice (some ⟨g, 0, none⟩) (k + d + 1) cap) vh vc vr vb rs N k m w wx)
  case first =>
    by_cases hcc : k + 1 < cap
    · have d1 : (k : Int) + 1 < (cap : Int) := by omega
      have d2 : ¬ (cap = k + 1) := by omega
      go_region_law
        ((refine step_append_loose _ (by rfl) _ _ _ (by rfl) 74 i0 _ 6 48 Try.underlying33 hi0 hz0 hz1 hz2 rfl (by omega) (.slice (some ⟨g, 0, none⟩) k k) k ((N.fl.take k).flatMap msgV) (by rfl) (HCUT.out _ (hbx.out _))
            ⟨g, (k + 1) * 6, none⟩ d (cap - (k + 1)) ((N.fl.drop (k + 1)).flatMap msgV) (by rfl) HNL.out (fun j u hu => by rw [addr_plus]; exact HNEWS.out _ (hbx.out _) j u hu) HN1.out
            (by unfold maxLen; omega) (by omega) (.inl (by simp)) (w.heap.size + 1) (by simp) ?_; intro gg cap' w1 hown1 hgrow hat hlt; have hs1 := (hgrow.cell_far ⟨b, 3, none⟩ (by simp; omega) (by simpa [Value.ownBlock] using agb.symm)).trans (q3 _); have hs2 := (hgrow.frozen_far ⟨b, 3, none⟩ (by simp; omega) (by simpa [Value.ownBlock] using agb.symm)).trans (q1 _)))
      all_goals (go_wp2_with fail; go_meet; exact HD.out _ _ _ hown1 hgrow hat)
    · obtain rfl : cap = k + 1 := by omega
      obtain rfl : d = 0 := by omega
      have d1 : ¬ ((k : Int) + 1 < (k : Int) + 1) := by omega
      have hnil : (N.fl.drop (k + 1)).flatMap msgV = [] := List.eq_nil_of_length_eq_zero (HNL.out.trans (by omega))
      have HNIL := Lib.hid hnil
      have z1 : (k : Int) ≤ (k : Int) + 1 := by omega
      have z2 : (k : Int) + 1 ≤ (k : Int) + 1 := by omega
      have z3 : (k : Int) + 1 ≤ 9223372036854775807 := by omega
      have z4 : (k : Int) < (k : Int) + 1 := by omega
      clear hnil
      go_region_law
        ((refine step_append_loose _ (by rfl) _ _ _ (by rfl) 74 i0 _ 6 48 Try.underlying33 hi0 hz0 hz1 hz2 rfl (by omega) (.slice (some ⟨g, 0, none⟩) k k) k ((N.fl.take k).flatMap msgV) (by rfl) (HCUT.out _ (hbx.out _))
            ⟨g, 0, none⟩ 0 0 ((N.fl.drop (k + 1)).flatMap msgV) (by rfl) (by rw [HNIL.out]; rfl) (fun j u hu => by rw [HNIL.out] at hu; cases hu) HN1.out
            (by unfold maxLen; omega) (by omega) (.inl (by simp)) (w.heap.size + 1) (by simp) ?_; intro gg cap' w1 hown1 hgrow hat hlt; have hs1 := (hgrow.cell_far ⟨b, 3, none⟩ (by simp; omega) (by simpa [Value.ownBlock] using agb.symm)).trans (q3 _); have hs2 := (hgrow.frozen_far ⟨b, 3, none⟩ (by simp; omega) (by simpa [Value.ownBlock] using agb.symm)).trans (q1 _)))
      all_goals (go_wp2_with fail; go_meet; exact HD.out _ _ _ hown1 hgrow hat)
  case rest =>
    obtain ⟨vf', hN, hG1, hG2, hbx2⟩ := hcut
    obtain ⟨p, hp⟩ : ∃ p : Nat, m.to = p := ⟨m.to.toNat, by have := HM.out.t0; omega⟩
    obtain ⟨c, hc⟩ : ∃ c : Nat, m.cell = c := ⟨m.cell.toNat, by have := HM.out.c0; omega⟩
    obtain ⟨i, hi⟩ : ∃ i : Nat, m.hnd = (i : Int) + 1 := ⟨m.hnd.toNat - 1, by have := HM.out.h0; omega⟩
    have hpP : p < P := by have := HM.out.t1; omega
    have hcC : c < C := by have := HM.out.c1; omega
    have hin : i < N.hs.length := by have := HM.out.h1; omega
    have hplen : p < (dropN N k).cs.length := by show p < N.cs.length; rw [HW.out.pl]; exact hpP
    have b1 : wc.cell? ⟨w.heap.size, 1, none⟩ = some (.int .i64 p) := hp ▸ blk_cell hbx2 1
    have b0 : wc.cell? ⟨w.heap.size, 0, none⟩ = some (.int .i64 m.frm) := blk_cell hbx2 0
    have b2 : wc.cell? ⟨w.heap.size, 2, none⟩ = some (.int .i64 m.kind) := blk_cell hbx2 2
    have b3 : wc.cell? ⟨w.heap.size, 3, none⟩ = some (.int .i64 c) := hc ▸ blk_cell hbx2 3
    have b4 : wc.cell? ⟨w.heap.size, 4, none⟩ = some (.int .i64 m.val) := blk_cell hbx2 4
    have b5 : wc.cell? ⟨w.heap.size, 5, none⟩ = some (.int .i64 ((i : Int) + 1)) := hi ▸ blk_cell hbx2 5
    have lbx := blk_lt hbx2
    have HG1 := Lib.hid hG1
    have HG2 := Lib.hid hG2
    have hi0' : (0 : Int) ≤ (i : Int) := by omega
    have hi1 : (i : Int) ≤ 1000 := by have := HHS.out; omega
    have HIN := Lib.hid hin
    by_cases h4 : m.kind = 4
    · have d4 : (m.kind == 4) = true := beq_iff_eq.2 h4
      obtain ⟨A2, cap2, rfl, hA2, -⟩ := hN.ho.form
      obtain ⟨gh, rfl⟩ := hA2 (by show 0 < N.hs.length; omega)
      obtain ⟨-, -, -, -, a4, -⟩ := hN.cells
      have y1 := hN.hoN.cellAt ((flat_at rhV_len (dropN N k).hs i hin 1 (by omega)).trans rfl)
      have y2 := hN.hoN.cellAt ((flat_at rhV_len (dropN N k).hs i hin 2 (by omega)).trans rfl)
      have f1 := hN.hoN.frozenAt (i * 3 + 1)
      have f2 := hN.hoN.frozenAt (i * 3 + 2)
      have hpost : RefAt ((wc.setCell ⟨gh, i * 3 + 1, none⟩ (.bool true)).setCell ⟨gh, i * 3 + 2, none⟩ (.int .i64 m.val)) b P C vv vf' (.slice (some ⟨gh, 0, none⟩) (dropN N k).hs.length cap2) vc vr vb rs (delN N k m) := by
        have h1 := hN.set_hd (hs' := (dropN N k).hs.set i ⟨(dropN N k).hs[i].frm, (dropN N k).hs[i].val, true⟩) (j := i * 3 + 1) (u := .bool true) (by simp) (flat_set rhV_len (dropN N k).hs i hin 1 (.bool true) ⟨(dropN N k).hs[i].frm, (dropN N k).hs[i].val, true⟩ (by omega) rfl).symm
        have hi' : i < ((dropN N k).hs.set i ⟨(dropN N k).hs[i].frm, (dropN N k).hs[i].val, true⟩).length := by rw [List.length_set]; exact hin
        have h2 := h1.set_hd (hs' := ((dropN N k).hs.set i ⟨(dropN N k).hs[i].frm, (dropN N k).hs[i].val, true⟩).set i ⟨(dropN N k).hs[i].frm, m.val, true⟩) (j := i * 3 + 2) (u := .int .i64 m.val) (by simp) (flat_set rhV_len ((dropN N k).hs.set i ⟨(dropN N k).hs[i].frm, (dropN N k).hs[i].val, true⟩) i hi' 2 (.int .i64 m.val) ⟨(dropN N k).hs[i].frm, m.val, true⟩ (by omega) (by simp [rhV])).symm
        unfold delN
        rw [if_pos h4]
        unfold doneN
        have e1 : m.hnd.toNat - 1 = i := by omega
        have e2 : (dropN N k).hs.getD i ⟨0, 0, false⟩ = (dropN N k).hs[i]'hin := by
          show N.hs.getD i ⟨0, 0, false⟩ = N.hs[i]
          simp [List.getD, List.getElem?_eq_getElem hin]
          try rfl
        rw [e1, e2]
        rw [List.set_set] at h2
        exact h2
      have HPOST := Lib.hid hpost
      have hghT : gh ∈ refL b vb rs (.slice (some ⟨g, 0, none⟩) (k + d + 1) cap) (.slice (some ⟨gh, 0, none⟩) (dropN N k).hs.length cap2) vc := by simp [refL, ownL, Value.ownBlock]
      have HGH := Lib.hid hghT
      have hhl : (dropN N k).hs.length = N.hs.length := rfl
      rw [hhl] at a4
      have hin2 : (i : Int) < (N.hs.length : Int) := by omega
      have hw1 : IntKind.i64.wrap ((i : Int) + 1 - 1) = (i : Int) := by rw [Int.add_sub_cancel]; exact IntWalk.i64_in _ (by omega)
      have hw2 : IntKind.i64.wrap (i : Int) = (i : Int) := IntWalk.i64_in _ (by omega)
      have lgh : gh < w.heap.size := HR.out.ho.lt rfl
      have hne1 : ¬ (w.heap.size = gh) := by omega
      have hne2 : ¬ (gh = w.heap.size) := by omega
      have hgb : ¬ (gh = b) := fun e => HR.out.b_ne.2.2.2.1 (by rw [e]; rfl)
      have hgb2 : ¬ (b = gh) := fun e => hgb e.symm
      clear hN hbx2 hA2 hG1 hG2 hpost hghT hhl h4 hi hp hc hplen
      go_wp2_with fail
      go_region
      all_goals
        go_wp2_with fail
        go_ret
        refine ⟨rfl, _, ⟨vv, vf', _, vc, vr, vb, rs, rfl, (HPOST.out.below (Below.refl _ _).drew)⟩, HG2.out, Keeps.drew' ((HG1.out.setCell (.inl HGH.out) _).setCell (.inl HGH.out) _)⟩
    · have d4 : (m.kind == 4) = false := beq_eq_false_iff_ne.2 h4
      have hme : m = ⟨m.frm, p, m.kind, c, m.val, (i : Int) + 1⟩ := by rw [← hp, ← hc, ← hi]
      have hvv : ∃ kv, vv = .slice (some ⟨vb, 0, none⟩) (P * C) kv := by
        have hob := hN.ob
        rcases hN.va.2 with ⟨rfl, _⟩ | ⟨g, cap, cur, rfl, _⟩
        · simp [Value.ownBlock] at hob
        · simp only [Value.ownBlock, Option.some.injEq] at hob
          subst hob
          exact ⟨cap, rfl⟩
      obtain ⟨kv, rfl⟩ := hvv
      have hjn : p * C + c < P * C := by
        have := Nat.mul_le_mul_right C (show p + 1 ≤ P from hpP)
        rw [Nat.add_mul] at this
        omega
      have hPC : P * C ≤ 1000 := Nat.le_trans (Nat.mul_le_mul hP hC) (by omega)
      obtain ⟨-, a1, a2, -, -, -⟩ := hN.cells
      have x0' := hN.va.cellAt (j := p * C + c) (u := .int .i64 (getC N.cs p c)) (by
        unfold intL
        rw [List.getElem?_map]
        show Option.map _ ((dropN N k).cs.flatten[p * C + c]?) = _
        rw [show (dropN N k).cs.flatten = N.cs.flatten from rfl, getC_flat HW.out.ce hplen hcC]
        rfl)
      have x1' := hN.va.frozenAt (p * C + c)
      have KD := Lib.hid (Calls.mono (rdone_at b C vb (P * C) kv p c m.kind m.val (getC N.cs p c) wc a1 a2 x0' x1' hjn (by omega) hC hcC hPC ⟨HM.out.k0, by have := HM.out.k1; omega⟩ hN.b_ne.1 m.frm ((i : Int) + 1)) fun e w' he => rdone_ref (m := ⟨m.frm, p, m.kind, c, m.val, (i : Int) + 1⟩) hN HW.out.ce hplen hcC rfl rfl he)
      rw [← hme] at KD
      obtain ⟨an, han⟩ : ∃ a, ansN (dropN N k) m = a := ⟨_, rfl⟩
      have hM' : ansM m an = ⟨p, m.frm, 4, c, an, (i : Int) + 1⟩ := by unfold ansM; rw [hp, hc, hi]
      have hdel : delN N k m = sendN (doN (dropN N k) m) ⟨p, m.frm, 4, c, an, (i : Int) + 1⟩ := by
        unfold delN
        rw [if_neg h4, ← hM', ← han]
        rfl
      have hfl2 : (doN (dropN N k) m).fl.length ≤ 100000 := by
        have h1 := HFL.out
        have h2 := HHS.out
        have h3 := List.length_eraseIdx_le N.fl k
        show (N.fl.eraseIdx k).length ≤ 100000
        omega
      have KS := Lib.hid (fun (u : World) (hu : RefAt u b P C (.slice (some ⟨vb, 0, none⟩) (P * C) kv) vf' vh vc vr vb rs (doN (dropN N k) m)) => rfly_at b P C _ vf' vh vc vr vb rs (doN (dropN N k) m) ⟨p, m.frm, 4, c, an, (i : Int) + 1⟩ u hu hP (by simp) (by simp; omega) HM.out.f0 HM.out.f1 (by simp) hfl2 HCN.out)
      have hvbl : vb < w.heap.size := HR.out.va.lt HR.out.ob
      have KZ := Lib.hid (fun (u : World) (hku : Keeps [vb] wc u) (j : Nat) => hku.cell (p := ⟨w.heap.size, j, none⟩) lbx (by simp; omega))
      have HDEL := Lib.hid hdel
      rw [han] at KD
      clear hN hbx2 hG1 hG2 hme x0' x1' a1 a2 han hM' hdel h4 hi hp hc hplen hjn
      go_wp2_with fail
      refine KD.out.mono ?_
      rintro e w4 ⟨rfl, hR4, hk4⟩
      have y0 := (KZ.out _ hk4 0).trans b0
      have y1 := (KZ.out _ hk4 1).trans b1
      have y3 := (KZ.out _ hk4 3).trans b3
      have y5 := (KZ.out _ hk4 5).trans b5
      have KS4 := Lib.hid (KS.out _ hR4)
      have HK4 := Lib.hid hk4
      clear KS KD KZ hR4 hk4 b0 b1 b2 b3 b4 b5
      go_wp2_with fail
      refine KS4.out.mono ?_
      rintro e w5 ⟨rfl, vf2, hR5, hG5, hK5⟩
      have HR5 := Lib.hid hR5
      have HG5 := Lib.hid hG5
      have HK5 := Lib.hid hK5
      clear hR5 hG5 hK5 KS4 y0 y1 y3 y5
      go_wp2_with fail
      go_ret
      have hk5 : Keeps (refL b vb rs (.slice (some ⟨g, 0, none⟩) (k + d + 1) cap) vh vc) wc w4 := ⟨HK4.out.os, HK4.out.tape, HK4.out.output, HK4.out.size, fun x hx hm => HK4.out.block x hx (fun h' => hm (by rw [List.mem_singleton.1 h']; simp [refL]))⟩
      have hk6 := HG1.out.trans hk5 (Grows.refl _ _)
      refine ⟨rfl, _, ⟨_, vf2, vh, vc, vr, vb, rs, rfl, by rw [HDEL.out]; exact HR5.out⟩, HG2.out.trans HG5.out hk6.size, hk6.trans HK5.out HG2.out⟩
end Go.Proofs.Ytimmmbjdaibplaa
