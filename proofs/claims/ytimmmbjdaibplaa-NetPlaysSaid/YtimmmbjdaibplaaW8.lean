/-
  Layer 16: the walk of Deliver.
-/
import Derived.Test.YtimmmbjdaibplaaW7
namespace Go.Proofs.Ytimmmbjdaibplaa
open Go.RowKit
open Nt
set_option linter.unusedVariables false
set_option linter.unusedSimpArgs false

/-- the messages cut, and the field stored -/
theorem net_cut_f {w w2 : World} {a C bc kc g n cap n' : Nat} {cur : Array Value} {rs : List Nat} {vh vs : Value} {N : Nt.Net} (h : NetAt w a C bc kc cur rs (.slice (some ⟨g, 0, none⟩) n cap) vh vs N) (fl' : List Msg) (hl : fl'.length = n')
    (hown : w2.ownsRow 0 74 6 (.slice (some ⟨g, 0, none⟩) n' cap) n' (fl'.flatMap msgV)) (hk : Keeps [g] w w2) :
    NetAt (w2.setCell ⟨a, 1, none⟩ (.slice (some ⟨g, 0, none⟩) n' cap)) a C bc kc cur rs (.slice (some ⟨g, 0, none⟩) n' cap) vh vs ⟨N.cs, fl', N.hs, N.sent⟩ := by
  have hne := h.f_ne (g := g) rfl
  have keep : ∀ k, k < w.heap.size → k ≠ a → k ≠ g → (w2.setCell ⟨a, 1, none⟩ (.slice (some ⟨g, 0, none⟩) n' cap)).heap[k]? = w.heap[k]? := fun k hk' hka hkg => (Below.heap_setCell _ _ _ _ hka).trans (hk.block k hk' (by simpa using hkg))
  have h2a := (hk.block a (blk_lt h.hd) (by simpa using hne.1.symm)).trans h.hd
  have part : ∀ {e : TypeId} {size : Nat} {v : Value} {n : Nat} {xs : List Value}, w.ownsRow 0 e size v n xs → (∀ g', v.ownBlock = some g' → g' ≠ a ∧ g' ≠ g) → (w2.setCell ⟨a, 1, none⟩ (.slice (some ⟨g, 0, none⟩) n' cap)).ownsRow 0 e size v n xs := fun ho hn => own_keep ho fun g' hg' => keep g' ((ho.lt g' hg').2) (hn g' hg').1 (hn g' hg').2
  refine ⟨?_, ?_, h.k0, h.k1, h.rl, h.cr, h.nd, ?_, ?_, part h.ho fun g' hg' => ⟨(h.h_ne hg').1, fun e => hne.2.2.2.1 (e ▸ hg')⟩, part h.so fun g' hg' => ⟨(h.s_ne hg').1, fun e => hne.2.2.2.2 (e ▸ hg')⟩⟩
  · rw [heap_setCell_same _ _ _ _ _ _ h2a]
    rfl
  · exact (keep bc (blk_lt h.tb) h.ne_tb hne.2.1.symm).trans h.tb
  · intro p hp hp'
    exact (h.row p hp hp').keep (keep _ (h.row p hp hp').lt (h.ne_row hp).1 (fun e => hne.2.2.1 (e ▸ List.getElem_mem hp)))
  · rw [hl]
    exact ownsRow_setCell_other hown (by simp [Value.ownBlock]; exact hne.1) _

/-- an answer delivered -/
theorem deliv_done {a C bc kc gh nh caph k i : Nat} {cur : Array Value} {rs : List Nat} {vf vs : Value} {N : Nt.Net} {m : Msg} {w wd : World} {T : List Nat} (hT : T = netL a bc rs vf (.slice (some ⟨gh, 0, none⟩) nh caph) vs) (hN : NetAt wd a C bc kc cur rs vf (.slice (some ⟨gh, 0, none⟩) nh caph) vs (dropN N k)) (hi : i < N.hs.length) (hm : m.hnd = (i : Int) + 1) (h4 : m.kind = 4) (hk : Keeps T w wd) :
    NetPost a C T (delN N k m) w ((wd.setCell ⟨gh, i * 3 + 1, none⟩ (.int .i64 m.val)).setCell ⟨gh, i * 3 + 2, none⟩ (.bool true)) := by
  subst hT
  have h2 := net_set_h hN (k := i) hi m.val
  have hg : gh ∈ netL a bc rs vf (.slice (some ⟨gh, 0, none⟩) nh caph) vs := by simp [netL, ownL, Value.ownBlock]
  refine ⟨_, ⟨bc, kc, cur, rs, vf, .slice (some ⟨gh, 0, none⟩) nh caph, vs, rfl, ?_⟩, Grows.refl _ _, (hk.setCell (.inl hg) _).setCell (.inl hg) _⟩
  have e : delN N k m = ⟨(dropN N k).cs, (dropN N k).fl, (dropN N k).hs.set i ⟨((dropN N k).hs[i]'hi).frm, m.val, true⟩, (dropN N k).sent⟩ := by
    unfold delN
    rw [if_pos h4]
    have e1 : m.hnd.toNat - 1 = i := by omega
    have e2 : N.hs.getD i ⟨0, 0, false⟩ = N.hs[i] := by simp [List.getD, List.getElem?_eq_getElem hi]
    unfold doneN
    simp only [dropN, e1, e2]
  rw [e]
  exact h2
/-- a request delivered, and its answer sent -/
theorem deliv_send {a C bc kc k p c : Nat} {cur : Array Value} {rs : List Nat} {vf vh vs : Value} {N : Nt.Net} {m : Msg} {w w3 w' : World} {T : List Nat} {e : Ending} (hT : T = netL a bc rs vf vh vs) (h4 : m.kind ≠ 4) (hmt : m.to = p) (hmc : m.cell = c) (hp : p < N.cs.length) (hc : c < N.cs[p].length) (hk : Keeps T w w3)
    (h : SendE a C bc kc cur rs vf vh vs ⟨N.cs.set p (N.cs[p].set c (newV m N.cs[p][c])), N.fl.eraseIdx k, N.hs, N.sent⟩ (ansM m (ansV m N.cs[p][c])) w3 e w') : e = .returned (.tuple #[]) ∧ NetPost a C T (delN N k m) w w' := by
  subst hT
  obtain ⟨h1, vf', vs', h2, h3, h5⟩ := h
  refine ⟨h1, _, ⟨bc, kc, cur, rs, vf', vh, vs', rfl, ?_⟩, fun x hx => ?_, hk.trans h5 (Grows.refl _ _)⟩
  · have e1 : N.cs.getD p [] = N.cs[p] := by simp [List.getD, List.getElem?_eq_getElem hp]
    have e2 : (N.cs[p]).getD c 0 = N.cs[p][c] := by simp [List.getD, List.getElem?_eq_getElem hc]
    have e : delN N k m = sendN ⟨N.cs.set p (N.cs[p].set c (newV m N.cs[p][c])), N.fl.eraseIdx k, N.hs, N.sent⟩ (ansM m (ansV m N.cs[p][c])) := by
      unfold delN
      rw [if_neg h4]
      simp only [doN, dropN, ansN, setC, getC, hmt, hmc, Int.toNat_natCast, e1, e2]
    rw [e]
    exact h2
  · rcases h3 x hx with h | h
    · exact .inl h
    · exact .inr (Nat.le_trans hk.size h)
def DelivE (a C : Nat) (T : List Nat) (N' : Nt.Net) (w : World) (e : Ending) (w' : World) : Prop := e = .returned (.int .i64 0) ∧ NetPost a C T N' w w'

set_option maxHeartbeats 16000000 in
set_option maxRecDepth 100000 in
theorem deliver_at (a P C : Nat) (T : List Nat) (N : Nt.Net) (k : Nat) (w : World) (h : NetX w a C T N) (hw : Wf P C N) (hP : P ≤ 8) (hk : k < N.fl.length) :
    Calls Try.prog 12 #[.pointer (some ⟨a, 0, none⟩), .int .i64 k] w (DelivE a C T (delN N k N.fl[k]) w) := by
  obtain ⟨bc, kc, cur, rs, vf, vh, vs, rfl, hN⟩ := h
  have hm := hw.ms _ (List.getElem_mem hk)
  have hpl := hw.pl
  have hP0 : 0 < N.cs.length := by have := hm.t0; have := hm.t1; omega
  obtain ⟨A, cap, rfl, hA, hcap⟩ := own_form hN.fo
  obtain ⟨g, rfl⟩ := hA (by omega)
  obtain ⟨d, hd⟩ : ∃ d, N.fl.length = k + d + 1 := ⟨N.fl.length - k - 1, by omega⟩
  have hfo := hN.fo
  have g0 := own_at hfo ((flat_at msgV_len N.fl k hk 0 (by omega)).trans rfl)
  have g1 := own_at hfo ((flat_at msgV_len N.fl k hk 1 (by omega)).trans rfl)
  have g2 := own_at hfo ((flat_at msgV_len N.fl k hk 2 (by omega)).trans rfl)
  have g3 := own_at hfo ((flat_at msgV_len N.fl k hk 3 (by omega)).trans rfl)
  have g4 := own_at hfo ((flat_at msgV_len N.fl k hk 4 (by omega)).trans rfl)
  have g5 := own_at hfo ((flat_at msgV_len N.fl k hk 5 (by omega)).trans rfl)
  simp only [Nat.add_zero] at g0
  obtain ⟨c0, c1, -, -⟩ := hN.cells
  obtain ⟨-, e1, -, -⟩ := hN.frees
  have hfl := hw.fl
  have hhs := hw.hs
  have K0 := Lib.hid (none_at a (some ⟨bc, 0, none⟩) N.cs.length kc w c0 hP0 (by omega))
  have hk0 : (0 : Int) ≤ (k : Int) := by omega
  have hk1 : (k : Int) < (N.fl.length : Int) := by omega
  have hk2 : (k : Int) + 1 ≤ 100000 := by omega
  have hk3 : ¬ ((N.fl.length : Int) ≤ (k : Int)) := by omega
  have HM := Lib.hid hm
  have HD := Lib.hid (show delN N k N.fl[k] = delN N k N.fl[k] from rfl)
  obtain ⟨m, hme⟩ : ∃ m, N.fl[k] = m := ⟨_, rfl⟩
  rw [hme] at g0 g1 g2 g3 g4 g5 HM ⊢
  have hb : Below w.heap.size w (w.alloc (.cells #[.int .i64 m.frm, .int .i64 m.to, .int .i64 m.kind, .int .i64 m.cell, .int .i64 m.val, .int .i64 m.hnd] 74)) := (Below.refl _ _).alloc (Nat.le_refl _) _
  have hbb : (w.alloc (.cells #[.int .i64 m.frm, .int .i64 m.to, .int .i64 m.kind, .int .i64 m.cell, .int .i64 m.val, .int .i64 m.hnd] 74)).heap[w.heap.size]? = some (.cells #[.int .i64 m.frm, .int .i64 m.to, .int .i64 m.kind, .int .i64 m.cell, .int .i64 m.val, .int .i64 m.hnd] 74 (0, 0)) := heap_alloc_new w _
  obtain ⟨w0, hw0⟩ : ∃ x, w.alloc (.cells #[.int .i64 m.frm, .int .i64 m.to, .int .i64 m.kind, .int .i64 m.cell, .int .i64 m.val, .int .i64 m.hnd] 74) = x := ⟨_, rfl⟩
  rw [hw0] at hb hbb
  have hN0 := hN.below hb
  obtain ⟨-, c1', -, -⟩ := hN0.cells
  rw [hd] at c1 c1' hk1
  have hfo0 := hN0.fo
  rw [hd] at hfo0
  have KD := Lib.hid (delete_at g cap k d N.fl w0 hd hfo0 (by omega))
  have lga : a < w0.heap.size := blk_lt hN0.hd
  have lbb := blk_lt hbb
  have hne := hN0.f_ne (g := g) rfl
  have hgb : g ≠ w.heap.size := fun e => by
    have h1 := (hfo.lt g rfl).2
    omega
  have hab : a ≠ w.heap.size := fun e => by
    have h1 := blk_lt hN.hd
    omega
  have HN := Lib.hid hN
  have HN0 := Lib.hid hN0
  have HBX := Lib.hid hbb
  have HB := Lib.hid hb
  have HFD := Lib.hid hd
  have HME := Lib.hid hme
  have HPL := Lib.hid hpl
  have HW := Lib.hid hw
  have HW0 := Lib.hid hw0
  have hq3 : (k : Int) + (d : Int) + 1 ≤ 1000 := by omega
  have HLA := Lib.hid lga
  have HLB := Lib.hid lbb
  have HNE := Lib.hid hne
  have HGB := Lib.hid hgb
  have HAB := Lib.hid hab
  have HHS := Lib.hid hhs
  clear lga lbb hne hgb hab hhs hk2
  have hq1 : (k : Int) < (k : Int) + (d : Int) + 1 := by omega
  have hq2 : ¬ ((k : Int) + (d : Int) + 1 ≤ (k : Int)) := by omega
  have e1' := free_alloc (o := .cells #[.int .i64 m.frm, .int .i64 m.to, .int .i64 m.kind, .int .i64 m.cell, .int .i64 m.val, .int .i64 m.hnd] 74) c1 e1
  rw [hw0] at e1'
  clear hN hN0 hbb hb hfo hfo0 hd hme hpl hw hm hA hcap HD hk3 hfl hk1 hq1 hq2
  have hq2 : (k : Int) ≤ (k : Int) + (d : Int) := by omega
  go_enter Try.func12, Try.ntmps12
  go_wp2_with fail
  refine K0.out.mono ?_
  rintro e w1 ⟨rfl, rfl⟩
  clear K0
  go_wp2_with fail
  refine KD.out.mono ?_
  rintro e w2 ⟨rfl, hown2, hk2⟩
  have hfd := HFD.out
  have hel : (N.fl.eraseIdx k).length = k + d := by rw [List.length_eraseIdx_of_lt hk, hfd]; rfl
  have hNd := net_cut_f HN0.out (N.fl.eraseIdx k) hel hown2 hk2
  have a1 := (hk2.cell (p := ⟨a, 1, none⟩) HLA.out (by simpa using HNE.out.1.symm)).trans c1'
  have a2 := (hk2.frozen (p := ⟨a, 1, none⟩) HLA.out (by simpa using HNE.out.1.symm)).trans e1'
  have hbd : (w2.setCell ⟨a, 1, none⟩ (.slice (some ⟨g, 0, none⟩) (k + d) cap)).heap[w.heap.size]? = some (.cells #[.int .i64 m.frm, .int .i64 m.to, .int .i64 m.kind, .int .i64 m.cell, .int .i64 m.val, .int .i64 m.hnd] 74 (0, 0)) :=
    (Below.heap_setCell _ _ _ _ (Ne.symm HAB.out)).trans ((hk2.block _ HLB.out (by simpa using Ne.symm HGB.out)).trans HBX.out)
  have hKd : Keeps (netL a bc rs (.slice (some ⟨g, 0, none⟩) N.fl.length cap) vh vs) w (w2.setCell ⟨a, 1, none⟩ (.slice (some ⟨g, 0, none⟩) (k + d) cap)) := by
    have hk3 : Keeps (netL a bc rs (.slice (some ⟨g, 0, none⟩) N.fl.length cap) vh vs) w0 w2 := ⟨hk2.os, hk2.tape, hk2.output, hk2.size, fun x hx hm => hk2.block x hx (fun h' => hm (by rw [List.mem_singleton.1 h']; simp [netL, ownL, Value.ownBlock]))⟩
    exact ((Keeps.of_below HB.out).trans hk3 (Grows.refl _ _)).setCell (.inl (by simp [netL])) _
  obtain ⟨wd, hwd⟩ : ∃ x, w2.setCell ⟨a, 1, none⟩ (.slice (some ⟨g, 0, none⟩) (k + d) cap) = x := ⟨_, rfl⟩
  rw [hwd] at hNd hbd hKd
  obtain ⟨i, hi⟩ : ∃ i : Nat, m.hnd = (i : Int) + 1 := ⟨m.hnd.toNat - 1, by have := HM.out.h0; omega⟩
  obtain ⟨p, hp⟩ : ∃ p : Nat, m.to = p := ⟨m.to.toNat, by have := HM.out.t0; omega⟩
  obtain ⟨c, hc⟩ : ∃ c : Nat, m.cell = c := ⟨m.cell.toNat, by have := HM.out.c0; omega⟩
  have him : i < N.hs.length := by have := HM.out.h1; omega
  have hpm : p < N.cs.length := by have := HM.out.t1; have := HPL.out; omega
  have hcm : c < C := by have := HM.out.c1; omega
  have z0 : wd.cell? ⟨w.heap.size, 0, none⟩ = some (.int .i64 m.frm) := blk_cell hbd 0
  have z1 : wd.cell? ⟨w.heap.size, 1, none⟩ = some (.int .i64 p) := by rw [← hp]; exact blk_cell hbd 1
  have z2 : wd.cell? ⟨w.heap.size, 2, none⟩ = some (.int .i64 m.kind) := blk_cell hbd 2
  have z3 : wd.cell? ⟨w.heap.size, 3, none⟩ = some (.int .i64 c) := by rw [← hc]; exact blk_cell hbd 3
  have z4 : wd.cell? ⟨w.heap.size, 4, none⟩ = some (.int .i64 m.val) := blk_cell hbd 4
  have z5 : wd.cell? ⟨w.heap.size, 5, none⟩ = some (.int .i64 ((i : Int) + 1)) := by rw [← hi]; exact blk_cell hbd 5
  have lbd := blk_lt hbd
  have hTe : netL a bc rs (.slice (some ⟨g, 0, none⟩) N.fl.length cap) vh vs = netL a bc rs (.slice (some ⟨g, 0, none⟩) (k + d) cap) vh vs := rfl
  clear hbd hown2 hk2 hel c1' e1' KD hfd g0 g1 g2 g3 g4 g5 c0 c1 e1 hw0 hq3 hq2
  by_cases h4 : m.kind = 4
  · have q4 : ((m.kind : Int) == 4) = true := beq_iff_eq.2 h4
    obtain ⟨A, caph, rfl, hA, hcaph⟩ := own_form hNd.ho
    obtain ⟨gh, rfl⟩ := hA (show 0 < N.hs.length by omega)
    have yo := hNd.ho
    have i1 := own_at yo ((flat_at hdV_len N.hs i him 1 (by omega)).trans rfl)
    have i2 := own_at yo ((flat_at hdV_len N.hs i him 2 (by omega)).trans rfl)
    obtain ⟨-, -, y2, -⟩ := hNd.cells
    have KN := Lib.hid (done_at a gh N.hs.length caph i _ m.val _ wd y2 him i1 i2 (yo.frozenAt _) (yo.frozenAt _) HHS.out)
    have KE := Lib.hid (deliv_done (m := m) hTe hNd him hi h4 hKd)
    clear hNd yo i1 i2 y2 hKd hA hcaph hi hp hc h4 him hpm hcm hTe
    go_wp2_with fail
    refine KN.out.mono ?_
    rintro e w3 ⟨rfl, rfl⟩
    go_wp2_with fail
    go_ret
    exact ⟨rfl, KE.out⟩
  · have q4 : ((m.kind : Int) == 4) = false := beq_eq_false_iff_ne.2 h4
    have hrl : rs.length = N.cs.length := hNd.rl
    have hpr : p < rs.length := by omega
    have hlC : N.cs[p].length = C := HW.out.ce _ (List.getElem_mem hpm)
    obtain ⟨y0, -, -, -⟩ := hNd.cells
    obtain ⟨kr, hkr⟩ := hNd.cr p hpr
    have yb : wd.cell? ⟨bc, p, none⟩ = some (.slice (some ⟨rs[p], 0, none⟩) C kr) := (blk_cell hNd.tb p).trans hkr
    have yr := hNd.row p hpr hpm
    have hk13 : 1 ≤ m.kind ∧ m.kind ≤ 3 := ⟨HM.out.k0, by have := HM.out.k1; omega⟩
    have KDO := Lib.hid (do_at a bc rs[p] N.cs.length kc C kr p c N.cs[p] m.frm m.kind m.val ((i : Int) + 1) wd y0 yb yr hlC hpm hcm hk13)
    have hrb : rs[p] ≠ w.heap.size := fun e => by
      have h1 := hNd.row p hpr hpm
      have h2 := (HN.out.lt rs[p] (by simp [netL]))
      omega
    have KZ := Lib.hid (fun (u : World) (hk : Keeps [rs[p]] wd u) (i : Nat) => hk.cell (p := ⟨w.heap.size, i, none⟩) lbd (by simpa using hrb.symm))
    have hrT : rs[p] ∈ netL a bc rs (.slice (some ⟨g, 0, none⟩) N.fl.length cap) vh vs := by simp [netL]
    have hme : m = ⟨m.frm, p, m.kind, c, m.val, (i : Int) + 1⟩ := by rw [← hp, ← hc, ← hi]
    have hcl : c < N.cs[p].length := by omega
    have hsl : N.sent.length ≤ 100000 := by have := HW.out.se; have := HHS.out; omega
    have hfl : (N.fl.eraseIdx k).length ≤ 100000 := by have := HW.out.fl; have := HHS.out; have := List.length_eraseIdx_le N.fl k; omega
    have hM' : ansM m (ansV m (N.cs[p][c]'hcl)) = ⟨p, m.frm, 4, c, ansV m (N.cs[p][c]'hcl), (i : Int) + 1⟩ := by unfold ansM; rw [hp, hc, hi]
    have KS := Lib.hid (fun (u : World) (hku : Keeps [rs[p]] wd u) (hr : RowAt u rs[p] (N.cs[p].set c (newV m (N.cs[p][c]'hcl)))) =>
      send_at a C bc kc cur rs (.slice (some ⟨g, 0, none⟩) (k + d) cap) vh vs ⟨N.cs.set p (N.cs[p].set c (newV m (N.cs[p][c]'hcl))), N.fl.eraseIdx k, N.hs, N.sent⟩ ⟨p, m.frm, 4, c, ansV m (N.cs[p][c]'hcl), (i : Int) + 1⟩ u (net_set_row hNd hpr hku hr) (by simp) hfl hsl)
    have KE := Lib.hid (fun (u : World) (hku : Keeps [rs[p]] wd u) (w' : World) (e : Ending) (hse : SendE a C bc kc cur rs (.slice (some ⟨g, 0, none⟩) (k + d) cap) vh vs ⟨N.cs.set p (N.cs[p].set c (newV m (N.cs[p][c]'hcl))), N.fl.eraseIdx k, N.hs, N.sent⟩ ⟨p, m.frm, 4, c, ansV m (N.cs[p][c]'hcl), (i : Int) + 1⟩ u e w') => deliv_send (C := C) (kc := kc) (cur := cur) (w := w) (w3 := u) (w' := w') (e := e) (m := m) (k := k) hTe h4 hp hc hpm hcl (hKd.trans ⟨hku.os, hku.tape, hku.output, hku.size, fun x hx hm => hku.block x hx (fun h' => hm (by rw [List.mem_singleton.1 h']; exact hrT))⟩ (Grows.refl _ _)) (by rw [hM']; exact hse))
    rw [← hme] at KDO
    have HME2 := Lib.hid hme
    have HP := Lib.hid hp
    have HC := Lib.hid hc
    have HI := Lib.hid hi
    unfold DoE at KDO
    clear hNd yb yr y0 hKd hi hp hc h4 hme hTe hrT hrb hrl hM'
    go_wp2_with fail
    refine KDO.out.mono ?_
    rintro e w3 ⟨rfl, hk3, hr3⟩
    have x0 := (KZ.out _ hk3 0).trans z0
    have x1 := (KZ.out _ hk3 1).trans z1
    have x3 := (KZ.out _ hk3 3).trans z3
    have x5 := (KZ.out _ hk3 5).trans z5
    have KS3 := Lib.hid (KS.out _ hk3 hr3)
    have KE3 := Lib.hid (KE.out _ hk3)
    clear KS KE KZ KDO z0 z1 z2 z3 z4 z5 hk3 hr3
    go_wp2_with fail
    refine KS3.out.mono ?_
    rintro e w4 hse
    obtain ⟨rfl, hnp⟩ := KE3.out _ _ hse
    have HNP := Lib.hid hnp
    clear hse hnp KS3 KE3 x0 x1 x3 x5
    go_wp2_with fail
    go_ret
    exact ⟨rfl, HNP.out⟩
end Go.Proofs.Ytimmmbjdaibplaa
