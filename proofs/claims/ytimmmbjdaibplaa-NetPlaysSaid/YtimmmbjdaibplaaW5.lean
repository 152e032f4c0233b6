/-
  Layer 16: the walk of request.
-/
import Derived.Test.YtimmmbjdaibplaaW4
namespace Go.Proofs.Ytimmmbjdaibplaa
open Go.RowKit
open Nt
set_option linter.unusedVariables false
set_option linter.unusedSimpArgs false

theorem Keeps.cell {T : List Nat} {w w' : World} (h : Keeps T w w') {p : Addr} (hp : p.block < w.heap.size) (hT : p.block ∉ T) : w'.cell? p = w.cell? p := World.cell?_of_block (h.block p.block hp hT)
theorem Keeps.frozen {T : List Nat} {w w' : World} (h : Keeps T w w') {p : Addr} (hp : p.block < w.heap.size) (hT : p.block ∉ T) : w'.frozen? p = w.frozen? p := World.frozen?_of_block (h.block p.block hp hT)
/-- what the append of a handle leaves -/
def HangCut (a C bc kc : Nat) (cur : Array Value) (rs : List Nat) (vf vh vs : Value) (N : Nt.Net) (f : Int) (w wx : World) : Prop :=
  ∃ g cap, NetAt wx a C bc kc cur rs vf (.slice (some ⟨g, 0, none⟩) (N.hs.length + 1) cap) vs (hangN N f) ∧ Keeps (netL a bc rs vf vh vs) w wx ∧ Grows (netL a bc rs vf vh vs) (netL a bc rs vf (.slice (some ⟨g, 0, none⟩) (N.hs.length + 1) cap) vs) w
theorem hang_cut {w w1 : World} {a C bc kc : Nat} {cur : Array Value} {rs : List Nat} {vf vh vs : Value} {N : Nt.Net} (h : NetAt w a C bc kc cur rs vf vh vs N) (f : Int) (o : Obj) {g cap : Nat}
    (hown : w1.ownsRow 0 81 3 (.slice (some ⟨g, 0, none⟩) (N.hs.length + 1) cap) (N.hs.length + 1) (N.hs.flatMap hdV ++ hdV ⟨f, 0, false⟩)) (hgrow : (w.alloc o).drew.grownBy w1 vh.ownBlock) (hat : vh.ownBlock = some g ∨ g = w.heap.size + 1) :
    HangCut a C bc kc cur rs vf vh vs N f w (w1.setCell ⟨a, 2, none⟩ (.slice (some ⟨g, 0, none⟩) (N.hs.length + 1) cap)) := by
  have hb : Below w.heap.size w (w.alloc o).drew := ((Below.refl _ _).alloc (Nat.le_refl _) _).drew
  have h0 := h.below hb
  have hsz : (w.alloc o).drew.heap.size = w.heap.size + 1 := by simp
  obtain ⟨h1, h2, h3⟩ := net_app_h h0 ⟨f, 0, false⟩ hown hgrow (by rw [hsz]; exact hat)
  exact ⟨g, cap, h1, (Keeps.of_below hb).trans h2 (Grows.refl _ _), (Grows.refl _ _).trans h3 hb.size⟩

theorem Keeps.of_drew {T : List Nat} {w w' : World} (h : Keeps T w.drew w') : Keeps T w w' := ⟨h.os, h.tape, h.output, h.size, h.block⟩
theorem NetPost.from {a C : Nat} {T T1 : List Nat} {N' : Nt.Net} {w w1 w' : World} (h1 : Keeps T w w1) (h2 : Grows T T1 w) (h : NetPost a C T1 N' w1 w') : NetPost a C T N' w w' := by
  obtain ⟨T', hx, hg, hk⟩ := h
  exact ⟨T', hx, h2.trans hg h1.size, h1.trans hk h2⟩
/-- a request to the own place, done -/
theorem req_same {a C bc kc g cap : Nat} {cur : Array Value} {rs : List Nat} {vf vs : Value} {N : Nt.Net} {f k v : Int} {p c : Nat} {wz w2 : World} (hZ : NetAt wz a C bc kc cur rs vf (.slice (some ⟨g, 0, none⟩) (N.hs.length + 1) cap) vs (hangN N f)) (hp : p < N.cs.length) (hpr : p < rs.length) (hc : c < N.cs[p].length) (hfp : f = p)
    (hk : Keeps [rs[p]] wz.drew w2) (hr : RowAt w2 rs[p] (N.cs[p].set c (newV ⟨f, p, k, c, v, (N.hs.length : Int) + 1⟩ N.cs[p][c]))) :
    NetPost a C (netL a bc rs vf (.slice (some ⟨g, 0, none⟩) (N.hs.length + 1) cap) vs) (reqN N ⟨f, p, k, c, v, 0⟩) wz ((w2.setCell ⟨g, N.hs.length * 3 + 1, none⟩ (.int .i64 (ansV ⟨f, p, k, c, v, (N.hs.length : Int) + 1⟩ N.cs[p][c]))).setCell ⟨g, N.hs.length * 3 + 2, none⟩ (.bool true)) := by
  have h1 := net_set_row hZ hpr hk.of_drew hr
  have hln : N.hs.length < (N.hs ++ [(⟨f, 0, false⟩ : Hd)]).length := by simp
  have h2 := net_set_h h1 (k := N.hs.length) hln (ansV ⟨f, p, k, c, v, (N.hs.length : Int) + 1⟩ N.cs[p][c])
  have hg : g ∈ netL a bc rs vf (.slice (some ⟨g, 0, none⟩) (N.hs.length + 1) cap) vs := by simp [netL, ownL, Value.ownBlock]
  have hr' : rs[p] ∈ netL a bc rs vf (.slice (some ⟨g, 0, none⟩) (N.hs.length + 1) cap) vs := by simp [netL]
  have e1 : N.cs.getD p [] = N.cs[p] := by simp [List.getD, List.getElem?_eq_getElem hp]
  have e2 : (N.cs[p]).getD c 0 = N.cs[p][c] := by simp [List.getD, List.getElem?_eq_getElem hc]
  refine ⟨netL a bc rs vf (.slice (some ⟨g, 0, none⟩) (N.hs.length + 1) cap) vs, ⟨bc, kc, cur, rs, vf, .slice (some ⟨g, 0, none⟩) (N.hs.length + 1) cap, vs, rfl, ?_⟩, Grows.refl _ _, ?_⟩
  · have e : reqN N ⟨f, p, k, c, v, 0⟩ = ⟨N.cs.set p (N.cs[p].set c (newV ⟨f, p, k, c, v, (N.hs.length : Int) + 1⟩ N.cs[p][c])), N.fl, (N.hs ++ [(⟨f, 0, false⟩ : Hd)]).set N.hs.length ⟨((N.hs ++ [(⟨f, 0, false⟩ : Hd)])[N.hs.length]'hln).frm, ansV ⟨f, p, k, c, v, (N.hs.length : Int) + 1⟩ N.cs[p][c], true⟩, N.sent⟩ := by
      unfold reqN
      rw [if_pos hfp]
      simp [doneN, doN, hangN, ansN, setC, getC, e1, e2, hp, hc]
    rw [e]
    exact h2
  · have hk' : Keeps (netL a bc rs vf (.slice (some ⟨g, 0, none⟩) (N.hs.length + 1) cap) vs) wz w2 := ⟨hk.os, hk.tape, hk.output, hk.size, fun x hx hm => hk.block x hx (fun h' => hm (by rw [List.mem_singleton.1 h']; exact hr'))⟩
    exact (hk'.setCell (.inl hg) _).setCell (.inl hg) _
/-- what request leaves -/
def ReqE (a C : Nat) (T : List Nat) (N : Nt.Net) (m : Msg) (w : World) (e : Ending) (w' : World) : Prop :=
  e = .returned (.tuple #[.int .i64 ((N.hs.length : Int) + 1), .int .i64 0]) ∧ NetPost a C T (reqN N m) w w'

set_option maxHeartbeats 16000000 in
set_option maxRecDepth 100000 in
theorem request_at (a C : Nat) (T : List Nat) (N : Nt.Net) (f k v : Int) (p c : Nat) (w : World) (h : NetX w a C T N) (hce : ∀ r ∈ N.cs, r.length = C) (hP : N.cs.length ≤ 8) (hk : 1 ≤ k ∧ k ≤ 3) (f0 : 0 ≤ f) (f1 : f < N.cs.length) (hp : p < N.cs.length) (hc : c < C) (hn : N.hs.length < 1000) (hf : N.fl.length ≤ 100000) (hs : N.sent.length ≤ 100000) :
    Calls Try.prog 31 #[.pointer (some ⟨a, 0, none⟩), .agg #[.int .i64 f, .int .i64 p, .int .i64 k, .int .i64 c, .int .i64 v, .int .i64 0]] w (ReqE a C T N ⟨f, p, k, c, v, 0⟩ w) := by
  obtain ⟨bc, kc, cur, rs, vf, vh, vs, rfl, hN⟩ := h
  obtain ⟨i0, hi0, hz0, hz1, hz2⟩ := info_parts infoHd
  have hTl := hN.lt
  have hb : Below w.heap.size w (w.alloc (.cells #[.int .i64 f, .int .i64 p, .int .i64 k, .int .i64 c, .int .i64 v, .int .i64 0] 74)) := (Below.refl _ _).alloc (Nat.le_refl _) _
  have hbb : (w.alloc (.cells #[.int .i64 f, .int .i64 p, .int .i64 k, .int .i64 c, .int .i64 v, .int .i64 0] 74)).heap[w.heap.size]? = some (.cells #[.int .i64 f, .int .i64 p, .int .i64 k, .int .i64 c, .int .i64 v, .int .i64 0] 74 (0, 0)) := heap_alloc_new w _
  have hsz : (w.alloc (.cells #[.int .i64 f, .int .i64 p, .int .i64 k, .int .i64 c, .int .i64 v, .int .i64 0] 74)).heap.size = w.heap.size + 1 := by simp
  obtain ⟨w0, hw0⟩ : ∃ x, w.alloc (.cells #[.int .i64 f, .int .i64 p, .int .i64 k, .int .i64 c, .int .i64 v, .int .i64 0] 74) = x := ⟨_, rfl⟩
  rw [hw0] at hb hbb hsz
  have hN1 := hN.below hb
  have hrl : rs.length = N.cs.length := hN.rl
  obtain ⟨c0, c1, c2, c3⟩ := hN1.cells
  obtain ⟨e0, e1, e2, e3⟩ := hN1.frees
  obtain ⟨k0, hk0⟩ := hN1.cr 0 (by omega)
  have cb : w0.cell? ⟨bc, 0, none⟩ = some (.slice (some ⟨rs[0]'(by omega), 0, none⟩) C k0) := (blk_cell hN1.tb 0).trans hk0
  obtain ⟨A, cap, rfl, hA, hcap⟩ := own_form hN1.ho
  have ag : (Value.slice A N.hs.length cap).ownBlock ≠ some a := fun e => (hN.h_ne e).1 rfl
  have lg : a < w0.heap.size := by have := blk_lt hN.hd; omega
  have hl0 : ((N.hs.length : Int) == 1000) = false := beq_eq_false_iff_ne.2 (by omega)
  have HHO := Lib.hid hN1.ho
  have hP0 : 0 < N.cs.length := by omega
  have b0 : w0.cell? ⟨w.heap.size, 0, none⟩ = some (.int .i64 f) := blk_cell hbb 0
  have b1 : w0.cell? ⟨w.heap.size, 1, none⟩ = some (.int .i64 p) := blk_cell hbb 1
  have b3 : w0.cell? ⟨w.heap.size, 3, none⟩ = some (.int .i64 c) := blk_cell hbb 3
  have K0 := Lib.hid (none_at a (some ⟨bc, 0, none⟩) N.cs.length kc w0 c0 hP0 hP)
  have K1 := Lib.hid (isPlace_at a (some ⟨bc, 0, none⟩) N.cs.length kc w0 c0 f true (by simp; omega))
  have K2 := Lib.hid (isPlace_at a (some ⟨bc, 0, none⟩) N.cs.length kc w0 c0 p true (by simp; omega))
  have K3 := Lib.hid (isCell_at a bc 0 _ N.cs.length kc C k0 w0 c0 hP0 cb c true (by simp; omega))
  have HN := Lib.hid hN
  have HN1 := Lib.hid hN1
  have HB := Lib.hid hb
  have HBB := Lib.hid hbb
  have HSZ := Lib.hid hsz
  have HW0 := Lib.hid hw0
  have fz1 := fun o => free_alloc (o := o) c2 e2
  have fz3 := fun o => cell_alloc (o := o) c2
  clear hN hN1 hb hbb hsz c1 c3 e0 e1 e3 hA
  go_enter Try.func31, Try.ntmps31
  go_wp2_with fail
  refine K0.out.mono ?_
  rintro e w1 ⟨rfl, rfl⟩
  clear hw0
  go_wp2_with fail
  refine K1.out.mono ?_
  rintro e w1 ⟨rfl, rfl⟩
  go_wp2_with fail
  refine K2.out.mono ?_
  rintro e w1 ⟨rfl, rfl⟩
  go_wp2_with fail
  refine K3.out.mono ?_
  rintro e w1 ⟨rfl, rfl⟩
  clear K0 K1 K2 K3
  go_upto_region 7 with fail
  go_cut [] (fun wx => HangCut a C bc kc cur rs vf (.slice A N.hs.length cap) vs N f w0 wx)
  case first =>
    go_region_law
      ((refine step_append_lies _ (by rfl) _ _ _ (by rfl) 0 81 i0 _ 3 24 Try.underlying65 hi0 hz0 hz1 hz2 rfl (by omega) (.slice A N.hs.length cap) N.hs.length (N.hs.flatMap hdV) (by rfl) ((HHO.out.alloc _).drew)
            ⟨w0.heap.size, 0, none⟩ 1 1 (hdV ⟨f, 0, false⟩) (by rfl) (by rfl) (World.news_of_block (cs := (hdV ⟨f, 0, false⟩).toArray) (t := 81) (fr := (0, 0)) (heap_alloc_new w0 _)) (by simp [Value.oneCell', hdV])
            (by omega) (by unfold maxLen; omega) (by omega) (by simp) (w0.heap.size + 1) (by simp) ?_; intro gg cap' w1 hown1 hgrow hat hlt; have hs1 := (hgrow.cell_far ⟨a, 2, none⟩ (by simp; omega) (Ne.symm ag)).trans (fz3 _); have hs2 := (hgrow.frozen_far ⟨a, 2, none⟩ (by simp; omega) (Ne.symm ag)).trans (fz1 _)))
    all_goals (go_wp2_with fail; go_meet; exact hang_cut HN1.out f _ hown1 hgrow hat)
  case rest =>
    obtain ⟨g, capg, hN2, hG1, hG2⟩ := hcut
    have hbT : w.heap.size ∉ netL a bc rs vf (.slice A N.hs.length cap) vs := fun hm => Nat.lt_irrefl _ (hTl _ hm)
    have hs0 := HSZ.out
    have hbx := (hG1.block w.heap.size (by omega) hbT).trans HBB.out
    have hbT2 : w.heap.size ∉ netL a bc rs vf (.slice (some ⟨g, 0, none⟩) (N.hs.length + 1) capg) vs := fun hm => by
      rcases hG2 _ hm with h1 | h1
      · exact hbT h1
      · omega
    have hgT : g ∈ netL a bc rs vf (.slice (some ⟨g, 0, none⟩) (N.hs.length + 1) capg) vs := by simp [netL, ownL, Value.ownBlock]
    have hgb : g ≠ w.heap.size := fun e => hbT2 (e ▸ hgT)
    have hpr : p < rs.length := by omega
    have hrb : rs[p] ≠ w.heap.size := fun e => hbT2 (by rw [← e]; simp [netL])
    obtain ⟨wz, hwz⟩ : ∃ x, wc.setCell ⟨w.heap.size, 5, none⟩ (.int .i64 ((N.hs.length : Int) + 1)) = x := ⟨_, rfl⟩
    have hbz : wz.heap[w.heap.size]? = some (.cells #[.int .i64 f, .int .i64 p, .int .i64 k, .int .i64 c, .int .i64 v, .int .i64 ((N.hs.length : Int) + 1)] 74 (0, 0)) := by
      rw [← hwz, heap_setCell_same _ _ _ _ _ _ hbx]
      rfl
    have hZ : NetAt wz a C bc kc cur rs vf (.slice (some ⟨g, 0, none⟩) (N.hs.length + 1) capg) vs (hangN N f) := hN2.keep fun x hx => by
      rw [← hwz]
      exact Below.heap_setCell _ _ _ _ (fun e => hbT2 ((show x = w.heap.size from e) ▸ hx))
    have hKz : Keeps (netL a bc rs vf (.slice A N.hs.length cap) vs) w wz := by
      have h1 : Keeps (netL a bc rs vf (.slice A N.hs.length cap) vs) w wc := (Keeps.of_below HB.out).trans hG1 (Grows.refl _ _)
      rw [← hwz]
      exact h1.setCell (.inr (Nat.le_refl _)) _
    have hGz : Grows (netL a bc rs vf (.slice A N.hs.length cap) vs) (netL a bc rs vf (.slice (some ⟨g, 0, none⟩) (N.hs.length + 1) capg) vs) w := fun x hx => by
      rcases hG2 x hx with h1 | h1
      · exact .inl h1
      · exact .inr (by omega)
    obtain ⟨-, -, c2', -⟩ := hN2.cells
    have b0 : wc.cell? ⟨w.heap.size, 0, none⟩ = some (.int .i64 f) := blk_cell hbx 0
    have b5 : wc.cell? ⟨w.heap.size, 5, none⟩ = some (.int .i64 0) := blk_cell hbx 5
    have e5 : wc.frozen? ⟨w.heap.size, 5, none⟩ = false := blk_free hbx 5
    have z0 : wz.cell? ⟨w.heap.size, 0, none⟩ = some (.int .i64 f) := blk_cell hbz 0
    have z1 : wz.cell? ⟨w.heap.size, 1, none⟩ = some (.int .i64 p) := blk_cell hbz 1
    have z2 : wz.cell? ⟨w.heap.size, 2, none⟩ = some (.int .i64 k) := blk_cell hbz 2
    have z3 : wz.cell? ⟨w.heap.size, 3, none⟩ = some (.int .i64 c) := blk_cell hbz 3
    have z4 : wz.cell? ⟨w.heap.size, 4, none⟩ = some (.int .i64 v) := blk_cell hbz 4
    have z5 : wz.cell? ⟨w.heap.size, 5, none⟩ = some (.int .i64 ((N.hs.length : Int) + 1)) := blk_cell hbz 5
    have lbz := blk_lt hbz
    have hcl : c < N.cs[p].length := by rw [hce _ (List.getElem_mem hp)]; exact hc
    have hn0 : (0 : Int) ≤ (N.hs.length : Int) := by omega
    have hn1 : (N.hs.length : Int) < 1000 := by omega
    clear b1 b3 cb c0 c2 e2 fz1 fz3 hG1 hG2 hN2 hbx hs0 hbT hTl lg ag hl0 hcap
    by_cases hfp : f = p
    · have d : ((f : Int) == (p : Int)) = true := beq_iff_eq.2 hfp
      obtain ⟨l, hl⟩ : ∃ l, N.cs[p] = l := ⟨_, rfl⟩
      obtain ⟨y0, -, y2, -⟩ := hZ.cells
      obtain ⟨kr, hkr⟩ := hZ.cr p hpr
      have yb : wz.cell? ⟨bc, p, none⟩ = some (.slice (some ⟨rs[p], 0, none⟩) C kr) := (blk_cell hZ.tb p).trans hkr
      have yr := hZ.row p hpr hp
      have hlC : N.cs[p].length = C := hce _ (List.getElem_mem hp)
      have KD := Lib.hid (do_at a bc rs[p] N.cs.length kc C kr p c N.cs[p] f k v ((N.hs.length : Int) + 1) wz.drew y0 yb yr hlC hp hc hk)
      have yo := hZ.ho
      rw [show (hangN N f).hs.length = N.hs.length + 1 by simp [hangN]] at yo
      have g1 : wz.cell? ⟨g, N.hs.length * 3 + 1, none⟩ = some (.int .i64 0) := own_at yo ((flat_at hdV_len (N.hs ++ [(⟨f, 0, false⟩ : Hd)]) N.hs.length (by simp) 1 (by omega)).trans (by simp [hdV]))
      have g2 : wz.cell? ⟨g, N.hs.length * 3 + 2, none⟩ = some (.bool false) := own_at yo ((flat_at hdV_len (N.hs ++ [(⟨f, 0, false⟩ : Hd)]) N.hs.length (by simp) 2 (by omega)).trans (by simp [hdV]))
      have hrg : g ≠ rs[p] := fun e => (hZ.h_ne (g := g) rfl).2.2.1 (e ▸ List.getElem_mem hpr)
      have hra : a ≠ rs[p] := (hZ.ne_row hpr).1.symm
      have lga : a < wz.heap.size := blk_lt hZ.hd
      have lgg : g < wz.heap.size := World.block_lt_of_cell? wz _ g1
      have KN := Lib.hid (fun (u : World) (hk : Keeps [rs[p]] wz.drew u) => done_at a g (N.hs.length + 1) capg N.hs.length 0 (ansV ⟨f, p, k, c, v, (N.hs.length : Int) + 1⟩ (N.cs[p][c])) false u ((hk.cell (p := ⟨a, 2, none⟩) lga (by simpa using hra)).trans y2) (by omega)
        ((hk.cell (p := ⟨g, N.hs.length * 3 + 1, none⟩) lgg (by simpa using hrg)).trans g1) ((hk.cell (p := ⟨g, N.hs.length * 3 + 2, none⟩) lgg (by simpa using hrg)).trans g2)
        ((hk.frozen (p := ⟨g, N.hs.length * 3 + 1, none⟩) lgg (by simpa using hrg)).trans (yo.frozenAt _)) ((hk.frozen (p := ⟨g, N.hs.length * 3 + 2, none⟩) lgg (by simpa using hrg)).trans (yo.frozenAt _)) (by omega))
      have KZ := Lib.hid (fun (u : World) (hk : Keeps [rs[p]] wz.drew u) (i : Nat) => hk.cell (p := ⟨w.heap.size, i, none⟩) lbz (by simpa using hrb.symm))
      have KE := Lib.hid (fun (u : World) => req_same (w2 := u) (k := k) (v := v) hZ hp hpr hcl hfp)
      have HKz := Lib.hid hKz
      have HGz := Lib.hid hGz
      clear yr yo yb y0 y2 g1 g2 hZ hKz hGz hbz hl hfp
      go_wp2_with fail
      go_region_held3 (fun w' => w'.cell? ⟨w.heap.size, 0, none⟩ = some (.int .i64 f) ∧ w'.cell? ⟨w.heap.size, 1, none⟩ = some (.int .i64 p) ∧ w'.cell? ⟨w.heap.size, 2, none⟩ = some (.int .i64 k) ∧ w'.cell? ⟨w.heap.size, 3, none⟩ = some (.int .i64 c) ∧ w'.cell? ⟨w.heap.size, 4, none⟩ = some (.int .i64 v) ∧ w'.cell? ⟨w.heap.size, 5, none⟩ = some (.int .i64 ((N.hs.length : Int) + 1)))
        (first
          | exact ⟨z0, z1, z2, z3, z4, z5⟩
          | exact ⟨(KZ.out _ hk2 0).trans z0, (KZ.out _ hk2 1).trans z1, (KZ.out _ hk2 2).trans z2, (KZ.out _ hk2 3).trans z3, (KZ.out _ hk2 4).trans z4, (KZ.out _ hk2 5).trans z5⟩
          | (have far : ∀ i, ((w2.setCell ⟨g, N.hs.length * 3 + 1, none⟩ (.int .i64 (ansV ⟨f, p, k, c, v, (N.hs.length : Int) + 1⟩ (N.cs[p][c])))).setCell ⟨g, N.hs.length * 3 + 2, none⟩ (.bool true)).cell? ⟨w.heap.size, i, none⟩ = w2.cell? ⟨w.heap.size, i, none⟩ := fun i => (World.cell?_setCell_far _ _ _ _ (by simpa using hgb)).trans (World.cell?_setCell_far _ _ _ _ (by simpa using hgb))
             exact ⟨(far 0).trans ((KZ.out _ hk2 0).trans z0), (far 1).trans ((KZ.out _ hk2 1).trans z1), (far 2).trans ((KZ.out _ hk2 2).trans z2), (far 3).trans ((KZ.out _ hk2 3).trans z3), (far 4).trans ((KZ.out _ hk2 4).trans z4), (far 5).trans ((KZ.out _ hk2 5).trans z5)⟩))
        (first
          | (go_at_call 36; refine KD.out.mono ?_; rintro e w2 ⟨rfl, hk2, hr2⟩)
          | (go_at_call 35; refine (KN.out _ hk2).mono ?_; rintro e w3 ⟨rfl, rfl⟩))
      go_wp2_with fail
      go_ret2
      exact ⟨rfl, NetPost.from HKz.out HGz.out (KE.out _ hk2 hr2)⟩
    · have d : ((f : Int) == (p : Int)) = false := beq_eq_false_iff_ne.2 hfp
      have KS := Lib.hid (send_at a C bc kc cur rs vf (.slice (some ⟨g, 0, none⟩) (N.hs.length + 1) capg) vs (hangN N f) ⟨f, p, k, c, v, (N.hs.length : Int) + 1⟩ wz hZ ⟨hk.1, by simp only; omega⟩ hf hs)
      have KZ := Lib.hid (fun (T : List Nat) (u : World) (hk : Keeps T wz u) (hT : w.heap.size ∉ T) => (hk.cell (p := ⟨w.heap.size, 5, none⟩) lbz hT).trans z5)
      have HKz := Lib.hid hKz
      have HGz := Lib.hid hGz
      have HFP := Lib.hid hfp
      have HBT := Lib.hid hbT2
      clear hZ hKz hGz hbz hfp hbT2
      go_wp2_with fail
      refine KS.out.mono ?_
      rintro e w2 ⟨rfl, vf', vs', hN3, hG3, hK3⟩
      have y5 := KZ.out _ _ hK3 HBT.out
      have HN3 := Lib.hid hN3
      have HG3 := Lib.hid hG3
      have HK3 := Lib.hid hK3
      clear hN3 hG3 hK3 KZ KS z0 z1 z2 z3 z4 z5 b0 b5 e5
      go_wp2_with fail
      go_ret2
      refine ⟨rfl, NetPost.from HKz.out HGz.out ⟨_, ⟨bc, kc, cur, rs, vf', .slice (some ⟨g, 0, none⟩) (N.hs.length + 1) capg, vs', rfl, ?_⟩, HG3.out, HK3.out⟩⟩
      unfold reqN
      rw [if_neg HFP.out]
      exact HN3.out
end Go.Proofs.Ytimmmbjdaibplaa
