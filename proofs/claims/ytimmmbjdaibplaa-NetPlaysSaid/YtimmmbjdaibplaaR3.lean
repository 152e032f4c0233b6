/-
  Layer 16, the document's net: the walk of Send.
-/
import Derived.Test.YtimmmbjdaibplaaR2
import Derived.Deep.RegionHeld3
namespace Go.Proofs.Ytimmmbjdaibplaa
open Go.RowKit
open Nt
set_option linter.unusedVariables false
set_option linter.unusedSimpArgs false

theorem RefAt.hoN {w : World} {b P C g n cap : Nat} {vv vf vc : Value} {vr : List Value} {vb : Nat} {rs : List Nat} {N : Nt.Net} (h : RefAt w b P C vv vf (.slice (some ⟨g, 0, none⟩) n cap) vc vr vb rs N) : Loose w 101 3 (.slice (some ⟨g, 0, none⟩) n cap) n (N.hs.flatMap rhV) := by
  have hh := h.ho
  obtain ⟨A, cap', e, -⟩ := hh.form
  cases e
  exact hh
theorem setC_flat {cs : List (List Int)} {C p c : Nat} (h : ∀ r ∈ cs, r.length = C) (hp : p < cs.length) (hc : c < C) (v : Int) : (setC cs p c v).flatten = cs.flatten.set (p * C + c) v := by
  have e : cs.getD p [] = cs[p] := by simp [List.getD, List.getElem?_eq_getElem hp]
  unfold setC
  rw [e, flatten_set cs h p hp c v hc]
theorem getC_flat {cs : List (List Int)} {C p c : Nat} (h : ∀ r ∈ cs, r.length = C) (hp : p < cs.length) (hc : c < C) : cs.flatten[p * C + c]? = some (getC cs p c) := by
  rw [flatten_at cs h p hp c hc]
  have e : cs.getD p [] = cs[p] := by simp [List.getD, List.getElem?_eq_getElem hp]
  have hl : c < cs[p].length := by rw [h _ (List.getElem_mem hp)]; exact hc
  unfold getC
  rw [e, List.getElem?_eq_getElem hl]
  simp [List.getD, List.getElem?_eq_getElem hl]
theorem rdone_ref {w w' : World} {e : Ending} {b P C : Nat} {vv vf vh vc : Value} {vr : List Value} {vb : Nat} {rs : List Nat} {N : Nt.Net} (h : RefAt w b P C vv vf vh vc vr vb rs N) (hce : ∀ r ∈ N.cs, r.length = C) {m : Msg} {p c : Nat} (hp : p < N.cs.length) (hc : c < C) (hmt : m.to = p) (hmc : m.cell = c) (hd : RDoneE vb (p * C + c) m (getC N.cs p c) w e w') :
    e = .returned (.int .i64 (ansN N m)) ∧ RefAt w' b P C vv vf vh vc vr vb rs (doN N m) ∧ Keeps [vb] w w' := by
  have e1 : m.to.toNat = p := by omega
  have e2 : m.cell.toNat = c := by omega
  refine ⟨by rw [hd.1]; unfold ansN; rw [e1, e2], ?_⟩
  unfold doN
  rw [e1, e2]
  have hfl := setC_flat hce hp hc (newV m (getC N.cs p c))
  rcases hd.2 with ⟨k2, rfl⟩ | rfl
  · have hn : newV m (getC N.cs p c) = getC N.cs p c := by unfold newV; rw [if_neg (by omega), if_neg (by omega)]
    have hs : setC N.cs p c (newV m (getC N.cs p c)) = N.cs := by
      rw [hn]
      unfold setC getC
      have e : N.cs.getD p [] = N.cs[p] := by simp [List.getD, List.getElem?_eq_getElem hp]
      have hl : c < N.cs[p].length := by rw [hce _ (List.getElem_mem hp)]; exact hc
      rw [e]
      have e' : N.cs[p].getD c 0 = N.cs[p][c] := by simp [List.getD, List.getElem?_eq_getElem hl]
      rw [e']
      simp
    rw [hs]
    exact ⟨h, Keeps.refl _ _⟩
  · exact ⟨h.set_val hfl, (Keeps.refl _ _).setCell (.inl (by simp)) _⟩
/-- the handle that was hung on is done -/
theorem rhung_ref {w : World} {b P C g n cap : Nat} {vv vf vc : Value} {vr : List Value} {vb : Nat} {rs : List Nat} {N : Nt.Net} {f v : Int} (h : RefAt w b P C vv vf (.slice (some ⟨g, 0, none⟩) n cap) vc vr vb rs N) {i : Nat} (hi : i < N.hs.length) (hf : N.hs[i].frm = f) :
    RefAt (((w.setCell ⟨g, i * 3, none⟩ (.int .i64 f)).setCell ⟨g, i * 3 + 1, none⟩ (.bool true)).setCell ⟨g, i * 3 + 2, none⟩ (.int .i64 v)) b P C vv vf (.slice (some ⟨g, 0, none⟩) n cap) vc vr vb rs (doneN N (i + 1) v) := by
  have e0 : N.hs.getD (i + 1 - 1) ⟨0, 0, false⟩ = N.hs[i] := by simp [List.getD, List.getElem?_eq_getElem hi]
  have h1 := h.set_hd (hs' := N.hs) (j := i * 3) (u := .int .i64 f) rfl (by
    have := flat_set rhV_len N.hs i hi 0 (.int .i64 f) N.hs[i] (by omega) (by simp [rhV, hf])
    rw [Nat.add_zero] at this
    rw [this]
    simp)
  have h2 := h1.set_hd (hs' := N.hs.set i ⟨N.hs[i].frm, N.hs[i].val, true⟩) (j := i * 3 + 1) (u := .bool true) (by simp) (flat_set rhV_len N.hs i hi 1 (.bool true) ⟨N.hs[i].frm, N.hs[i].val, true⟩ (by omega) rfl).symm
  have hi' : i < (N.hs.set i ⟨N.hs[i].frm, N.hs[i].val, true⟩).length := by simpa using hi
  have h3 := h2.set_hd (hs' := (N.hs.set i ⟨N.hs[i].frm, N.hs[i].val, true⟩).set i ⟨N.hs[i].frm, v, true⟩) (j := i * 3 + 2) (u := .int .i64 v) (by simp) (flat_set rhV_len (N.hs.set i ⟨N.hs[i].frm, N.hs[i].val, true⟩) i hi' 2 (.int .i64 v) ⟨N.hs[i].frm, v, true⟩ (by omega) (by simp [rhV])).symm
  unfold doneN
  rw [e0, Nat.add_sub_cancel]
  simpa using h3
def RReqE (b P C : Nat) (T : List Nat) (N : Nt.Net) (m : Msg) (w : World) (e : Ending) (w' : World) : Prop :=
  e = .returned (.tuple #[.int .i64 ((N.hs.length : Int) + 1), .int .i64 0]) ∧ RefPost b P C T (reqN N m) w w'
theorem infoRH : (Try.prog.info? 101).map (fun i => (i.zero, i.size, i.bytes)) = some (some (.agg #[.int .i64 0, .bool false, .int .i64 0]), 3, 24) := by kernel_rfl
/-- the handle is hung on -/
def RHung (b P C : Nat) (vv vf vh vc : Value) (vr : List Value) (vb : Nat) (rs : List Nat) (N : Nt.Net) (f : Int) (w wx : World) (g cap : Nat) : Prop :=
  RefAt wx b P C vv vf (.slice (some ⟨g, 0, none⟩) (N.hs.length + 1) cap) vc vr vb rs (hangN N f) ∧ Keeps (refL b vb rs vf vh vc) w wx ∧ Grows (refL b vb rs vf vh vc) (refL b vb rs vf (.slice (some ⟨g, 0, none⟩) (N.hs.length + 1) cap) vc) w
theorem rhang {w w1 : World} {b P C : Nat} {vv vf vh vc : Value} {vr : List Value} {vb : Nat} {rs : List Nat} {N : Nt.Net} (h : RefAt w b P C vv vf vh vc vr vb rs N) (f : Int) (o : Obj) {g cap H : Nat} (hH : H = w.heap.size + 1)
    (hown : Loose w1 101 3 (.slice (some ⟨g, 0, none⟩) (N.hs.length + 1) cap) (N.hs.length + 1) (N.hs.flatMap rhV ++ rhV ⟨f, 0, false⟩)) (hgrow : (w.alloc o).grownBy w1 vh.ownBlock) (hat : vh.ownBlock = some g ∨ g = H) :
    RHung b P C vv vf vh vc vr vb rs N f w (w1.setCell ⟨b, 4, none⟩ (.slice (some ⟨g, 0, none⟩) (N.hs.length + 1) cap)) g cap := by
  have hb : Below w.heap.size w (w.alloc o) := (Below.refl _ _).alloc (Nat.le_refl _) _
  have hsz : (w.alloc o).heap.size = w.heap.size + 1 := by simp
  have hat' : vh.ownBlock = some g ∨ w.heap.size ≤ g := hat.imp id (fun e => by omega)
  have h1 := h.set_hs (w2 := w1) (hs' := N.hs ++ [⟨f, 0, false⟩]) (n' := N.hs.length + 1) (by simp) (by simpa using hown) hat' (fun k hk hne => (hgrow.block k (by rw [hsz]; omega) (fun e => hne e.symm)).trans (hb.block k hk))
  refine ⟨h1, ?_, refL_grow (fun k hk => .inl hk) (fun k hk => ?_)⟩
  · refine Keeps.setCell ((Keeps.of_below hb).trans ((Keeps.refl _ _).grown hgrow fun k hk => .inl ?_) (Grows.refl _ _)) (.inl (by simp [refL])) _
    simp [refL, mem_ownL hk]
  · simp only [Value.ownBlock, Option.some.injEq] at hk
    subst hk
    exact hat'

set_option maxHeartbeats 16000000 in
set_option maxRecDepth 100000 in
theorem rsend_at (b P C : Nat) (T : List Nat) (N : Nt.Net) (f k v : Int) (p c : Nat) (w : World) (h : RefX w b P C T N) (hpl : N.cs.length = P) (hce : ∀ r ∈ N.cs, r.length = C) (hP : P ≤ 8) (hC : C ≤ 64) (hk : 1 ≤ k ∧ k ≤ 3) (hkv : k = 2 → v = 0) (f0 : 0 ≤ f) (f1 : f < P) (hp : p < P) (hc : c < C) (hn : N.hs.length < 1000) (hf : N.fl.length ≤ 100000) (hm : ∀ x ∈ N.sent, 0 ≤ x.many ∧ x.many ≤ 100000) :
    Calls Try.prog 55 #[.pointer (some ⟨b, 0, none⟩), .int .i64 k, .int .i64 f, .int .i64 p, .int .i64 c, .int .i64 v] w (RReqE b P C T N ⟨f, p, k, c, v, 0⟩ w) := by
  obtain ⟨vv, vf, vh, vc, vr, vb, rs, rfl, hR⟩ := h
  obtain ⟨i0, hi0, hz0, hz1, hz2⟩ := info_parts infoRH
  obtain ⟨c0, c1, -, -, c4, -⟩ := hR.cells
  have e4 := hR.frees 4
  obtain ⟨A, cap, rfl, hA, -⟩ := hR.ho.form
  have ag : (Value.slice A N.hs.length cap).ownBlock ≠ some b := hR.b_ne.2.2.2.1
  have lg := blk_lt hR.hd
  have K1 := Lib.hid (is_at b P C w c0 c1 f 0 true (by simp; omega))
  have K2 := Lib.hid (is_at b P C w c0 c1 p c true (by simp; omega))
  have hln : ¬ (1000 : Int) ≤ (N.hs.length : Int) := by omega
  have hn0 : (0 : Int) ≤ (N.hs.length : Int) := by omega
  have hn1 : (N.hs.length : Int) < 1000 := by omega
  have q1 := fun o => free_alloc (o := o) c4 e4
  have q3 := fun o => cell_alloc (o := o) c4
  have hl2 : Hid (∀ o, Loose (w.alloc o) 101 3 (.slice A N.hs.length cap) N.hs.length (N.hs.flatMap rhV)) := fun o => hR.ho.below ((Below.refl _ _).alloc (Nat.le_refl _) _)
  have H := Lib.hid hR
  clear hR c0 c1 hA
  go_enter Try.func55, Try.ntmps55
  go_wp2_with fail
  refine K1.out.mono ?_
  rintro e w1 ⟨rfl, rfl⟩
  go_wp2_with fail
  refine K2.out.mono ?_
  rintro e w1 ⟨rfl, rfl⟩
  clear K1 K2
  go_wp2_with (at_builtin; go_must (refine wpList_append_loose _ rfl _ _ 58 rfl 101 i0 _ 3 24 Try.underlying58 hi0 hz0 hz1 hz2 rfl (by decide) _ _ _ rfl (hl2.out _) ⟨w.heap.size, 0, none⟩ 1 1 (rhV ⟨f, 0, false⟩) rfl rfl (World.news_of_block (cs := (rhV ⟨f, 0, false⟩).toArray) (t := 101) (fr := (0, 0)) (heap_alloc_new w _)) (by simp [rhV, Value.oneCell']) (by unfold maxLen; omega) (by omega) (.inr (by omega)) _ rfl ?_))
  intro gg capg w2 hown hgrow hat hlt
  have s1 := (hgrow.cell_far ⟨b, 4, none⟩ (by simp; omega) (Ne.symm ag)).trans (q3 _)
  have s2 := (hgrow.frozen_far ⟨b, 4, none⟩ (by simp; omega) (Ne.symm ag)).trans (q1 _)
  have HH := Lib.hid (rhang H.out f _ (by simp) hown hgrow hat)
  clear hown hgrow hat hlt q1 q3 c4 e4 hl2 hi0 hz0 hz1 hz2
  obtain ⟨hR3, hK3, hG3⟩ := HH.out
  have HG3 := Lib.hid hG3
  obtain ⟨w3, hw3⟩ : ∃ u, w2.setCell ⟨b, 4, none⟩ (.slice (some ⟨gg, 0, none⟩) (N.hs.length + 1) capg) = u := ⟨_, rfl⟩
  rw [hw3] at hR3 hK3
  have HK3 := Lib.hid hK3
  have hgT : gg ∈ refL b vb rs vf (.slice A N.hs.length cap) vc ∨ w.heap.size ≤ gg := hG3 gg (by simp [refL, ownL, Value.ownBlock])
  have HGT := Lib.hid hgT
  have hpc : p < (hangN N f).cs.length := by show p < N.cs.length; omega
  have HN0 := Lib.hid hn0
  clear HH hG3 hK3 hgT
  by_cases hfp : f = p
  · have d : ((f : Int) == (p : Int)) = true := beq_iff_eq.2 hfp
    obtain ⟨mm, hmm⟩ : ∃ m : Msg, m = ⟨f, p, k, c, v, (N.hs.length : Int) + 1⟩ := ⟨_, rfl⟩
    have hvv : ∃ kv, vv = .slice (some ⟨vb, 0, none⟩) (P * C) kv := by
      have hob := hR3.ob
      rcases hR3.va.2 with ⟨rfl, _⟩ | ⟨g, cap, cur, rfl, _⟩
      · simp [Value.ownBlock] at hob
      · simp only [Value.ownBlock, Option.some.injEq] at hob
        subst hob
        exact ⟨cap, rfl⟩
    obtain ⟨kv, rfl⟩ := hvv
    have hjn : p * C + c < P * C := by
      have := Nat.mul_le_mul_right C (show p + 1 ≤ P from hp)
      rw [Nat.add_mul] at this
      omega
    have hPC : P * C ≤ 1000 := Nat.le_trans (Nat.mul_le_mul hP hC) (by omega)
    obtain ⟨-, b1, b2, -, b4, -⟩ := hR3.cells
    have hgb : gg ≠ b := fun e => hR3.b_ne.2.2.2.1 (by rw [e]; rfl)
    have HFP := Lib.hid hfp
    have x0 := hR3.va.cellAt (j := p * C + c) (u := .int .i64 (getC N.cs p c)) (by
      unfold intL
      rw [List.getElem?_map]
      show Option.map _ ((hangN N f).cs.flatten[p * C + c]?) = _
      rw [show (hangN N f).cs.flatten = N.cs.flatten from rfl, getC_flat hce (by omega) hc]
      rfl)
    have x1 := hR3.va.frozenAt (p * C + c)
    have KD := Lib.hid (Calls.mono (rdone_at b C vb (P * C) kv p c k v (getC N.cs p c) w3.drew b1 b2 x0 x1 hjn (by omega) hC hc hPC hk hR3.b_ne.1 f ((N.hs.length : Int) + 1)) fun e w' he => rdone_ref (m := ⟨f, p, k, c, v, (N.hs.length : Int) + 1⟩) (hR3.below (Below.refl _ _).drew) hce hpc hc rfl rfl he)
    rw [← hmm] at KD
    have hil : N.hs.length < (doN (hangN N f) mm).hs.length := by simp [doN, hangN]
    have hif : ((doN (hangN N f) mm).hs[N.hs.length]'hil).frm = f := by simp [doN, hangN]
    have KE := Lib.hid (fun (u : World) (hu : RefAt u b P C (.slice (some ⟨vb, 0, none⟩) (P * C) kv) vf (.slice (some ⟨gg, 0, none⟩) (N.hs.length + 1) capg) vc vr vb rs (doN (hangN N f) mm)) => rhung_ref (v := ansN (hangN N f) mm) hu hil hif)
    have HC := Lib.hid (fun (u : World) (hu : RefAt u b P C (.slice (some ⟨vb, 0, none⟩) (P * C) kv) vf (.slice (some ⟨gg, 0, none⟩) (N.hs.length + 1) capg) vc vr vb rs (doN (hangN N f) mm)) => And.intro (hu.cells.2.2.2.2.1) (And.intro (hu.hoN.cellAt ((flat_at rhV_len _ N.hs.length hil 0 (by omega)).trans rfl)) (And.intro (hu.hoN.cellAt ((flat_at rhV_len _ N.hs.length hil 1 (by omega)).trans rfl)) (hu.hoN.cellAt ((flat_at rhV_len _ N.hs.length hil 2 (by omega)).trans rfl)))))
    have HFR := Lib.hid (fun (u : World) (hu : RefAt u b P C (.slice (some ⟨vb, 0, none⟩) (P * C) kv) vf (.slice (some ⟨gg, 0, none⟩) (N.hs.length + 1) capg) vc vr vb rs (doN (hangN N f) mm)) (j : Nat) => hu.hoN.frozenAt j)
    have hreq : reqN N ⟨f, p, k, c, v, 0⟩ = doneN (doN (hangN N f) mm) (N.hs.length + 1) (ansN (hangN N f) mm) := by
      unfold reqN
      rw [if_pos hfp, hmm]
      rfl
    have HREQ := Lib.hid hreq
    obtain ⟨an, han⟩ : ∃ a, ansN (hangN N f) mm = a := ⟨_, rfl⟩
    rw [han] at KD KE HREQ
    clear x0 x1 b1 b2 hR3 hreq hmm han hif hfp
    go_wp2_with fail
    clear hw3
    have hw1 : IntKind.i64.wrap ((N.hs.length : Int) + 1 - 1) = (N.hs.length : Int) := by rw [Int.add_sub_cancel]; exact IntWalk.i64_in _ (by omega)
    have hw2 : IntKind.i64.wrap (N.hs.length : Int) = (N.hs.length : Int) := IntWalk.i64_in _ (by omega)
    have hlt1 : (N.hs.length : Int) < (N.hs.length : Int) + 1 := by omega
    have hlt2 : N.hs.length < N.hs.length + 1 := by omega
    go_region_held3 (fun w' => w'.cell? ⟨b, 4, none⟩ = some (.slice (some ⟨gg, 0, none⟩) (N.hs.length + 1) capg))
      (first | go_keep | exact t4 | exact (World.cell?_setCell_far _ _ _ _ (by simpa using hgb)).trans ((World.cell?_setCell_far _ _ _ _ (by simpa using hgb)).trans ((World.cell?_setCell_far _ _ _ _ (by simpa using hgb)).trans t4)))
      (first
        | (go_at_call 62; refine KD.out.mono ?_; rintro e w4 ⟨rfl, hR4, hk4⟩; obtain ⟨t4, t0, t1, t2⟩ := HC.out _ hR4; simp only [Nat.add_zero] at t0; have u0 := HFR.out _ hR4 (N.hs.length * 3); have u1 := HFR.out _ hR4 (N.hs.length * 3 + 1); have u2 := HFR.out _ hR4 (N.hs.length * 3 + 2)))
    go_wp2_with fail
    go_ret2
    refine ⟨rfl, refL b vb rs vf (.slice (some ⟨gg, 0, none⟩) (N.hs.length + 1) capg) vc, ⟨.slice (some ⟨vb, 0, none⟩) (P * C) kv, vf, _, vc, vr, vb, rs, rfl, ?_⟩, HG3.out, ?_⟩
    · rw [HREQ.out]
      exact KE.out _ hR4
    · have hk5 : Keeps (refL b vb rs vf (.slice A N.hs.length cap) vc) w3 w4 := ⟨hk4.os, hk4.tape, hk4.output, hk4.size, fun x hx hm => hk4.block x hx (fun h' => hm (by rw [List.mem_singleton.1 h']; simp [refL]))⟩
      exact (((HK3.out.trans hk5 (Grows.refl _ _)).setCell HGT.out _).setCell HGT.out _).setCell HGT.out _
  · have d : ((f : Int) == (p : Int)) = false := beq_eq_false_iff_ne.2 hfp
    have HFP := Lib.hid hfp
    have KS := Lib.hid (rfly_at b P C vv vf (.slice (some ⟨gg, 0, none⟩) (N.hs.length + 1) capg) vc vr vb rs (hangN N f) ⟨f, p, k, c, v, (N.hs.length : Int) + 1⟩ w3 hR3 hP f0 f1 (by simp) (by simp; omega) ⟨hk.1, by simp only; omega⟩ hf hm)
    have HE := Lib.hid (fun (u : World) (vf' : Value) (h1 : RefAt u b P C vv vf' (.slice (some ⟨gg, 0, none⟩) (N.hs.length + 1) capg) vc vr vb rs (sendN (hangN N f) ⟨f, p, k, c, v, (N.hs.length : Int) + 1⟩)) (h2 : Grows (refL b vb rs vf (.slice (some ⟨gg, 0, none⟩) (N.hs.length + 1) capg) vc) (refL b vb rs vf' (.slice (some ⟨gg, 0, none⟩) (N.hs.length + 1) capg) vc) w3) (h3 : Keeps (refL b vb rs vf (.slice (some ⟨gg, 0, none⟩) (N.hs.length + 1) capg) vc) w3 u) =>
      (show RefPost b P C (refL b vb rs vf (.slice A N.hs.length cap) vc) (reqN N ⟨f, p, k, c, v, 0⟩) w u from ⟨_, ⟨vv, vf', _, vc, vr, vb, rs, rfl, by unfold reqN; rw [if_neg HFP.out]; exact h1⟩, HG3.out.trans h2 HK3.out.size, HK3.out.trans h3 HG3.out⟩))
    clear hR3 hfp HFP
    by_cases hk2 : k = 2
    · obtain rfl := hkv hk2
      subst hk2
      clear hkv
      go_wp2_with fail
      clear hw3
      refine KS.out.mono ?_
      rintro e w4 ⟨rfl, vf', h1, h2, h3⟩
      have H5 := Lib.hid (HE.out _ _ h1 h2 h3)
      clear h1 h2 h3 KS HE
      go_wp2_with fail
      go_ret2
      exact ⟨rfl, H5.out⟩
    · have dk : ((k : Int) == 2) = false := beq_eq_false_iff_ne.2 hk2
      clear hkv
      go_wp2_with fail
      clear hw3
      refine KS.out.mono ?_
      rintro e w4 ⟨rfl, vf', h1, h2, h3⟩
      have H5 := Lib.hid (HE.out _ _ h1 h2 h3)
      clear h1 h2 h3 KS HE
      go_wp2_with fail
      go_ret2
      exact ⟨rfl, H5.out⟩
end Go.Proofs.Ytimmmbjdaibplaa
