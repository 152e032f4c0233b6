/-
  Layer 16: the walk of NetPlays.
-/
import Derived.Test.YtimmmbjdaibplaaU2
import Derived.BigRegion
import Derived.Outline
namespace Go.Proofs.Ytimmmbjdaibplaa
open Go.RowKit
open Nt
set_option linter.unusedVariables false
set_option linter.unusedSimpArgs false

/-- how far the loop of NetPlays is -/
structure Pl (a b P C n : Nat) (W wr : World) : Prop where
  ex : ∃ N T1 T2, Pr wr a b P C T1 T2 N N ∧ Good P C N n ∧ (∀ k ∈ T1, W.heap.size ≤ k) ∧ (∀ k ∈ T2, W.heap.size ≤ k) ∧ Below W.heap.size W wr
theorem Pl.below {a b P C n : Nat} {W wr w' : World} (h : Pl a b P C n W wr) (hb : Below wr.heap.size wr w') : Pl a b P C n W w' := by
  obtain ⟨N, T1, T2, h1, h2, h3, h4, h5⟩ := h.ex
  exact ⟨N, T1, T2, h1.below hb, h2, h3, h4, h5.trans (hb.mono h5.size)⟩
theorem pl_start {a b P C : Nat} {W w1 w2 : World} {T1 T2 : List Nat} (h1 : NetX w1 a C T1 ⟨List.replicate P (List.replicate C 0), [], [], []⟩) (k1 : ∀ k ∈ T1, W.heap.size ≤ k) (b1 : Below W.heap.size W w1)
    (h2 : RefX w2 b P C T2 ⟨List.replicate P (List.replicate C 0), [], [], []⟩) (k2 : ∀ k ∈ T2, w1.heap.size ≤ k) (b2 : Below w1.heap.size w1 w2) : Pl a b P C 0 W w2 := by
  have s1 := b1.size
  refine ⟨_, T1, T2, ⟨h1.below b2, h2, fun k hk hk2 => ?_⟩, ⟨⟨by simp, (fun r hr => by rw [List.eq_of_mem_replicate hr]; simp), (fun m hm => by simp at hm), by simp, by simp [reqs], by simp⟩, cn_new _ _, Nat.le_refl _⟩, k1, fun k hk => ?_, b1.trans (b2.mono s1)⟩
  · have := h1.lt k hk
    have := k2 k hk2
    omega
  · have := k2 k hk
    omega
theorem pl_both {a b P C n : Nat} {W wr u w' : World} {N' : Nt.Net} {T1 T2 : List Nat} (hu : Below wr.heap.size wr u) (hb : Both a b P C T1 T2 N' u w') (hg : Good P C N' n) (h1 : ∀ k ∈ T1, W.heap.size ≤ k) (h2 : ∀ k ∈ T2, W.heap.size ≤ k) (hbe : Below W.heap.size W wr) : Pl a b P C n W w' := by
  obtain ⟨T1', T2', p, g1, g2, hk⟩ := hb
  have s1 := hbe.size
  have s2 := hu.size
  refine ⟨N', T1', T2', p, hg, fun k hm => ?_, fun k hm => ?_, (hbe.trans (hu.mono s1)).trans (hk.below (by omega) fun k hm => ?_)⟩
  · rcases g1 k hm with e | e
    · exact h1 k e
    · omega
  · rcases g2 k hm with e | e
    · exact h2 k e
    · omega
  · rcases List.mem_append.1 hm with e | e
    · exact h1 k e
    · exact h2 k e
/-- two pairs in memory -/
structure Four (w : World) (a b c d P C : Nat) (T1 T2 T3 T4 : List Nat) (N M : Nt.Net) : Prop where
  p1 : Pr w a b P C T1 T2 N N
  p2 : Pr w c d P C T3 T4 M M
  ds : ∀ k, k ∈ T1 ++ T2 → k ∉ T3 ++ T4
theorem Four.below {w w' : World} {a b c d P C : Nat} {T1 T2 T3 T4 : List Nat} {N M : Nt.Net} (h : Four w a b c d P C T1 T2 T3 T4 N M) (hb : Below w.heap.size w w') : Four w' a b c d P C T1 T2 T3 T4 N M := ⟨h.p1.below hb, h.p2.below hb, h.ds⟩
theorem four_start {w w1 w2 : World} {a b c d P C : Nat} {T1 T2 T3 T4 : List Nat} {N : Nt.Net} (h : Pr w a b P C T1 T2 N N) (h3 : NetX w1 c C T3 N) (k3 : ∀ k ∈ T3, w.heap.size ≤ k) (b1 : Below w.heap.size w w1) (h4 : RefX w2 d P C T4 N) (k4 : ∀ k ∈ T4, w1.heap.size ≤ k) (b2 : Below w1.heap.size w1 w2) :
    Four w2 a b c d P C T1 T2 T3 T4 N N := by
  have s1 := b1.size
  refine ⟨h.below (b1.trans (b2.mono s1)), ⟨h3.below b2, h4, fun k hk hk2 => ?_⟩, fun k hk hk2 => ?_⟩
  · have := h3.lt k hk
    have := k4 k hk2
    omega
  · have hl : k < w.heap.size := by
      rcases List.mem_append.1 hk with e | e
      · exact h.nx.lt k e
      · exact h.rx.lt k e
    rcases List.mem_append.1 hk2 with e | e
    · have := k3 k e
      omega
    · have := k4 k e
      omega
/-- a call of the second pair leaves the first one -/
theorem Four.first {w w' : World} {a b c d P C : Nat} {T1 T2 T3 T4 : List Nat} {N M M' : Nt.Net} (h : Four w a b c d P C T1 T2 T3 T4 N M) (hb : Both c d P C T3 T4 M' w w') : Pr w' a b P C T1 T2 N N := by
  obtain ⟨T3', T4', p, g1, g2, hk⟩ := hb
  exact h.p1.keep hk (fun k hm hm2 => h.ds k (List.mem_append.2 (.inl hm)) hm2) (fun k hm hm2 => h.ds k (List.mem_append.2 (.inr hm)) hm2)
/-- two pairs in a run -/
structure Fb (n : Nat) (W w : World) (a b c d P C : Nat) (T1 T2 T3 T4 : List Nat) (N M : Nt.Net) : Prop where
  f : Four w a b c d P C T1 T2 T3 T4 N M
  g : Good P C N n
  k1 : ∀ k ∈ T1, W.heap.size ≤ k
  k2 : ∀ k ∈ T2, W.heap.size ≤ k
  k3 : ∀ k ∈ T3, W.heap.size ≤ k
  k4 : ∀ k ∈ T4, W.heap.size ≤ k
  be : Below W.heap.size W w
section
variable {n a b c d P C : Nat} {W w w' : World} {T1 T2 T3 T4 : List Nat} {N M N' M' : Nt.Net}
theorem Fb.below (h : Fb n W w a b c d P C T1 T2 T3 T4 N M) (hb : Below w.heap.size w w') : Fb n W w' a b c d P C T1 T2 T3 T4 N M :=
  ⟨h.f.below hb, h.g, h.k1, h.k2, h.k3, h.k4, h.be.trans (hb.mono h.be.size)⟩
theorem Fb.call {n' : Nat} (h : Fb n W w a b c d P C T1 T2 T3 T4 N M) (hb : Both a b P C T1 T2 N' w w') (hg : Good P C N' n') : ∃ T1' T2', Fb n' W w' a b c d P C T1' T2' T3 T4 N' M := by
  have hb' := hb
  have s1 := h.be.size
  obtain ⟨T1', T2', p, g1, g2, hk⟩ := hb
  have lt34 : ∀ k, k ∈ T3 ++ T4 → k < w.heap.size := fun k hm => by
    rcases List.mem_append.1 hm with e | e
    · exact h.f.p2.nx.lt k e
    · exact h.f.p2.rx.lt k e
  refine ⟨T1', T2', ⟨p, h.f.p2.keep hk (fun k hm hm2 => h.f.ds k hm2 (List.mem_append.2 (.inl hm))) (fun k hm hm2 => h.f.ds k hm2 (List.mem_append.2 (.inr hm))), fun k hm hm2 => ?_⟩, hg, fun k hm => ?_, fun k hm => ?_, h.k3, h.k4, h.be.trans (hk.below s1 fun k hm => ?_)⟩
  · have hl := lt34 k hm2
    rcases List.mem_append.1 hm with e | e
    · rcases g1 k e with e | e
      · exact h.f.ds k (List.mem_append.2 (.inl e)) hm2
      · omega
    · rcases g2 k e with e | e
      · exact h.f.ds k (List.mem_append.2 (.inr e)) hm2
      · omega
  · rcases g1 k hm with e | e
    · exact h.k1 k e
    · omega
  · rcases g2 k hm with e | e
    · exact h.k2 k e
    · omega
  · rcases List.mem_append.1 hm with e | e
    · exact h.k1 k e
    · exact h.k2 k e
theorem Fb.pl (h : Fb n W w a b c d P C T1 T2 T3 T4 N M) : Pl a b P C n W w := ⟨N, T1, T2, h.f.p1, h.g, h.k1, h.k2, h.be⟩
theorem Fb.second (h : Fb n W w a b c d P C T1 T2 T3 T4 N M) (hb : Both c d P C T3 T4 M' w w') : Pl a b P C n W w' := by
  have s1 := h.be.size
  have h1 := h.f.first hb
  obtain ⟨T3', T4', p, g1, g2, hk⟩ := hb
  exact ⟨N, T1, T2, h1, h.g, h.k1, h.k2, h.be.trans (hk.below s1 fun k hm => by
    rcases List.mem_append.1 hm with e | e
    · exact h.k3 k e
    · exact h.k4 k e)⟩
end
theorem fb_start {n : Nat} {W w w1 w2 : World} {a b c d P C : Nat} {T1 T2 T3 T4 : List Nat} {N : Nt.Net} (hg : Good P C N n) (i1 : ∀ k ∈ T1, W.heap.size ≤ k) (i2 : ∀ k ∈ T2, W.heap.size ≤ k) (hbe : Below W.heap.size W w) (h : Pr w a b P C T1 T2 N N) (h3 : NetX w1 c C T3 N) (k3 : ∀ k ∈ T3, w.heap.size ≤ k) (b1 : Below w.heap.size w w1)
    (h4 : RefX w2 d P C T4 N) (k4 : ∀ k ∈ T4, w1.heap.size ≤ k) (b2 : Below w1.heap.size w1 w2) : Fb n W w2 a b c d P C T1 T2 T3 T4 N N := by
  have s0 := hbe.size
  have s1 := b1.size
  refine ⟨four_start h h3 k3 b1 h4 k4 b2, hg, i1, i2, fun k hk => ?_, fun k hk => ?_, hbe.trans ((b1.trans (b2.mono s1)).mono s0)⟩
  · have := k3 k hk
    omega
  · have := k4 k hk
    omega
theorem refSent_len (P : Nat) (l : List Cnt) (hP : P ≤ 8) : (refSent P l).length ≤ 256 := by
  have h1 := partTo_len P l (P * P)
  rw [partTo_all] at h1
  have h2 : P * P ≤ 8 * 8 := Nat.mul_le_mul hP hP
  unfold refSent
  omega
theorem sees_below {w w' : World} {v : Value} {n : Nat} {xs : List Value} (h : Sees w v n xs) (hl : xs.length = n * 6 ∨ xs.length = n * 4) (hb : Below w.heap.size w w') : Sees w' v n xs := by
  obtain ⟨A, cap, rfl, hA⟩ := h
  refine ⟨A, cap, rfl, fun h0 => ?_⟩
  obtain ⟨g, rfl, hg⟩ := hA h0
  refine ⟨g, rfl, fun j u hu => ?_⟩
  exact (hb.cell (World.block_lt_of_cell? w _ (hg j u hu))).trans (hg j u hu)
theorem ref_fly {w : World} {b P C : Nat} {T : List Nat} {N : Nt.Net} (h : RefX w b P C T N) : ∃ A cap, b < w.heap.size ∧ w.cell? ⟨b, 3, none⟩ = some (.slice A N.fl.length cap) ∧ Sees w (.slice A N.fl.length cap) N.fl.length (N.fl.flatMap msgV) := by
  obtain ⟨vv, vf, vh, vc, vr, vb, rs, hT, hR⟩ := h
  obtain ⟨-, -, -, c3, -, -⟩ := hR.cells
  obtain ⟨A, cap, rfl, -, -⟩ := hR.fo.form
  exact ⟨A, cap, blk_lt hR.hd, c3, .of_loose hR.fo⟩
/-- what the checks behind a call stand upon -/
theorem plays_end {a b P C n k : Nat} {W wr u : World} (h : Pl a b P C (k + 1) W wr) (hb : Below wr.heap.size wr u) : Pl a b P C (k + 1) W u := h.below hb

set_option maxHeartbeats 16000000 in
set_option maxRecDepth 100000 in
theorem plays_bad (places cells : Int) (l : List OpD) (vl : Value) (w : World) (hf : Ops w vl l) (hbad : places < 1 ∨ 8 < places ∨ cells < 1 ∨ 64 < cells) :
    Calls Try.prog 5 #[.int .i64 places, .int .i64 cells, vl] w fun e w' => e = .returned (.bool true) ∧ Below w.heap.size w w' := by
  obtain ⟨A, cap, rfl, hcf, hmf, hfc⟩ := hf
  have KN := fun u => Lib.hid (new_bad places cells u hbad)
  have KR := fun u => Lib.hid (rnew_bad places cells u hbad)
  have KA := fun u => Lib.hid (awake_at u)
  unfold NewBad at KN KR
  clear hfc hbad
  go_enter Try.func5, Try.ntmps5
  go_wp2_with fail
  refine (KN _).out.mono ?_
  rintro e w1 ⟨rfl, rfl⟩
  go_wp2_with fail
  refine (KR _).out.mono ?_
  rintro e w1 ⟨rfl, rfl⟩
  go_wp2_with fail
  refine (KA _).out.mono ?_
  rintro e w2 ⟨rfl, hb2⟩
  have HB := Lib.hid hb2
  clear hb2
  go_wp2_with fail
  go_ret
  exact ⟨rfl, HB.out⟩
section
variable (P C : Nat) (hP0 : 1 ≤ P) (hP : P ≤ 8) (hC0 : 1 ≤ C) (hC : C ≤ 64) (l : List OpD) (vl : Value) (w : World) (hf : Ops w vl l)
include hP0 hP hC0 hC hf
set_option maxHeartbeats 16000000 in
set_option maxRecDepth 100000 in
theorem plays_long (hlong : 60 < l.length) :
    Calls Try.prog 5 #[.int .i64 P, .int .i64 C, vl] w fun e w' => e = .returned (.bool true) ∧ Below w.heap.size w w' := by
  obtain ⟨A, cap, rfl, hcf, hmf, hfc⟩ := hf
  have KN := fun u => Lib.hid (new_at P C u hP0 hP hC0 hC)
  have KR := fun u => Lib.hid (rnew_at P C u hP0 hP hC0 hC)
  have KA := fun u => Lib.hid (awake_at u)
  have hl : decide ((60 : Int) < (l.length : Int)) = true := by simp; omega
  have hl' : (60 : Int) < (l.length : Int) := by omega
  clear hfc
  go_enter Try.func5, Try.ntmps5
  go_wp2_with fail
  refine (KN _).out.mono ?_
  rintro e w1 ⟨a, T, rfl, hx, hT, hb1⟩
  have HB1 := Lib.hid hb1
  clear hx hT hb1
  go_wp2_with fail
  refine (KR _).out.mono ?_
  rintro e w2 ⟨b, T2, rfl, hx, hT, hb2⟩
  have HB2 := Lib.hid (HB1.out.trans (hb2.mono HB1.out.size))
  clear hx hT hb2
  go_wp2_with fail
  refine (KA _).out.mono ?_
  rintro e w3 ⟨rfl, hb3⟩
  have HEND := Lib.hid (HB2.out.trans (hb3.mono HB2.out.size))
  clear hb3
  go_wp2_with fail
  go_ret
  exact ⟨rfl, HEND.out⟩
set_option maxHeartbeats 32000000 in
set_option maxRecDepth 100000 in
theorem plays_main (hlong : l.length ≤ 60) :
    Calls Try.prog 5 #[.int .i64 P, .int .i64 C, vl] w fun e w' => e = .returned (.bool true) ∧ Below w.heap.size w w' := by
  obtain ⟨A, cap, rfl, hcf, hmf, hfc⟩ := hf
  have HFC := Lib.hid hfc
  have KN := fun u => Lib.hid (new_at P C u hP0 hP hC0 hC)
  have KR := fun u => Lib.hid (rnew_at P C u hP0 hP hC0 hC)
  have KA := fun u => Lib.hid (awake_at u)
  have hl : decide ((60 : Int) < (l.length : Int)) = false := by simp; omega
  have hl' : ¬ ((60 : Int) < (l.length : Int)) := by omega
  clear hfc
  go_enter Try.func5, Try.ntmps5
  go_wp2_with fail
  refine (KN _).out.mono ?_
  rintro e w1 ⟨a, T, rfl, hx, hT, hb1⟩
  have HS1 := Lib.hid (fun (b : Nat) (T2 : List Nat) (w2 : World) h2 k2 b2 => pl_start (a := a) (b := b) (P := P) (C := C) (W := w) (w1 := w1) (w2 := w2) (T1 := T) (T2 := T2) hx hT hb1 h2 k2 b2)
  clear hx hT hb1
  go_wp2_with fail
  refine (KR _).out.mono ?_
  rintro e w2 ⟨b, T2, rfl, hx2, hT2, hb2⟩
  have HL0 := Lib.hid (HS1.out b T2 w2 hx2 hT2 hb2)
  clear hx2 hT2 hb2 HS1 KN KR
  go_wp2_with fail
  go_loopw [11] (fun i wr => ∃ k : Nat, k ≤ l.length ∧ i = .int .i64 k ∧ Pl a b P C k w wr) (fun i _ => l.length - (intOf i).toNat)
  case atStart => exact ⟨0, Nat.zero_le _, rfl, HL0.out⟩
  case round =>
    clear HL0
    obtain ⟨k, hk, rfl, hL⟩ := hrel
    by_cases hlt : k < l.length
    · obtain ⟨N, T1, T2, hPr, hG, hn1, hn2, hbe⟩ := hL.ex
      obtain ⟨bb, off, rfl, hcell⟩ := HFC.out (by omega)
      have xx : ∀ (i : Nat) (u : Value), (opV l[k])[i]? = some u → wr.cell? ⟨bb, off + k * 6 + i, none⟩ = some u := fun i u hu => (hbe.cell (World.block_lt_of_cell? w _ (hcell k hlt i u hu))).trans (hcell k hlt i u hu)
      have hbb := World.block_lt_of_cell? w _ (hcell k hlt 0 _ rfl)
      have hbw : bb < wr.heap.size := Nat.lt_of_lt_of_le hbb hbe.size
      obtain ⟨o, hoe⟩ : ∃ x, l[k] = x := ⟨_, rfl⟩
      rw [hoe] at xx
      have x0 := xx 0 _ rfl
      have x1 := xx 1 _ rfl
      have x2 := xx 2 _ rfl
      have x3 := xx 3 _ rfl
      have x4 := xx 4 _ rfl
      have x5 := xx 5 _ rfl
      simp only [Nat.add_zero] at x0
      have hk0 : (0 : Int) ≤ (k : Int) := by omega
      have hk1 : (k : Int) < (l.length : Int) := by omega
      have hk2 : (k : Int) < 60 := by omega
      have HPR := Lib.hid hPr
      have HG := Lib.hid hG
      have HN := Lib.hid (And.intro hn1 hn2)
      have HBE := Lib.hid hbe
      have hkn : k < 1000 := by omega
      have KC := Lib.hid (fun (u : World) (Ta Tb : List Nat) (hu : Pr u a b P C Ta Tb N N) => call_at a b P C k Ta Tb N o u hu hG hkn hP0 hP hC0 hC)
      have HGC := Lib.hid (hG.call hkn (opR o) o)
      unfold CallE at KC
      clear hL hPr hG hn1 hn2 hbe hcell xx hoe
      by_cases h5 : opR o = 5
      · have hcn : callN P C N (opR o) o = delA N o.k := by unfold callN; rw [h5]; simp
        rw [hcn] at KC HGC
        clear hcn
        unfold opR at h5
        unfold opO at KC
        have hpl := HG.out.wf.pl
        have hfl := HG.out.wf.fl
        have hhn := HG.out.hn
        have KCP := Lib.hid (copy_at a C T1 N P wr HPR.out.nx HG.out.wf hP0 hP hC0 hC)
        have KRC := Lib.hid (fun (u : World) (hb : Below wr.heap.size wr u) => rcopy_at b P C T2 N u (HPR.out.below hb).rx HG.out.wf hP0 hP hC)
        have KS1 := Lib.hid (fun (u : World) (c d : Nat) (T3 T4 : List Nat) (hu : Four u a b c d P C T1 T2 T3 T4 N N) => same_refl a c C T1 T3 N P u hu.p1.nx hu.p2.nx HG.out.wf HG.out.cn hP0 hP hC)
        have KS2 := Lib.hid (fun (u : World) (c d : Nat) (Ta Tb T3 T4 : List Nat) (hu : Four u a b c d P C Ta Tb T3 T4 (delA N o.k) N) => same_u a c P C k o.k Ta T3 N u hu.p1.nx hu.p2.nx HG.out hP0 hP hC)
        have KS3 := Lib.hid (fun (u : World) (c d : Nat) (Ta Tb T3 T4 : List Nat) (hu : Four u a b c d P C Ta Tb T3 T4 (delA N o.k) N) => rsame_u b d P C k o.k Tb T4 N u hu.p1.rx hu.p2.rx HG.out hP0 hP hC)
        have KD := Lib.hid (fun (u : World) (c : Nat) (T3 : List Nat) (hu : NetX u c C T3 N) => deliver_u c P C k T3 N 0 u hu HG.out hkn hP0 hP)
        have KRD := Lib.hid (fun (u : World) (d : Nat) (T4 : List Nat) (hu : RefX u d P C T4 N) => rdeliver_u d P C k T4 N 0 u hu HG.out hkn hP0 hP hC)
        have HGD := Lib.hid (HG.out.del 0)
        have KF := Lib.hid (fun (u : World) (c : Nat) (T3 : List Nat) (hu : NetX u c C T3 (delA N 0)) => flying_at c C T3 (delA N 0) u hu (by have := HGD.out.wf.pl; omega) (by have := HGD.out.wf.pl; omega) (by have := HGD.out.wf.fl; have := HGD.out.hn; omega))
        have hlD : (delA N 0).fl.length ≤ 1000 := by have := HGD.out.wf.fl; have := HGD.out.hn; omega
        unfold DelivU at KD
        unfold RDelivU at KRD
        obtain ⟨ND, hND⟩ : ∃ x, delA N o.k = x := ⟨_, rfl⟩
        obtain ⟨N0, hN0⟩ : ∃ x, delA N 0 = x := ⟨_, rfl⟩
        obtain ⟨sq, hsq⟩ : ∃ x, sameQ N o.k = x := ⟨_, rfl⟩
        rw [hND, hsq] at KS2 KS3
        rw [hND] at KC HGC
        rw [hN0] at KD KRD KF hlD
        have HDX := Lib.hid (fun (h : 0 < N.fl.length) => (by unfold delX; rw [if_pos ⟨Int.le_refl _, by omega⟩] : delX N 0 = 0))
        clear hND hN0 hsq hpl hfl hhn HGD
        unfold SameR at KS1 KS2 KS3
        go_wp2_with fail
        refine KCP.out.mono ?_
        rintro e w3 ⟨c, T3, rfl, hx3, hk3, hb3⟩
        have KRC2 := Lib.hid (KRC.out w3 hb3)
        have H4 := Lib.hid (fun (w4 : World) (d : Nat) (T4 : List Nat) hx4 hk4 hb4 => fb_start (w2 := w4) (d := d) (T4 := T4) HG.out HN.out.1 HN.out.2 HBE.out HPR.out hx3 hk3 hb3 hx4 hk4 hb4)
        have HB3 := Lib.hid hb3
        clear hx3 hk3 hb3 KRC KCP
        go_wp2_with fail
        refine KRC2.out.mono ?_
        rintro e w4 ⟨rfl, T4, hx4, hk4, hb4⟩
        have F4 := Lib.hid (H4.out w4 _ T4 hx4 hk4 hb4)
        have HB4 := Lib.hid (HB3.out.trans (hb4.mono HB3.out.size))
        obtain ⟨d, hd⟩ : ∃ d, w3.heap.size = d := ⟨_, rfl⟩
        rw [hd] at F4
        rw [hd]
        clear hx4 hk4 hb4 KRC2 H4 hd HB3
        go_wp2_with fail
        refine (KS1.out _ c d T3 T4 F4.out.f).mono ?_
        rintro e w5 ⟨rfl, hb5⟩
        have F5 := Lib.hid (F4.out.below hb5)
        have HB5 := Lib.hid (HB4.out.trans (hb5.mono HB4.out.size))
        have y0 := (HB5.out.cell (p := ⟨bb, off + k * 6, none⟩) hbw).trans x0
        have y1 := (HB5.out.cell (p := ⟨bb, off + k * 6 + 1, none⟩) hbw).trans x1
        have y2 := (HB5.out.cell (p := ⟨bb, off + k * 6 + 2, none⟩) hbw).trans x2
        have y3 := (HB5.out.cell (p := ⟨bb, off + k * 6 + 3, none⟩) hbw).trans x3
        have y4 := (HB5.out.cell (p := ⟨bb, off + k * 6 + 4, none⟩) hbw).trans x4
        have y5 := (HB5.out.cell (p := ⟨bb, off + k * 6 + 5, none⟩) hbw).trans x5
        clear hb5 F4 HB4 KS1 x0 x1 x2 x3 x4 x5
        go_wp2_with fail
        refine (KC.out _ T1 T2 F5.out.f.p1).mono ?_
        rintro e w6 ⟨rfl, hB6⟩
        obtain ⟨Ta, Tb, hF6⟩ := F5.out.call hB6 HGC.out
        have F6 := Lib.hid hF6
        have KS2' := Lib.hid (KS2.out w6 c d Ta Tb T3 T4 hF6.f)
        clear hB6 hF6 y0 y1 y2 y3 y4 y5 KC KS2
        go_wp2_with fail
        refine KS2'.out.mono ?_
        rintro e w7 ⟨rfl, hb7⟩
        have F7 := Lib.hid (F6.out.below hb7)
        have KS3' := Lib.hid (KS3.out w7 c d Ta Tb T3 T4 F7.out.f)
        clear hb7 KS3 KS2' F6
        go_wp2_with fail
        refine KS3'.out.mono ?_
        rintro e w8 ⟨rfl, hb8⟩
        have F8 := Lib.hid (F7.out.below hb8)
        clear hb8 KS3' F7
        obtain ⟨A9, cap9, hd9, z3, hz3⟩ := ref_fly F8.out.f.p2.rx
        clear hz3
        have hq : (sq != sq) = false := by simp
        by_cases hf0 : N.fl.length = 0
        · rw [hf0] at z3
          clear KD KRD KF HDX hlD
          go_wp2_with fail
          go_quiet (fail)
          go_wp2_with fail
          have P9 := Lib.hid (F8.out.pl.below (Below.of_drewN nq (Below.refl _ _)))
          clear F8
          obtain ⟨WW, hWW⟩ : ∃ x, w8.drewN nq = x := ⟨_, rfl⟩
          rw [hWW] at P9
          rw [hWW]
          clear hWW
          obtain ⟨NN, Ua, Ub, hpp, hgg, hm1, hm2, hbb2⟩ := P9.out.ex
          clear P9
          obtain ⟨AF, capF, hbF, zF, sF⟩ := ref_fly hpp.rx
          have hbD := Lib.hid ((Below.refl WW.heap.size WW).drew)
          have QL := Lib.hid (fun (u : World) (hb : Below WW.heap.size WW u) => (Pl.below (a := a) (b := b) (P := P) (C := C) (n := k + 1) (W := w) (wr := WW) ⟨NN, Ua, Ub, hpp, hgg, hm1, hm2, hbb2⟩ hb))
          have HSF := Lib.hid sF
          have PP := Lib.hid hpp
          have hpl := hgg.wf.pl
          have hfl := hgg.wf.fl
          have hse := hgg.wf.se
          have hhn := hgg.hn
          have hlF : NN.fl.length ≤ 1000 := by omega
          have hlS := refSent_len P NN.sent hP
          have KFl := Lib.hid (fun (u : World) (hu : NetX u a C Ua NN) => flying_at a C Ua NN u hu (by omega) (by omega) hlF)
          have KSe := Lib.hid (fun (u : World) (hu : NetX u a C Ua NN) => sent_at a C Ua NN u hu (by omega) (by omega) (by omega))
          have KRs := Lib.hid (fun (u : World) (hu : RefX u b P C Ub NN) => rsent_at b P C Ub NN u hu (hgg.many (by omega)) hP0 hP)
          have HPM := Lib.hid (fun (l3 : List Cnt) (h1 : l3.Perm NN.sent) (h2 : SortedC l3) => (refSent_perm hgg.cn h1 h2))
          clear sF hpp hgg hm1 hm2 hbb2 hpl hfl hse hhn
          go_region_held3 (fun w' => w'.cell? ⟨b, 3, none⟩ = some (.slice AF NN.fl.length capF))
            (first | exact zF | exact zF1 | exact zF2 | exact zF3 | exact zF4 | exact zF5)
            (first
              | (go_at_call 11; refine (KFl.out _ (PP.out.below hbD.out).nx).mono ?_; rintro e v1 ⟨A1, q1, rfl, o1, b1⟩; have B1 := Lib.hid (hbD.out.trans (b1.mono hbD.out.size)); have zF1 := (B1.out.cell (p := ⟨b, 3, none⟩) hbF).trans zF; have S1 := Lib.hid (Sees.of_own o1); have S2 := Lib.hid (sees_below HSF.out (.inl (flat_len msgV_len _)) B1.out))
              | (go_at_call 25; refine (msgs_at _ _ NN.fl NN.fl _ S1.out S2.out (by omega) (by omega) true (by simp)).mono ?_; rintro e v2 ⟨rfl, r2, rfl⟩; have B2 := Lib.hid (Below.of_drewN r2 B1.out); have zF2 := (B2.out.cell (p := ⟨b, 3, none⟩) hbF).trans zF)
              | (go_at_call 17; refine (KSe.out _ (PP.out.below B2.out).nx).mono ?_; rintro e v3 ⟨A3, q3, l3, rfl, pm3, so3, o3, b3⟩; have B3 := Lib.hid (B2.out.trans (b3.mono B2.out.size)); have zF3 := (B3.out.cell (p := ⟨b, 3, none⟩) hbF).trans zF; have hl3 := HPM.out l3 pm3 so3; have S3 := Lib.hid (sees_own (m := l3.length) o3 pm3.length_eq); have HL3 := Lib.hid hl3)
              | (go_at_call 27; refine (KRs.out _ (PP.out.below B3.out).rx).mono ?_; rintro e v4 ⟨x4, rfl, s4, b4⟩; have B4 := Lib.hid (B3.out.trans (b4.mono B3.out.size)); have zF4 := (B4.out.cell (p := ⟨b, 3, none⟩) hbF).trans zF; have S4 := Lib.hid s4; have S5 := Lib.hid (sees_below S3.out (.inr (flat_len cntV_len _)) b4))
              | (go_at_call 26; refine (cnts_at _ _ l3 (refSent P NN.sent) _ S5.out S4.out (by rw [HL3.out]; omega) (by omega) true (by simp [HL3.out])).mono ?_; rintro e v5 ⟨rfl, r5, rfl⟩; have B5 := Lib.hid (Below.of_drewN r5 B4.out); have zF5 := (B5.out.cell (p := ⟨b, 3, none⟩) hbF).trans zF))
          all_goals (have HE := Lib.hid (QL.out _ B5.out))
          all_goals clear QL B1 B2 B3 B4 B5 zF1 zF2 zF3 zF4 zF5 S1 S2 S3 S4 S5 HL3 hl3 o1 b1 pm3 so3 o3 b3 s4 b4 HPM KFl KSe KRs PP HSF zF hbF hbD
          all_goals go_wp2_with fail
          all_goals exact ⟨⟨k + 1, by omega, by go_num, HE.out⟩, by simp [intOf]; omega⟩
        · obtain ⟨q0, hq0⟩ : ∃ q : Nat, N.fl.length = q + 1 := ⟨N.fl.length - 1, by omega⟩
          have hf1 : (0 : Int) < ((q0 + 1 : Nat) : Int) := by omega
          have hf2 : decide ((0 : Int) < ((q0 + 1 : Nat) : Int)) = true := by simp
          have hdx := HDX.out (by omega)
          rw [hdx] at KD KRD
          rw [hq0] at z3
          clear HDX hdx hf0 hq0
          go_wp2_with fail
          go_region_with
            (first
              | (go_at_call 12; refine (KD.out _ c T3 (F8.out.below ((Below.refl _ _).drew)).f.p2.nx).mono ?_; rintro e u1 ⟨rfl, hp1⟩; have hh1 := (F8.out.below ((Below.refl _ _).drew)).f.p2.net hp1; obtain ⟨T3', h1, hg1, hk1⟩ := hh1)
              | (go_at_call 24; refine (KRD.out _ d T4 h1.rx).mono ?_; rintro e u2 ⟨rfl, hp2⟩; have HB2 := both_of (F8.out.below ((Below.refl _ _).drew)).f.p2 (Below.refl _ _) hg1 hk1 h1 (Below.refl _ _) hp2 (Below.refl _ _); have hh2 := h1.ref hp2; obtain ⟨T4', h2, hg2, hk2⟩ := hh2; have hh3 := ref_fly h2.rx; obtain ⟨A8, cap8, hd8, q3, hq3⟩ := hh3; have HQ3 := Lib.hid hq3; have HK2 := Lib.hid ((F8.out.below ((Below.refl _ _).drew)).second HB2))
              | (go_at_call 11; refine (KF.out _ c T3' h2.nx).mono ?_; rintro e u3 ⟨A3, q3', rfl, o3, b3⟩; have B3 := Lib.hid b3; have q4 := (b3.cell (p := ⟨d, 3, none⟩) hd8).trans q3; have S3 := Lib.hid (Sees.of_own o3); have S4 := Lib.hid (sees_below HQ3.out (.inl (flat_len msgV_len _)) b3))
              | (go_at_call 25; refine (msgs_at _ _ N0.fl N0.fl _ S3.out S4.out (by omega) (by omega) true (by simp)).mono ?_; rintro e u4 ⟨rfl, mq, rfl⟩))
          all_goals (have P9 := Lib.hid ((HK2.out.below B3.out).below (Below.of_drewN mq (Below.refl _ _))))
          all_goals clear HK2 B3 q4 S3 S4 o3 b3 HQ3 hq3 q3 hg2 hk2 h2 hg1 hk1 h1 hp1 hp2 HB2 F8 KD KRD KF hlD
          all_goals go_wp2_with fail
          · obtain ⟨WW, hWW⟩ : ∃ x, u3.drewN mq = x := ⟨_, rfl⟩
            rw [hWW] at P9
            rw [hWW]
            clear hWW
            obtain ⟨NN, Ua, Ub, hpp, hgg, hm1, hm2, hbb2⟩ := P9.out.ex
            clear P9
            obtain ⟨AF, capF, hbF, zF, sF⟩ := ref_fly hpp.rx
            have hbD := Lib.hid ((Below.refl WW.heap.size WW).drew)
            have QL := Lib.hid (fun (u : World) (hb : Below WW.heap.size WW u) => (Pl.below (a := a) (b := b) (P := P) (C := C) (n := k + 1) (W := w) (wr := WW) ⟨NN, Ua, Ub, hpp, hgg, hm1, hm2, hbb2⟩ hb))
            have HSF := Lib.hid sF
            have PP := Lib.hid hpp
            have hpl := hgg.wf.pl
            have hfl := hgg.wf.fl
            have hse := hgg.wf.se
            have hhn := hgg.hn
            have hlF : NN.fl.length ≤ 1000 := by omega
            have hlS := refSent_len P NN.sent hP
            have KFl := Lib.hid (fun (u : World) (hu : NetX u a C Ua NN) => flying_at a C Ua NN u hu (by omega) (by omega) hlF)
            have KSe := Lib.hid (fun (u : World) (hu : NetX u a C Ua NN) => sent_at a C Ua NN u hu (by omega) (by omega) (by omega))
            have KRs := Lib.hid (fun (u : World) (hu : RefX u b P C Ub NN) => rsent_at b P C Ub NN u hu (hgg.many (by omega)) hP0 hP)
            have HPM := Lib.hid (fun (l3 : List Cnt) (h1 : l3.Perm NN.sent) (h2 : SortedC l3) => (refSent_perm hgg.cn h1 h2))
            clear sF hpp hgg hm1 hm2 hbb2 hpl hfl hse hhn
            go_region_held3 (fun w' => w'.cell? ⟨b, 3, none⟩ = some (.slice AF NN.fl.length capF))
              (first | exact zF | exact zF1 | exact zF2 | exact zF3 | exact zF4 | exact zF5)
              (first
                | (go_at_call 11; refine (KFl.out _ (PP.out.below hbD.out).nx).mono ?_; rintro e v1 ⟨A1, q1, rfl, o1, b1⟩; have B1 := Lib.hid (hbD.out.trans (b1.mono hbD.out.size)); have zF1 := (B1.out.cell (p := ⟨b, 3, none⟩) hbF).trans zF; have S1 := Lib.hid (Sees.of_own o1); have S2 := Lib.hid (sees_below HSF.out (.inl (flat_len msgV_len _)) B1.out))
                | (go_at_call 25; refine (msgs_at _ _ NN.fl NN.fl _ S1.out S2.out (by omega) (by omega) true (by simp)).mono ?_; rintro e v2 ⟨rfl, r2, rfl⟩; have B2 := Lib.hid (Below.of_drewN r2 B1.out); have zF2 := (B2.out.cell (p := ⟨b, 3, none⟩) hbF).trans zF)
                | (go_at_call 17; refine (KSe.out _ (PP.out.below B2.out).nx).mono ?_; rintro e v3 ⟨A3, q3, l3, rfl, pm3, so3, o3, b3⟩; have B3 := Lib.hid (B2.out.trans (b3.mono B2.out.size)); have zF3 := (B3.out.cell (p := ⟨b, 3, none⟩) hbF).trans zF; have hl3 := HPM.out l3 pm3 so3; have S3 := Lib.hid (sees_own (m := l3.length) o3 pm3.length_eq); have HL3 := Lib.hid hl3)
                | (go_at_call 27; refine (KRs.out _ (PP.out.below B3.out).rx).mono ?_; rintro e v4 ⟨x4, rfl, s4, b4⟩; have B4 := Lib.hid (B3.out.trans (b4.mono B3.out.size)); have zF4 := (B4.out.cell (p := ⟨b, 3, none⟩) hbF).trans zF; have S4 := Lib.hid s4; have S5 := Lib.hid (sees_below S3.out (.inr (flat_len cntV_len _)) b4))
                | (go_at_call 26; refine (cnts_at _ _ l3 (refSent P NN.sent) _ S5.out S4.out (by rw [HL3.out]; omega) (by omega) true (by simp [HL3.out])).mono ?_; rintro e v5 ⟨rfl, r5, rfl⟩; have B5 := Lib.hid (Below.of_drewN r5 B4.out); have zF5 := (B5.out.cell (p := ⟨b, 3, none⟩) hbF).trans zF))
            all_goals (have HE := Lib.hid (QL.out _ B5.out))
            all_goals clear QL B1 B2 B3 B4 B5 zF1 zF2 zF3 zF4 zF5 S1 S2 S3 S4 S5 HL3 hl3 o1 b1 pm3 so3 o3 b3 s4 b4 HPM KFl KSe KRs PP HSF zF hbF hbD
            all_goals go_wp2_with fail
            all_goals exact ⟨⟨k + 1, by omega, by go_num, HE.out⟩, by simp [intOf]; omega⟩
          · obtain ⟨WW, hWW⟩ : ∃ x, u3.drewN mq = x := ⟨_, rfl⟩
            rw [hWW] at P9
            rw [hWW]
            clear hWW
            obtain ⟨NN, Ua, Ub, hpp, hgg, hm1, hm2, hbb2⟩ := P9.out.ex
            clear P9
            obtain ⟨AF, capF, hbF, zF, sF⟩ := ref_fly hpp.rx
            have hbD := Lib.hid ((Below.refl WW.heap.size WW).drew)
            have QL := Lib.hid (fun (u : World) (hb : Below WW.heap.size WW u) => (Pl.below (a := a) (b := b) (P := P) (C := C) (n := k + 1) (W := w) (wr := WW) ⟨NN, Ua, Ub, hpp, hgg, hm1, hm2, hbb2⟩ hb))
            have HSF := Lib.hid sF
            have PP := Lib.hid hpp
            have hpl := hgg.wf.pl
            have hfl := hgg.wf.fl
            have hse := hgg.wf.se
            have hhn := hgg.hn
            have hlF : NN.fl.length ≤ 1000 := by omega
            have hlS := refSent_len P NN.sent hP
            have KFl := Lib.hid (fun (u : World) (hu : NetX u a C Ua NN) => flying_at a C Ua NN u hu (by omega) (by omega) hlF)
            have KSe := Lib.hid (fun (u : World) (hu : NetX u a C Ua NN) => sent_at a C Ua NN u hu (by omega) (by omega) (by omega))
            have KRs := Lib.hid (fun (u : World) (hu : RefX u b P C Ub NN) => rsent_at b P C Ub NN u hu (hgg.many (by omega)) hP0 hP)
            have HPM := Lib.hid (fun (l3 : List Cnt) (h1 : l3.Perm NN.sent) (h2 : SortedC l3) => (refSent_perm hgg.cn h1 h2))
            clear sF hpp hgg hm1 hm2 hbb2 hpl hfl hse hhn
            go_region_held3 (fun w' => w'.cell? ⟨b, 3, none⟩ = some (.slice AF NN.fl.length capF))
              (first | exact zF | exact zF1 | exact zF2 | exact zF3 | exact zF4 | exact zF5)
              (first
                | (go_at_call 11; refine (KFl.out _ (PP.out.below hbD.out).nx).mono ?_; rintro e v1 ⟨A1, q1, rfl, o1, b1⟩; have B1 := Lib.hid (hbD.out.trans (b1.mono hbD.out.size)); have zF1 := (B1.out.cell (p := ⟨b, 3, none⟩) hbF).trans zF; have S1 := Lib.hid (Sees.of_own o1); have S2 := Lib.hid (sees_below HSF.out (.inl (flat_len msgV_len _)) B1.out))
                | (go_at_call 25; refine (msgs_at _ _ NN.fl NN.fl _ S1.out S2.out (by omega) (by omega) true (by simp)).mono ?_; rintro e v2 ⟨rfl, r2, rfl⟩; have B2 := Lib.hid (Below.of_drewN r2 B1.out); have zF2 := (B2.out.cell (p := ⟨b, 3, none⟩) hbF).trans zF)
                | (go_at_call 17; refine (KSe.out _ (PP.out.below B2.out).nx).mono ?_; rintro e v3 ⟨A3, q3, l3, rfl, pm3, so3, o3, b3⟩; have B3 := Lib.hid (B2.out.trans (b3.mono B2.out.size)); have zF3 := (B3.out.cell (p := ⟨b, 3, none⟩) hbF).trans zF; have hl3 := HPM.out l3 pm3 so3; have S3 := Lib.hid (sees_own (m := l3.length) o3 pm3.length_eq); have HL3 := Lib.hid hl3)
                | (go_at_call 27; refine (KRs.out _ (PP.out.below B3.out).rx).mono ?_; rintro e v4 ⟨x4, rfl, s4, b4⟩; have B4 := Lib.hid (B3.out.trans (b4.mono B3.out.size)); have zF4 := (B4.out.cell (p := ⟨b, 3, none⟩) hbF).trans zF; have S4 := Lib.hid s4; have S5 := Lib.hid (sees_below S3.out (.inr (flat_len cntV_len _)) b4))
                | (go_at_call 26; refine (cnts_at _ _ l3 (refSent P NN.sent) _ S5.out S4.out (by rw [HL3.out]; omega) (by omega) true (by simp [HL3.out])).mono ?_; rintro e v5 ⟨rfl, r5, rfl⟩; have B5 := Lib.hid (Below.of_drewN r5 B4.out); have zF5 := (B5.out.cell (p := ⟨b, 3, none⟩) hbF).trans zF))
            all_goals (have HE := Lib.hid (QL.out _ B5.out))
            all_goals clear QL B1 B2 B3 B4 B5 zF1 zF2 zF3 zF4 zF5 S1 S2 S3 S4 S5 HL3 hl3 o1 b1 pm3 so3 o3 b3 s4 b4 HPM KFl KSe KRs PP HSF zF hbF hbD
            all_goals go_wp2_with fail
            all_goals exact ⟨⟨k + 1, by omega, by go_num, HE.out⟩, by simp [intOf]; omega⟩
      · obtain ⟨NC, hNC⟩ : ∃ x, callN P C N (opR o) o = x := ⟨_, rfl⟩
        rw [hNC] at KC HGC
        clear hNC
        unfold opR at h5
        unfold opO at KC
        have h5' : decide (Int.tmod o.d 8 = 5) = false := by simpa using h5
        have KC' := Lib.hid (KC.out wr T1 T2 HPR.out)
        clear KC
        go_wp2_with fail
        refine KC'.out.mono ?_
        rintro e w6 ⟨rfl, hB6⟩
        have P9 := Lib.hid (pl_both (Below.refl _ _) hB6 HGC.out HN.out.1 HN.out.2 HBE.out)
        clear hB6 KC' HGC HN HBE HPR HG x0 x1 x2 x3 x4 x5 h5 h5'
        go_wp2_with fail
        obtain ⟨WW, hWW⟩ : ∃ x, w6 = x := ⟨_, rfl⟩
        rw [hWW] at P9
        rw [hWW]
        clear hWW
        obtain ⟨NN, Ua, Ub, hpp, hgg, hm1, hm2, hbb2⟩ := P9.out.ex
        clear P9
        obtain ⟨AF, capF, hbF, zF, sF⟩ := ref_fly hpp.rx
        have hbD := Lib.hid ((Below.refl WW.heap.size WW).drew)
        have QL := Lib.hid (fun (u : World) (hb : Below WW.heap.size WW u) => (Pl.below (a := a) (b := b) (P := P) (C := C) (n := k + 1) (W := w) (wr := WW) ⟨NN, Ua, Ub, hpp, hgg, hm1, hm2, hbb2⟩ hb))
        have HSF := Lib.hid sF
        have PP := Lib.hid hpp
        have hpl := hgg.wf.pl
        have hfl := hgg.wf.fl
        have hse := hgg.wf.se
        have hhn := hgg.hn
        have hlF : NN.fl.length ≤ 1000 := by omega
        have hlS := refSent_len P NN.sent hP
        have KFl := Lib.hid (fun (u : World) (hu : NetX u a C Ua NN) => flying_at a C Ua NN u hu (by omega) (by omega) hlF)
        have KSe := Lib.hid (fun (u : World) (hu : NetX u a C Ua NN) => sent_at a C Ua NN u hu (by omega) (by omega) (by omega))
        have KRs := Lib.hid (fun (u : World) (hu : RefX u b P C Ub NN) => rsent_at b P C Ub NN u hu (hgg.many (by omega)) hP0 hP)
        have HPM := Lib.hid (fun (l3 : List Cnt) (h1 : l3.Perm NN.sent) (h2 : SortedC l3) => (refSent_perm hgg.cn h1 h2))
        clear sF hpp hgg hm1 hm2 hbb2 hpl hfl hse hhn
        go_region_held3 (fun w' => w'.cell? ⟨b, 3, none⟩ = some (.slice AF NN.fl.length capF))
          (first | exact zF | exact zF1 | exact zF2 | exact zF3 | exact zF4 | exact zF5)
          (first
            | (go_at_call 11; refine (KFl.out _ (PP.out.below hbD.out).nx).mono ?_; rintro e v1 ⟨A1, q1, rfl, o1, b1⟩; have B1 := Lib.hid (hbD.out.trans (b1.mono hbD.out.size)); have zF1 := (B1.out.cell (p := ⟨b, 3, none⟩) hbF).trans zF; have S1 := Lib.hid (Sees.of_own o1); have S2 := Lib.hid (sees_below HSF.out (.inl (flat_len msgV_len _)) B1.out))
            | (go_at_call 25; refine (msgs_at _ _ NN.fl NN.fl _ S1.out S2.out (by omega) (by omega) true (by simp)).mono ?_; rintro e v2 ⟨rfl, r2, rfl⟩; have B2 := Lib.hid (Below.of_drewN r2 B1.out); have zF2 := (B2.out.cell (p := ⟨b, 3, none⟩) hbF).trans zF)
            | (go_at_call 17; refine (KSe.out _ (PP.out.below B2.out).nx).mono ?_; rintro e v3 ⟨A3, q3, l3, rfl, pm3, so3, o3, b3⟩; have B3 := Lib.hid (B2.out.trans (b3.mono B2.out.size)); have zF3 := (B3.out.cell (p := ⟨b, 3, none⟩) hbF).trans zF; have hl3 := HPM.out l3 pm3 so3; have S3 := Lib.hid (sees_own (m := l3.length) o3 pm3.length_eq); have HL3 := Lib.hid hl3)
            | (go_at_call 27; refine (KRs.out _ (PP.out.below B3.out).rx).mono ?_; rintro e v4 ⟨x4, rfl, s4, b4⟩; have B4 := Lib.hid (B3.out.trans (b4.mono B3.out.size)); have zF4 := (B4.out.cell (p := ⟨b, 3, none⟩) hbF).trans zF; have S4 := Lib.hid s4; have S5 := Lib.hid (sees_below S3.out (.inr (flat_len cntV_len _)) b4))
            | (go_at_call 26; refine (cnts_at _ _ l3 (refSent P NN.sent) _ S5.out S4.out (by rw [HL3.out]; omega) (by omega) true (by simp [HL3.out])).mono ?_; rintro e v5 ⟨rfl, r5, rfl⟩; have B5 := Lib.hid (Below.of_drewN r5 B4.out); have zF5 := (B5.out.cell (p := ⟨b, 3, none⟩) hbF).trans zF))
        all_goals (have HE := Lib.hid (QL.out _ B5.out))
        all_goals clear QL B1 B2 B3 B4 B5 zF1 zF2 zF3 zF4 zF5 S1 S2 S3 S4 S5 HL3 hl3 o1 b1 pm3 so3 o3 b3 s4 b4 HPM KFl KSe KRs PP HSF zF hbF hbD
        all_goals go_wp2_with fail
        all_goals exact ⟨⟨k + 1, by omega, by go_num, HE.out⟩, by simp [intOf]; omega⟩
    · have hk1 : ¬ ((k : Int) < (l.length : Int)) := by omega
      have HBE := Lib.hid (show Below w.heap.size w wr from by obtain ⟨_, _, _, _, _, _, _, h⟩ := hL.ex; exact h)
      clear hL
      go_wp2_with fail
      refine (KA _).out.mono ?_
      rintro e w2 ⟨rfl, hb2⟩
      have HEND := Lib.hid (HBE.out.trans (hb2.mono HBE.out.size))
      clear hb2 HBE
      go_wp2_with fail
      go_ret
      exact ⟨rfl, HEND.out⟩
end
end Go.Proofs.Ytimmmbjdaibplaa

