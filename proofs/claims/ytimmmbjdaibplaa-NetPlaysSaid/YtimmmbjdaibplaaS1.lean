/-
  Layer 16: the walk of slices.EqualFunc at cells, and of Same at nets.
-/
import Derived.Test.YtimmmbjdaibplaaEq
namespace Go.Proofs.Ytimmmbjdaibplaa
open Go.RowKit Go.Shelf
open Nt
set_option linter.unusedVariables false
set_option linter.unusedSimpArgs false

set_option maxHeartbeats 8000000 in
set_option maxRecDepth 100000 in
theorem eqCells_at (b1 k1 b2 k2 n : Nat) (L1 L2 : List (List Int)) (w : World) (hl1 : L1.length = n) (hl2 : L2.length = n) (h1 : ∀ (p : Nat) (h : p < L1.length), L1[p].length ≤ 1000 ∧ ∃ v, w.cell? ⟨b1, p, none⟩ = some v ∧ Sees w v L1[p].length (intL L1[p])) (h2 : ∀ (p : Nat) (h : p < L2.length), L2[p].length ≤ 1000 ∧ ∃ v, w.cell? ⟨b2, p, none⟩ = some v ∧ Sees w v L2[p].length (intL L2[p])) (hn : n ≤ 1000) (q : Bool) (hq : q = true ↔ L1 = L2) :
    Calls Try.prog 50 #[.slice (some ⟨b1, 0, none⟩) n k1, .slice (some ⟨b2, 0, none⟩) n k2, .func (.func 51) #[] #[]] w fun e w' => e = .returned (.bool q) ∧ ∃ m, w' = w.drewN m := by
  have HN1 := Lib.hid hl1
  have HN2 := Lib.hid hl2
  have H1 := Lib.hid h1
  have H2 := Lib.hid h2
  have HQ := Lib.hid hq
  have eg : ∀ args u, (callFunc 51 args).run Try.prog u = .ok (.enter 51 args) u := enters_of Try.func51 (by kernel_rfl) rfl
  have d0 : ((n : Int) != (n : Int)) = false := by simp
  have hnn : (n : Int) ≤ 1000 := by omega
  clear hl1 hl2 h1 h2 hq
  go_enter Try.func50, Try.ntmps50
  go_wp2_with fail
  go_loopw [17] (fun i wr => ∃ k m : Nat, k ≤ n ∧ i = .int .i64 k ∧ Hid (L1.take k = L2.take k) ∧ wr = w.drewN m) (fun i _ => n - (intOf i).toNat)
  case atStart => exact ⟨0, 0, Nat.zero_le _, rfl, (by simp : L1.take 0 = L2.take 0), rfl⟩
  case round =>
    obtain ⟨k, m, hk, rfl, htk, rfl⟩ := hrel
    have hk0 : (0 : Int) ≤ (k : Int) := by omega
    by_cases hlt : k < n
    · have hki : (k : Int) < (n : Int) := by omega
      have hk1 : k < L1.length := by rw [HN1.out]; exact hlt
      have hk2 : k < L2.length := by rw [HN2.out]; exact hlt
      obtain ⟨lx, vx, x0, sx⟩ := H1.out k hk1
      obtain ⟨ly, vy, y0, sy⟩ := H2.out k hk2
      have HT : L1[k] = L2[k] → L1.take (k + 1) = L2.take (k + 1) := fun e => take_eq_succ htk.out hk1 hk2 e
      have hxy : L1[k] = L2[k] ∨ L1[k] ≠ L2[k] := Classical.em _
      have HNE0 : L1[k] ≠ L2[k] → L1 ≠ L2 := fun e => take_ne hk1 hk2 e
      obtain ⟨x, hx⟩ : ∃ x, L1[k] = x := ⟨_, rfl⟩
      obtain ⟨y, hy⟩ : ∃ y, L2[k] = y := ⟨_, rfl⟩
      rw [hx] at lx sx
      rw [hy] at ly sy
      rw [hx, hy] at hxy HT HNE0
      have KQ := fun (q' : Bool) (hq' : q' = true ↔ x = y) => Lib.hid (eqInts_at vx vy x y (w.drewN m) (sx.drewN m) (sy.drewN m) (by omega) (by omega) q' hq')
      obtain ⟨Ax, cx, rfl, -⟩ := sx
      obtain ⟨Ay, cy, rfl, -⟩ := sy
      clear hx hy hk1 hk2
      rcases hxy with hxy | hxy
      · have KQ1 := KQ true (by simp [hxy])
        have HT2 := Lib.hid (HT hxy)
        clear HT HNE0 KQ hxy
        go_wp2_with fail
        refine KQ1.out.mono ?_
        rintro e w2 ⟨rfl, m2, rfl⟩
        clear KQ1
        go_wp2_with fail
        go_roundw
        case rel => exact ⟨k + 1, _, by omega, by go_num, HT2, rfl⟩
        case measure => simp [intOf]; omega
      · have hqf : q = false := by
          cases q
          · rfl
          · exact absurd (HQ.out.1 rfl) (HNE0 hxy)
        subst hqf
        have KQ1 := KQ false (by simp [hxy])
        clear HT HNE0 KQ hxy
        go_wp2_with fail
        refine KQ1.out.mono ?_
        rintro e w2 ⟨rfl, m2, rfl⟩
        clear KQ1
        go_wp2_with fail
        go_ret
        exact ⟨rfl, _, rfl⟩
    · obtain rfl : k = n := by omega
      have hqt : q = true := HQ.out.2 (by
        have := htk.out
        rw [List.take_of_length_le (by rw [HN1.out]; omega), List.take_of_length_le (by rw [HN2.out]; omega)] at this
        exact this)
      subst hqt
      have hki : ¬ ((k : Int) < (k : Int)) := by omega
      go_wp2_with fail
      go_ret
      exact ⟨rfl, _, rfl⟩

section
variable {w w' : World} {a C bc kc : Nat} {cur : Array Value} {rs : List Nat} {vf vh vs : Value} {N : Nt.Net}
theorem NetAt.sees (h : NetAt w a C bc kc cur rs vf vh vs N) (hce : ∀ r ∈ N.cs, r.length = C) (hC : C ≤ 64) : ∀ (p : Nat) (hp : p < N.cs.length), N.cs[p].length ≤ 1000 ∧ ∃ v, w.cell? ⟨bc, p, none⟩ = some v ∧ Sees w v N.cs[p].length (intL N.cs[p]) := by
  intro p hp
  have hpr : p < rs.length := by rw [h.rl]; exact hp
  obtain ⟨k, hk⟩ := h.cr p hpr
  have hl : N.cs[p].length = C := hce _ (List.getElem_mem hp)
  refine ⟨by omega, _, (blk_cell h.tb p).trans hk, ?_⟩
  have := Sees.of_row (k := k) (h.row p hpr hp)
  rw [hl] at this ⊢
  exact this
end
def SameR (q : Bool) (w : World) (e : Ending) (w' : World) : Prop := e = .returned (.bool q) ∧ Below w.heap.size w w'
theorem below_of_drewN {w u w' : World} (hu : Below w.heap.size w u) (h : ∃ n, w' = u.drewN n) : Below w.heap.size w w' := by
  obtain ⟨n, rfl⟩ := h
  exact Below.of_drewN n hu
theorem sees_own {w : World} {base : Nat} {e : TypeId} {size : Nat} {v : Value} {n m : Nat} {xs : List Value} (h : w.ownsRow base e size v n xs) (hm : m = n) : Sees w v m xs := by
  subst hm; exact .of_own h
theorem sees_keep {w w' : World} {base : Nat} {e : TypeId} {size : Nat} {v : Value} {n m : Nat} {xs : List Value} (h : w.ownsRow base e size v n xs) (hm : m = n) (hb : Below w.heap.size w w') : Sees w' v m xs := by
  have h' : w'.ownsRow base e size v n xs := by
    refine ⟨h.1, ?_⟩
    have hl := h.lt
    rcases h.2 with hn | ⟨g, cap, cur, rfl, h0, hg, rest⟩
    · exact .inl hn
    · exact .inr ⟨g, cap, cur, rfl, h0, (hb.block g (hl g rfl).2).trans hg, rest⟩
  exact sees_own h' hm
set_option maxHeartbeats 16000000 in
set_option maxRecDepth 100000 in
theorem same_refl (a c C : Nat) (T T2 : List Nat) (N : Nt.Net) (P : Nat) (w : World) (h : NetX w a C T N) (h2 : NetX w c C T2 N) (hw : Wf P C N) (hcn : Cn P N) (hP0 : 1 ≤ P) (hP : P ≤ 8) (hC : C ≤ 64) :
    Calls Try.prog 21 #[.pointer (some ⟨a, 0, none⟩), .pointer (some ⟨c, 0, none⟩)] w (SameR true w) := by
  have hX := h
  have hX2 := h2
  obtain ⟨bc, kc, cur, rs, vf, vh, vs, hT, hN⟩ := h
  obtain ⟨bc2, kc2, cur2, rs2, vf2, vh2, vs2, hT2, hN2⟩ := h2
  obtain ⟨a0, a1, a2, -⟩ := hN.cells
  obtain ⟨c0, c1, c2, -⟩ := hN2.cells
  have hpl := hw.pl
  have hfl := hw.fl
  have hhs := hw.hs
  have hse := hw.se
  obtain ⟨A1, p1, rfl, -, -⟩ := own_form hN.fo
  obtain ⟨A2, p2, rfl, -, -⟩ := own_form hN.ho
  obtain ⟨A3, p3, rfl, -, -⟩ := own_form hN2.fo
  obtain ⟨A4, p4, rfl, -, -⟩ := own_form hN2.ho
  have K0 := Lib.hid (none_at a (some ⟨bc, 0, none⟩) N.cs.length kc w a0 (by omega) (by omega))
  have K1 := Lib.hid (none_at c (some ⟨bc2, 0, none⟩) N.cs.length kc2 w c0 (by omega) (by omega))
  have KE := Lib.hid (fun (u : World) (hu : Below w.heap.size w u) => Calls.mono (eqCells_at bc kc bc2 kc2 N.cs.length N.cs N.cs u rfl rfl ((hN.below hu).sees hw.ce hC) ((hN2.below hu).sees hw.ce hC) (by omega) true (by simp)) fun e w' he => And.intro he.1 (below_of_drewN hu he.2))
  have KM := Lib.hid (fun (u : World) (hu : Below w.heap.size w u) => Calls.mono (eqMsgs_at _ _ N.fl N.fl u (.of_own (hN.below hu).fo) (.of_own (hN2.below hu).fo) (by omega) (by omega) true (by simp)) fun e w' he => And.intro he.1 (below_of_drewN hu he.2))
  have KH := Lib.hid (fun (u : World) (hu : Below w.heap.size w u) => Calls.mono (eqHds_at _ _ N.hs N.hs u (.of_own (hN.below hu).ho) (.of_own (hN2.below hu).ho) (by omega) (by omega) true (by simp)) fun e w' he => And.intro he.1 (below_of_drewN hu he.2))
  have KS := Lib.hid (fun (u : World) (hu : Below w.heap.size w u) => sent_at a C T N u (hX.below hu) (by omega) (by omega) (by omega))
  have KT := Lib.hid (fun (u : World) (hu : Below w.heap.size w u) => sent_at c C T2 N u (hX2.below hu) (by omega) (by omega) (by omega))
  unfold SentE at KS KT
  have la := blk_lt hN.hd
  have lc := blk_lt hN2.hd
  have KQ := Lib.hid (fun (u w5 : World) (v1 v2 : Value) (l1 l2 : List Cnt) (hu : Below w.heap.size w u) (h1 : l1.Perm N.sent) (h2 : SortedC l1) (h3 : l2.Perm N.sent) (h4 : SortedC l2) (s1 : Sees u v1 l1.length (l1.flatMap cntV)) (s2 : Sees u v2 l2.length (l2.flatMap cntV)) =>
    Calls.mono (eqCnts_at v1 v2 l1 l2 u s1 s2 (by rw [h1.length_eq]; omega) (by rw [h3.length_eq]; omega) true (by simp only [true_iff]; exact (refSent_perm hcn h1 h2).trans (refSent_perm hcn h3 h4).symm)) fun e w' he => And.intro he.1 (below_of_drewN hu he.2))
  have hbD : Below w.heap.size w w.drew := (Below.refl _ _).drew
  clear hN hN2 hX hX2 hw hcn hpl hfl hhs hse hT hT2
  go_enter Try.func21, Try.ntmps21
  go_wp2_with fail
  refine K0.out.mono ?_
  rintro e w1 ⟨rfl, rfl⟩
  go_wp2_with fail
  refine K1.out.mono ?_
  rintro e w1 ⟨rfl, rfl⟩
  clear K0 K1
  go_wp2_with fail
  go_region_held3 (fun w' => (w'.cell? ⟨a, 0, none⟩ = some (.slice (some ⟨bc, 0, none⟩) N.cs.length kc) ∧ w'.cell? ⟨a, 1, none⟩ = some (.slice A1 N.fl.length p1) ∧ w'.cell? ⟨a, 2, none⟩ = some (.slice A2 N.hs.length p2)) ∧ (w'.cell? ⟨c, 0, none⟩ = some (.slice (some ⟨bc2, 0, none⟩) N.cs.length kc2) ∧ w'.cell? ⟨c, 1, none⟩ = some (.slice A3 N.fl.length p3) ∧ w'.cell? ⟨c, 2, none⟩ = some (.slice A4 N.hs.length p4)))
    (first
      | exact ⟨⟨a0, a1, a2⟩, c0, c1, c2⟩
      | exact ⟨⟨(B6.cell (p := ⟨a, 0, none⟩) la).trans a0, (B6.cell (p := ⟨a, 1, none⟩) la).trans a1, (B6.cell (p := ⟨a, 2, none⟩) la).trans a2⟩, (B6.cell (p := ⟨c, 0, none⟩) lc).trans c0, (B6.cell (p := ⟨c, 1, none⟩) lc).trans c1, (B6.cell (p := ⟨c, 2, none⟩) lc).trans c2⟩
      | exact ⟨⟨(B5.cell (p := ⟨a, 0, none⟩) la).trans a0, (B5.cell (p := ⟨a, 1, none⟩) la).trans a1, (B5.cell (p := ⟨a, 2, none⟩) la).trans a2⟩, (B5.cell (p := ⟨c, 0, none⟩) lc).trans c0, (B5.cell (p := ⟨c, 1, none⟩) lc).trans c1, (B5.cell (p := ⟨c, 2, none⟩) lc).trans c2⟩
      | exact ⟨⟨(B4.cell (p := ⟨a, 0, none⟩) la).trans a0, (B4.cell (p := ⟨a, 1, none⟩) la).trans a1, (B4.cell (p := ⟨a, 2, none⟩) la).trans a2⟩, (B4.cell (p := ⟨c, 0, none⟩) lc).trans c0, (B4.cell (p := ⟨c, 1, none⟩) lc).trans c1, (B4.cell (p := ⟨c, 2, none⟩) lc).trans c2⟩
      | exact ⟨⟨(B3.cell (p := ⟨a, 0, none⟩) la).trans a0, (B3.cell (p := ⟨a, 1, none⟩) la).trans a1, (B3.cell (p := ⟨a, 2, none⟩) la).trans a2⟩, (B3.cell (p := ⟨c, 0, none⟩) lc).trans c0, (B3.cell (p := ⟨c, 1, none⟩) lc).trans c1, (B3.cell (p := ⟨c, 2, none⟩) lc).trans c2⟩
      | exact ⟨⟨(B2.cell (p := ⟨a, 0, none⟩) la).trans a0, (B2.cell (p := ⟨a, 1, none⟩) la).trans a1, (B2.cell (p := ⟨a, 2, none⟩) la).trans a2⟩, (B2.cell (p := ⟨c, 0, none⟩) lc).trans c0, (B2.cell (p := ⟨c, 1, none⟩) lc).trans c1, (B2.cell (p := ⟨c, 2, none⟩) lc).trans c2⟩
      | exact ⟨⟨(B1.cell (p := ⟨a, 0, none⟩) la).trans a0, (B1.cell (p := ⟨a, 1, none⟩) la).trans a1, (B1.cell (p := ⟨a, 2, none⟩) la).trans a2⟩, (B1.cell (p := ⟨c, 0, none⟩) lc).trans c0, (B1.cell (p := ⟨c, 1, none⟩) lc).trans c1, (B1.cell (p := ⟨c, 2, none⟩) lc).trans c2⟩)
    (first
      | (go_at_call 50; refine (KE.out _ hbD).mono ?_; rintro e w1 ⟨rfl, B1⟩)
      | (go_at_call 52; refine (KM.out _ B1).mono ?_; rintro e w2 ⟨rfl, B2⟩)
      | (go_at_call 53; refine (KH.out _ B2).mono ?_; rintro e w3 ⟨rfl, B3⟩)
      | (go_at_call_of 17 (Value.pointer (some ⟨a, 0, none⟩)); refine (KS.out _ B3).mono ?_; rintro e w4 ⟨A5, p5, l5, rfl, hp5, hs5, ho5, hb5⟩; have B4 := B3.trans (hb5.mono B3.size))
      | (go_at_call_of 17 (Value.pointer (some ⟨c, 0, none⟩)); refine (KT.out _ B4).mono ?_; rintro e w5 ⟨A6, p6, l6, rfl, hp6, hs6, ho6, hb6⟩; have B5 := B4.trans (hb6.mono B4.size); have s5 := sees_keep ho5 hp5.length_eq hb6; have s6 := sees_own ho6 hp6.length_eq)
      | (go_at_call 54; refine (KQ.out _ w5 _ _ l5 l6 B5 hp5 hs5 hp6 hs6 s5 s6).mono ?_; rintro e w6 ⟨rfl, B6⟩))
  go_wp2_with fail
  go_ret
  exact ⟨rfl, B6⟩
end Go.Proofs.Ytimmmbjdaibplaa
