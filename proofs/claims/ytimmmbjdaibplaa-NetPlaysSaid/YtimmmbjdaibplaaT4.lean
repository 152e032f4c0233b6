/-
  Layer 17: the walk of the net's Copy.
-/
import Derived.Test.YtimmmbjdaibplaaT3
namespace Go.Proofs.Ytimmmbjdaibplaa
open Go.RowKit
open Nt
set_option linter.unusedVariables false
set_option linter.unusedSimpArgs false

theorem hdV_one (x : Hd) : ∀ u ∈ hdV x, u.oneCell' = true := by
  intro u hu
  simp only [hdV, List.mem_cons, List.not_mem_nil, or_false] at hu
  rcases hu with rfl | rfl | rfl <;> rfl
theorem cntV_one (x : Cnt) : ∀ u ∈ cntV x, u.oneCell' = true := by
  intro u hu
  simp only [cntV, List.mem_cons, List.not_mem_nil, or_false] at hu
  rcases hu with rfl | rfl | rfl | rfl <;> rfl
def CopyE (C : Nat) (N : Nt.Net) (w : World) (e : Ending) (w' : World) : Prop := ∃ c T, e = .returned (.pointer (some ⟨c, 0, none⟩)) ∧ NetX w' c C T N ∧ (∀ k ∈ T, w.heap.size ≤ k) ∧ Below w.heap.size w w'
theorem own_weak {w : World} {b b' : Nat} {e : TypeId} {size : Nat} {v : Value} {n : Nat} {xs : List Value} (h : w.ownsRow b e size v n xs) (hb : b' ≤ b) : w.ownsRow b' e size v n xs := by
  refine ⟨h.1, ?_⟩
  rcases h.2 with hn | ⟨g, cap, cur, rfl, h0, rest⟩
  · exact .inl hn
  · exact .inr ⟨g, cap, cur, rfl, Nat.le_trans hb h0, rest⟩
theorem own_upto {w w' : World} {b b' : Nat} {e : TypeId} {size : Nat} {v : Value} {n : Nat} {xs : List Value} (h : w.ownsRow b e size v n xs) (hb : b' ≤ b) (hk : Below w.heap.size w w') : w'.ownsRow b' e size v n xs :=
  own_keepB (own_weak h hb) fun g hg _ => hk.block g hg
theorem o5_some {w : World} {b n q : Nat} {A : Option Addr} {xs : List Value} (hC : 1 ≤ n) (h : w.ownsRow b 3 1 (.slice A n q) n xs) : ∃ g, A = some ⟨g, 0, none⟩ := by
  rcases h.2 with ⟨h0, hn⟩ | ⟨g, cap, cur, hv, _⟩
  · omega
  · injection hv with h1
    exact ⟨g, h1⟩
theorem cq_start {H C : Nat} {v1 v2 v3 : Value} {N : Nt.Net} {w w1 w2 w3 : World}
    (o1 : w1.ownsRow w.drew.heap.size 74 6 v1 N.fl.length (N.fl.flatMap msgV)) (o2 : w2.ownsRow w1.heap.size 81 3 v2 N.hs.length (N.hs.flatMap hdV)) (o3 : w3.ownsRow w2.heap.size 48 4 v3 N.sent.length (N.sent.flatMap cntV))
    (B1 : Below w.heap.size w w1) (B2 : Below w.heap.size w w2) (B3 : Below w.heap.size w w3) (b1 : Below w.drew.heap.size w.drew w1) (b2 : Below w1.heap.size w1 w2) (b3 : Below w2.heap.size w2 w3) :
    Cq w3.heap.size C (.slice none 0 0) v1 v2 v3 N w (w3.alloc (.cells #[.slice none 0 0, v1, v2, v3] 67)) 0 [] [] := by
  have h3 : Below w3.heap.size w3 (w3.alloc (.cells #[.slice none 0 0, v1, v2, v3] 67)) := (Below.refl _ _).alloc (Nat.le_refl _) _
  have h2 : Below w2.heap.size w2 (w3.alloc (.cells #[.slice none 0 0, v1, v2, v3] 67)) := b3.trans (h3.mono b3.size)
  have h1 : Below w1.heap.size w1 (w3.alloc (.cells #[.slice none 0 0, v1, v2, v3] 67)) := b2.trans (h2.mono b2.size)
  exact ⟨heap_alloc_new w3 _, B3.size, own_upto o1 (Nat.le_refl _) h1, own_upto o2 B1.size h2, own_upto o3 B2.size h3, World.ownsRow_nil _ _ _ _, rfl, (fun i hi => absurd hi (by simp)), List.nodup_nil, B3.alloc B3.size _⟩
set_option maxHeartbeats 16000000 in
set_option maxRecDepth 100000 in
theorem copy_at (a C : Nat) (T : List Nat) (N : Nt.Net) (P : Nat) (w : World) (h : NetX w a C T N) (hw : Wf P C N) (hP0 : 1 ≤ P) (hP : P ≤ 8) (hC0 : 1 ≤ C) (hC : C ≤ 64) :
    Calls Try.prog 19 #[.pointer (some ⟨a, 0, none⟩)] w (CopyE C N w) := by
  obtain ⟨bc, kc, cur, rs, vf, vh, vs, hT, hN⟩ := h
  obtain ⟨c0, c1, c2, c3⟩ := hN.cells
  have hpl := hw.pl
  have hfl := hw.fl
  have hhs := hw.hs
  have hse := hw.se
  obtain ⟨A1, p1, rfl, -, -⟩ := own_form hN.fo
  obtain ⟨A2, p2, rfl, -, -⟩ := own_form hN.ho
  obtain ⟨A3, p3, rfl, -, -⟩ := own_form hN.so
  have K0 := Lib.hid (none_at a (some ⟨bc, 0, none⟩) N.cs.length kc w c0 (by omega) (by omega))
  have KM := Lib.hid (fun (u : World) (hu : Below w.heap.size w u) => cloneMsg_at _ _ _ u (.of_own (hN.below hu).fo) (by omega) (flat_one msgV_one _))
  have KH := Lib.hid (fun (u : World) (hu : Below w.heap.size w u) => cloneHd_at _ _ _ u (.of_own (hN.below hu).ho) (by omega) (flat_one hdV_one _))
  have KC := Lib.hid (fun (u : World) (hu : Below w.heap.size w u) => cloneCnt_at _ _ _ u (.of_own (hN.below hu).so) (by omega) (flat_one cntV_one _))
  unfold CloneB at KM KH KC
  have la := blk_lt hN.hd
  have hbD : Below w.heap.size w w.drew := (Below.refl _ _).drew
  have HX := Lib.hid hN
  obtain ⟨i0, hi0, hz0, hz1, hz2⟩ := info_parts infoRow
  have HCE := Lib.hid (fun (k : Nat) (hk : k < N.cs.length) => hw.ce _ (List.getElem_mem hk))
  have HL1 : Hid (1 ≤ N.cs.length) := Lib.hid (by omega)
  have HL8 : N.cs.length ≤ 8 := by omega
  clear hN hw hpl hfl hhs hse hT
  go_enter Try.func19, Try.ntmps19
  go_wp2_with fail
  refine K0.out.mono ?_
  rintro e w1 ⟨rfl, rfl⟩
  clear K0
  go_wp2_with fail
  go_region_held3 (fun w' => w'.cell? ⟨a, 1, none⟩ = some (.slice A1 N.fl.length p1) ∧ w'.cell? ⟨a, 2, none⟩ = some (.slice A2 N.hs.length p2) ∧ w'.cell? ⟨a, 3, none⟩ = some (.slice A3 N.sent.length p3))
    (first
      | exact ⟨c1, c2, c3⟩
      | exact ⟨cell_alloc ((B3.cell (p := ⟨a, 1, none⟩) la).trans c1), cell_alloc ((B3.cell (p := ⟨a, 2, none⟩) la).trans c2), cell_alloc ((B3.cell (p := ⟨a, 3, none⟩) la).trans c3)⟩
      | exact ⟨(B3.cell (p := ⟨a, 1, none⟩) la).trans c1, (B3.cell (p := ⟨a, 2, none⟩) la).trans c2, (B3.cell (p := ⟨a, 3, none⟩) la).trans c3⟩
      | exact ⟨(B2.cell (p := ⟨a, 1, none⟩) la).trans c1, (B2.cell (p := ⟨a, 2, none⟩) la).trans c2, (B2.cell (p := ⟨a, 3, none⟩) la).trans c3⟩
      | exact ⟨(B1.cell (p := ⟨a, 1, none⟩) la).trans c1, (B1.cell (p := ⟨a, 2, none⟩) la).trans c2, (B1.cell (p := ⟨a, 3, none⟩) la).trans c3⟩)
    (first
      | (go_at_call 33; refine (KM.out _ hbD).mono ?_; rintro e w1 ⟨F1, q1, rfl, o1, b1⟩; have B1 := hbD.trans (b1.mono hbD.size))
      | (go_at_call 47; refine (KH.out _ B1).mono ?_; rintro e w2 ⟨F2, q2, rfl, o2, b2⟩; have B2 := B1.trans (b2.mono B1.size))
      | (go_at_call 48; refine (KC.out _ B2).mono ?_; rintro e w3 ⟨F3, q3, rfl, o3, b3⟩; have B3 := B2.trans (b3.mono B2.size)))
  have hCq := Lib.hid (cq_start (H := w3.heap.size) (C := C) (N := N) (w := w) o1 o2 o3 B1 B2 B3 b1 b2 b3)
  have c0' := fun o => cell_alloc (o := o) ((B3.cell (p := ⟨a, 0, none⟩) la).trans c0)
  clear o1 o2 o3 b1 b2 b3 B1 B2 hbD KM KH KC c1 c2 c3
  go_wp2_with fail
  go_loopw [30] (fun i wr => ∃ (k : Nat) (v0 : Value) (vr' : List Value) (rs' : List Nat), k ≤ N.cs.length ∧ i = .int .i64 k ∧ Cq w3.heap.size C v0 (.slice F1 N.fl.length q1) (.slice F2 N.hs.length q2) (.slice F3 N.sent.length q3) N w wr k vr' rs') (fun i _ => N.cs.length - (intOf i).toNat)
  case atStart => exact ⟨0, _, _, _, Nat.zero_le _, rfl, hCq.out⟩
  case round =>
    clear hCq
    obtain ⟨k, v0, vr', rs', hk, rfl, hQ⟩ := hrel
    have hk0 : (0 : Int) ≤ (k : Int) := by omega
    by_cases hlt : k < N.cs.length
    · have hk1 : (k : Int) < (N.cs.length : Int) := by omega
      have hpr : k < rs.length := by rw [HX.out.rl]; exact hlt
      obtain ⟨kr, hkr⟩ := HX.out.cr k hpr
      have xr := (hQ.be.cell (p := ⟨bc, k, none⟩) (blk_lt HX.out.tb)).trans ((blk_cell HX.out.tb k).trans hkr)
      have hrow0 := HX.out.row k hpr hlt
      have hrow := Lib.hid (hrow0.keep (hQ.be.block _ hrow0.lt))
      have hcl := HCE.out k hlt
      have d0 := blk_cell hQ.hd 0
      have e0 := blk_free hQ.hd 0
      obtain ⟨A0, k0, rfl, -, -⟩ := own_form (own_base hQ.tb)
      obtain ⟨r, hr⟩ : ∃ r, rs[k] = r := ⟨_, rfl⟩
      rw [hr] at xr hrow
      have hH := blk_lt hQ.hd
      have KR := Lib.hid (fun (u : World) (hu : Below wr.heap.size wr u) => cloneRow_at r C kr N.cs[k] u (hrow.out.keep (hu.block _ hrow.out.lt)) hcl (by omega))
      unfold CloneB at KR
      have ag : Hid (∀ _ : Unit, (some w3.heap.size : Option Nat) ≠ (Value.slice A0 k k0).ownBlock) := fun _ e => by
        obtain ⟨c, hc⟩ := own_type (own_base hQ.tb) e.symm
        exact absurd (blk_type hc hQ.hd) (by decide)
      have HQ := Lib.hid hQ
      have hbR : Below wr.heap.size wr wr.drew := (Below.refl _ _).drew
      clear hQ hrow0 hkr hcl hr
      have fz := fun o => cell_alloc (o := o) d0
      go_wp2_with fail
      refine wp_region_held_drew (S := fun _ => True) (by kernel_rfl) trivial (fun hHeld => ?_)
      refine wpAnyH_take (i := 0) (oi := ⟨some 34, _, _, _, _, _⟩) (v := ?_) rfl (by kernel_rfl) (by kernel_rfl) (by kernel_rfl) (fun _ _ _ h => h) (Or.inl ⟨by rfl, ?_⟩) (by assumption) ?_
      rotate_left
      · intro w hSw; (try dsimp only at hSw); go_simp; (try with_reducible rfl)
      try simp only [Act.put, List.setIfInBounds_toArray, List.set_cons_zero, List.set_cons_succ]
      refine wpAnyH_take (i := 1) (oi := ⟨some 35, _, _, _, _, _⟩) (v := ?_) rfl (by kernel_rfl) (by kernel_rfl) (by kernel_rfl) (fun _ _ _ h => h) (Or.inl ⟨by rfl, ?_⟩) (by assumption) ?_
      rotate_left
      · intro w hSw; (try dsimp only at hSw); go_simp; (try with_reducible rfl)
      try simp only [Act.put, List.setIfInBounds_toArray, List.set_cons_zero, List.set_cons_succ]
      refine wpAnyH_take (i := 2) (oi := ⟨some 36, _, _, _, _, _⟩) (v := ?_) rfl (by kernel_rfl) (by kernel_rfl) (by kernel_rfl) (fun _ _ _ h => h) (Or.inl ⟨by rfl, ?_⟩) (by assumption) ?_
      rotate_left
      · intro w hSw; (try dsimp only at hSw); go_simp; (try with_reducible rfl)
      try simp only [Act.put, List.setIfInBounds_toArray, List.set_cons_zero, List.set_cons_succ]
      refine wpAnyH_take (i := 3) (oi := ⟨some 37, _, _, _, _, _⟩) (v := ?_) rfl (by kernel_rfl) (by kernel_rfl) (by kernel_rfl) (fun _ _ _ h => h) (Or.inl ⟨by rfl, ?_⟩) (by assumption) ?_
      rotate_left
      · intro w hSw; (try dsimp only at hSw); go_simp; (try with_reducible rfl)
      try simp only [Act.put, List.setIfInBounds_toArray, List.set_cons_zero, List.set_cons_succ]
      refine wpAnyH_take (i := 5) (oi := ⟨some 39, _, _, _, _, _⟩) (v := ?_) rfl (by kernel_rfl) (by kernel_rfl) (by kernel_rfl) (fun _ _ _ h => h) (Or.inl ⟨by rfl, ?_⟩) (by assumption) ?_
      rotate_left
      · intro w hSw; (try dsimp only at hSw); go_simp; (try with_reducible rfl)
      try simp only [Act.put, List.setIfInBounds_toArray, List.set_cons_zero, List.set_cons_succ]
      refine wpAnyH_ready (rs := [4, 6]) (by kernel_rfl) (by simp) ?_
      refine AllReadyH.cons rfl (fun K hK => ?_) (AllReadyH.cons rfl (fun K hK => ?_) AllReadyH.nil)
      · (rw [if_pos (by rfl)]; go_simp)
        refine hK.out _ _ trivial (fun hHeld => ?_)
        clear hK K
        try simp only [Act.put, List.setIfInBounds_toArray, List.set_cons_zero, List.set_cons_succ]
        refine wpAnyH_ready (rs := [6]) (by kernel_rfl) (by simp) ?_
        refine AllReadyH.cons rfl (fun K hK => ?_) AllReadyH.nil
        (rw [if_pos (by rfl)]; go_simp; go_at_call 49; refine (KR.out _ hbR).mono ?_; rintro e w5 ⟨A5, q5, rfl, o5, b5⟩)
        have B5 := hbR.trans (b5.mono hbR.size)
        have s5 := (B5.cell (p := ⟨w3.heap.size, 0, none⟩) hH).trans d0
        have s5' := fun o => cell_alloc (o := o) s5
        have f5 := fun o => free_alloc (o := o) s5 ((B5.frozen (p := ⟨w3.heap.size, 0, none⟩) hH).trans e0)
        refine hK.out _ _ trivial (fun hHeld => ?_)
        clear hK K
        try simp only [Act.put, List.setIfInBounds_toArray, List.set_cons_zero, List.set_cons_succ]
        refine wpAnyH_ready (rs := [7]) (by kernel_rfl) (by simp) ?_
        refine AllReadyH.cons rfl (fun K hK => ?_) AllReadyH.nil
        (rw [if_pos (by rfl)]; go_simp)
        refine hK.out _ _ trivial (fun hHeld => ?_)
        clear hK K
        try simp only [Act.put, List.setIfInBounds_toArray, List.set_cons_zero, List.set_cons_succ]
        refine wpAnyH_ready (rs := [8]) (by kernel_rfl) (by simp) ?_
        refine AllReadyH.cons rfl (fun K hK => ?_) AllReadyH.nil
        refine step_append_lies _ (by rfl) _ _ _ (by rfl) w.heap.size 22 i0 _ 1 24 Try.underlying59 hi0 hz0 hz1 hz2 rfl (by omega) (.slice A0 k k0) k vr' (by rfl) ((own_keepB HQ.out.tb fun g hg _ => B5.block g hg).alloc _) ⟨w5.heap.size, 0, none⟩ 1 1 [.slice A5 C q5] (by rfl) (by rfl) (World.news_of_block (cs := #[.slice A5 C q5]) (t := 22) (fr := (0, 0)) (heap_alloc_new w5 _)) (by simp [Value.oneCell']) (by omega) (by unfold maxLen; omega) (by omega) (by have := HQ.out.be.size; have := B5.size; simp; omega) (w5.heap.size + 1) (by simp) ?_
        intro gg cap' w6 hown1 hgrow hat hlt2
        have hs1 := (hgrow.cell_far ⟨w3.heap.size, 0, none⟩ (by have := B5.size; simp; omega) (ag.out ())).trans (s5' _)
        have hs2 := (hgrow.frozen_far ⟨w3.heap.size, 0, none⟩ (by have := B5.size; simp; omega) (ag.out ())).trans (f5 _)
        refine hK.out _ _ trivial (fun hHeld => ?_)
        clear hK K
        try simp only [Act.put, List.setIfInBounds_toArray, List.set_cons_zero, List.set_cons_succ]
        refine wpAnyH_take (i := 9) (oi := ⟨some 43, _, _, _, _, _⟩) (v := ?_) rfl (by kernel_rfl) (by kernel_rfl) (by kernel_rfl) (fun _ _ _ h => h) (Or.inl ⟨by rfl, ?_⟩) (by assumption) ?_
        rotate_left
        · intro w hSw; (try dsimp only at hSw); go_simp; (try with_reducible rfl)
        try simp only [Act.put, List.setIfInBounds_toArray, List.set_cons_zero, List.set_cons_succ]
        refine wpAnyH_take (i := 10) (oi := ⟨some 44, _, _, _, _, _⟩) (v := ?_) rfl (by kernel_rfl) (by kernel_rfl) (by kernel_rfl) (fun _ _ _ h => h) (Or.inl ⟨by rfl, ?_⟩) (by assumption) ?_
        rotate_left
        · intro w hSw; (try dsimp only at hSw); go_simp; (try with_reducible rfl)
        try simp only [Act.put, List.setIfInBounds_toArray, List.set_cons_zero, List.set_cons_succ]
        refine wpAnyH_ready (rs := [11]) (by kernel_rfl) (by simp) ?_
        refine AllReadyH.cons rfl (fun K hK => ?_) AllReadyH.nil
        (rw [if_pos (by rfl)]; go_simp)
        refine hK.out _ _ trivial (fun hHeld => ?_)
        clear hK K
        try simp only [Act.put, List.setIfInBounds_toArray, List.set_cons_zero, List.set_cons_succ]
        refine wpAnyH_done (by kernel_rfl) ?_ _
        obtain ⟨g9, rfl⟩ := o5_some hC0 o5
        have HE := Lib.hid (HQ.out.next hlt o5 B5 hown1 hgrow hat)
        clear o5 B5 b5 s5 s5' f5 hs1 hs2 hown1 hgrow hat HQ
        go_wp2_with fail
        exact ⟨⟨k + 1, _, _, _, by omega, by go_num, HE.out⟩, by simp [intOf]; omega⟩
      · (rw [if_pos (by rfl)]; go_simp; go_at_call 49; refine (KR.out _ hbR).mono ?_; rintro e w5 ⟨A5, q5, rfl, o5, b5⟩)
        have B5 := hbR.trans (b5.mono hbR.size)
        have s5 := (B5.cell (p := ⟨w3.heap.size, 0, none⟩) hH).trans d0
        have s5' := fun o => cell_alloc (o := o) s5
        have f5 := fun o => free_alloc (o := o) s5 ((B5.frozen (p := ⟨w3.heap.size, 0, none⟩) hH).trans e0)
        refine hK.out _ _ trivial (fun hHeld => ?_)
        clear hK K
        try simp only [Act.put, List.setIfInBounds_toArray, List.set_cons_zero, List.set_cons_succ]
        refine wpAnyH_ready (rs := [4, 7]) (by kernel_rfl) (by simp) ?_
        refine AllReadyH.cons rfl (fun K hK => ?_) (AllReadyH.cons rfl (fun K hK => ?_) AllReadyH.nil)
        · (rw [if_pos (by rfl)]; go_simp)
          refine hK.out _ _ trivial (fun hHeld => ?_)
          clear hK K
          try simp only [Act.put, List.setIfInBounds_toArray, List.set_cons_zero, List.set_cons_succ]
          refine wpAnyH_ready (rs := [7]) (by kernel_rfl) (by simp) ?_
          refine AllReadyH.cons rfl (fun K hK => ?_) AllReadyH.nil
          (rw [if_pos (by rfl)]; go_simp)
          refine hK.out _ _ trivial (fun hHeld => ?_)
          clear hK K
          try simp only [Act.put, List.setIfInBounds_toArray, List.set_cons_zero, List.set_cons_succ]
          refine wpAnyH_ready (rs := [8]) (by kernel_rfl) (by simp) ?_
          refine AllReadyH.cons rfl (fun K hK => ?_) AllReadyH.nil
          refine step_append_lies _ (by rfl) _ _ _ (by rfl) w.heap.size 22 i0 _ 1 24 Try.underlying59 hi0 hz0 hz1 hz2 rfl (by omega) (.slice A0 k k0) k vr' (by rfl) ((own_keepB HQ.out.tb fun g hg _ => B5.block g hg).alloc _) ⟨w5.heap.size, 0, none⟩ 1 1 [.slice A5 C q5] (by rfl) (by rfl) (World.news_of_block (cs := #[.slice A5 C q5]) (t := 22) (fr := (0, 0)) (heap_alloc_new w5 _)) (by simp [Value.oneCell']) (by omega) (by unfold maxLen; omega) (by omega) (by have := HQ.out.be.size; have := B5.size; simp; omega) (w5.heap.size + 1) (by simp) ?_
          intro gg cap' w6 hown1 hgrow hat hlt2
          have hs1 := (hgrow.cell_far ⟨w3.heap.size, 0, none⟩ (by have := B5.size; simp; omega) (ag.out ())).trans (s5' _)
          have hs2 := (hgrow.frozen_far ⟨w3.heap.size, 0, none⟩ (by have := B5.size; simp; omega) (ag.out ())).trans (f5 _)
          refine hK.out _ _ trivial (fun hHeld => ?_)
          clear hK K
          try simp only [Act.put, List.setIfInBounds_toArray, List.set_cons_zero, List.set_cons_succ]
          refine wpAnyH_take (i := 9) (oi := ⟨some 43, _, _, _, _, _⟩) (v := ?_) rfl (by kernel_rfl) (by kernel_rfl) (by kernel_rfl) (fun _ _ _ h => h) (Or.inl ⟨by rfl, ?_⟩) (by assumption) ?_
          rotate_left
          · intro w hSw; (try dsimp only at hSw); go_simp; (try with_reducible rfl)
          try simp only [Act.put, List.setIfInBounds_toArray, List.set_cons_zero, List.set_cons_succ]
          refine wpAnyH_take (i := 10) (oi := ⟨some 44, _, _, _, _, _⟩) (v := ?_) rfl (by kernel_rfl) (by kernel_rfl) (by kernel_rfl) (fun _ _ _ h => h) (Or.inl ⟨by rfl, ?_⟩) (by assumption) ?_
          rotate_left
          · intro w hSw; (try dsimp only at hSw); go_simp; (try with_reducible rfl)
          try simp only [Act.put, List.setIfInBounds_toArray, List.set_cons_zero, List.set_cons_succ]
          refine wpAnyH_ready (rs := [11]) (by kernel_rfl) (by simp) ?_
          refine AllReadyH.cons rfl (fun K hK => ?_) AllReadyH.nil
          (rw [if_pos (by rfl)]; go_simp)
          refine hK.out _ _ trivial (fun hHeld => ?_)
          clear hK K
          try simp only [Act.put, List.setIfInBounds_toArray, List.set_cons_zero, List.set_cons_succ]
          refine wpAnyH_done (by kernel_rfl) ?_ _
          obtain ⟨g9, rfl⟩ := o5_some hC0 o5
          have HE := Lib.hid (HQ.out.next hlt o5 B5 hown1 hgrow hat)
          clear o5 B5 b5 s5 s5' f5 hs1 hs2 hown1 hgrow hat HQ
          go_wp2_with fail
          exact ⟨⟨k + 1, _, _, _, by omega, by go_num, HE.out⟩, by simp [intOf]; omega⟩
        · (rw [if_pos (by rfl)]; go_simp)
          refine hK.out _ _ trivial (fun hHeld => ?_)
          clear hK K
          try simp only [Act.put, List.setIfInBounds_toArray, List.set_cons_zero, List.set_cons_succ]
          refine wpAnyH_ready (rs := [4]) (by kernel_rfl) (by simp) ?_
          refine AllReadyH.cons rfl (fun K hK => ?_) AllReadyH.nil
          (rw [if_pos (by rfl)]; go_simp)
          refine hK.out _ _ trivial (fun hHeld => ?_)
          clear hK K
          try simp only [Act.put, List.setIfInBounds_toArray, List.set_cons_zero, List.set_cons_succ]
          refine wpAnyH_ready (rs := [8]) (by kernel_rfl) (by simp) ?_
          refine AllReadyH.cons rfl (fun K hK => ?_) AllReadyH.nil
          refine step_append_lies _ (by rfl) _ _ _ (by rfl) w.heap.size 22 i0 _ 1 24 Try.underlying59 hi0 hz0 hz1 hz2 rfl (by omega) (.slice A0 k k0) k vr' (by rfl) ((own_keepB HQ.out.tb fun g hg _ => B5.block g hg).alloc _) ⟨w5.heap.size, 0, none⟩ 1 1 [.slice A5 C q5] (by rfl) (by rfl) (World.news_of_block (cs := #[.slice A5 C q5]) (t := 22) (fr := (0, 0)) (heap_alloc_new w5 _)) (by simp [Value.oneCell']) (by omega) (by unfold maxLen; omega) (by omega) (by have := HQ.out.be.size; have := B5.size; simp; omega) (w5.heap.size + 1) (by simp) ?_
          intro gg cap' w6 hown1 hgrow hat hlt2
          have hs1 := (hgrow.cell_far ⟨w3.heap.size, 0, none⟩ (by have := B5.size; simp; omega) (ag.out ())).trans (s5' _)
          have hs2 := (hgrow.frozen_far ⟨w3.heap.size, 0, none⟩ (by have := B5.size; simp; omega) (ag.out ())).trans (f5 _)
          refine hK.out _ _ trivial (fun hHeld => ?_)
          clear hK K
          try simp only [Act.put, List.setIfInBounds_toArray, List.set_cons_zero, List.set_cons_succ]
          refine wpAnyH_take (i := 9) (oi := ⟨some 43, _, _, _, _, _⟩) (v := ?_) rfl (by kernel_rfl) (by kernel_rfl) (by kernel_rfl) (fun _ _ _ h => h) (Or.inl ⟨by rfl, ?_⟩) (by assumption) ?_
          rotate_left
          · intro w hSw; (try dsimp only at hSw); go_simp; (try with_reducible rfl)
          try simp only [Act.put, List.setIfInBounds_toArray, List.set_cons_zero, List.set_cons_succ]
          refine wpAnyH_take (i := 10) (oi := ⟨some 44, _, _, _, _, _⟩) (v := ?_) rfl (by kernel_rfl) (by kernel_rfl) (by kernel_rfl) (fun _ _ _ h => h) (Or.inl ⟨by rfl, ?_⟩) (by assumption) ?_
          rotate_left
          · intro w hSw; (try dsimp only at hSw); go_simp; (try with_reducible rfl)
          try simp only [Act.put, List.setIfInBounds_toArray, List.set_cons_zero, List.set_cons_succ]
          refine wpAnyH_ready (rs := [11]) (by kernel_rfl) (by simp) ?_
          refine AllReadyH.cons rfl (fun K hK => ?_) AllReadyH.nil
          (rw [if_pos (by rfl)]; go_simp)
          refine hK.out _ _ trivial (fun hHeld => ?_)
          clear hK K
          try simp only [Act.put, List.setIfInBounds_toArray, List.set_cons_zero, List.set_cons_succ]
          refine wpAnyH_done (by kernel_rfl) ?_ _
          obtain ⟨g9, rfl⟩ := o5_some hC0 o5
          have HE := Lib.hid (HQ.out.next hlt o5 B5 hown1 hgrow hat)
          clear o5 B5 b5 s5 s5' f5 hs1 hs2 hown1 hgrow hat HQ
          go_wp2_with fail
          exact ⟨⟨k + 1, _, _, _, by omega, by go_num, HE.out⟩, by simp [intOf]; omega⟩
    · obtain rfl : k = N.cs.length := by omega
      have hk1 : ¬ ((N.cs.length : Int) < (N.cs.length : Int)) := by omega
      have HE := Lib.hid (show CopyE C N w (.returned (.pointer (some ⟨w3.heap.size, 0, none⟩))) _ from ⟨_, (hQ.done HL1.out).choose, rfl, (hQ.done HL1.out).choose_spec.1, (hQ.done HL1.out).choose_spec.2, hQ.be⟩)
      clear hQ
      go_wp2_with fail
      go_ret
      exact HE.out
end Go.Proofs.Ytimmmbjdaibplaa
