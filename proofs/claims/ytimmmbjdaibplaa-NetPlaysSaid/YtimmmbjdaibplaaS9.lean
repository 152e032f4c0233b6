/-
  Layer 17: the walk of the document's Copy, to its end.
-/
import Derived.Test.YtimmmbjdaibplaaS8
namespace Go.Proofs.Ytimmmbjdaibplaa
open Go.RowKit
open Nt
set_option linter.unusedVariables false
set_option linter.unusedSimpArgs false

theorem below_grown_d {wx w1 : World} {o : Obj} {g0 : Nat} (h : ((wx.alloc o).drew).grownBy w1 (some g0)) (hg : wx.heap.size ≤ g0) : Below wx.heap.size wx w1 :=
  ((Below.refl _ wx).alloc (Nat.le_refl _) o).drew.grown h (by simp) fun k hk => by cases hk; exact hg
def RCopyE (P C : Nat) (N : Nt.Net) (w : World) (e : Ending) (w' : World) : Prop := e = .returned (.pointer (some ⟨w.heap.size, 0, none⟩)) ∧ ∃ T, RefX w' w.heap.size P C T N ∧ (∀ k ∈ T, w.heap.size ≤ k) ∧ Below w.heap.size w w'
theorem msgV_one (x : Msg) : ∀ u ∈ msgV x, u.oneCell' = true := by
  intro u hu
  simp only [msgV, List.mem_cons, List.not_mem_nil, or_false] at hu
  rcases hu with rfl | rfl | rfl | rfl | rfl | rfl <;> rfl
theorem rhV_one (x : Hd) : ∀ u ∈ rhV x, u.oneCell' = true := by
  intro u hu
  simp only [rhV, List.mem_cons, List.not_mem_nil, or_false] at hu
  rcases hu with rfl | rfl | rfl <;> rfl
set_option maxHeartbeats 16000000 in
set_option maxRecDepth 100000 in
theorem rcopy_at (b P C : Nat) (T : List Nat) (N : Nt.Net) (w : World) (h : RefX w b P C T N) (hw : Wf P C N) (hP0 : 1 ≤ P) (hP : P ≤ 8) (hC : C ≤ 64) :
    Calls Try.prog 20 #[.pointer (some ⟨b, 0, none⟩)] w (RCopyE P C N w) := by
  obtain ⟨vv, vf, vh, vc, vr, vb, rs, hT, hN⟩ := h
  obtain ⟨b0, b1, b2, b3, b4, b5⟩ := hN.cells
  have lb := blk_lt hN.hd
  obtain ⟨ii, hi0, hi1, hi2, hi3⟩ := info_parts infoInt
  obtain ⟨ir, hr0', hr1', hr2', hr3'⟩ := info_parts infoRow
  obtain ⟨im, hm0, hm1, hm2, hm3⟩ := info_parts infoMsg
  obtain ⟨ih, hh0, hh1, hh2, hh3⟩ := info_parts infoRH
  obtain ⟨A2, k2, rfl, -⟩ := hN.va.form
  obtain ⟨A3, k3, rfl, -⟩ := hN.fo.form
  obtain ⟨A4, k4, rfl, -⟩ := hN.ho.form
  obtain ⟨A5, k5, rfl, -⟩ := hN.co.form
  have hPC : P * C ≤ 512 := Nat.mul_le_mul hP hC
  have hfl := hw.fl
  have hhs := hw.hs
  have VA := Lib.hid hN.va
  have FO := Lib.hid hN.fo
  have HO := Lib.hid hN.ho
  have LB := Lib.hid lb
  have hPP : P * P ≤ 64 := Nat.mul_le_mul hP hP
  have hqpos : 0 < P * P := Nat.mul_pos (by omega) (by omega)
  obtain ⟨q, hq⟩ : ∃ q, P * P = q := ⟨_, rfl⟩
  obtain ⟨tb, rfl⟩ : ∃ tb, A5 = some ⟨tb, 0, none⟩ := by
    obtain ⟨A, cap, e, hA, -⟩ := hN.co.form
    cases e
    exact hA hqpos
  have HROW := Lib.hid (show ∀ i, i < q → ∃ r kr, w.cell? ⟨tb, i, none⟩ = some (.slice (some ⟨r, 0, none⟩) 5 kr) ∧ Loose w 3 1 (.slice (some ⟨r, 0, none⟩) 5 kr) 5 (intL (cntRow P N.sent i)) from fun i hi => by
    obtain ⟨kk, r1, r2⟩ := hN.row i (by rw [hN.rl, hq]; exact hi)
    exact ⟨_, kk, hN.co.cellAt r1, r2⟩)
  have HLT := Lib.hid (show tb < w.heap.size from hN.co.lt rfl)
  have HQ := Lib.hid hq
  have B5 := Lib.hid b5
  rw [hq] at B5 hPP
  have hqq : (q : Int) ≤ 64 := by omega
  rw [hq] at b5
  clear hN hT hq hqpos hw lb
  go_enter Try.func20, Try.ntmps20
  go_upto_region 1 with fail
  go_cut [3] (fun x wx => x = .pointer (some ⟨w.heap.size, 0, none⟩) ∧ Cp w.heap.size P C (.slice A2 (P * C) k2) (.slice A3 N.fl.length k3) (.slice A4 N.hs.length k4) (.slice (some ⟨tb, 0, none⟩) q k5) w wx)
  case first =>
    go_wp2_with fail
    go_meet
    exact ⟨rfl, heap_alloc_new w _, (Below.refl _ _).alloc (Nat.le_refl _) _, rfl⟩
  case rest =>
    clear b0 b1 b5
    obtain ⟨rfl, hc⟩ := hcut
    have x0 := fun o => cell_alloc (o := o) ((hc.be.cell (p := ⟨b, 2, none⟩) LB.out).trans b2)
    have hHl := hc.lt
    have CC := Lib.hid hc
    clear hc
    go_upto_region 2 with fail
    go_cut [] (fun wx => ∃ v2, Cp w.heap.size P C v2 (.slice A3 N.fl.length k3) (.slice A4 N.hs.length k4) (.slice (some ⟨tb, 0, none⟩) q k5) w wx ∧ OwnL w.heap.size wx 3 1 v2 (P * C) (intL N.cs.flatten))
    case first =>
      go_wp2_with (at_builtin; go_must (refine wpList_append_all _ rfl _ _ 22 rfl 3 ii _ 1 8 Try.underlying22 hi0 hi1 hi2 hi3 rfl (by decide) _ 0 rfl (loose_fresh _ _ _) _ (P * C) (intL N.cs.flatten) rfl (VA.out.below ((CC.out.be).alloc (Nat.le_of_lt hHl) _)) (intL_one _) (by unfold maxLen; omega) (by omega) ?_))
      intro g cap w3 hl hg hat
      have hb3 := below_grown hg (Nat.le_refl _)
      have s1 := (hb3.cell (p := ⟨w.heap.size, 2, none⟩) hHl).trans (blk_cell CC.out.hd 2)
      have s2 := (hb3.frozen (p := ⟨w.heap.size, 2, none⟩) hHl).trans (blk_free CC.out.hd 2)
      have HX := Lib.hid (And.intro (CC.out.put2 hb3 (.slice (some ⟨g, 0, none⟩) (P * C) cap)) (ownL_new hHl hl hat 2 (.slice (some ⟨g, 0, none⟩) (P * C) cap)))
      clear hl hg hat hb3 x0 CC
      go_wp2_with fail
      go_meet
      exact ⟨_, HX.out.1, HX.out.2⟩
    case rest =>
      clear CC x0 hHl
      obtain ⟨v2, hc, ho2⟩ := hcut
      have x0 := fun o => cell_alloc (o := o) ((hc.be.cell (p := ⟨b, 3, none⟩) LB.out).trans b3)
      have hHl := hc.lt
      have CC := Lib.hid hc
      clear hc
      go_upto_region 3 with fail
      go_cut [] (fun wx => ∃ v2 v3, Cp w.heap.size P C v2 v3 (.slice A4 N.hs.length k4) (.slice (some ⟨tb, 0, none⟩) q k5) w wx ∧ OwnL w.heap.size wx 3 1 v2 (P * C) (intL N.cs.flatten) ∧ OwnL w.heap.size wx 74 6 v3 N.fl.length (N.fl.flatMap msgV))
      case first =>
        go_wp2_with (at_builtin; go_must (refine wpList_append_all _ rfl _ _ 33 rfl 74 im _ 6 48 Try.underlying33 hm0 hm1 hm2 hm3 rfl (by decide) _ 0 rfl (loose_fresh _ _ _) _ N.fl.length (N.fl.flatMap msgV) rfl (FO.out.below ((CC.out.be).alloc (Nat.le_of_lt hHl) _)) (flat_one msgV_one _) (by unfold maxLen; omega) (by omega) ?_))
        intro g cap w3 hl hg hat
        have hb3 := below_grown hg (Nat.le_refl _)
        have s1 := (hb3.cell (p := ⟨w.heap.size, 3, none⟩) hHl).trans (blk_cell CC.out.hd 3)
        have s2 := (hb3.frozen (p := ⟨w.heap.size, 3, none⟩) hHl).trans (blk_free CC.out.hd 3)
        have HX := Lib.hid (And.intro (CC.out.put3 hb3 (.slice (some ⟨g, 0, none⟩) N.fl.length cap)) (ownL_new hHl hl hat 3 (.slice (some ⟨g, 0, none⟩) N.fl.length cap)))
        have HO2 := Lib.hid (ho2.put hb3 3 (.slice (some ⟨g, 0, none⟩) N.fl.length cap))
        clear hl hg hat hb3 x0 CC ho2
        go_wp2_with fail
        go_meet
        exact ⟨v2, _, HX.out.1, HO2.out, HX.out.2⟩
      case rest =>
        clear CC x0 hHl ho2
        obtain ⟨v2, v3, hc, ho2, ho3⟩ := hcut
        have x0 := fun o => cell_alloc (o := o) ((hc.be.cell (p := ⟨b, 4, none⟩) LB.out).trans b4)
        have hHl := hc.lt
        have CC := Lib.hid hc
        clear hc
        go_upto_region 4 with fail
        go_cut [] (fun wx => ∃ v2 v3 v4, Cp w.heap.size P C v2 v3 v4 (.slice (some ⟨tb, 0, none⟩) q k5) w wx ∧ OwnL w.heap.size wx 3 1 v2 (P * C) (intL N.cs.flatten) ∧ OwnL w.heap.size wx 74 6 v3 N.fl.length (N.fl.flatMap msgV) ∧ OwnL w.heap.size wx 101 3 v4 N.hs.length (N.hs.flatMap rhV))
        case first =>
          go_wp2_with (at_builtin; go_must (refine wpList_append_all _ rfl _ _ 58 rfl 101 ih _ 3 24 Try.underlying58 hh0 hh1 hh2 hh3 rfl (by decide) _ 0 rfl (loose_fresh _ _ _) _ N.hs.length (N.hs.flatMap rhV) rfl (HO.out.below ((CC.out.be).alloc (Nat.le_of_lt hHl) _)) (flat_one rhV_one _) (by unfold maxLen; omega) (by omega) ?_))
          intro g cap w3 hl hg hat
          have hb3 := below_grown hg (Nat.le_refl _)
          have s1 := (hb3.cell (p := ⟨w.heap.size, 4, none⟩) hHl).trans (blk_cell CC.out.hd 4)
          have s2 := (hb3.frozen (p := ⟨w.heap.size, 4, none⟩) hHl).trans (blk_free CC.out.hd 4)
          have HX := Lib.hid (And.intro (CC.out.put4 hb3 (.slice (some ⟨g, 0, none⟩) N.hs.length cap)) (ownL_new hHl hl hat 4 (.slice (some ⟨g, 0, none⟩) N.hs.length cap)))
          have HO2 := Lib.hid (ho2.put hb3 4 (.slice (some ⟨g, 0, none⟩) N.hs.length cap))
          have HO3 := Lib.hid (ho3.put hb3 4 (.slice (some ⟨g, 0, none⟩) N.hs.length cap))
          clear hl hg hat hb3 x0 CC ho2 ho3
          go_wp2_with fail
          go_meet
          exact ⟨v2, v3, _, HX.out.1, HO2.out, HO3.out, HX.out.2⟩
        case rest =>
          clear CC x0 hHl ho2 ho3
          obtain ⟨v2, v3, v4, hc, ho2, ho3, ho4⟩ := hcut
          have hHl := hc.lt
          have s1 := blk_cell hc.hd 5
          have s2 := blk_free hc.hd 5
          have HC := Lib.hid hc
          have HS := Lib.hid (And.intro ho2 (And.intro ho3 ho4))
          clear hc ho2 ho3 ho4
          go_upto_region 5 with fail
          go_cut [] (fun wx => ∃ v5 vr' rs', Lp w.heap.size P C v2 v3 v4 v5 N w wx 0 vr' rs')
          case first =>
            have HX := Lib.hid (HC.out.put5 (Below.refl _ _) (.slice none 0 0))
            have H2 := Lib.hid (HS.out.1.put (Below.refl _ _) 5 (.slice none 0 0))
            have H3 := Lib.hid (HS.out.2.1.put (Below.refl _ _) 5 (.slice none 0 0))
            have H4 := Lib.hid (HS.out.2.2.put (Below.refl _ _) 5 (.slice none 0 0))
            clear HC HS
            go_wp2_with fail
            go_meet
            exact ⟨_, [], [], HX.out, H2.out, H3.out, H4.out, Loose.nil _ _ _, (fun g hg => by simp [Value.ownBlock] at hg), rfl, (fun i hi => absurd hi (by simp)), List.nodup_nil, fun g hg => by simp⟩
          case rest =>
            clear HC HS s1 s2 hHl
            obtain ⟨v5, vr', rs', hL⟩ := hcut
            have H0 := Lib.hid hL
            clear hL
            go_wp2_with fail
            go_loopw [4] (fun x wr => ∃ (k : Nat) (v5 : Value) (vr' : List Value) (rs' : List Nat), k ≤ q ∧ x = .int .i64 k ∧ Lp w.heap.size P C v2 v3 v4 v5 N w wr k vr' rs') (fun x _ => q - (intOf x).toNat)
            case atStart => exact ⟨0, _, _, _, Nat.zero_le _, rfl, H0.out⟩
            case round =>
              clear H0
              obtain ⟨k, v5, vr', rs', hk, rfl, hL⟩ := hrel
              have hk0 : (0 : Int) ≤ (k : Int) := by omega
              have hHl := hL.cp.lt
              have x5 := (hL.cp.be.cell (p := ⟨b, 5, none⟩) LB.out).trans B5.out
              by_cases hlt : k < q
              · have hk1 : (k : Int) < (q : Int) := by omega
                obtain ⟨r, kr, hr0, hrow⟩ := HROW.out k hlt
                have hrl : Loose _ 3 1 (.slice (some ⟨r, 0, none⟩) 5 kr) 5 (intL (cntRow P N.sent k)) := hrow.below (hL.cp.eq ▸ hL.cp.be)
                have xr := (hL.cp.be.cell (p := ⟨tb, k, none⟩) HLT.out).trans hr0
                have x9 := blk_cell hL.cp.hd 5
                obtain ⟨A9, c9, hv5, -, -⟩ := hL.o5.form
                subst hv5
                have HL := Lib.hid hL
                have x5' := fun o => cell_alloc (o := o) x5
                have xr' := fun o => cell_alloc (o := o) xr
                have x9' := fun o => cell_alloc (o := o) x9
                have hfr : Hid (Loose ((wr.alloc (.cells #[] 3)).drew) 3 1 (.slice (some ⟨wr.heap.size, 0, none⟩) 0 0) 0 []) := loose_fresh wr _ _
                have hrl2 : Hid (Loose ((wr.alloc (.cells #[] 3)).drew) 3 1 (.slice (some ⟨r, 0, none⟩) 5 kr) 5 (intL (cntRow P N.sent k))) := hrl.below ((Below.refl _ wr).alloc (Nat.le_refl _) _).drew
                have hne5 : Hid (∀ x : Unit, (some w.heap.size : Option Nat) ≠ (Value.slice A9 k c9).ownBlock) := fun _ e => Nat.lt_irrefl _ (hL.b5 _ e.symm)
                have hd5 := Lib.hid (blk_free hL.cp.hd 5)
                clear hL hrl hrow hr0
                go_wp2_with fail
                go_region_law
                  ((first
                    | (refine step_append_all _ (by rfl) _ _ _ (by rfl) 3 ii _ 1 8 Try.underlying22 hi0 hi1 hi2 hi3 rfl (by omega) wr.heap.size 0 (by rfl) hfr.out (.slice (some ⟨r, 0, none⟩) 5 kr) 5 (intL (cntRow P N.sent k)) (by rfl) hrl2.out (intL_one _) (by unfold maxLen; omega) (by omega) ?_; intro g cap w3 hl hg hat; have hb3 := below_grown_d hg (Nat.le_refl _); have t9 := (hb3.cell (p := ⟨w.heap.size, 5, none⟩) hHl).trans x9; have t9' := fun o => cell_alloc (o := o) t9; have tf := fun o => free_alloc (o := o) t9 ((hb3.frozen (p := ⟨w.heap.size, 5, none⟩) hHl).trans hd5.out))
                    | (refine step_append_loose _ (by rfl) _ _ _ (by rfl) 22 ir _ 1 24 Try.underlying59 hr0' hr1' hr2' hr3' rfl (by omega) (.slice A9 k c9) k vr' (by rfl) ((HL.out.o5.below hb3).below ((Below.refl _ _).alloc (Nat.le_refl _) _)) ⟨w3.heap.size, 0, none⟩ 1 1 [.slice (some ⟨g, 0, none⟩) 5 cap] (by rfl) (by rfl) (World.news_of_block (cs := #[.slice (some ⟨g, 0, none⟩) 5 cap]) (t := 22) (fr := (0, 0)) (heap_alloc_new w3 _)) (by simp [Value.oneCell']) (by unfold maxLen; omega) (by omega) (.inr (by omega)) (w3.heap.size + 1) (by simp) ?_; intro g5 cap5 w4 hl5 hg5 hat5 hlt5; have s9 := (hg5.cell_far ⟨w.heap.size, 5, none⟩ (by have := hb3.size; simp; omega) (hne5.out ())).trans (t9' _); have f9 := (hg5.frozen_far ⟨w.heap.size, 5, none⟩ (by have := hb3.size; simp; omega) (hne5.out ())).trans (tf _))))
                all_goals
                  have HL2 := Lib.hid (HL.out.next hl hb3 (by simpa using hat) hl5 hg5 hat5)
                  clear hl hb3 hat hl5 hg5 hat5 HL hfr hrl2 hne5 hd5 x5 xr x9 x5' xr' x9' hHl t9 t9' tf hg hlt5
                  go_wp2_with fail
                  exact ⟨⟨k + 1, _, _, _, by omega, by go_num, HL2.out⟩, by simp [intOf]; omega⟩
              · obtain rfl : k = q := by omega
                have hk1 : ¬ ((k : Int) < (k : Int)) := by omega
                have HE := Lib.hid (show RCopyE P C N w (.returned (.pointer (some ⟨w.heap.size, 0, none⟩))) _ from ⟨rfl, Lp.done (by rw [HQ.out]; exact hL)⟩)
                clear hL hHl
                go_wp2_with fail
                go_ret
                exact HE.out
end Go.Proofs.Ytimmmbjdaibplaa
