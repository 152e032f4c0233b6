/-
  Layer 9: the walks of Same of both, and of slices.Equal over formals.
-/
import Derived.Test.YtdmdfokkibijjaaGreatDoorSW30
namespace Go.Proofs.YtdmdfokkibijjaaGreatDoor
open Go.RowKit
open Sgn
set_option linter.unusedVariables false
set_option linter.unusedSimpArgs false

def eqF (p : F × F) : Bool := (p.1.k.toList == p.2.k.toList) && (p.1.n == p.2.n)
def sameFs (fs gs : List F) : Bool := decide (fs.length = gs.length) && (List.zip fs gs).all eqF
theorem zipF_at {fs gs : List F} (k : Nat) (h1 : k < fs.length) (h2 : k < gs.length) : ∃ h : k < (List.zip fs gs).length, (List.zip fs gs)[k] = (fs[k], gs[k]) :=
  ⟨by rw [List.length_zip]; omega, List.getElem_zip⟩
def sameG (s t : G) : Bool := (s.name.toList == t.name.toList) && ((s.res.toList == t.res.toList) && sameFs s.fs t.fs)

set_option maxHeartbeats 4000000 in
set_option maxRecDepth 100000 in
theorem equalFs (fs gs : List F) (v u : Value) (w : World) (hv : FSl w v fs) (hu : FSl w u gs) :
    Calls Tryz.prog 25 #[v, u] w fun e w' => e = .returned (.bool (sameFs fs gs)) ∧ Below w.heap.size w w' := by
  obtain ⟨A, cap, rfl, hca, hma, hA⟩ := hv
  obtain ⟨B, cap2, rfl, hcb, hmb, hB⟩ := hu
  have HA : Hid (0 < fs.length → ∃ b off, A = some ⟨b, off, none⟩ ∧ FCells w b off fs) := hA
  have HB : Hid (0 < gs.length → ∃ b off, B = some ⟨b, off, none⟩ ∧ FCells w b off gs) := hB
  have hmax : maxLen = 9223372036854775807 := rfl
  rw [hmax] at hma hmb
  clear hA hB hmax
  by_cases hl : fs.length = gs.length
  · have hl' : ((fs.length : Int) != (gs.length : Int)) = false := by rw [hl]; simp
    obtain ⟨V, hV⟩ : ∃ V, sameFs fs gs = V := ⟨_, rfl⟩
    have HE := fun h => hide' (all_done eqF (List.zip fs gs) (List.zip fs gs).length (Nat.le_refl _) h)
    have HH := fun k hk h => hide' (all_fail eqF (List.zip fs gs) k hk h)
    have HV := hide' hV
    have hsame : sameFs fs gs = (List.zip fs gs).all eqF := by unfold sameFs; rw [decide_eq_true hl, Bool.true_and]
    have HSA := hide' (hsame.symm.trans hV)
    have HL := hide' hl
    rw [hV]
    clear hV hsame hl
    go_enter Tryz.func25, Tryz.ntmps25
    go_wp2_with fail
    go_loopw [13] (fun i wr => ∃ (k : Nat), k ≤ fs.length ∧ i = .int .i64 k ∧ Below w.heap.size w wr ∧ Hid (∀ x ∈ (List.zip fs gs).take k, eqF x = true)) (fun i _ => fs.length - (intOf i).toNat)
    case atStart => exact ⟨0, Nat.zero_le _, rfl, Below.refl _ _, (fun f hf => by simp at hf)⟩
    case round =>
      obtain ⟨k, hk, rfl, hnx, hd⟩ := hrel
      by_cases hlt : k < fs.length
      · have hlt2 : k < gs.length := by have := HL.out; omega
        obtain ⟨b, off, rfl, hCA⟩ := HA.out (by omega)
        obtain ⟨b2, off2, rfl, hCB⟩ := HB.out (by omega)
        obtain ⟨x1, x2⟩ := (hCA.on hnx) k hlt
        obtain ⟨y1, y2⟩ := (hCB.on hnx) k hlt2
        obtain ⟨hz, hze⟩ := zipF_at k hlt hlt2
        have hno := fun h => HH k hz h
        have hyes := fun h => hide' (all_upto eqF (List.zip fs gs) k hz hd.out h)
        rw [hze] at hno hyes
        have hki : (0 : Int) ≤ (k : Int) := by omega
        have hk1 : (k : Int) < (fs.length : Int) := by omega
        have hk2 : (k : Int) < (gs.length : Int) := by omega
        unfold eqF at hno hyes
        obtain ⟨k1, hk1'⟩ : ∃ t, fs[k].k = t := ⟨_, rfl⟩
        obtain ⟨n1, hn1'⟩ : ∃ t, fs[k].n = t := ⟨_, rfl⟩
        obtain ⟨k2, hk2'⟩ : ∃ t, gs[k].k = t := ⟨_, rfl⟩
        obtain ⟨n2, hn2'⟩ : ∃ t, gs[k].n = t := ⟨_, rfl⟩
        simp only [hk1', hn1', hk2', hn2'] at x1 x2 y1 y2 hno hyes
        have HNO := hide' hno
        have HYES := hide' hyes
        clear hk1' hn1' hk2' hn2' hno hyes hCA hCB HA HB hd HE HH hze
        cases q1 : (k1.toList == k2.toList) <;> cases q2 : (n1 == n2)
        · have hfin := hide' ((HNO.out (by simp only [q1, q2]; rfl)).out.symm.trans HSA.out)
          clear HNO HYES HSA HV
          go_wp2_with fail
          go_quiet (fail)
          go_wp2_with fail
          go_ret
          exact ⟨by have e := hfin.out; subst e; rfl, below_draws hnx _⟩
        · have hfin := hide' ((HNO.out (by simp only [q1, q2]; rfl)).out.symm.trans HSA.out)
          clear HNO HYES HSA HV
          go_wp2_with fail
          go_quiet (fail)
          go_wp2_with fail
          go_ret
          exact ⟨by have e := hfin.out; subst e; rfl, below_draws hnx _⟩
        · have hfin := hide' ((HNO.out (by simp only [q1, q2]; rfl)).out.symm.trans HSA.out)
          clear HNO HYES HSA HV
          go_wp2_with fail
          go_quiet (fail)
          go_wp2_with fail
          go_ret
          exact ⟨by have e := hfin.out; subst e; rfl, below_draws hnx _⟩
        · have hd' := (HYES.out (by simp only [q1, q2]; rfl))
          clear HNO HYES HSA HV
          go_wp2_with fail
          go_quiet (fail)
          go_wp2_with fail
          go_roundw
          case rel => exact ⟨k + 1, by omega, by go_num, below_draws hnx _, hd'⟩
          case measure => simp [intOf]; omega
      · have hfin := hide' ((all_done eqF (List.zip fs gs) k (by rw [List.length_zip]; omega) hd.out).symm.trans HSA.out)
        clear HA HB hd HE HH HSA HV
        go_wp2_with fail
        go_ret
        exact ⟨by have e := hfin.out; subst e; rfl, hnx⟩
  · have hl' : ((fs.length : Int) != (gs.length : Int)) = true := by rw [bne_iff_ne]; omega
    have hs := hide' (show sameFs fs gs = false by unfold sameFs; simp [hl])
    clear HA HB hl
    go_enter Tryz.func25, Tryz.ntmps25
    go_wp2_with fail
    go_ret
    exact ⟨by (rw [hs.out]; first | done | rfl), Below.refl _ _⟩

set_option maxHeartbeats 4000000 in
set_option maxRecDepth 100000 in
theorem Same9_any (s t : G) (v u : Value) (w : World) (hv : GV w v s) (hu : GV w u t) :
    Calls Tryz.prog 12 #[v, u] w fun e w' => e = .returned (.bool (sameG s t)) ∧ Below w.heap.size w w' := by
  obtain ⟨X, rfl, hX⟩ := hv
  obtain ⟨Y, rfl, hY⟩ := hu
  have HE := fun w1 (hb : Below w.heap.size w w1) => hide' (equalFs s.fs t.fs X Y w1 (hX.on hb) (hY.on hb))
  obtain ⟨A, cap, rfl, hca, hma, hA⟩ := hX
  obtain ⟨B, cap2, rfl, hcb, hmb, hB⟩ := hY
  have CB : Hid (∀ w1, Below ((w.alloc (.cells #[.string s.name, .slice A s.fs.length cap, .string s.res] 25)).alloc (.cells #[.string t.name, .slice B t.fs.length cap2, .string t.res] 25)).heap.size ((w.alloc (.cells #[.string s.name, .slice A s.fs.length cap, .string s.res] 25)).alloc (.cells #[.string t.name, .slice B t.fs.length cap2, .string t.res] 25)) w1 → _) := fun w1 hb => box33 hb
  obtain ⟨q3, hq3⟩ : ∃ q, sameFs s.fs t.fs = q := ⟨_, rfl⟩
  have hG : sameG s t = ((s.name.toList == t.name.toList) && ((s.res.toList == t.res.toList) && q3)) := by unfold sameG; rw [hq3]
  rw [hq3] at HE
  obtain ⟨n1, fs, r1⟩ := s
  obtain ⟨n2, fs', r2⟩ := t
  simp only at HE CB hca hma hcb hmb hG
  have HG := hide' hG
  clear hG hq3 hA hB
  go_enter Tryz.func12, Tryz.ntmps12
  obtain ⟨d1, d2, d3, d4, d5, d6⟩ := CB.out _ (Below.refl _ _)
  clear CB
  cases q1 : (n1.toList == n2.toList)
  · have hg := hide' (show sameG ⟨n1, fs, r1⟩ ⟨n2, fs', r2⟩ = false by rw [HG.out, q1]; rfl)
    go_wp2_with fail
    go_ret
    exact ⟨by (rw [hg.out]; first | done | rfl), box2_below (Below.refl _ _)⟩
  · cases q2 : (r1.toList == r2.toList)
    · have hg := hide' (show sameG ⟨n1, fs, r1⟩ ⟨n2, fs', r2⟩ = false by rw [HG.out, q1, q2]; rfl)
      go_wp2_with fail
      go_ret
      exact ⟨by (rw [hg.out]; first | done | rfl), box2_below (Below.refl _ _)⟩
    · have hg := hide' (show sameG ⟨n1, fs, r1⟩ ⟨n2, fs', r2⟩ = q3 by rw [HG.out, q1, q2]; rfl)
      go_wp2_with fail
      refine (HE _ (box2_below (Below.refl _ _))).out.mono ?_
      rintro e w2 ⟨rfl, hb2⟩
      have hend := box2_below hb2
      clear HE hb2
      go_wp2_with fail
      go_ret
      exact ⟨by (rw [hg.out]; first | done | rfl), hend⟩

set_option maxHeartbeats 8000000 in
set_option maxRecDepth 100000 in
theorem rSame9_any (s t : G) (v u : Value) (w : World) (hv : GV w v s) (hu : GV w u t) :
    Calls Tryz.prog 8 #[v, u] w fun e w' => e = .returned (.bool (sameG s t)) ∧ Below w.heap.size w w' := by
  obtain ⟨X, rfl, A, cap, rfl, hca, hma, hA⟩ := hv
  obtain ⟨Y, rfl, B, cap2, rfl, hcb, hmb, hB⟩ := hu
  have CB : Hid (∀ w1, Below ((w.alloc (.cells #[.string s.name, .slice A s.fs.length cap, .string s.res] 25)).alloc (.cells #[.string t.name, .slice B t.fs.length cap2, .string t.res] 25)).heap.size ((w.alloc (.cells #[.string s.name, .slice A s.fs.length cap, .string s.res] 25)).alloc (.cells #[.string t.name, .slice B t.fs.length cap2, .string t.res] 25)) w1 → _) := fun w1 hb => box33 hb
  have hG : sameG s t = ((s.name.toList == t.name.toList) && ((s.res.toList == t.res.toList) && sameFs s.fs t.fs)) := rfl
  obtain ⟨n1, fs, r1⟩ := s
  obtain ⟨n2, gs, r2⟩ := t
  simp only at CB hca hma hcb hmb hG hA hB
  have HG := hide' hG
  have HA : Hid (0 < fs.length → ∃ b off, A = some ⟨b, off, none⟩ ∧ FCells w b off fs) := hA
  have HB : Hid (0 < gs.length → ∃ b off, B = some ⟨b, off, none⟩ ∧ FCells w b off gs) := hB
  have hmax : maxLen = 9223372036854775807 := rfl
  rw [hmax] at hma hmb
  clear hG hA hB hmax
  go_enter Tryz.func8, Tryz.ntmps8
  obtain ⟨d1, d2, d3, d4, d5, d6⟩ := CB.out _ (Below.refl _ _)
  cases q1 : (n1.toList == n2.toList)
  · have hg := hide' (show sameG ⟨n1, fs, r1⟩ ⟨n2, gs, r2⟩ = false by rw [HG.out, q1]; rfl)
    have q1' : (n1.toList != n2.toList) = true := by simp only [bne, q1]; rfl
    clear HG HA HB CB
    go_wp2_with fail
    go_ret
    exact ⟨by (rw [hg.out]; first | done | rfl), box2_below (Below.refl _ _)⟩
  · have q1' : (n1.toList != n2.toList) = false := by simp only [bne, q1]; rfl
    cases q2 : (r1.toList == r2.toList)
    · have hg := hide' (show sameG ⟨n1, fs, r1⟩ ⟨n2, gs, r2⟩ = false by rw [HG.out, q1, q2]; rfl)
      have q2' : (r1.toList != r2.toList) = true := by simp only [bne, q2]; rfl
      clear HG HA HB CB
      go_wp2_with fail
      go_ret
      exact ⟨by (rw [hg.out]; first | done | rfl), box2_below (Below.refl _ _)⟩
    · have hg := hide' (show sameG ⟨n1, fs, r1⟩ ⟨n2, gs, r2⟩ = sameFs fs gs by rw [HG.out, q1, q2]; rfl)
      have q2' : (r1.toList != r2.toList) = false := by simp only [bne, q2]; rfl
      clear HG
      by_cases hl : fs.length = gs.length
      · have hl' : ((fs.length : Int) != (gs.length : Int)) = false := by rw [hl]; simp
        obtain ⟨V, hV⟩ : ∃ V, sameFs fs gs = V := ⟨_, rfl⟩
        have hsame : sameFs fs gs = (List.zip fs gs).all eqF := by unfold sameFs; rw [decide_eq_true hl, Bool.true_and]
        have HSA := hide' (hsame.symm.trans hV)
        have HGV := hide' (hg.out.trans hV)
        have HL := hide' hl
        have HH := fun k hk h => hide' (all_fail eqF (List.zip fs gs) k hk h)
        clear hV hsame hl hg
        go_wp2_with fail
        clear d1 d2 d3 d4 d5 d6
        go_loopw [5] (fun i wr => ∃ (k : Nat), k ≤ fs.length ∧ i = .int .i64 k ∧ Below ((w.alloc (.cells #[.string n1, .slice A fs.length cap, .string r1] 25)).alloc (.cells #[.string n2, .slice B gs.length cap2, .string r2] 25)).heap.size ((w.alloc (.cells #[.string n1, .slice A fs.length cap, .string r1] 25)).alloc (.cells #[.string n2, .slice B gs.length cap2, .string r2] 25)) wr ∧ Hid (∀ x ∈ (List.zip fs gs).take k, eqF x = true)) (fun i _ => fs.length - (intOf i).toNat)
        case atStart => exact ⟨0, Nat.zero_le _, rfl, Below.refl _ _, (fun f hf => by simp at hf)⟩
        case round =>
          obtain ⟨k, hk, rfl, hnx, hd⟩ := hrel
          have HNX := hide' hnx
          by_cases hlt : k < fs.length
          · have hlt2 : k < gs.length := by have := HL.out; omega
            obtain ⟨b, off, rfl, hCA⟩ := HA.out (by omega)
            obtain ⟨b2, off2, rfl, hCB⟩ := HB.out (by omega)
            obtain ⟨d1, d2, d3, d4, d5, d6⟩ := CB.out _ hnx
            obtain ⟨x1, x2⟩ := (hCA.on (box2_below hnx)) k hlt
            obtain ⟨y1, y2⟩ := (hCB.on (box2_below hnx)) k hlt2
            obtain ⟨hz, hze⟩ := zipF_at k hlt hlt2
            have hno := fun h => HH k hz h
            have hyes := fun h => hide' (all_upto eqF (List.zip fs gs) k hz hd.out h)
            rw [hze] at hno hyes
            have hki : (0 : Int) ≤ (k : Int) := by omega
            have hk1 : (k : Int) < (fs.length : Int) := by omega
            have hk2 : (k : Int) < (gs.length : Int) := by omega
            unfold eqF at hno hyes
            obtain ⟨k1, hk1'⟩ : ∃ t, fs[k].k = t := ⟨_, rfl⟩
            obtain ⟨m1, hn1'⟩ : ∃ t, fs[k].n = t := ⟨_, rfl⟩
            obtain ⟨k2, hk2'⟩ : ∃ t, gs[k].k = t := ⟨_, rfl⟩
            obtain ⟨m2, hn2'⟩ : ∃ t, gs[k].n = t := ⟨_, rfl⟩
            simp only [hk1', hn1', hk2', hn2'] at x1 x2 y1 y2 hno hyes
            have HNO := hide' hno
            have HYES := hide' hyes
            clear hk1' hn1' hk2' hn2' hno hyes hCA hCB HA HB hd HH hze CB d1 d3 d4 d6 hnx q1 q2 q1' q2' hl'
            cases q1 : (k1.toList == k2.toList) <;> cases q2 : (m1 == m2)
            · have hfin := hide' ((HNO.out (by simp only [q1, q2]; rfl)).out.symm.trans HSA.out)
              clear HNO HYES HSA
              go_wp2_with fail
              go_quiet (fail)
              go_wp2_with fail
              go_ret
              exact ⟨by rw [HGV.out]; have e := hfin.out; subst e; rfl, below_draws (box2_below HNX.out) _⟩
            · have hfin := hide' ((HNO.out (by simp only [q1, q2]; rfl)).out.symm.trans HSA.out)
              clear HNO HYES HSA
              go_wp2_with fail
              go_quiet (fail)
              go_wp2_with fail
              go_ret
              exact ⟨by rw [HGV.out]; have e := hfin.out; subst e; rfl, below_draws (box2_below HNX.out) _⟩
            · have hfin := hide' ((HNO.out (by simp only [q1, q2]; rfl)).out.symm.trans HSA.out)
              clear HNO HYES HSA
              go_wp2_with fail
              go_quiet (fail)
              go_wp2_with fail
              go_ret
              exact ⟨by rw [HGV.out]; have e := hfin.out; subst e; rfl, below_draws (box2_below HNX.out) _⟩
            · have hd' := (HYES.out (by simp only [q1, q2]; rfl))
              clear HNO HYES HSA
              go_wp2_with fail
              go_quiet (fail)
              go_wp2_with fail
              go_roundw
              case rel => exact ⟨k + 1, by omega, by go_num, below_draws HNX.out _, hd'⟩
              case measure => simp [intOf]; omega
          · have hfin := hide' ((all_done eqF (List.zip fs gs) k (by rw [List.length_zip]; omega) hd.out).symm.trans HSA.out)
            obtain ⟨d1, d2, d3, d4, d5, d6⟩ := CB.out _ hnx
            clear HA HB hd HH HSA hnx CB
            go_wp2_with fail
            go_ret
            exact ⟨by rw [HGV.out]; have e := hfin.out; subst e; rfl, box2_below HNX.out⟩
      · have hl' : ((fs.length : Int) != (gs.length : Int)) = true := by rw [bne_iff_ne]; omega
        have hs := hide' (show sameFs fs gs = false by unfold sameFs; simp [hl])
        clear HA HB hl CB
        go_wp2_with fail
        go_ret
        exact ⟨by (rw [hg.out, hs.out]; first | done | rfl), box2_below (Below.refl _ _)⟩

end Go.Proofs.YtdmdfokkibijjaaGreatDoor
