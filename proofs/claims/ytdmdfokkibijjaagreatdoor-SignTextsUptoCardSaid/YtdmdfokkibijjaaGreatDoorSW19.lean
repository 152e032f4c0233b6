/-
  The walk of Resolve of layer 9.
-/
import Derived.Test.YtdmdfokkibijjaaGreatDoorSW18
import Derived.Deep.DeepCutAuto
namespace Go.Proofs.YtdmdfokkibijjaaGreatDoor
open Go.RowKit
open Sgn
set_option linter.unusedVariables false
set_option linter.unusedSimpArgs false

theorem held_last6 {S1 S2 S3 S4 S5 S6 : Prop} {wr w2 : World} (h : S1 ∧ S2 ∧ S3 ∧ S4 ∧ S5 ∧ S6 ∧ Below wr.heap.size wr w2) : Below wr.heap.size wr w2 := h.2.2.2.2.2.2
theorem held6 {wr w2 : World} {a1 a2 a3 a4 a5 a6 : Addr} {v1 v2 v3 v4 v5 v6 : Value} (h : wr.cell? a1 = some v1 ∧ wr.cell? a2 = some v2 ∧ wr.cell? a3 = some v3 ∧ wr.cell? a4 = some v4 ∧ wr.cell? a5 = some v5 ∧ wr.cell? a6 = some v6) (hb : Below wr.heap.size wr w2) :
    w2.cell? a1 = some v1 ∧ w2.cell? a2 = some v2 ∧ w2.cell? a3 = some v3 ∧ w2.cell? a4 = some v4 ∧ w2.cell? a5 = some v5 ∧ w2.cell? a6 = some v6 ∧ Below wr.heap.size wr w2 :=
  ⟨(hb.cell (cell_lt h.1)).trans h.1, (hb.cell (cell_lt h.2.1)).trans h.2.1, (hb.cell (cell_lt h.2.2.1)).trans h.2.2.1, (hb.cell (cell_lt h.2.2.2.1)).trans h.2.2.2.1, (hb.cell (cell_lt h.2.2.2.2.1)).trans h.2.2.2.2.1, (hb.cell (cell_lt h.2.2.2.2.2)).trans h.2.2.2.2.2, hb⟩

theorem new_kept {W w2 : World} {v : Value} {T : TypeId} {n : Nat} (hn : W.heap.size = n) (hb : Below (W.alloc (.cells #[v] T)).heap.size (W.alloc (.cells #[v] T)) w2) : w2.cell? ⟨n, 0, none⟩ = some v ∧ w2.frozen? ⟨n, 0, none⟩ = false ∧ n < w2.heap.size := by
  subst hn
  refine ⟨(hb.cell (by simp)).trans (cells_new' W #[v] T 0 _ rfl rfl), (hb.frozen (by simp)).trans ?_, ?_⟩
  · simp
  · have := hb.size
    simp at this
    omega
theorem new_kept_drew {W w2 : World} {v : Value} {T : TypeId} {n : Nat} (hn : W.heap.size = n) (hb : Below (W.alloc (.cells #[v] T)).drew.heap.size (W.alloc (.cells #[v] T)).drew w2) : w2.cell? ⟨n, 0, none⟩ = some v ∧ w2.frozen? ⟨n, 0, none⟩ = false ∧ n < w2.heap.size :=
  new_kept hn (Below.trans ((Below.refl _ _).drew) hb)
theorem waysOf_sl (g : G) (ac : List F) (v u : Value) (w : World) (hv : GV w v g) (hu : FSl w u ac) (h50 : g.fs.length ≤ 1000) (hok : waysOk φF g.fs ac = true) :
    Calls Tryz.prog 27 #[v, u] w fun e w' => ∃ A cap, e = .returned (.tuple #[.slice A (wl φF g.fs ac).length cap, .bool true]) ∧ Hid (ISl w' (.slice A (wl φF g.fs ac).length cap) (wl φF g.fs ac)) ∧ Below w.heap.size w w' :=
  (waysOf_ok g ac v u w hv hu h50 hok).mono fun e w' ⟨v', he, hI, hb⟩ => by
    have h2 := hI
    obtain ⟨A, cap, rfl, _⟩ := h2
    exact ⟨A, cap, he, hI, hb⟩
theorem ISl.set {w : World} {v : Value} {zs : List Int} {a : Addr} {u : Value} (h : ISl w v zs) (hc : w.cell? a = some (.slice none 0 0)) : ISl (w.setCell a u) v zs := by
  obtain ⟨A, cap, h1, h2, h3, h4⟩ := h
  refine ⟨A, cap, h1, h2, h3, fun h => ?_⟩
  obtain ⟨b, off, e, hcs⟩ := h4 h
  refine ⟨b, off, e, fun i hi => ?_⟩
  have hne : a ≠ ⟨b, off + i, none⟩ := fun he => by
    have := hcs i hi
    rw [← he, hc] at this
    cases this
  rw [World.cell?_setCell_other (h := hne)]
  exact hcs i hi
theorem and6 {S1 S2 S3 S4 S5 S6 S7 : Prop} (h : S1 ∧ S2 ∧ S3 ∧ S4 ∧ S5 ∧ S6 ∧ S7) : S1 ∧ S2 ∧ S3 ∧ S4 ∧ S5 ∧ S6 := ⟨h.1, h.2.1, h.2.2.1, h.2.2.2.1, h.2.2.2.2.1, h.2.2.2.2.2.1⟩

set_option maxHeartbeats 8000000 in
set_option maxRecDepth 100000 in
theorem Resolve_any (l : List G) (nm : ByteArray) (ac : List F) (v u : Value) (w : World) (HT : Hid (Tab w)) (HS : Hid (∀ g ∈ l, g.name.size ≤ 4611686018427387904)) (hv : GSl w v l) (hu : FSl w u ac) (hl : l.length ≤ 1000) :
    Calls Tryz.prog 13 #[v, .string nm, u] w fun e w' => ResE φF l nm ac w' e ∧ Below w.heap.size w w' := by
  have HV := hide' hv
  have HU := hide' hu
  obtain ⟨A, cap, rfl, hca, hma, hA⟩ := hv
  obtain ⟨B, cap2, rfl, hcb, hmb, hB⟩ := hu
  have hmax : maxLen = 9223372036854775807 := rfl
  rw [hmax] at hma hmb
  clear hA hB
  have HC := fun w1 (hb : Below w.heap.size w w1) => hide' (Candidates_any l nm ac _ _ w1 (HT.out.on hb) HS (HV.out.on hb) (HU.out.on hb) hl)
  have CL : ∀ w1, Below ((w.alloc (.cells #[.slice A l.length cap] 36)).alloc (.cells #[.slice B ac.length cap2] 23)).heap.size ((w.alloc (.cells #[.slice A l.length cap] 36)).alloc (.cells #[.slice B ac.length cap2] 23)) w1 → w1.cell? ⟨w.heap.size, 0, none⟩ = some (.slice A l.length cap) := fun w1 hb => (hb.cell (by simp; omega)).trans ((World.cell?_alloc_lt _ _ _ (show w.heap.size < (w.alloc (.cells #[.slice A l.length cap] 36)).heap.size by simp)).trans (cells_new' w #[.slice A l.length cap] 36 0 _ rfl rfl))
  have CA : ∀ w1, Below ((w.alloc (.cells #[.slice A l.length cap] 36)).alloc (.cells #[.slice B ac.length cap2] 23)).heap.size ((w.alloc (.cells #[.slice A l.length cap] 36)).alloc (.cells #[.slice B ac.length cap2] 23)) w1 → w1.cell? ⟨w.heap.size + 1, 0, none⟩ = some (.slice B ac.length cap2) := fun w1 hb => (hb.cell (by simp)).trans (cells_new' (w.alloc (.cells #[.slice A l.length cap] 36)) #[.slice B ac.length cap2] 23 0 _ rfl (by simp))
  have HCL := hide' CL
  have HCA := hide' CA
  clear CL CA hmax
  go_enter Tryz.func13, Tryz.ntmps13
  go_wp2_with fail
  refine (HC _ (box2_below (Below.refl _ _))).out.mono ?_
  rintro e w1 ⟨hCE, hb1⟩
  rcases hCE with ⟨hno, rfl⟩ | ⟨hyes, f, rfl, hI⟩
  · have hN := hide' hno
    have HB1 := hide' (box2_below hb1)
    clear hno hb1 HC HCL HCA HS HT HV HU
    go_wp2_with fail
    go_ret3
    exact ⟨resE_no hN.out, HB1.out⟩
  · have hY := hide' hyes
    have hmem := fun z (h : z ∈ cands φF l nm ac l.length) => cands_mem h
    obtain ⟨is, his⟩ : ∃ is, cands φF l nm ac l.length = is := ⟨_, rfl⟩
    have HIS := hide' his
    have HY' := hide' (show callOk l ac = true from hyes)
    rw [his] at hI
    have HI := hide' hI
    obtain ⟨C, cap3, rfl, hcc, hmc, hC⟩ := hI
    have hmax : maxLen = 9223372036854775807 := rfl
    rw [hmax] at hmc
    have HC3 := hide' hC
    have HB1 := hide' (box2_below hb1)
    clear hyes hC HC hmax his hmem
    by_cases h0 : is.length = 0
    · have h0' : ((is.length : Int) == 0) = true := by rw [beq_iff_eq]; omega
      have hn := hide' (show cands φF l nm ac l.length = [] by rw [HIS.out]; exact List.eq_nil_of_length_eq_zero h0)
      clear HCL HCA HS HT HV HU h0 HC3 HI HIS
      go_wp2_with fail
      go_ret3
      exact ⟨resE_call hY.out hn.out, HB1.out⟩
    have h0' : ((is.length : Int) == 0) = false := by rw [beq_eq_false_iff_ne]; omega
    have hn := hide' (show cands φF l nm ac l.length ≠ [] by rw [HIS.out]; intro h; rw [h] at h0; exact h0 rfl)
    clear h0
    go_wp2_with fail
    go_loopw [7, 34] (fun p i wr => ∃ (k : Nat), k ≤ is.length ∧ p = .slice none 0 0 ∧ i = .int .i64 k ∧ Below w1.heap.size w1 wr ∧ Hid (∀ x ∈ is.take k, (!(isBest φF l ac is x)) = true)) (fun _ i _ => is.length - (intOf i).toNat)
    case atStart => exact ⟨0, Nat.zero_le _, rfl, rfl, Below.refl _ _, (fun f hf => by simp at hf)⟩
    case round =>
      obtain ⟨k, hk, rfl, rfl, hnx, hd⟩ := hrel
      by_cases hlt : k < is.length
      · obtain ⟨b3, off3, rfl, hCA⟩ := HC3.out (by omega)
        have x1 : wr.cell? ⟨b3, off3 + k, none⟩ = some (.int .i64 is[k]) := (hnx.cell (cell_lt (hCA k hlt))).trans (hCA k hlt)
        obtain ⟨j, hj, hjl, hjc⟩ := cands_mem (z := is[k]) (φ := φF) (l := l) (nm := nm) (ac := ac) (by rw [HIS.out]; exact List.getElem_mem hlt)
        have HJ := hide' hj
        rw [hj] at x1
        clear hj hCA
        go_wp2_with fail
        have HWo := hide' (hnx.trans (Below.refl _ _))
        have hHV := (HV.out.on (HB1.out.trans (hnx.mono HB1.out.size)))
        have hHU := (HU.out.on (HB1.out.trans (hnx.mono HB1.out.size)))
        have HU9 := hide' hHU
        have HV9 := hide' hHV
        obtain ⟨A', cap', e9, r1, r2, hA9⟩ := hHV
        obtain ⟨rfl, -, rfl⟩ : A = A' ∧ True ∧ cap = cap' := by simpa using e9
        obtain ⟨b, off, rfl, hCA9⟩ := hA9 (by omega)
        obtain ⟨x, y1, y2, y3, y4⟩ := hCA9 j hjl
        obtain ⟨A'', cap'', rfl, r3, r4, r5⟩ := y4
        have X4 : FSl wr (.slice A'' l[j].fs.length cap'') l[j].fs := ⟨A'', cap'', rfl, r3, r4, r5⟩
        have hlen : l[j].fs.length ≤ 1000 := valid_len (by have := HY'.out; unfold callOk at this; rw [Bool.and_eq_true] at this; exact this.1) j hjl
        have Z6 := hide' (held6 (wr := wr.alloc (.cells #[.int .i64 j] 3)) ⟨(World.cell?_alloc_lt wr _ _ (cell_lt y1)).trans y1, (World.cell?_alloc_lt wr _ _ (cell_lt y2)).trans y2, (World.cell?_alloc_lt wr _ _ (cell_lt y3)).trans y3,
          (World.cell?_alloc_lt wr _ _ (cell_lt (HCL.out wr (hb1.trans (hnx.mono hb1.size))))).trans (HCL.out wr (hb1.trans (hnx.mono hb1.size))), (World.cell?_alloc_lt wr _ _ (cell_lt (HCA.out wr (hb1.trans (hnx.mono hb1.size))))).trans (HCA.out wr (hb1.trans (hnx.mono hb1.size))),
          cells_new' wr #[.int .i64 j] 3 0 _ rfl rfl⟩ (Below.refl _ _))
        have HW := fun u (hb : Below (wr.alloc (.cells #[.int .i64 j] 3)).heap.size (wr.alloc (.cells #[.int .i64 j] 3)) u) => hide' (waysOf_sl l[j] ac (.agg #[.string l[j].name, .slice A'' l[j].fs.length cap'', .string l[j].res]) _ u ⟨_, rfl, X4.on (box_below hb)⟩ (HU9.out.on (box_below hb)) hlen (candAt_ok hjl hjc))
        obtain ⟨vs, hvs⟩ : ∃ vs, wl φF l[j].fs ac = vs := ⟨_, rfl⟩
        rw [hvs] at HW
        have HVS := hide' hvs
        obtain ⟨fs, hfs⟩ : ∃ t, l[j].fs = t := ⟨_, rfl⟩
        obtain ⟨name, hname⟩ : ∃ t, l[j].name = t := ⟨_, rfl⟩
        obtain ⟨res, hres⟩ : ∃ t, l[j].res = t := ⟨_, rfl⟩
        simp only [hfs, hname, hres] at r3 r4 HW Z6
        have hj0 : (0 : Int) ≤ (j : Int) := by omega
        have hj1 : (j : Int) < (l.length : Int) := by omega
        clear hvs hfs hname hres r5 X4 y1 y2 y3 x1 hCA9 e9 hA9 HC3 hlen
        have HJC := hide' hjc
        clear hjc
        have NK : Hid (∀ w2, Below ((wr.alloc (.cells #[.int .i64 j] 3)).alloc (.cells #[.slice none 0 0] 54)).drew.heap.size ((wr.alloc (.cells #[.int .i64 j] 3)).alloc (.cells #[.slice none 0 0] 54)).drew w2 → w2.cell? ⟨wr.heap.size + 1, 0, none⟩ = some (.slice none 0 0) ∧ w2.frozen? ⟨wr.heap.size + 1, 0, none⟩ = false ∧ wr.heap.size + 1 < w2.heap.size) := fun w2 hb => new_kept_drew (by simp) hb
        go_cut [13] (fun s13 wx => ∃ bv v', s13 = .pointer (some ⟨bv, 0, none⟩) ∧ wx.cell? ⟨bv, 0, none⟩ = some v' ∧ ISl wx v' vs ∧ Below (wr.alloc (.cells #[.int .i64 j] 3)).heap.size (wr.alloc (.cells #[.int .i64 j] 3)) wx)
        case first =>
          go_region_held3 (fun w' => w'.cell? ⟨b, off + j * 3, none⟩ = some (.string name) ∧ w'.cell? ⟨b, off + j * 3 + 1, none⟩ = some (.slice A'' fs.length cap'') ∧ w'.cell? ⟨b, off + j * 3 + 2, none⟩ = some (.string res) ∧ w'.cell? ⟨w.heap.size, 0, none⟩ = some (.slice (some ⟨b, off, none⟩) l.length cap) ∧ w'.cell? ⟨w.heap.size + 1, 0, none⟩ = some (.slice B ac.length cap2) ∧ w'.cell? ⟨wr.heap.size, 0, none⟩ = some (.int .i64 j) ∧ Below (wr.alloc (.cells #[.int .i64 j] 3)).heap.size (wr.alloc (.cells #[.int .i64 j] 3)) w')
            (first
              | exact Z6.out
              | exact hS
              | exact held6 (and6 Z6.out) (Below.refl _ _).drew
              | exact held6 (and6 Z6.out) ((held_last6 (by assumption)).alloc (held_last6 (by assumption)).size _)
              | exact held6 (and6 Z6.out) ((Below.refl _ _).alloc (Nat.le_refl _) _)
              | exact held6 (and6 Z6.out) ((Below.refl _ _).alloc (Nat.le_refl _) _).drew
              | exact held6 (and6 Z6.out) ((held_last6 (by assumption)).setCell (by simp) _)
              | exact held6 (and6 Z6.out) (((held_last6 (by assumption)).alloc (held_last6 (by assumption)).size _).setCell (held_last6 (by assumption)).size _)
              | exact held6 (and6 Z6.out) ((held_last6 (by assumption)).alloc (held_last6 (by assumption)).size _))
            (first | (go_at_call 27; refine (HW _ (held_last6 (by assumption))).out.mono ?_; rintro e2 w2 ⟨A5, cap5, rfl, hIS, hb2⟩; (first | (have hh := NK.out w2 hb2; obtain ⟨cz, fz, lz⟩ := hh) | have lz := hb2.size); have hS := held6 (and6 Z6.out) ((held_last6 (by assumption)).trans (hb2.mono (held_last6 (by assumption)).size))))
          · go_wp2_with fail
            go_meet
            exact ⟨_, _, rfl, cells_new' w2 #[.slice A5 vs.length cap5] 54 0 _ rfl rfl, hIS.out.on ((Below.refl _ _).alloc (Nat.le_refl _) _), (held_last6 hS).alloc (held_last6 hS).size _⟩
          · go_wp2_with fail
            go_meet
            exact ⟨_, _, rfl, World.cell?_setCell_same _ _ _ cz, hIS.out.set cz, (held_last6 hS).setCell (by simp) _⟩
        case rest =>
          obtain ⟨bv, v', rfl, hcv, hIV, hbx⟩ := hcut
          obtain ⟨A5, cap5, rfl, hc5, hm5, hA5⟩ := id hIV
          have Z7 := hide' (held6 (and6 Z6.out) hbx)
          have hWx : Below w1.heap.size w1 wc := hnx.trans ((box_below hbx).mono hnx.size)
          have HWX := hide' hWx
          have HB9 := hide' (best_at l nm ac is HIS.out.symm j _ _ _ _ _ _ _ _ wc (HV9.out.on (box_below hbx)) (HU9.out.on (box_below hbx)) (by simpa [hjl, HVS.out] using hIV) (HI.out.on hWx) Z7.out.2.2.2.1 Z7.out.2.2.2.2.1 Z7.out.2.2.2.2.2.1 hcv (by rw [← HJ.out]; exact List.getElem_mem hlt) (fun j' h' => valid_len (by have := HY'.out; unfold callOk at this; rw [Bool.and_eq_true] at this; exact this.1) j' h'))
          cases hq : isBest φF l ac is j <;> rw [hq] at HB9
          · have hd' := hide' (all_upto (fun z => !(isBest φF l ac is z)) is k hlt hd.out (by rw [HJ.out, hq]; rfl))
            clear hd hq Z7 Z6 HW HV9 HU9 hnx hbx hIV hA5 NK hWx
            go_wp2_with fail
            refine HB9.out.mono ?_
            rintro e w3 ⟨rfl, hb3⟩
            have hb4 := HWX.out.trans (hb3.mono HWX.out.size)
            clear hb3 HB9 hcv
            go_wp2_with fail
            go_roundw
            case rel => exact ⟨k + 1, by omega, rfl, by go_num, hb4, hd'⟩
            case measure => simp [intOf]; omega
          · have hfin := hide' (show (cands φF l nm ac l.length).find? (isBest φF l ac (cands φF l nm ac l.length)) = some (j : Int) by rw [HIS.out, ← HJ.out]; exact find_at _ is k hlt hd.out (by rw [HJ.out, hq]))
            have hva := hide' (show wlAt φF l ac (j : Int) = vs by rw [wlAt_of hjl, HVS.out])
            have Zi : wc.cell? ⟨wr.heap.size, 0, none⟩ = some (.int .i64 j) := Z7.out.2.2.2.2.2.1
            clear hd hq Z7 Z6 HW HV9 HU9 hnx hbx hIV NK hWx
            go_wp2_with fail
            refine HB9.out.mono ?_
            rintro e w3 ⟨rfl, hb3⟩
            have d0 := (hb3.cell (cell_lt hcv)).trans hcv
            have di := (hb3.cell (cell_lt Zi)).trans Zi
            have hb4 := HWX.out.trans (hb3.mono HWX.out.size)
            have HA5 : Hid (0 < vs.length → ∃ b off, A5 = some ⟨b, off, none⟩ ∧ ICells w3 b off vs) := fun h => let ⟨b, off, e, hc⟩ := hA5 h; ⟨b, off, e, fun i hi => (hb3.cell (cell_lt (hc i hi))).trans (hc i hi)⟩
            clear hb3 HB9 hcv Zi hA5
            go_wp2_with fail
            obtain ⟨wo, rfl⟩ : ∃ wo : World, wo = wr := ⟨_, rfl⟩
            obtain ⟨i0, hi, hz0, hz1, hz2⟩ := info_parts boolInfo
            have hvl : vs.length ≤ 1000 := by rw [← HVS.out, wl]; exact Nat.le_trans (by rw [List.length_zipWith]; exact Nat.min_le_left _ _) (valid_len (by have := HY'.out; unfold callOk at this; rw [Bool.and_eq_true] at this; exact this.1) j hjl)
            rw [show maxLen = 9223372036854775807 from rfl] at hm5
            go_loopw [7, 52] (fun p c wq => ∃ (m : Nat), m ≤ vs.length ∧ c = .int .i64 m ∧ wq.ownsRow w3.heap.size 4 1 p m (bools ((promo vs).take m)) ∧ Below w3.heap.size w3 wq) (fun _ c _ => vs.length - (intOf c).toNat)
            case atStart => exact ⟨0, Nat.zero_le _, rfl, World.ownsRow_nil _ _ _ _, Below.refl _ _⟩
            case round =>
              obtain ⟨m, hm, rfl, hown, hny⟩ := hrel
              by_cases hlm : m < vs.length
              · obtain ⟨b6, off6, rfl, hC6⟩ := HA5.out (by omega)
                have x6 : wr.cell? ⟨b6, off6 + m, none⟩ = some (.int .i64 vs[m]) := (hny.cell (cell_lt (hC6 m hlm))).trans (hC6 m hlm)
                have HST := promo_step vs m hlm
                obtain ⟨z, hz⟩ : ∃ z, vs[m] = z := ⟨_, rfl⟩
                rw [hz] at x6 HST
                obtain ⟨q2, hq2⟩ : ∃ q2, (z == 4) = q2 := ⟨_, rfl⟩
                rw [hq2] at HST
                have HS2 := hide' HST
                have hm0 : (0 : Int) ≤ (m : Int) := by omega
                have hm1 : (m : Int) < (vs.length : Int) := by omega
                clear hz HST hC6 d0 di
                go_wp2_with (at_builtin; go_must (refine wpList_append_own _ rfl _ _ 37 rfl w3.heap.size 4 i0 _ 1 1 Tryz.underlying37 hi hz0 hz1 hz2 rfl (by decide) _ _ _ rfl (hown.alloc _) ⟨wr.heap.size, 0, none⟩ 1 1 [.bool q2] rfl rfl ?c1 ?c2 ?c3 ?c4 ?c5 ?_))
                case c1 => intro j u hu; exact cells_new' wr _ _ j u hu rfl
                case c2 => intro u hu; simp at hu; subst hu; rfl
                case c3 => unfold maxLen; omega
                case c4 => omega
                case c5 => have := hny.size; simp; omega
                intro v'' w5 hown5 hg5 _
                have hb5 := (hny.alloc hny.size (.cells #[.bool q2] 4)).grown hg5 (by have := hny.size; simp; omega) (fun k hk => (hown.lt k hk).1)
                go_wp2_with fail
                go_roundw
                case rel => exact ⟨m + 1, by omega, by go_num, by rw [HS2.out]; exact hown5, hb5⟩
                case measure => simp [intOf]; omega
              · have hme : m = vs.length := by omega
                subst hme
                have hBS : BSl wr u7 (promo vs) := by
                  rw [List.take_of_length_le (by rw [promo_len]; exact Nat.le_refl _)] at hown
                  exact BSl.own (by rw [promo_len]; exact hown)
                have di' := (hny.cell (cell_lt di)).trans di
                have hend := hb4.trans (hny.mono hb4.size)
                have hendw := hide' (HB1.out.trans (hend.mono HB1.out.size))
                clear hown HA5 di d0 hend hny
                go_wp2_with fail
                go_ret3
                exact ⟨resE_best hY.out hn.out hfin.out (by rw [hva.out]; exact hBS), hendw.out⟩
      · have hfin := hide' (show (cands φF l nm ac l.length).find? (isBest φF l ac (cands φF l nm ac l.length)) = none by rw [HIS.out]; exact find_none' _ is k (by omega) hd.out)
        have hendw := hide' (HB1.out.trans (hnx.mono HB1.out.size))
        clear hd hnx
        go_wp2_with fail
        go_ret3
        exact ⟨resE_many hY.out hn.out hfin.out, hendw.out⟩

end Go.Proofs.YtdmdfokkibijjaaGreatDoor
