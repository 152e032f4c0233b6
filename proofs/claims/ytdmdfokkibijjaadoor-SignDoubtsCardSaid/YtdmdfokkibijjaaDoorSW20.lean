/-
  The walk of Resolve of the document's answer of layer 9.
-/
import Derived.Test.YtdmdfokkibijjaaDoorSW19
namespace Go.Proofs.YtdmdfokkibijjaaDoor
open Go.RowKit
open Sgn
set_option linter.unusedVariables false
set_option linter.unusedSimpArgs false

theorem rWays_sl (g : G) (ac : List F) (v u : Value) (w : World) (hv : GV w v g) (hu : FSl w u ac) (h50 : g.fs.length ≤ 1000) (hok : waysOk φW g.fs ac = true) :
    Calls Tryd.prog 39 #[v, u] w fun e w' => ∃ A cap, e = .returned (.tuple #[.slice A (wl φW g.fs ac).length cap, .bool true]) ∧ Hid (ISl w' (.slice A (wl φW g.fs ac).length cap) (wl φW g.fs ac)) ∧ Below w.heap.size w w' :=
  (rWays_any g ac v u w hv hu h50).mono fun e w' ⟨h, hb⟩ => by
    rcases h with ⟨h1, _⟩ | ⟨_, v', he, hI⟩
    · rw [hok] at h1; cases h1
    · have h2 := hI
      obtain ⟨A, cap, rfl, _⟩ := h2
      exact ⟨A, cap, he, hI, hb⟩
theorem cands_lt (φ : F → F → Int) (l : List G) (nm : ByteArray) (ac : List F) (k : Nat) : (cands φ l nm ac k).Pairwise (· < ·) := by
  unfold cands
  rw [List.pairwise_map]
  refine List.Pairwise.filter _ ?_
  exact (List.pairwise_lt_range).imp fun h => by omega
theorem cands_inj {φ : F → F → Int} {l : List G} {nm : ByteArray} {ac : List F} {is : List Int} (h : cands φ l nm ac l.length = is) (i k : Nat) (hi : i < is.length) (hk : k < is.length) (e : is[i] = is[k]) : i = k := by
  have hp := cands_lt φ l nm ac l.length
  rw [h, List.pairwise_iff_getElem] at hp
  by_cases h1 : i < k
  · have := hp i k hi hk h1; omega
  · by_cases h2 : k < i
    · have := hp k i hk hi h2; omega
    · omega
theorem best_step (l : List G) (ac : List F) (is : List Int) (z : Int) (m : Nat) (hm : m < is.length) : (is.take (m + 1)).all (fun y => decide (y = z) || betterL (wlAt φW l ac z) (wlAt φW l ac y)) = ((is.take m).all (fun y => decide (y = z) || betterL (wlAt φW l ac z) (wlAt φW l ac y)) && (decide (is[m] = z) || betterL (wlAt φW l ac z) (wlAt φW l ac is[m]))) := by
  rw [List.take_succ_eq_append_getElem hm, List.all_append]
  simp
theorem best_done (l : List G) (ac : List F) (is : List Int) (z : Int) (m : Nat) (hm : is.length ≤ m) : (is.take m).all (fun y => decide (y = z) || betterL (wlAt φW l ac z) (wlAt φW l ac y)) = isBest φW l ac is z := by
  rw [List.take_of_length_le hm]
  rfl

set_option maxHeartbeats 8000000 in
set_option maxRecDepth 100000 in
theorem rResolve_any (l : List G) (nm : ByteArray) (ac : List F) (v u : Value) (w : World) (HT : Hid (Tab w)) (HS : Hid (∀ g ∈ l, g.name.size ≤ 4611686018427387904)) (hv : GSl w v l) (hu : FSl w u ac) (hl : l.length ≤ 1000) :
    Calls Tryd.prog 16 #[v, .string nm, u] w fun e w' => ResE φW l nm ac w' e ∧ Below w.heap.size w w' := by
  have HV := hide' hv
  have HU := hide' hu
  have HC := hide' (rCandidates_any l nm ac v u w HT HS hv hu hl)
  obtain ⟨A, cap, rfl, hca, hma, hA⟩ := hv
  obtain ⟨B, cap2, rfl, hcb, hmb, hB⟩ := hu
  have hmax : maxLen = 9223372036854775807 := rfl
  rw [hmax] at hma hmb
  clear hA hB hmax
  go_enter Tryd.func16, Tryd.ntmps16
  go_wp2_with fail
  refine HC.out.mono ?_
  rintro e w1 ⟨hCE, hb1⟩
  rcases hCE with ⟨hno, rfl⟩ | ⟨hyes, f, rfl, hI⟩
  · have hN := hide' hno
    have HB1 := hide' hb1
    clear hno hb1 HC HS HT HV HU
    go_wp2_with fail
    go_ret3
    exact ⟨resE_no hN.out, HB1.out⟩
  · have hY := hide' hyes
    obtain ⟨is, his⟩ : ∃ is, cands φW l nm ac l.length = is := ⟨_, rfl⟩
    have HIS := hide' his
    have HY' := hide' (show l.all (fun g => validG g) = true by have := hyes; unfold callOk at this; rw [Bool.and_eq_true] at this; exact this.1)
    rw [his] at hI
    have HI := hide' hI
    obtain ⟨C, cap3, rfl, hcc, hmc, hC⟩ := hI
    have hmax : maxLen = 9223372036854775807 := rfl
    rw [hmax] at hmc
    have HC3 := hide' hC
    have HB1 := hide' hb1
    clear hyes hC HC hmax his
    by_cases h0 : is.length = 0
    · have h0' : ((is.length : Int) == 0) = true := by rw [beq_iff_eq]; omega
      have hn := hide' (show cands φW l nm ac l.length = [] by rw [HIS.out]; exact List.eq_nil_of_length_eq_zero h0)
      clear HS HT HV HU h0 HC3 HI HIS
      go_wp2_with fail
      go_ret3
      exact ⟨resE_call hY.out hn.out, HB1.out⟩
    have h0' : ((is.length : Int) == 0) = false := by rw [beq_eq_false_iff_ne]; omega
    have hn := hide' (show cands φW l nm ac l.length ≠ [] by rw [HIS.out]; intro h; rw [h] at h0; exact h0 rfl)
    have his1 : is.length ≤ 1000 := by rw [← HIS.out]; exact Nat.le_trans (cands_le _ _ _ _ _) hl
    clear h0
    go_wp2_with fail
    go_loopw [11] (fun i wr => ∃ (k : Nat), k ≤ is.length ∧ i = .int .i64 k ∧ Below w1.heap.size w1 wr ∧ Hid (∀ x ∈ is.take k, (!(isBest φW l ac is x)) = true)) (fun i _ => is.length - (intOf i).toNat)
    case atStart => exact ⟨0, Nat.zero_le _, rfl, Below.refl _ _, (fun f hf => by simp at hf)⟩
    case round =>
      obtain ⟨k, hk, rfl, hnx, hd⟩ := hrel
      by_cases hlt : k < is.length
      · obtain ⟨b3, off3, rfl, hCA⟩ := HC3.out (by omega)
        have HCA3 := hide' hCA
        have x1 : wr.cell? ⟨b3, off3 + k, none⟩ = some (.int .i64 is[k]) := (hnx.cell (cell_lt (hCA k hlt))).trans (hCA k hlt)
        obtain ⟨j, hj, hjl, hjc⟩ := cands_mem (z := is[k]) (φ := φW) (l := l) (nm := nm) (ac := ac) (by rw [HIS.out]; exact List.getElem_mem hlt)
        have HJ := hide' hj
        rw [hj] at x1
        clear hj hCA
        have hHV := (HV.out.on (HB1.out.trans (hnx.mono HB1.out.size)))
        have hHU := (HU.out.on (HB1.out.trans (hnx.mono HB1.out.size)))
        have HU9 := hide' hHU
        have HV9 := hide' hHV
        obtain ⟨A', cap', e9, r1, r2, hA9⟩ := hHV
        obtain ⟨rfl, -, rfl⟩ : A = A' ∧ True ∧ cap = cap' := by simpa using e9
        obtain ⟨b, off, rfl, hCA9⟩ := hA9 (by omega)
        have HC9 := hide' hCA9
        obtain ⟨x, y1, y2, y3, y4⟩ := hCA9 j hjl
        obtain ⟨A'', cap'', rfl, r3, r4, r5⟩ := y4
        have X4 : FSl wr (.slice A'' l[j].fs.length cap'') l[j].fs := ⟨A'', cap'', rfl, r3, r4, r5⟩
        have hlen : l[j].fs.length ≤ 1000 := valid_len HY'.out j hjl
        have HW := hide' (rWays_sl l[j] ac (.agg #[.string l[j].name, .slice A'' l[j].fs.length cap'', .string l[j].res]) _ wr ⟨_, rfl, X4⟩ HU9.out hlen (candAt_ok hjl hjc))
        obtain ⟨vs, hvs⟩ : ∃ vs, wl φW l[j].fs ac = vs := ⟨_, rfl⟩
        rw [hvs] at HW
        have HVS := hide' hvs
        obtain ⟨fs, hfs⟩ : ∃ t, l[j].fs = t := ⟨_, rfl⟩
        obtain ⟨name, hname⟩ : ∃ t, l[j].name = t := ⟨_, rfl⟩
        obtain ⟨res, hres⟩ : ∃ t, l[j].res = t := ⟨_, rfl⟩
        simp only [hfs, hname, hres] at r3 r4 HW y1 y2 y3
        have hj0 : (0 : Int) ≤ (j : Int) := by omega
        have hj1 : (j : Int) < (l.length : Int) := by omega
        have hk0 : (0 : Int) ≤ (k : Int) := by omega
        have hk1 : (k : Int) < (is.length : Int) := by omega
        have hvl : vs.length ≤ 1000 := by rw [← HVS.out, wl]; exact Nat.le_trans (by rw [List.length_zipWith]; exact Nat.min_le_left _ _) hlen
        clear hvs hfs hname hres r5 X4 hCA9 e9 hA9 HC3 hlen
        have HJC := hide' hjc
        clear hjc
        go_wp2_with fail
        refine HW.out.mono ?_
        rintro e w2 ⟨A5, cap5, rfl, hIS, hb2⟩
        clear HW
        have hnz : Below w1.heap.size w1 w2 := hnx.trans (hb2.mono hnx.size)
        have HNZ := hide' hnz
        have hC9 : GCells w2 b off l := HC9.out.on hb2
        have HC92 := hide' hC9
        have HU92 := hide' (HU9.out.on hb2)
        clear x1 y1 y2 y3 hnx hb2 HC9 hC9 hnz HU9 HV9
        go_wp2_with fail
        obtain ⟨wo, rfl⟩ : ∃ wo : World, wo = wr := ⟨_, rfl⟩
        have HJ' := hide' (show (j : Int) ∈ is by rw [← HJ.out]; exact List.getElem_mem hlt)
        go_loopw [14, 15] (fun s i wr => ∃ (m : Nat) (q : Bool), m ≤ is.length ∧ s = .bool q ∧ i = .int .i64 m ∧ Below w2.heap.size w2 wr ∧ Hid (q = (is.take m).all (fun y => decide (y = (j : Int)) || betterL (wlAt φW l ac j) (wlAt φW l ac y)))) (fun _ i _ => is.length - (intOf i).toNat)
        case atStart => exact ⟨0, true, Nat.zero_le _, rfl, rfl, Below.refl _ _, rfl⟩
        case round =>
          obtain ⟨m, q, hm, rfl, rfl, hny, hQ⟩ := hrel
          by_cases hlm : m < is.length
          · have hny1 := HNZ.out.trans (hny.mono HNZ.out.size)
            have x5 : wr.cell? ⟨b3, off3 + m, none⟩ = some (.int .i64 is[m]) := (hny1.cell (cell_lt (HCA3.out m hlm))).trans (HCA3.out m hlm)
            obtain ⟨j2, hj2, hjl2, hjc2⟩ := cands_mem (z := is[m]) (φ := φW) (l := l) (nm := nm) (ac := ac) (by rw [HIS.out]; exact List.getElem_mem hlm)
            have HJ2 := hide' hj2
            rw [hj2] at x5
            clear hj2
            have hkm : Hid (m = k ↔ j2 = j) := by
              constructor
              · rintro rfl
                have := HJ.out.symm.trans HJ2.out
                omega
              · rintro rfl
                exact cands_inj HIS.out m k hlm hlt (by rw [HJ.out, HJ2.out])
            obtain ⟨x, y1, y2, y3, y4⟩ := (HC92.out.on hny) j2 hjl2
            obtain ⟨A6, cap6, rfl, r3', r4', r5⟩ := y4
            have X4 : FSl wr (.slice A6 l[j2].fs.length cap6) l[j2].fs := ⟨A6, cap6, rfl, r3', r4', r5⟩
            have HW := hide' (rWays_sl l[j2] ac (.agg #[.string l[j2].name, .slice A6 l[j2].fs.length cap6, .string l[j2].res]) _ wr ⟨_, rfl, X4⟩ (HU92.out.on hny) (valid_len HY'.out j2 hjl2) (candAt_ok hjl2 hjc2))
            have hlens := wl_lens (candAt_ok hjl HJC.out) (candAt_ok hjl2 hjc2)
            rw [HVS.out] at hlens
            have HVS2 := hide' (wlAt_of (φ := φW) (ac := ac) hjl2)
            have HVS1 := hide' ((wlAt_of (φ := φW) (ac := ac) hjl).trans HVS.out)
            obtain ⟨us, hus⟩ : ∃ us, wl φW l[j2].fs ac = us := ⟨_, rfl⟩
            rw [hus] at HW hlens HVS2
            obtain ⟨fs2, hfs⟩ : ∃ t, l[j2].fs = t := ⟨_, rfl⟩
            obtain ⟨name2, hname⟩ : ∃ t, l[j2].name = t := ⟨_, rfl⟩
            obtain ⟨res2, hres⟩ : ∃ t, l[j2].res = t := ⟨_, rfl⟩
            simp only [hfs, hname, hres] at r3' r4' HW y1 y2 y3
            have hm0 : (0 : Int) ≤ (m : Int) := by omega
            have hm1 : (m : Int) < (is.length : Int) := by omega
            have h20 : (0 : Int) ≤ (j2 : Int) := by omega
            have h21 : (j2 : Int) < (l.length : Int) := by omega
            have HSTEP : Hid ((is.take (m + 1)).all (fun y => decide (y = (j : Int)) || betterL (wlAt φW l ac j) (wlAt φW l ac y)) = (q && (decide ((j2 : Int) = (j : Int)) || betterL vs us))) := by
              show _ = _
              rw [best_step l ac is j m hlm, ← hQ.out, HJ2.out, HVS1.out, HVS2.out]
            have HLENS := hide' hlens
            clear hus hfs hname hres r5 X4 hlens hjc2 hQ HVS1 HVS2
            go_wp2_with fail
            refine HW.out.mono ?_
            rintro e w5 ⟨A7, cap7, rfl, hI7, hb5⟩
            have hb6 : Below w2.heap.size w2 w5 := hny.trans (hb5.mono hny.size)
            clear HW hb5 hny1 hny x5 y1 y2 y3
            cases q
            · have hq' : Hid (false = (is.take (m + 1)).all (fun y => decide (y = (j : Int)) || betterL (wlAt φW l ac j) (wlAt φW l ac y))) := by
                show _ = _
                rw [HSTEP.out]; rfl
              clear HSTEP
              go_wp2_with fail
              go_roundw
              case rel => exact ⟨m + 1, false, by omega, rfl, by go_num, hb6, hq'⟩
              case measure => simp [intOf]; omega
            · by_cases hmk : m = k
              · have hmk' : ((m : Int) == (k : Int)) = true := by rw [beq_iff_eq]; omega
                have hq' : Hid (true = (is.take (m + 1)).all (fun y => decide (y = (j : Int)) || betterL (wlAt φW l ac j) (wlAt φW l ac y))) := by
                  show _ = _
                  rw [HSTEP.out, hkm.out.1 hmk]
                  simp
                clear HSTEP hmk
                go_wp2_with fail
                go_roundw
                case rel => exact ⟨m + 1, true, by omega, rfl, by go_num, hb6, hq'⟩
                case measure => simp [intOf]; omega
              · have hmk' : ((m : Int) == (k : Int)) = false := by rw [beq_eq_false_iff_ne]; omega
                have HBT := hide' (rBetter_any vs us _ _ w5 (hIS.out.on hb6) hI7.out HLENS.out)
                obtain ⟨q2, hq2⟩ : ∃ q2, betterL vs us = q2 := ⟨_, rfl⟩
                rw [hq2] at HBT
                have hne : ¬ ((j2 : Int) = (j : Int)) := fun h => hmk (hkm.out.2 (by omega))
                have hq' : Hid (q2 = (is.take (m + 1)).all (fun y => decide (y = (j : Int)) || betterL (wlAt φW l ac j) (wlAt φW l ac y))) := by
                  show _ = _
                  rw [HSTEP.out, hq2, decide_eq_false hne]
                  simp
                clear HSTEP hmk hne hq2
                go_wp2_with fail
                refine HBT.out.mono ?_
                rintro e w6 ⟨rfl, hb7⟩
                have hb8 : Below w2.heap.size w2 w6 := hb6.trans (hb7.mono hb6.size)
                clear hb7 HBT hb6
                go_wp2_with fail
                go_roundw
                case rel => exact ⟨m + 1, q2, by omega, rfl, by go_num, hb8, hq'⟩
                case measure => simp [intOf]; omega
          · have hQ2 := hide' (hQ.out.trans (best_done l ac is j m (by omega)))
            have hme : m = is.length := by omega
            subst hme
            have hny1 := HNZ.out.trans (hny.mono HNZ.out.size)
            cases q
            · have hd' := hide' (all_upto (fun z => !(isBest φW l ac is z)) is k hlt hd.out (by rw [HJ.out, ← hQ2.out]; rfl))
              clear hd hQ hQ2
              go_wp2_with fail
              go_roundw
              case rel => exact ⟨k + 1, by omega, by go_num, hny1, hd'⟩
              case measure => simp [intOf]; omega
            · have hfin := hide' (show (cands φW l nm ac l.length).find? (isBest φW l ac (cands φW l nm ac l.length)) = some (j : Int) by rw [HIS.out, ← HJ.out]; exact find_at _ is k hlt hd.out (by rw [HJ.out, ← hQ2.out]))
              have hva := hide' (show wlAt φW l ac (j : Int) = vs by rw [wlAt_of hjl, HVS.out])
              have xk : wr.cell? ⟨b3, off3 + k, none⟩ = some (.int .i64 is[k]) := (hny1.cell (cell_lt (HCA3.out k hlt))).trans (HCA3.out k hlt)
              rw [HJ.out] at xk
              obtain ⟨A7, cap7, e7, hc7, hm7, hA7⟩ := (hIS.out.on hny)
              obtain ⟨rfl, -, rfl⟩ : A5 = A7 ∧ True ∧ cap5 = cap7 := by simpa using e7
              rw [show maxLen = 9223372036854775807 from rfl] at hm7
              have HA7 := hide' hA7
              clear hd hQ hQ2 hA7 e7
              obtain ⟨wp, rfl⟩ : ∃ wp : World, wp = wr := ⟨_, rfl⟩
              obtain ⟨i0, hi, hz0, hz1, hz2⟩ := info_parts boolInfo
              go_wp2_with fail
              go_loopw [18, 19] (fun p c wq => ∃ (m : Nat), m ≤ vs.length ∧ c = .int .i64 m ∧ wq.ownsRow wp.heap.size 4 1 p m (bools ((promo vs).take m)) ∧ Below wp.heap.size wp wq) (fun _ c _ => vs.length - (intOf c).toNat)
              case atStart => exact ⟨0, Nat.zero_le _, rfl, World.ownsRow_nil _ _ _ _, Below.refl _ _⟩
              case round =>
                obtain ⟨m, hm, rfl, hown, hnv⟩ := hrel
                by_cases hlm : m < vs.length
                · obtain ⟨b6, off6, rfl, hC6⟩ := HA7.out (by omega)
                  have x6 : wr.cell? ⟨b6, off6 + m, none⟩ = some (.int .i64 vs[m]) := (hnv.cell (cell_lt (hC6 m hlm))).trans (hC6 m hlm)
                  have HST := promo_step vs m hlm
                  obtain ⟨z, hz⟩ : ∃ z, vs[m] = z := ⟨_, rfl⟩
                  rw [hz] at x6 HST
                  obtain ⟨q2, hq2⟩ : ∃ q2, (z == 4) = q2 := ⟨_, rfl⟩
                  rw [hq2] at HST
                  have HS2 := hide' HST
                  have hm0 : (0 : Int) ≤ (m : Int) := by omega
                  have hm1 : (m : Int) < (vs.length : Int) := by omega
                  clear hz HST hC6 xk
                  go_wp2_with (at_builtin; go_must (refine wpList_append_own _ rfl _ _ 31 rfl wp.heap.size 4 i0 _ 1 1 Tryd.underlying31 hi hz0 hz1 hz2 rfl (by decide) _ _ _ rfl (hown.alloc _) ⟨wr.heap.size, 0, none⟩ 1 1 [.bool q2] rfl rfl ?c1 ?c2 ?c3 ?c4 ?c5 ?_))
                  case c1 => intro j u hu; exact cells_new' wr _ _ j u hu rfl
                  case c2 => intro u hu; simp at hu; subst hu; rfl
                  case c3 => unfold maxLen; omega
                  case c4 => omega
                  case c5 => have := hnv.size; simp; omega
                  intro v'' w7 hown7 hg7 _
                  have hb7 := (hnv.alloc hnv.size (.cells #[.bool q2] 4)).grown hg7 (by have := hnv.size; simp; omega) (fun k hk => (hown.lt k hk).1)
                  go_wp2_with fail
                  go_roundw
                  case rel => exact ⟨m + 1, by omega, by go_num, by rw [HS2.out]; exact hown7, hb7⟩
                  case measure => simp [intOf]; omega
                · have hme : m = vs.length := by omega
                  subst hme
                  have hBS : BSl wr u18 (promo vs) := by
                    rw [List.take_of_length_le (by rw [promo_len]; exact Nat.le_refl _)] at hown
                    exact BSl.own (by rw [promo_len]; exact hown)
                  have xk' := (hnv.cell (cell_lt xk)).trans xk
                  have hend := hny1.trans (hnv.mono hny1.size)
                  have hendw := hide' (HB1.out.trans (hend.mono HB1.out.size))
                  clear hown HA7 xk hend hnv
                  go_wp2_with fail
                  go_ret3
                  exact ⟨resE_best hY.out hn.out hfin.out (by rw [hva.out]; exact hBS), hendw.out⟩
      · have hfin := hide' (show (cands φW l nm ac l.length).find? (isBest φW l ac (cands φW l nm ac l.length)) = none by rw [HIS.out]; exact find_none' _ is k (by omega) hd.out)
        have hendw := hide' (HB1.out.trans (hnx.mono HB1.out.size))
        clear hd hnx
        go_wp2_with fail
        go_ret3
        exact ⟨resE_many hY.out hn.out hfin.out, hendw.out⟩

end Go.Proofs.YtdmdfokkibijjaaDoor
