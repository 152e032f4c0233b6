/-
  Layer 9: the walk of Ambiguous.
-/
import Derived.Test.YtdmdfokkibijjaaDoorSW32
namespace Go.Proofs.YtdmdfokkibijjaaDoor
open Go.RowKit
open Sgn
set_option linter.unusedVariables false
set_option linter.unusedSimpArgs false

theorem own_apart {w w' : World} {base : Nat} {e : TypeId} {n : Nat} {v u : Value} {xs : List Value} (h : w.ownsRow base e 1 u n xs) (hg : w.grownBy w' v.ownBlock) (hd : ∀ g, u.ownBlock = some g → v.ownBlock ≠ some g) : w'.ownsRow base e 1 u n xs := by
  refine h.kept hg ?_
  cases hu : u.ownBlock with
  | none => exact .inl rfl
  | some g => exact .inr fun e => hd g hu e.symm
def Apart (v u : Value) : Prop := ∀ g, u.ownBlock = some g → v.ownBlock ≠ some g
theorem Apart.left {w : World} {base : Nat} {e : TypeId} {n m : Nat} {v v' u : Value} {xs : List Value} (h : Apart v u) (hu : w.ownsRow base e 1 u n xs) (hm : w.heap.size ≤ m) (hv : v'.ownBlock = v.ownBlock ∨ v'.ownBlock = some m) : Apart v' u := fun g hg he => by
  rcases hv with hv | hv
  · exact h g hg (hv ▸ he)
  · have := (hu.lt g hg).2
    rw [hv] at he
    cases he
    omega
theorem Apart.symm {v u : Value} (h : Apart v u) : Apart u v := fun g hg he => h g he hg

set_option maxHeartbeats 16000000 in
set_option maxRecDepth 100000 in
theorem Ambiguous_any (s t : G) (v u : Value) (w : World) (hT : Tab w) (hv : GV w v s) (hu : GV w u t) (hs : s.name.size ≤ 4611686018427387904) (ht : t.name.size ≤ 4611686018427387904) :
    Calls Tryd.prog 31 #[v, u] w fun e w' => AmbE s t e ∧ Below w.heap.size w w' := by
  have HV1 := fun w1 (hb : Below w.heap.size w w1) => hide' (Valid_any s v w1 (hT.on hb) (hv.on hb) hs)
  have HV2 := fun w1 (hb : Below w.heap.size w w1) => hide' (Valid_any t u w1 (hT.on hb) (hu.on hb) ht)
  obtain ⟨X, rfl, A, cap, rfl, hca, hma, hA⟩ := hv
  obtain ⟨Y, rfl, B, cap2, rfl, hcb, hmb, hB⟩ := hu
  have CB : Hid (∀ w1, Below ((w.alloc (.cells #[.string s.name, .slice A s.fs.length cap, .string s.res] 37)).alloc (.cells #[.string t.name, .slice B t.fs.length cap2, .string t.res] 37)).heap.size ((w.alloc (.cells #[.string s.name, .slice A s.fs.length cap, .string s.res] 37)).alloc (.cells #[.string t.name, .slice B t.fs.length cap2, .string t.res] 37)) w1 → _) := fun w1 hb => box33 hb
  have E0 := fun h => hide' (ambE_arg (s := s) (t := t) h)
  have E1 := fun h hn => hide' (ambE_name (s := s) (t := t) h hn)
  have E2 := fun h hl => hide' (ambE_len (s := s) (t := t) h hl)
  have E3 := fun h ha => hide' (ambE_none (s := s) (t := t) h ha)
  have E4 := fun h hn hl ha q c hq hc => hide' (ambE_end (s := s) (t := t) h hn hl ha q c hq hc)
  have hlen1 := @validG_len s
  obtain ⟨q1, hq1⟩ : ∃ q, validG s = q := ⟨_, rfl⟩
  obtain ⟨q2, hq2⟩ : ∃ q, validG t = q := ⟨_, rfl⟩
  rw [hq1] at HV1 hlen1
  rw [hq2] at HV2
  rw [hq1, hq2] at E0 E1 E2 E3 E4
  obtain ⟨n1, fs, r1⟩ := s
  obtain ⟨n2, gs, r2⟩ := t
  simp only at CB hca hma hcb hmb hA hB hlen1 E1 E2 E3 E4
  obtain ⟨E, hE⟩ : ∃ E : Ending → Prop, E = AmbE ⟨n1, fs, r1⟩ ⟨n2, gs, r2⟩ := ⟨_, rfl⟩
  rw [← hE] at E0 E1 E2 E3 E4 ⊢
  have HA : Hid (0 < fs.length → ∃ b off, A = some ⟨b, off, none⟩ ∧ FCells w b off fs) := hA
  have HB : Hid (0 < gs.length → ∃ b off, B = some ⟨b, off, none⟩ ∧ FCells w b off gs) := hB
  have hmax : maxLen = 9223372036854775807 := rfl
  rw [hmax] at hma hmb
  have H0 := hide' E0
  have H1 := hide' E1
  have H2 := hide' E2
  have H3 := hide' E3
  have H4 := hide' E4
  have HLEN := hide' hlen1
  clear hA hB hmax hq1 hq2 hs ht hE E0 E1 E2 E3 E4 hlen1
  go_enter Tryd.func31, Tryd.ntmps31
  obtain ⟨d1, d2, d3, d4, d5, d6⟩ := CB.out _ (Below.refl _ _)
  go_wp2_with fail
  refine (HV1 _ (box2_below (Below.refl _ _))).out.mono ?_
  rintro e w1 ⟨rfl, hb1⟩
  clear d1 d2 d3 d4 d5 d6 HV1
  obtain ⟨d1, d2, d3, d4, d5, d6⟩ := CB.out _ hb1
  have HB1 := hide' hb1
  clear hb1
  cases q1
  · have h0 := hide' ((H0.out rfl).out)
    clear H0 H1 H2 H3 H4 HV2 CB HA HB
    go_wp2_with fail
    go_ret2
    exact ⟨h0.out, box2_below HB1.out⟩
  go_wp2_with fail
  refine (HV2 _ (box2_below HB1.out)).out.mono ?_
  rintro e w2 ⟨rfl, hb2⟩
  have hb3 := HB1.out.trans (hb2.mono HB1.out.size)
  clear d1 d2 d3 d4 d5 d6 HV2 HB1 hb2
  obtain ⟨d1, d2, d3, d4, d5, d6⟩ := CB.out _ hb3
  have HB3 := hide' hb3
  clear hb3
  cases q2
  · have h0 := hide' ((H0.out rfl).out)
    clear H0 H1 H2 H3 H4 CB HA HB
    go_wp2_with fail
    go_ret2
    exact ⟨h0.out, box2_below HB3.out⟩
  have hfl := HLEN.out (by simp)
  cases qn : (n1.toList == n2.toList)
  · have h0 := hide' ((H1.out rfl qn).out)
    have qn' : (n1.toList != n2.toList) = true := by simp only [bne, qn]; rfl
    clear H0 H1 H2 H3 H4 CB HA HB
    go_wp2_with fail
    go_ret2
    exact ⟨h0.out, box2_below HB3.out⟩
  have qn' : (n1.toList != n2.toList) = false := by simp only [bne, qn]; rfl
  have QN := hide' qn
  by_cases hlx : ¬ fs.length = gs.length
  · have hl := hlx
    have hl' : ((fs.length : Int) != (gs.length : Int)) = true := by rw [bne_iff_ne]; omega
    have h0 := hide' ((H2.out rfl hl).out)
    clear H0 H1 H2 H3 H4 CB HA HB hl hlx
    go_wp2_with fail
    go_ret2
    exact ⟨h0.out, box2_below HB3.out⟩
  have hl : fs.length = gs.length := Classical.not_not.1 hlx
  clear hlx
  have hl' : ((fs.length : Int) != (gs.length : Int)) = false := by rw [hl]; simp
  have HL := hide' hl
  clear hl H0 H1 H2
  have hzl : (List.zip fs gs).length = fs.length := by rw [List.length_zip]; have := HL.out; omega
  have HZL := hide' hzl
  clear hzl
  obtain ⟨i0, hi, hz0, hz1, hz2⟩ := info_parts intInfo
  go_wp2_with fail
  clear d1 d2 d3 d4 d5 d6
  go_loopw [6, 7, 8, 39] (fun a x y i wr => ∃ (k : Nat) (q : Bool), k ≤ fs.length ∧ i = .int .i64 k ∧ a = .bool q ∧ wr.ownsRow w2.heap.size 3 1 x (idxs lsP (List.zip fs gs) k).length (ints (idxs lsP (List.zip fs gs) k)) ∧ wr.ownsRow w2.heap.size 3 1 y (idxs mrP (List.zip fs gs) k).length (ints (idxs mrP (List.zip fs gs) k)) ∧ Apart x y ∧ Below w2.heap.size w2 wr ∧ Hid (q = ((List.zip fs gs).take k).all lkP) ∧ Hid (∀ p ∈ (List.zip fs gs).take k, someP p = true)) (fun _ _ _ i _ => fs.length - (intOf i).toNat)
  case atStart => exact ⟨0, true, Nat.zero_le _, rfl, rfl, World.ownsRow_nil _ _ _ _, World.ownsRow_nil _ _ _ _, (fun g hg => by cases hg), Below.refl _ _, rfl, (fun p hp => by simp at hp)⟩
  case round =>
    obtain ⟨k, q, hk, rfl, rfl, hown7, hown8, hap, hnx, hQ, hd⟩ := hrel
    have hbx := HB3.out.trans (hnx.mono HB3.out.size)
    have HBX := hide' hbx
    have HNX := hide' hnx
    by_cases hlt : k < fs.length
    · have hlt2 : k < gs.length := by have := HL.out; omega
      have hltz : k < (List.zip fs gs).length := by rw [HZL.out]; exact hlt
      obtain ⟨b, off, rfl, hCA⟩ := HA.out (by omega)
      obtain ⟨b2, off2, rfl, hCB⟩ := HB.out (by omega)
      obtain ⟨x1, x2⟩ := (hCA.on (box2_below hbx)) k hlt
      obtain ⟨y1, y2⟩ := (hCB.on (box2_below hbx)) k hlt2
      obtain ⟨d1, d2, d3, d4, d5, d6⟩ := CB.out _ hbx
      obtain ⟨_, hze⟩ := zipF_at k hlt hlt2
      have i7y := fun h => hide' (idxs_yes (p := lsP) hltz h)
      have i7n := fun h => hide' (idxs_no (p := lsP) hltz h)
      have i8y := fun h => hide' (idxs_yes (p := mrP) hltz h)
      have i8n := fun h => hide' (idxs_no (p := mrP) hltz h)
      have hqs := allb_step lkP (List.zip fs gs) k hltz
      have hno := fun h => hide' (all_fail someP (List.zip fs gs) k hltz h)
      have hyes := fun h => hide' (all_upto someP (List.zip fs gs) k hltz hd.out h)
      rw [← hQ.out] at hqs
      have HSG := fun u => hide' (signs9_any fs[k] gs[k] u)
      unfold SignsEnd at HSG
      have hl1 : allT.any (likeT φF fs[k] gs[k]) = lkP (List.zip fs gs)[k] := by rw [hze]; rfl
      have hl2 : allT.any (lessT φF fs[k] gs[k]) = lsP (List.zip fs gs)[k] := by rw [hze]; rfl
      have hl3 : allT.any (moreT φF fs[k] gs[k]) = mrP (List.zip fs gs)[k] := by rw [hze]; rfl
      rw [hl1, hl2, hl3] at HSG
      have hsome : someP (List.zip fs gs)[k] = (lkP (List.zip fs gs)[k] || (lsP (List.zip fs gs)[k] || mrP (List.zip fs gs)[k])) := rfl
      rw [hsome] at hno hyes
      obtain ⟨L1, e1⟩ : ∃ x, lkP (List.zip fs gs)[k] = x := ⟨_, rfl⟩
      obtain ⟨L2, e2⟩ : ∃ x, lsP (List.zip fs gs)[k] = x := ⟨_, rfl⟩
      obtain ⟨L3, e3⟩ : ∃ x, mrP (List.zip fs gs)[k] = x := ⟨_, rfl⟩
      rw [e1, e2, e3] at HSG hno hyes
      rw [e1] at hqs
      rw [e2] at i7y i7n
      rw [e3] at i8y i8n
      obtain ⟨k1, f1⟩ : ∃ t, fs[k].k = t := ⟨_, rfl⟩
      obtain ⟨m1, f2⟩ : ∃ t, fs[k].n = t := ⟨_, rfl⟩
      obtain ⟨k2, f3⟩ : ∃ t, gs[k].k = t := ⟨_, rfl⟩
      obtain ⟨m2, f4⟩ : ∃ t, gs[k].n = t := ⟨_, rfl⟩
      simp only [f1, f2, f3, f4] at x1 x2 y1 y2 HSG
      have ne7 := idxs_le lsP (List.zip fs gs) k
      have ne8 := idxs_le mrP (List.zip fs gs) k
      obtain ⟨c7, hc7⟩ : ∃ c, idxs lsP (List.zip fs gs) k = c := ⟨_, rfl⟩
      obtain ⟨c8, hc8⟩ : ∃ c, idxs mrP (List.zip fs gs) k = c := ⟨_, rfl⟩
      rw [hc7] at hown7 ne7 i7y i7n
      rw [hc8] at hown8 ne8 i8y i8n
      have HQS := hide' hqs
      have I7Y := hide' i7y
      have I7N := hide' i7n
      have I8Y := hide' i8y
      have I8N := hide' i8n
      have HNO := hide' hno
      have HYES := hide' hyes
      have HSX : Hid (∀ w', Below wr.heap.size wr w' → w'.cell? ⟨w.heap.size, 1, none⟩ = some (.slice (some ⟨b, off, none⟩) fs.length cap) ∧ w'.cell? ⟨w.heap.size + 1, 1, none⟩ = some (.slice (some ⟨b2, off2, none⟩) gs.length cap2) ∧ w'.cell? ⟨b, off + k * 2, none⟩ = some (.string k1) ∧ w'.cell? ⟨b, off + k * 2 + 1, none⟩ = some (.int .i64 m1) ∧ w'.cell? ⟨b2, off2 + k * 2, none⟩ = some (.string k2) ∧ w'.cell? ⟨b2, off2 + k * 2 + 1, none⟩ = some (.int .i64 m2) ∧ Below wr.heap.size wr w') := fun w' hb => ⟨(hb.cell (cell_lt d2)).trans d2, (hb.cell (cell_lt d5)).trans d5, (hb.cell (cell_lt x1)).trans x1, (hb.cell (cell_lt x2)).trans x2, (hb.cell (cell_lt y1)).trans y1, (hb.cell (cell_lt y2)).trans y2, hb⟩
      have hk0 : (0 : Int) ≤ (k : Int) := by omega
      have hk1 : (k : Int) < (fs.length : Int) := by omega
      have hk2 : (k : Int) < (gs.length : Int) := by omega
      clear f1 f2 f3 f4 e1 e2 e3 hl1 hl2 hl3 hsome hc7 hc8 hqs i7y i7n i8y i8n hno hyes hCA hCB HA HB hd hQ hze x1 x2 y1 y2 d1 d2 d3 d4 d5 d6 CB hbx qn qn' hl'
      go_wp2_with fail
      go_region_held3 (fun w' => w'.cell? ⟨w.heap.size, 1, none⟩ = some (.slice (some ⟨b, off, none⟩) fs.length cap) ∧ w'.cell? ⟨w.heap.size + 1, 1, none⟩ = some (.slice (some ⟨b2, off2, none⟩) gs.length cap2) ∧ w'.cell? ⟨b, off + k * 2, none⟩ = some (.string k1) ∧ w'.cell? ⟨b, off + k * 2 + 1, none⟩ = some (.int .i64 m1) ∧ w'.cell? ⟨b2, off2 + k * 2, none⟩ = some (.string k2) ∧ w'.cell? ⟨b2, off2 + k * 2 + 1, none⟩ = some (.int .i64 m2) ∧ Below wr.heap.size wr w')
        (first | assumption | exact HSX.out _ (Below.refl _ _) | exact HSX.out _ (Below.refl _ _).drew | exact HSX.out _ (held_last6 (by assumption)).drew | exact hS)
        (first | (go_at_call 54; refine (HSG _).out.mono ?_; rintro e5 w5 ⟨rfl, hb5⟩; have hS := HSX.out _ ((held_last6 (by assumption)).trans (hb5.mono (held_last6 (by assumption)).size))))
      rename_i w5 hS2
      have hbr := held_last6 hS2
      have hown7' := ownsRow_below hown7 hbr
      have hown8' := ownsRow_below hown8 hbr
      have hb9 := HNX.out.trans (hbr.mono HNX.out.size)
      clear hS2 hbr HSX HSG hown7 hown8 hnx
      cases L2 <;> cases L3
      · -- less false, more false
        cases L1
        · have h0 := hide' ((H3.out rfl ((HNO.out rfl).out)).out)
          have hend := hide' ((box2_below HB3.out).trans (hb9.mono (box2_below HB3.out).size))
          clear H3 H4 HNO HYES HQS I7Y I7N I8Y I8N hown7' hown8'
          go_wp2_with fail
          go_ret2
          exact ⟨h0.out, hend.out⟩
        have hd' := (HYES.out rfl)
        have j7 := (I7N.out rfl).out
        have j8 := (I8N.out rfl).out
        have J7 := hide' j7
        have J8 := hide' j8
        clear j7 j8 HNO HYES I7Y I7N I8Y I8N
        cases q
        · go_wp2_with fail
          go_roundw
          case rel => exact ⟨k + 1, false, by omega, by go_num, rfl, by rw [J7.out]; exact hown7', by rw [J8.out]; exact hown8', hap, hb9, (by show _ = _; rw [HQS.out]; rfl), hd'⟩
          case measure => simp [intOf]; omega
        · go_wp2_with fail
          go_roundw
          case rel => exact ⟨k + 1, true, by omega, by go_num, rfl, by rw [J7.out]; exact hown7', by rw [J8.out]; exact hown8', hap, hb9, (by show _ = _; rw [HQS.out]; rfl), hd'⟩
          case measure => simp [intOf]; omega
      · -- less false, more true
        have hd' := (HYES.out (by cases L1 <;> rfl))
        have J7 := hide' ((I7N.out rfl).out)
        have J8 := hide' ((I8Y.out rfl).out)
        clear HNO HYES I7Y I7N I8Y I8N
        cases L1 <;> cases q
        · have hbw := hb9
          clear hb9
          go_wp2_with (at_builtin; go_must (refine wpList_append_own_at _ rfl _ _ 26 rfl w2.heap.size 3 i0 _ 1 8 Tryd.underlying26 hi hz0 hz1 hz2 rfl (by decide) _ _ _ rfl (hown8'.alloc _) ⟨w5.heap.size, 0, none⟩ 1 1 [.int .i64 k] rfl rfl ?ax0 ?bx0 ?cx0 ?dx0 ?ex0 ?_))
          case ax0 => intro j u hu; exact cells_new' w5 _ _ j u hu rfl
          case bx0 => intro u hu; simp at hu; subst hu; rfl
          case cx0 => unfold maxLen; omega
          case dx0 => omega
          case ex0 => have := hbw.size; simp; omega
          intro vx0 wx0 hnx0 hgx0 _ hlocx0
          have hbx0 := (hbw.alloc hbw.size (.cells #[.int .i64 k] 3)).grown hgx0 (by have := hbw.size; simp; omega) (fun k hk => (hown8'.lt k hk).1)
          have hox0 := own_apart (hown7'.alloc (.cells #[.int .i64 k] 3)) hgx0 (hap.symm)
          have apx0 := Apart.left (hap.symm) hown7' (Nat.le_succ _) hlocx0
          clear hlocx0 hgx0
          have szx0 := hbx0.size
          go_wp2_with fail
          go_roundw
          case rel => exact ⟨k + 1, false, by omega, by go_num, rfl, by rw [J7.out]; exact hox0, by rw [J8.out, ints_snoc, List.length_append]; exact hnx0, apx0.symm, hbx0, (by show _ = _; rw [HQS.out]; rfl), hd'⟩
          case measure => simp [intOf]; omega
        · have hbw := hb9
          clear hb9
          go_wp2_with (at_builtin; go_must (refine wpList_append_own_at _ rfl _ _ 26 rfl w2.heap.size 3 i0 _ 1 8 Tryd.underlying26 hi hz0 hz1 hz2 rfl (by decide) _ _ _ rfl (hown8'.alloc _) ⟨w5.heap.size, 0, none⟩ 1 1 [.int .i64 k] rfl rfl ?ax0 ?bx0 ?cx0 ?dx0 ?ex0 ?_))
          case ax0 => intro j u hu; exact cells_new' w5 _ _ j u hu rfl
          case bx0 => intro u hu; simp at hu; subst hu; rfl
          case cx0 => unfold maxLen; omega
          case dx0 => omega
          case ex0 => have := hbw.size; simp; omega
          intro vx0 wx0 hnx0 hgx0 _ hlocx0
          have hbx0 := (hbw.alloc hbw.size (.cells #[.int .i64 k] 3)).grown hgx0 (by have := hbw.size; simp; omega) (fun k hk => (hown8'.lt k hk).1)
          have hox0 := own_apart (hown7'.alloc (.cells #[.int .i64 k] 3)) hgx0 (hap.symm)
          have apx0 := Apart.left (hap.symm) hown7' (Nat.le_succ _) hlocx0
          clear hlocx0 hgx0
          have szx0 := hbx0.size
          go_wp2_with fail
          go_roundw
          case rel => exact ⟨k + 1, false, by omega, by go_num, rfl, by rw [J7.out]; exact hox0, by rw [J8.out, ints_snoc, List.length_append]; exact hnx0, apx0.symm, hbx0, (by show _ = _; rw [HQS.out]; rfl), hd'⟩
          case measure => simp [intOf]; omega
        · have hbw := hb9
          clear hb9
          go_wp2_with (at_builtin; go_must (refine wpList_append_own_at _ rfl _ _ 26 rfl w2.heap.size 3 i0 _ 1 8 Tryd.underlying26 hi hz0 hz1 hz2 rfl (by decide) _ _ _ rfl (hown8'.alloc _) ⟨w5.heap.size, 0, none⟩ 1 1 [.int .i64 k] rfl rfl ?ax0 ?bx0 ?cx0 ?dx0 ?ex0 ?_))
          case ax0 => intro j u hu; exact cells_new' w5 _ _ j u hu rfl
          case bx0 => intro u hu; simp at hu; subst hu; rfl
          case cx0 => unfold maxLen; omega
          case dx0 => omega
          case ex0 => have := hbw.size; simp; omega
          intro vx0 wx0 hnx0 hgx0 _ hlocx0
          have hbx0 := (hbw.alloc hbw.size (.cells #[.int .i64 k] 3)).grown hgx0 (by have := hbw.size; simp; omega) (fun k hk => (hown8'.lt k hk).1)
          have hox0 := own_apart (hown7'.alloc (.cells #[.int .i64 k] 3)) hgx0 (hap.symm)
          have apx0 := Apart.left (hap.symm) hown7' (Nat.le_succ _) hlocx0
          clear hlocx0 hgx0
          have szx0 := hbx0.size
          go_wp2_with fail
          go_roundw
          case rel => exact ⟨k + 1, false, by omega, by go_num, rfl, by rw [J7.out]; exact hox0, by rw [J8.out, ints_snoc, List.length_append]; exact hnx0, apx0.symm, hbx0, (by show _ = _; rw [HQS.out]; rfl), hd'⟩
          case measure => simp [intOf]; omega
        · have hbw := hb9
          clear hb9
          go_wp2_with (at_builtin; go_must (refine wpList_append_own_at _ rfl _ _ 26 rfl w2.heap.size 3 i0 _ 1 8 Tryd.underlying26 hi hz0 hz1 hz2 rfl (by decide) _ _ _ rfl (hown8'.alloc _) ⟨w5.heap.size, 0, none⟩ 1 1 [.int .i64 k] rfl rfl ?ax0 ?bx0 ?cx0 ?dx0 ?ex0 ?_))
          case ax0 => intro j u hu; exact cells_new' w5 _ _ j u hu rfl
          case bx0 => intro u hu; simp at hu; subst hu; rfl
          case cx0 => unfold maxLen; omega
          case dx0 => omega
          case ex0 => have := hbw.size; simp; omega
          intro vx0 wx0 hnx0 hgx0 _ hlocx0
          have hbx0 := (hbw.alloc hbw.size (.cells #[.int .i64 k] 3)).grown hgx0 (by have := hbw.size; simp; omega) (fun k hk => (hown8'.lt k hk).1)
          have hox0 := own_apart (hown7'.alloc (.cells #[.int .i64 k] 3)) hgx0 (hap.symm)
          have apx0 := Apart.left (hap.symm) hown7' (Nat.le_succ _) hlocx0
          clear hlocx0 hgx0
          have szx0 := hbx0.size
          go_wp2_with fail
          go_roundw
          case rel => exact ⟨k + 1, true, by omega, by go_num, rfl, by rw [J7.out]; exact hox0, by rw [J8.out, ints_snoc, List.length_append]; exact hnx0, apx0.symm, hbx0, (by show _ = _; rw [HQS.out]; rfl), hd'⟩
          case measure => simp [intOf]; omega
      · -- less true, more false
        have hd' := (HYES.out (by cases L1 <;> rfl))
        have J7 := hide' ((I7Y.out rfl).out)
        have J8 := hide' ((I8N.out rfl).out)
        clear HNO HYES I7Y I7N I8Y I8N
        cases L1 <;> cases q
        · have hbw := hb9
          clear hb9
          go_wp2_with (at_builtin; go_must (refine wpList_append_own_at _ rfl _ _ 26 rfl w2.heap.size 3 i0 _ 1 8 Tryd.underlying26 hi hz0 hz1 hz2 rfl (by decide) _ _ _ rfl (hown7'.alloc _) ⟨w5.heap.size, 0, none⟩ 1 1 [.int .i64 k] rfl rfl ?ax0 ?bx0 ?cx0 ?dx0 ?ex0 ?_))
          case ax0 => intro j u hu; exact cells_new' w5 _ _ j u hu rfl
          case bx0 => intro u hu; simp at hu; subst hu; rfl
          case cx0 => unfold maxLen; omega
          case dx0 => omega
          case ex0 => have := hbw.size; simp; omega
          intro vx0 wx0 hnx0 hgx0 _ hlocx0
          have hbx0 := (hbw.alloc hbw.size (.cells #[.int .i64 k] 3)).grown hgx0 (by have := hbw.size; simp; omega) (fun k hk => (hown7'.lt k hk).1)
          have hox0 := own_apart (hown8'.alloc (.cells #[.int .i64 k] 3)) hgx0 (hap)
          have apx0 := Apart.left (hap) hown8' (Nat.le_succ _) hlocx0
          clear hlocx0 hgx0
          have szx0 := hbx0.size
          go_wp2_with fail
          go_roundw
          case rel => exact ⟨k + 1, false, by omega, by go_num, rfl, by rw [J7.out, ints_snoc, List.length_append]; exact hnx0, by rw [J8.out]; exact hox0, apx0, hbx0, (by show _ = _; rw [HQS.out]; rfl), hd'⟩
          case measure => simp [intOf]; omega
        · have hbw := hb9
          clear hb9
          go_wp2_with (at_builtin; go_must (refine wpList_append_own_at _ rfl _ _ 26 rfl w2.heap.size 3 i0 _ 1 8 Tryd.underlying26 hi hz0 hz1 hz2 rfl (by decide) _ _ _ rfl (hown7'.alloc _) ⟨w5.heap.size, 0, none⟩ 1 1 [.int .i64 k] rfl rfl ?ax0 ?bx0 ?cx0 ?dx0 ?ex0 ?_))
          case ax0 => intro j u hu; exact cells_new' w5 _ _ j u hu rfl
          case bx0 => intro u hu; simp at hu; subst hu; rfl
          case cx0 => unfold maxLen; omega
          case dx0 => omega
          case ex0 => have := hbw.size; simp; omega
          intro vx0 wx0 hnx0 hgx0 _ hlocx0
          have hbx0 := (hbw.alloc hbw.size (.cells #[.int .i64 k] 3)).grown hgx0 (by have := hbw.size; simp; omega) (fun k hk => (hown7'.lt k hk).1)
          have hox0 := own_apart (hown8'.alloc (.cells #[.int .i64 k] 3)) hgx0 (hap)
          have apx0 := Apart.left (hap) hown8' (Nat.le_succ _) hlocx0
          clear hlocx0 hgx0
          have szx0 := hbx0.size
          go_wp2_with fail
          go_roundw
          case rel => exact ⟨k + 1, false, by omega, by go_num, rfl, by rw [J7.out, ints_snoc, List.length_append]; exact hnx0, by rw [J8.out]; exact hox0, apx0, hbx0, (by show _ = _; rw [HQS.out]; rfl), hd'⟩
          case measure => simp [intOf]; omega
        · have hbw := hb9
          clear hb9
          go_wp2_with (at_builtin; go_must (refine wpList_append_own_at _ rfl _ _ 26 rfl w2.heap.size 3 i0 _ 1 8 Tryd.underlying26 hi hz0 hz1 hz2 rfl (by decide) _ _ _ rfl (hown7'.alloc _) ⟨w5.heap.size, 0, none⟩ 1 1 [.int .i64 k] rfl rfl ?ax0 ?bx0 ?cx0 ?dx0 ?ex0 ?_))
          case ax0 => intro j u hu; exact cells_new' w5 _ _ j u hu rfl
          case bx0 => intro u hu; simp at hu; subst hu; rfl
          case cx0 => unfold maxLen; omega
          case dx0 => omega
          case ex0 => have := hbw.size; simp; omega
          intro vx0 wx0 hnx0 hgx0 _ hlocx0
          have hbx0 := (hbw.alloc hbw.size (.cells #[.int .i64 k] 3)).grown hgx0 (by have := hbw.size; simp; omega) (fun k hk => (hown7'.lt k hk).1)
          have hox0 := own_apart (hown8'.alloc (.cells #[.int .i64 k] 3)) hgx0 (hap)
          have apx0 := Apart.left (hap) hown8' (Nat.le_succ _) hlocx0
          clear hlocx0 hgx0
          have szx0 := hbx0.size
          go_wp2_with fail
          go_roundw
          case rel => exact ⟨k + 1, false, by omega, by go_num, rfl, by rw [J7.out, ints_snoc, List.length_append]; exact hnx0, by rw [J8.out]; exact hox0, apx0, hbx0, (by show _ = _; rw [HQS.out]; rfl), hd'⟩
          case measure => simp [intOf]; omega
        · have hbw := hb9
          clear hb9
          go_wp2_with (at_builtin; go_must (refine wpList_append_own_at _ rfl _ _ 26 rfl w2.heap.size 3 i0 _ 1 8 Tryd.underlying26 hi hz0 hz1 hz2 rfl (by decide) _ _ _ rfl (hown7'.alloc _) ⟨w5.heap.size, 0, none⟩ 1 1 [.int .i64 k] rfl rfl ?ax0 ?bx0 ?cx0 ?dx0 ?ex0 ?_))
          case ax0 => intro j u hu; exact cells_new' w5 _ _ j u hu rfl
          case bx0 => intro u hu; simp at hu; subst hu; rfl
          case cx0 => unfold maxLen; omega
          case dx0 => omega
          case ex0 => have := hbw.size; simp; omega
          intro vx0 wx0 hnx0 hgx0 _ hlocx0
          have hbx0 := (hbw.alloc hbw.size (.cells #[.int .i64 k] 3)).grown hgx0 (by have := hbw.size; simp; omega) (fun k hk => (hown7'.lt k hk).1)
          have hox0 := own_apart (hown8'.alloc (.cells #[.int .i64 k] 3)) hgx0 (hap)
          have apx0 := Apart.left (hap) hown8' (Nat.le_succ _) hlocx0
          clear hlocx0 hgx0
          have szx0 := hbx0.size
          go_wp2_with fail
          go_roundw
          case rel => exact ⟨k + 1, true, by omega, by go_num, rfl, by rw [J7.out, ints_snoc, List.length_append]; exact hnx0, by rw [J8.out]; exact hox0, apx0, hbx0, (by show _ = _; rw [HQS.out]; rfl), hd'⟩
          case measure => simp [intOf]; omega
      · -- less true, more true
        have hd' := (HYES.out (by cases L1 <;> rfl))
        have J7 := hide' ((I7Y.out rfl).out)
        have J8 := hide' ((I8Y.out rfl).out)
        clear HNO HYES I7Y I7N I8Y I8N
        cases L1 <;> cases q
        · have hbw := hb9
          clear hb9
          go_wp2_with (at_builtin; go_must (refine wpList_append_own_at _ rfl _ _ 26 rfl w2.heap.size 3 i0 _ 1 8 Tryd.underlying26 hi hz0 hz1 hz2 rfl (by decide) _ _ _ rfl (hown7'.alloc _) ⟨w5.heap.size, 0, none⟩ 1 1 [.int .i64 k] rfl rfl ?ax0 ?bx0 ?cx0 ?dx0 ?ex0 ?_))
          case ax0 => intro j u hu; exact cells_new' w5 _ _ j u hu rfl
          case bx0 => intro u hu; simp at hu; subst hu; rfl
          case cx0 => unfold maxLen; omega
          case dx0 => omega
          case ex0 => have := hbw.size; simp; omega
          intro vx0 wx0 hnx0 hgx0 _ hlocx0
          have hbx0 := (hbw.alloc hbw.size (.cells #[.int .i64 k] 3)).grown hgx0 (by have := hbw.size; simp; omega) (fun k hk => (hown7'.lt k hk).1)
          have hox0 := own_apart (hown8'.alloc (.cells #[.int .i64 k] 3)) hgx0 (hap)
          have apx0 := Apart.left (hap) hown8' (Nat.le_succ _) hlocx0
          clear hlocx0 hgx0
          have szx0 := hbx0.size
          go_wp2_with (at_builtin; go_must (refine wpList_append_own_at _ rfl _ _ 26 rfl w2.heap.size 3 i0 _ 1 8 Tryd.underlying26 hi hz0 hz1 hz2 rfl (by decide) _ _ _ rfl (hox0.alloc _) ⟨wx0.heap.size, 0, none⟩ 1 1 [.int .i64 k] rfl rfl ?ax1 ?bx1 ?cx1 ?dx1 ?ex1 ?_))
          case ax1 => intro j u hu; exact cells_new' wx0 _ _ j u hu rfl
          case bx1 => intro u hu; simp at hu; subst hu; rfl
          case cx1 => unfold maxLen; omega
          case dx1 => omega
          case ex1 => have := hbx0.size; simp; omega
          intro vx1 wx1 hnx1 hgx1 _ hlocx1
          have hbx1 := (hbx0.alloc hbx0.size (.cells #[.int .i64 k] 3)).grown hgx1 (by have := hbx0.size; simp; omega) (fun k hk => (hox0.lt k hk).1)
          have hox1 := own_apart (hnx0.alloc (.cells #[.int .i64 k] 3)) hgx1 (apx0.symm)
          have apx1 := Apart.left (apx0.symm) hnx0 (Nat.le_succ _) hlocx1
          clear hlocx1 hgx1
          have szx1 := hbx1.size
          go_wp2_with fail
          go_roundw
          case rel => exact ⟨k + 1, false, by omega, by go_num, rfl, by rw [J7.out, ints_snoc, List.length_append]; exact hox1, by rw [J8.out, ints_snoc, List.length_append]; exact hnx1, apx1.symm, hbx1, (by show _ = _; rw [HQS.out]; rfl), hd'⟩
          case measure => simp [intOf]; omega
        · have hbw := hb9
          clear hb9
          go_wp2_with (at_builtin; go_must (refine wpList_append_own_at _ rfl _ _ 26 rfl w2.heap.size 3 i0 _ 1 8 Tryd.underlying26 hi hz0 hz1 hz2 rfl (by decide) _ _ _ rfl (hown7'.alloc _) ⟨w5.heap.size, 0, none⟩ 1 1 [.int .i64 k] rfl rfl ?ax0 ?bx0 ?cx0 ?dx0 ?ex0 ?_))
          case ax0 => intro j u hu; exact cells_new' w5 _ _ j u hu rfl
          case bx0 => intro u hu; simp at hu; subst hu; rfl
          case cx0 => unfold maxLen; omega
          case dx0 => omega
          case ex0 => have := hbw.size; simp; omega
          intro vx0 wx0 hnx0 hgx0 _ hlocx0
          have hbx0 := (hbw.alloc hbw.size (.cells #[.int .i64 k] 3)).grown hgx0 (by have := hbw.size; simp; omega) (fun k hk => (hown7'.lt k hk).1)
          have hox0 := own_apart (hown8'.alloc (.cells #[.int .i64 k] 3)) hgx0 (hap)
          have apx0 := Apart.left (hap) hown8' (Nat.le_succ _) hlocx0
          clear hlocx0 hgx0
          have szx0 := hbx0.size
          go_wp2_with (at_builtin; go_must (refine wpList_append_own_at _ rfl _ _ 26 rfl w2.heap.size 3 i0 _ 1 8 Tryd.underlying26 hi hz0 hz1 hz2 rfl (by decide) _ _ _ rfl (hox0.alloc _) ⟨wx0.heap.size, 0, none⟩ 1 1 [.int .i64 k] rfl rfl ?ax1 ?bx1 ?cx1 ?dx1 ?ex1 ?_))
          case ax1 => intro j u hu; exact cells_new' wx0 _ _ j u hu rfl
          case bx1 => intro u hu; simp at hu; subst hu; rfl
          case cx1 => unfold maxLen; omega
          case dx1 => omega
          case ex1 => have := hbx0.size; simp; omega
          intro vx1 wx1 hnx1 hgx1 _ hlocx1
          have hbx1 := (hbx0.alloc hbx0.size (.cells #[.int .i64 k] 3)).grown hgx1 (by have := hbx0.size; simp; omega) (fun k hk => (hox0.lt k hk).1)
          have hox1 := own_apart (hnx0.alloc (.cells #[.int .i64 k] 3)) hgx1 (apx0.symm)
          have apx1 := Apart.left (apx0.symm) hnx0 (Nat.le_succ _) hlocx1
          clear hlocx1 hgx1
          have szx1 := hbx1.size
          go_wp2_with fail
          go_roundw
          case rel => exact ⟨k + 1, false, by omega, by go_num, rfl, by rw [J7.out, ints_snoc, List.length_append]; exact hox1, by rw [J8.out, ints_snoc, List.length_append]; exact hnx1, apx1.symm, hbx1, (by show _ = _; rw [HQS.out]; rfl), hd'⟩
          case measure => simp [intOf]; omega
        · have hbw := hb9
          clear hb9
          go_wp2_with (at_builtin; go_must (refine wpList_append_own_at _ rfl _ _ 26 rfl w2.heap.size 3 i0 _ 1 8 Tryd.underlying26 hi hz0 hz1 hz2 rfl (by decide) _ _ _ rfl (hown7'.alloc _) ⟨w5.heap.size, 0, none⟩ 1 1 [.int .i64 k] rfl rfl ?ax0 ?bx0 ?cx0 ?dx0 ?ex0 ?_))
          case ax0 => intro j u hu; exact cells_new' w5 _ _ j u hu rfl
          case bx0 => intro u hu; simp at hu; subst hu; rfl
          case cx0 => unfold maxLen; omega
          case dx0 => omega
          case ex0 => have := hbw.size; simp; omega
          intro vx0 wx0 hnx0 hgx0 _ hlocx0
          have hbx0 := (hbw.alloc hbw.size (.cells #[.int .i64 k] 3)).grown hgx0 (by have := hbw.size; simp; omega) (fun k hk => (hown7'.lt k hk).1)
          have hox0 := own_apart (hown8'.alloc (.cells #[.int .i64 k] 3)) hgx0 (hap)
          have apx0 := Apart.left (hap) hown8' (Nat.le_succ _) hlocx0
          clear hlocx0 hgx0
          have szx0 := hbx0.size
          go_wp2_with (at_builtin; go_must (refine wpList_append_own_at _ rfl _ _ 26 rfl w2.heap.size 3 i0 _ 1 8 Tryd.underlying26 hi hz0 hz1 hz2 rfl (by decide) _ _ _ rfl (hox0.alloc _) ⟨wx0.heap.size, 0, none⟩ 1 1 [.int .i64 k] rfl rfl ?ax1 ?bx1 ?cx1 ?dx1 ?ex1 ?_))
          case ax1 => intro j u hu; exact cells_new' wx0 _ _ j u hu rfl
          case bx1 => intro u hu; simp at hu; subst hu; rfl
          case cx1 => unfold maxLen; omega
          case dx1 => omega
          case ex1 => have := hbx0.size; simp; omega
          intro vx1 wx1 hnx1 hgx1 _ hlocx1
          have hbx1 := (hbx0.alloc hbx0.size (.cells #[.int .i64 k] 3)).grown hgx1 (by have := hbx0.size; simp; omega) (fun k hk => (hox0.lt k hk).1)
          have hox1 := own_apart (hnx0.alloc (.cells #[.int .i64 k] 3)) hgx1 (apx0.symm)
          have apx1 := Apart.left (apx0.symm) hnx0 (Nat.le_succ _) hlocx1
          clear hlocx1 hgx1
          have szx1 := hbx1.size
          go_wp2_with fail
          go_roundw
          case rel => exact ⟨k + 1, false, by omega, by go_num, rfl, by rw [J7.out, ints_snoc, List.length_append]; exact hox1, by rw [J8.out, ints_snoc, List.length_append]; exact hnx1, apx1.symm, hbx1, (by show _ = _; rw [HQS.out]; rfl), hd'⟩
          case measure => simp [intOf]; omega
        · have hbw := hb9
          clear hb9
          go_wp2_with (at_builtin; go_must (refine wpList_append_own_at _ rfl _ _ 26 rfl w2.heap.size 3 i0 _ 1 8 Tryd.underlying26 hi hz0 hz1 hz2 rfl (by decide) _ _ _ rfl (hown7'.alloc _) ⟨w5.heap.size, 0, none⟩ 1 1 [.int .i64 k] rfl rfl ?ax0 ?bx0 ?cx0 ?dx0 ?ex0 ?_))
          case ax0 => intro j u hu; exact cells_new' w5 _ _ j u hu rfl
          case bx0 => intro u hu; simp at hu; subst hu; rfl
          case cx0 => unfold maxLen; omega
          case dx0 => omega
          case ex0 => have := hbw.size; simp; omega
          intro vx0 wx0 hnx0 hgx0 _ hlocx0
          have hbx0 := (hbw.alloc hbw.size (.cells #[.int .i64 k] 3)).grown hgx0 (by have := hbw.size; simp; omega) (fun k hk => (hown7'.lt k hk).1)
          have hox0 := own_apart (hown8'.alloc (.cells #[.int .i64 k] 3)) hgx0 (hap)
          have apx0 := Apart.left (hap) hown8' (Nat.le_succ _) hlocx0
          clear hlocx0 hgx0
          have szx0 := hbx0.size
          go_wp2_with (at_builtin; go_must (refine wpList_append_own_at _ rfl _ _ 26 rfl w2.heap.size 3 i0 _ 1 8 Tryd.underlying26 hi hz0 hz1 hz2 rfl (by decide) _ _ _ rfl (hox0.alloc _) ⟨wx0.heap.size, 0, none⟩ 1 1 [.int .i64 k] rfl rfl ?ax1 ?bx1 ?cx1 ?dx1 ?ex1 ?_))
          case ax1 => intro j u hu; exact cells_new' wx0 _ _ j u hu rfl
          case bx1 => intro u hu; simp at hu; subst hu; rfl
          case cx1 => unfold maxLen; omega
          case dx1 => omega
          case ex1 => have := hbx0.size; simp; omega
          intro vx1 wx1 hnx1 hgx1 _ hlocx1
          have hbx1 := (hbx0.alloc hbx0.size (.cells #[.int .i64 k] 3)).grown hgx1 (by have := hbx0.size; simp; omega) (fun k hk => (hox0.lt k hk).1)
          have hox1 := own_apart (hnx0.alloc (.cells #[.int .i64 k] 3)) hgx1 (apx0.symm)
          have apx1 := Apart.left (apx0.symm) hnx0 (Nat.le_succ _) hlocx1
          clear hlocx1 hgx1
          have szx1 := hbx1.size
          go_wp2_with fail
          go_roundw
          case rel => exact ⟨k + 1, true, by omega, by go_num, rfl, by rw [J7.out, ints_snoc, List.length_append]; exact hox1, by rw [J8.out, ints_snoc, List.length_append]; exact hnx1, apx1.symm, hbx1, (by show _ = _; rw [HQS.out]; rfl), hd'⟩
          case measure => simp [intOf]; omega
    · have hke : k = fs.length := by omega
      subst hke
      have hq := hide' (show q = (List.zip fs gs).all lkP by rw [hQ.out, List.take_of_length_le (by rw [HZL.out]; exact Nat.le_refl _)])
      have hall := hide' (all_done someP (List.zip fs gs) fs.length (by rw [HZL.out]; exact Nat.le_refl _) hd.out)
      have HEND := hide' (box2_below hbx)
      have I7 := hide' (ISl.own hown7)
      have I8 := hide' (ISl.own hown8)
      obtain ⟨c7, hc7⟩ : ∃ c, idxs lsP (List.zip fs gs) fs.length = c := ⟨_, rfl⟩
      obtain ⟨c8, hc8⟩ : ∃ c, idxs mrP (List.zip fs gs) fs.length = c := ⟨_, rfl⟩
      have HFIN := hide' (fun (c : Bool) (h : c = crossL c7 c8) => (H4.out rfl QN.out HL.out hall.out q c hq.out (by rw [hc7, hc8]; exact h)).out)
      rw [hc7] at I7
      rw [hc8] at I8
      obtain ⟨A7, cap7, rfl, ha7, hm7, hA7⟩ := I7.out
      obtain ⟨A8, cap8, rfl, ha8, hm8, hA8⟩ := I8.out
      rw [show maxLen = 9223372036854775807 from rfl] at hm7 hm8
      have HA7 := hide' hA7
      have HA8 := hide' hA8
      clear I7 I8 hq hall hd hQ hown7 hown8 hap hnx HNX hbx HA HB CB H3 H4 hc7 hc8 hA7 hA8
      have FIN : Hid (∀ c, c = crossL c7 c8 → E (.returned (.tuple #[.bool (q || c), .int .i64 0]))) := HFIN.out
      clear HFIN
      by_cases p7 : 0 < c7.length
      · have t7 : decide ((0 : Int) < (c7.length : Int)) = true := decide_eq_true (by omega)
        have t7' : decide (0 < c7.length) = true := decide_eq_true p7
        by_cases p8 : 0 < c8.length
        · have t8 : decide ((0 : Int) < (c8.length : Int)) = true := decide_eq_true (by omega)
          have t8' : decide (0 < c8.length) = true := decide_eq_true p8
          by_cases r7 : 1 < c7.length
          · have s7 : decide ((1 : Int) < (c7.length : Int)) = true := decide_eq_true (by omega)
            have s7' : decide (1 < c7.length) = true := decide_eq_true r7
            have fin := hide' (FIN.out true (by unfold crossL; rw [t7', t8', s7']; rfl))
            clear FIN HA7 HA8
            go_wp2_with fail
            go_quiet (fail)
            cases q
            · go_wp2_with fail
              go_ret2
              exact ⟨fin.out, below_draws HEND.out _⟩
            · go_wp2_with fail
              go_ret2
              exact ⟨fin.out, below_draws HEND.out _⟩
          · have s7 : decide ((1 : Int) < (c7.length : Int)) = false := decide_eq_false (by omega)
            have s7' : decide (1 < c7.length) = false := decide_eq_false r7
            by_cases r8 : 1 < c8.length
            · have s8 : decide ((1 : Int) < (c8.length : Int)) = true := decide_eq_true (by omega)
              have s8' : decide (1 < c8.length) = true := decide_eq_true r8
              have fin := hide' (FIN.out true (by unfold crossL; rw [t7', t8', s7', s8']; rfl))
              clear FIN HA7 HA8
              go_wp2_with fail
              go_quiet (fail)
              cases q
              · go_wp2_with fail
                go_ret2
                exact ⟨fin.out, below_draws HEND.out _⟩
              · go_wp2_with fail
                go_ret2
                exact ⟨fin.out, below_draws HEND.out _⟩
            · have s8 : decide ((1 : Int) < (c8.length : Int)) = false := decide_eq_false (by omega)
              have s8' : decide (1 < c8.length) = false := decide_eq_false r8
              obtain ⟨b7, o7, rfl, hcs7⟩ := HA7.out p7
              obtain ⟨b8, o8, rfl, hcs8⟩ := HA8.out p8
              have z7 := hcs7 0 p7
              have z8 := hcs8 0 p8
              rw [← headD_at p7] at z7
              rw [← headD_at p8] at z8
              have hcr : Hid (crossL c7 c8 = (c7.headD 0 != c8.headD 0)) := by show _ = _; unfold crossL; rw [t7', t8', s7', s8']; rfl
              obtain ⟨x7, hx7⟩ : ∃ x, c7.headD 0 = x := ⟨_, rfl⟩
              obtain ⟨x8, hx8⟩ : ∃ x, c8.headD 0 = x := ⟨_, rfl⟩
              rw [hx7] at z7 hcr
              rw [hx8] at z8 hcr
              obtain ⟨cc, hcc⟩ : ∃ c, (x7 != x8) = c := ⟨_, rfl⟩
              rw [hcc] at hcr
              have fin := hide' (FIN.out cc hcr.out.symm)
              simp only [Nat.add_zero] at z7 z8
              clear FIN HA7 HA8 hcs7 hcs8 hx7 hx8 hcr
              cases cc
              · go_wp2_with fail
                go_quiet (fail)
                cases q
                · go_wp2_with fail
                  go_ret2
                  exact ⟨fin.out, below_draws HEND.out _⟩
                · go_wp2_with fail
                  go_ret2
                  exact ⟨fin.out, below_draws HEND.out _⟩
              · go_wp2_with fail
                go_quiet (fail)
                cases q
                · go_wp2_with fail
                  go_ret2
                  exact ⟨fin.out, below_draws HEND.out _⟩
                · go_wp2_with fail
                  go_ret2
                  exact ⟨fin.out, below_draws HEND.out _⟩
        · have t8 : decide ((0 : Int) < (c8.length : Int)) = false := decide_eq_false (by omega)
          have t8' : decide (0 < c8.length) = false := decide_eq_false p8
          have fin := hide' (FIN.out false (by unfold crossL; rw [t7', t8']; rfl))
          clear FIN HA7 HA8
          go_wp2_with fail
          go_quiet (fail)
          cases q
          · go_wp2_with fail
            go_ret2
            exact ⟨fin.out, below_draws HEND.out _⟩
          · go_wp2_with fail
            go_ret2
            exact ⟨fin.out, below_draws HEND.out _⟩
      · have t7 : decide ((0 : Int) < (c7.length : Int)) = false := decide_eq_false (by omega)
        have t7' : decide (0 < c7.length) = false := decide_eq_false p7
        have fin := hide' (FIN.out false (by unfold crossL; rw [t7']; rfl))
        clear FIN HA7 HA8
        go_wp2_with fail
        go_quiet (fail)
        cases q
        · go_wp2_with fail
          go_ret2
          exact ⟨fin.out, below_draws HEND.out _⟩
        · go_wp2_with fail
          go_ret2
          exact ⟨fin.out, below_draws HEND.out _⟩

end Go.Proofs.YtdmdfokkibijjaaDoor
