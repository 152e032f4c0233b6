/-
  Layer 9: the walk of Ambiguous of the document's answer.
-/
import Derived.Test.YtdmdfokkibijjaaDoorSW33
namespace Go.Proofs.YtdmdfokkibijjaaDoor
open Go.RowKit
open Sgn
set_option linter.unusedVariables false
set_option linter.unusedSimpArgs false

theorem allT_actual : ∀ t ∈ allT, isActual t.k t.n = true := by
  intro t ht
  simp only [allT, List.mem_cons, List.not_mem_nil, or_false] at ht
  rcases ht with rfl | rfl | rfl | rfl | rfl | rfl | rfl | rfl
  all_goals
    simp only [isActual, isType, cInt, cBool, cDom, cArr, Lib.toList_data]
    decide +kernel
theorem some_both (p : F × F) : someP p = allT.any (bothOk φF p.1 p.2) := by
  unfold someP lkP lsP mrP
  rw [Bool.eq_iff_iff]
  simp only [Bool.or_eq_true, List.any_eq_true]
  unfold likeT lessT moreT
  constructor
  · rintro (⟨t, h, h'⟩ | ⟨t, h, h'⟩ | ⟨t, h, h'⟩)
    all_goals
      rw [Bool.and_eq_true] at h'
      exact ⟨t, h, h'.1⟩
  · rintro ⟨t, h, h'⟩
    by_cases e1 : φF p.1 t = φF p.2 t
    · exact .inl ⟨t, h, by rw [h', decide_eq_true e1]; rfl⟩
    · by_cases e2 : φF p.1 t < φF p.2 t
      · exact .inr (.inl ⟨t, h, by rw [h', decide_eq_true e2]; rfl⟩)
      · exact .inr (.inr ⟨t, h, by rw [h', decide_eq_true (show φF p.2 t < φF p.1 t by omega)]; rfl⟩)
/-- a list has just these numbers -/
def Has (c : List Int) (p : F × F → Bool) (ps : List (F × F)) (k : Nat) (now : Bool) : Prop := ∀ z, z ∈ c ↔ (z ∈ idxs p ps k ∨ (now = true ∧ z = (k : Int)))
theorem Has.next {c : List Int} {p : F × F → Bool} {ps : List (F × F)} {k : Nat} {now : Bool} (h : Has c p ps k now) (hk : k < ps.length) (hn : now = p ps[k]) : Has c p ps (k + 1) false := fun z => by
  rw [h z]
  cases hp : p ps[k]
  · rw [idxs_no hk hp, hn, hp]
    simp
  · rw [idxs_yes hk hp, hn, hp, List.mem_append]
    simp
theorem Has.more {c : List Int} {p : F × F → Bool} {ps : List (F × F)} {k : Nat} {now : Bool} (h : Has c p ps k now) : Has (c ++ [(k : Int)]) p ps k true := fun z => by
  rw [List.mem_append, h z]
  simp
  constructor
  · rintro ((h | ⟨_, h⟩) | h)
    · exact .inl h
    · exact .inr h
    · exact .inr h
  · rintro (h | h)
    · exact .inl (.inl h)
    · exact .inr h
theorem Has.eq {c : List Int} {p : F × F → Bool} {ps : List (F × F)} {k : Nat} {now now' : Bool} (h : Has c p ps k now) (e : now' = now) : Has c p ps k now' := e ▸ h
theorem cross_has {c7 c8 : List Int} {ps : List (F × F)} {k : Nat} (h7 : Has c7 lsP ps k false) (h8 : Has c8 mrP ps k false) : crossL (idxs lsP ps k) (idxs mrP ps k) = true ↔ ∃ x ∈ c7, ∃ y ∈ c8, x ≠ y := by
  rw [cross_iff (idxs_lt _ _ _) (idxs_lt _ _ _)]
  have e7 : ∀ z, z ∈ c7 ↔ z ∈ idxs lsP ps k := fun z => by rw [h7 z]; simp
  have e8 : ∀ z, z ∈ c8 ↔ z ∈ idxs mrP ps k := fun z => by rw [h8 z]; simp
  constructor
  · rintro ⟨x, hx, y, hy, hne⟩; exact ⟨x, (e7 x).2 hx, y, (e8 y).2 hy, hne⟩
  · rintro ⟨x, hx, y, hy, hne⟩; exact ⟨x, (e7 x).1 hx, y, (e8 y).1 hy, hne⟩
theorem held_last8' {S1 S2 S3 S4 S5 S6 S7 S8 : Prop} {wr w2 : World} (h : S1 ∧ S2 ∧ S3 ∧ S4 ∧ S5 ∧ S6 ∧ S7 ∧ S8 ∧ Below wr.heap.size wr w2) : Below wr.heap.size wr w2 := h.2.2.2.2.2.2.2.2
/-- no pair differs -/
def NoPair (a b : List Int) : Prop := ∀ x ∈ a, ∀ y ∈ b, x = y

theorem far_old {w : World} {base b : Nat} {e : TypeId} {n : Nat} {v : Value} {xs : List Value} (h : w.ownsRow base e 1 v n xs) (hb : w.heap.size ≤ b) : v.ownBlock ≠ some b := fun he => by
  have := (h.lt b he).2
  omega
theorem far_new {b n : Nat} {v v' : Value} (h : v.ownBlock ≠ some b) (hb : b < n) (hv : v'.ownBlock = v.ownBlock ∨ v'.ownBlock = some n) : v'.ownBlock ≠ some b := by
  rcases hv with hv | hv
  · rw [hv]; exact h
  · rw [hv]; intro e; cases e; omega
theorem FCells.grown {w w' : World} {b off : Nat} {fs : List F} {row : Option Nat} (h : FCells w b off fs) (hb : b < w.heap.size) (hg : w.grownBy w' row) (hne : row ≠ some b) : FCells w' b off fs := fun i hi => by
  obtain ⟨h1, h2⟩ := h i hi
  have e := hg.block b hb (fun e => hne e.symm)
  exact ⟨(World.cell?_of_block e).trans h1, (World.cell?_of_block e).trans h2⟩
theorem FCells.alloc {w : World} {b off : Nat} {fs : List F} (h : FCells w b off fs) (o : Obj) : FCells (w.alloc o) b off fs := h.on ((Below.refl _ _).alloc (Nat.le_refl _) _)

set_option maxHeartbeats 32000000 in
set_option maxRecDepth 100000 in
theorem rAmbiguous_any (s t : G) (v u : Value) (w : World) (hT : Tab w) (hv : GV w v s) (hu : GV w u t) (hs : s.name.size ≤ 4611686018427387904) (ht : t.name.size ≤ 4611686018427387904) :
    Calls Tryd.prog 32 #[v, u] w fun e w' => AmbE s t e ∧ Below w.heap.size w w' := by
  have HV1 := fun w1 (hb : Below w.heap.size w w1) => hide' (rValid9_any s v w1 (hT.on hb) (hv.on hb) hs)
  have HV2 := fun w1 (hb : Below w.heap.size w w1) => hide' (rValid9_any t u w1 (hT.on hb) (hu.on hb) ht)
  obtain ⟨X, rfl, A, cap, rfl, hca, hma, hA⟩ := hv
  obtain ⟨Y, rfl, B, cap2, rfl, hcb, hmb, hB⟩ := hu
  have CB : Hid (∀ w1, Below ((w.alloc (.cells #[.string s.name, .slice A s.fs.length cap, .string s.res] 37)).alloc (.cells #[.string t.name, .slice B t.fs.length cap2, .string t.res] 37)).heap.size ((w.alloc (.cells #[.string s.name, .slice A s.fs.length cap, .string s.res] 37)).alloc (.cells #[.string t.name, .slice B t.fs.length cap2, .string t.res] 37)) w1 → _) := fun w1 hb => box33 hb
  have E0 := fun h => hide' (ambE_arg (s := s) (t := t) h)
  have E1 := fun h hn => hide' (ambE_name (s := s) (t := t) h hn)
  have E2 := fun h hl => hide' (ambE_len (s := s) (t := t) h hl)
  have E3 := fun h ha => hide' (ambE_none (s := s) (t := t) h ha)
  have E4 := fun h hn hl ha q c hq hc => hide' (ambE_end (s := s) (t := t) h hn hl ha q c hq hc)
  have hlen1 := @validG_len s
  have hfm1 := @validG_formals s
  have hfm2 := @validG_formals t
  obtain ⟨q1, hq1⟩ : ∃ q, validG s = q := ⟨_, rfl⟩
  obtain ⟨q2, hq2⟩ : ∃ q, validG t = q := ⟨_, rfl⟩
  rw [hq1] at HV1 hlen1 hfm1
  rw [hq2] at HV2 hfm2
  rw [hq1, hq2] at E0 E1 E2 E3 E4
  obtain ⟨n1, fs, r1⟩ := s
  obtain ⟨n2, gs, r2⟩ := t
  simp only at CB hca hma hcb hmb hA hB E1 E2 E3 E4
  obtain ⟨E, hE⟩ : ∃ E : Ending → Prop, E = AmbE ⟨n1, fs, r1⟩ ⟨n2, gs, r2⟩ := ⟨_, rfl⟩
  rw [← hE] at E0 E1 E2 E3 E4 ⊢
  have HA : Hid (0 < fs.length → ∃ b off, A = some ⟨b, off, none⟩ ∧ FCells w b off fs) := hA
  have HB : Hid (0 < gs.length → ∃ b off, B = some ⟨b, off, none⟩ ∧ FCells w b off gs) := hB
  have hmax : maxLen = 9223372036854775807 := rfl
  rw [hmax] at hma hmb
  have H0 := hide' E0
  have H1 := hide' E1
  have H2 := hide' E2
  have H3 := hide' E3
  have H4 := hide' E4
  have HLEN := hide' hlen1
  have HFM1 := hide' hfm1
  have HFM2 := hide' hfm2
  clear hA hB hmax hq1 hq2 hs ht hE E0 E1 E2 E3 E4 hlen1 hfm1 hfm2
  go_enter Tryd.func32, Tryd.ntmps32
  obtain ⟨d1, d2, d3, d4, d5, d6⟩ := CB.out _ (Below.refl _ _)
  go_wp2_with fail
  refine (HV1 _ (box2_below (Below.refl _ _))).out.mono ?_
  rintro e w1 ⟨rfl, hb1⟩
  clear d1 d2 d3 d4 d5 d6 HV1
  obtain ⟨d1, d2, d3, d4, d5, d6⟩ := CB.out _ hb1
  have HB1 := hide' hb1
  clear hb1
  cases q1
  · have h0 := hide' ((H0.out rfl).out)
    clear H0 H1 H2 H3 H4 HV2 CB HA HB
    go_wp2_with fail
    go_ret2
    exact ⟨h0.out, box2_below HB1.out⟩
  go_wp2_with fail
  refine (HV2 _ (box2_below HB1.out)).out.mono ?_
  rintro e w2 ⟨rfl, hb2⟩
  have hb3 := HB1.out.trans (hb2.mono HB1.out.size)
  clear d1 d2 d3 d4 d5 d6 HV2 HB1 hb2
  obtain ⟨d1, d2, d3, d4, d5, d6⟩ := CB.out _ hb3
  have HB3 := hide' hb3
  clear hb3
  cases q2
  · have h0 := hide' ((H0.out rfl).out)
    clear H0 H1 H2 H3 H4 CB HA HB
    go_wp2_with fail
    go_ret2
    exact ⟨h0.out, box2_below HB3.out⟩
  have hfl : fs.length ≤ 1000 := HLEN.out (by simp)
  have HF1 : Hid (∀ f ∈ fs, isFormal f.k f.n = true) := HFM1.out (by simp)
  have HF2 : Hid (∀ f ∈ gs, isFormal f.k f.n = true) := HFM2.out (by simp)
  clear HFM1 HFM2 HLEN
  cases qn : (n1.toList == n2.toList)
  · have h0 := hide' ((H1.out rfl qn).out)
    have qn' : (n1.toList != n2.toList) = true := by simp only [bne, qn]; rfl
    clear H0 H1 H2 H3 H4 CB HA HB
    go_wp2_with fail
    go_ret2
    exact ⟨h0.out, box2_below HB3.out⟩
  have qn' : (n1.toList != n2.toList) = false := by simp only [bne, qn]; rfl
  have QN := hide' qn
  by_cases hlx : ¬ fs.length = gs.length
  · have hl := hlx
    have hl' : ((fs.length : Int) != (gs.length : Int)) = true := by rw [bne_iff_ne]; omega
    have h0 := hide' ((H2.out rfl hl).out)
    clear H0 H1 H2 H3 H4 CB HA HB hl hlx
    go_wp2_with fail
    go_ret2
    exact ⟨h0.out, box2_below HB3.out⟩
  have hl : fs.length = gs.length := Classical.not_not.1 hlx
  clear hlx
  have hl' : ((fs.length : Int) != (gs.length : Int)) = false := by rw [hl]; simp
  have HL := hide' hl
  clear hl H0 H1 H2
  have hzl : (List.zip fs gs).length = fs.length := by rw [List.length_zip]; have := HL.out; omega
  have HZL := hide' hzl
  clear hzl
  obtain ⟨i0, hi, hz0, hz1, hz2⟩ := info_parts intInfo
  go_wp2_with fail
  clear d1 d2 d3 d4 d5 d6 qn qn' hl'
  go_loopw [6, 7, 8, 9] (fun a x y i wr => ∃ (k : Nat) (q : Bool) (c7 c8 : List Int), k ≤ fs.length ∧ i = .int .i64 k ∧ a = .bool q ∧ wr.ownsRow w2.heap.size 3 1 x c7.length (ints c7) ∧ wr.ownsRow w2.heap.size 3 1 y c8.length (ints c8) ∧ c7.length ≤ 8 * k ∧ c8.length ≤ 8 * k ∧ Apart x y ∧ Below w2.heap.size w2 wr ∧ Hid (q = ((List.zip fs gs).take k).all lkP) ∧ Hid (∀ p ∈ (List.zip fs gs).take k, someP p = true) ∧ Hid (Has c7 lsP (List.zip fs gs) k false) ∧ Hid (Has c8 mrP (List.zip fs gs) k false)) (fun _ _ _ i _ => fs.length - (intOf i).toNat)
  case atStart => exact ⟨0, true, [], [], Nat.zero_le _, rfl, rfl, World.ownsRow_nil _ _ _ _, World.ownsRow_nil _ _ _ _, Nat.zero_le _, Nat.zero_le _, (fun g hg => by cases hg), Below.refl _ _, rfl, (fun p hp => by simp at hp), (fun z => by simp [idxs]), (fun z => by simp [idxs])⟩
  case round =>
    obtain ⟨k, q, c7, c8, hk, rfl, rfl, hown7, hown8, hn7, hn8, hap, hnx, hQ, hd, hc7, hc8⟩ := hrel
    have hbx := HB3.out.trans (hnx.mono HB3.out.size)
    have HNX := hide' hnx
    obtain ⟨d1, d2, d3, d4, d5, d6⟩ := CB.out _ hbx
    by_cases hlt : k < fs.length
    · have hlt2 : k < gs.length := by have := HL.out; omega
      have hltz : k < (List.zip fs gs).length := by rw [HZL.out]; exact hlt
      obtain ⟨b, off, rfl, hCA⟩ := HA.out (by omega)
      obtain ⟨b2, off2, rfl, hCB⟩ := HB.out (by omega)
      obtain ⟨_, hze⟩ := zipF_at k hlt hlt2
      have hsm : someP (List.zip fs gs)[k] = allT.any (bothOk φF fs[k] gs[k]) := by rw [some_both, hze]
      have hlk : lkP (List.zip fs gs)[k] = allT.any (likeT φF fs[k] gs[k]) := by rw [hze]; rfl
      have hls : lsP (List.zip fs gs)[k] = allT.any (lessT φF fs[k] gs[k]) := by rw [hze]; rfl
      have hmr : mrP (List.zip fs gs)[k] = allT.any (moreT φF fs[k] gs[k]) := by rw [hze]; rfl
      have hqs := allb_step lkP (List.zip fs gs) k hltz
      have hno := fun h => hide' (all_fail someP (List.zip fs gs) k hltz h)
      have hyes := fun h => hide' (all_upto someP (List.zip fs gs) k hltz hd.out h)
      rw [← hQ.out, hlk] at hqs
      rw [hsm] at hno hyes
      have HN7 := hide' (fun (c : List Int) (h : Has c lsP (List.zip fs gs) k (allT.any (lessT φF fs[k] gs[k]))) => h.next hltz hls.symm)
      have HN8 := hide' (fun (c : List Int) (h : Has c mrP (List.zip fs gs) k (allT.any (moreT φF fs[k] gs[k]))) => h.next hltz hmr.symm)
      have HWC := hide' (way_cases φF fs[k] gs[k])
      have HW1 := hide' (fun t (h : t ∈ allT) => fits_way fs[k] t (HF1.out _ (List.getElem_mem hlt)) (allT_actual t h))
      have HW2 := hide' (fun t (h : t ∈ allT) => fits_way gs[k] t (HF2.out _ (List.getElem_mem hlt2)) (allT_actual t h))
      obtain ⟨f, hf⟩ : ∃ f, fs[k] = f := ⟨_, rfl⟩
      obtain ⟨g, hg⟩ : ∃ g, gs[k] = g := ⟨_, rfl⟩
      have hCf := fun w1 (hb : Below w.heap.size w w1) => hide' ((hCA.on hb) k hlt)
      have hCg := fun w1 (hb : Below w.heap.size w w1) => hide' ((hCB.on hb) k hlt2)
      rw [hf] at hqs hno hyes HN7 HN8 HWC HW1 hCf
      rw [hg] at hqs hno hyes HN7 HN8 HWC HW2 hCg
      have HQS := hide' hqs
      have HNO := hide' hno
      have HYES := hide' hyes
      have HCF := hide' hCf
      have HCG := hide' hCg
      have hbw := hide' (box2_below hbx)
      have HBX := hide' hbx
      have hk0 : (0 : Int) ≤ (k : Int) := by omega
      have hk1 : (k : Int) < (fs.length : Int) := by omega
      have hk2 : (k : Int) < (gs.length : Int) := by omega
      clear hze hsm hlk hls hmr hqs hno hyes hf hg hCf hCg hCA hCB HA HB hd hQ hnx hbx H4 HF1 HF2
      go_wp2_with fail
      refine (rAll_any _).mono ?_
      rintro e w3 ⟨b3, off3, cap3, rfl, hc9, hm9, hb3lo, hC3, hb3⟩
      have HC3 := hide' hC3
      rw [show maxLen = 9223372036854775807 from rfl] at hm9
      have hown7' := ownsRow_below hown7 hb3
      have hown8' := ownsRow_below hown8 hb3
      have h23 := HNX.out.trans (hb3.mono HNX.out.size)
      have H23 := hide' h23
      have hfar7 := far_old hown7 hb3lo
      have hfar8 := far_old hown8 hb3lo
      have hb3hi : b3 < w3.heap.size := cell_lt (hC3 0 (by decide)).1
      clear hC3 d1 d2 d3 d4 d5 d6 hown7 hown8 hb3lo
      obtain ⟨wo, rfl⟩ : ∃ wo : World, wo = wr := ⟨_, rfl⟩
      go_wp2_with fail
      go_loopw [7, 8, 10, 11, 13] (fun x y z a i wr => ∃ (m : Nat) (p1 p2 : Bool) (x7 x8 : List Int), m ≤ 8 ∧ i = .int .i64 m ∧ z = .bool p1 ∧ a = .bool p2 ∧ wr.ownsRow w2.heap.size 3 1 x x7.length (ints x7) ∧ wr.ownsRow w2.heap.size 3 1 y x8.length (ints x8) ∧ x7.length ≤ 8 * k + m ∧ x8.length ≤ 8 * k + m ∧ Apart x y ∧ Below w2.heap.size w2 wr ∧ x.ownBlock ≠ some b3 ∧ y.ownBlock ≠ some b3 ∧ b3 < wr.heap.size ∧ Hid (FCells wr b3 off3 allT) ∧ Hid (p1 = (allT.take m).any (likeT φF f g)) ∧ Hid (p2 = (allT.take m).any (bothOk φF f g)) ∧ Hid (Has x7 lsP (List.zip fs gs) k ((allT.take m).any (lessT φF f g))) ∧ Hid (Has x8 mrP (List.zip fs gs) k ((allT.take m).any (moreT φF f g)))) (fun _ _ _ _ i _ => 8 - (intOf i).toNat)
      case atStart => exact ⟨0, false, false, c7, c8, by omega, rfl, rfl, rfl, hown7', hown8', by omega, by omega, hap, h23, hfar7, hfar8, hb3hi, HC3.out, rfl, rfl, hc7.out.eq rfl, hc8.out.eq rfl⟩
      case round =>
        obtain ⟨m, p1, p2, x7, x8, hm, rfl, rfl, rfl, hr7, hr8, hl7, hl8, hap, hny, hfar7, hfar8, hb3hi, hFC, hP1, hP2, hH7, hH8⟩ := hrel
        have hbx := HB3.out.trans (hny.mono HB3.out.size)
        have HNY := hide' hny
        by_cases hlm : m < 8
        · have hlt' : m < allT.length := hlm
          obtain ⟨d1, d2, d3, d4, d5, d6⟩ := CB.out _ hbx
          obtain ⟨y1, y2⟩ := (HCF.out _ (box2_below hbx)).out
          obtain ⟨z1, z2⟩ := (HCG.out _ (box2_below hbx)).out
          obtain ⟨x1, x2⟩ := hFC.out m hlt'
          have hin : allT[m] ∈ allT := List.getElem_mem hlt'
          have u1 := any_step (likeT φF f g) allT m hlt'
          have u2 := any_step (bothOk φF f g) allT m hlt'
          have u3 := any_step (lessT φF f g) allT m hlt'
          have u4 := any_step (moreT φF f g) allT m hlt'
          rw [← hP1.out] at u1
          rw [← hP2.out] at u2
          obtain ⟨t, ht⟩ : ∃ t, allT[m] = t := ⟨_, rfl⟩
          rw [ht] at u1 u2 u3 u4 x1 x2 hin
          have hw := HWC.out t
          have hwf := fun u => way_any f.k t.k f.n t.n u
          have hwg := fun u => way_any g.k t.k g.n t.n u
          unfold WayEnd at hwf hwg
          rw [show wayOf f.k.toList f.n t.k.toList t.n = φF f t from (HW1.out t hin).symm] at hwf
          rw [show wayOf g.k.toList g.n t.k.toList t.n = φF g t from (HW2.out t hin).symm] at hwg
          have hbo : bothOk φF f g t = (decide (0 ≤ φF f t) && decide (0 ≤ φF g t)) := rfl
          rw [hbo] at u2
          obtain ⟨v1, hv1⟩ : ∃ v, φF f t = v := ⟨_, rfl⟩
          obtain ⟨v2, hv2⟩ : ∃ v, φF g t = v := ⟨_, rfl⟩
          rw [hv1] at hw hwf u2
          rw [hv2] at hw hwg u2
          have HWf := fun u => hide' (hwf u)
          have HWg := fun u => hide' (hwg u)
          have HSX : Hid (∀ w', Below wr.heap.size wr w' → w'.cell? ⟨w.heap.size, 1, none⟩ = some (.slice (some ⟨b, off, none⟩) fs.length cap) ∧ w'.cell? ⟨w.heap.size + 1, 1, none⟩ = some (.slice (some ⟨b2, off2, none⟩) gs.length cap2) ∧ w'.cell? ⟨b, off + k * 2, none⟩ = some (.string f.k) ∧ w'.cell? ⟨b, off + k * 2 + 1, none⟩ = some (.int .i64 f.n) ∧ w'.cell? ⟨b2, off2 + k * 2, none⟩ = some (.string g.k) ∧ w'.cell? ⟨b2, off2 + k * 2 + 1, none⟩ = some (.int .i64 g.n) ∧ w'.cell? ⟨b3, off3 + m * 2, none⟩ = some (.string t.k) ∧ w'.cell? ⟨b3, off3 + m * 2 + 1, none⟩ = some (.int .i64 t.n) ∧ Below wr.heap.size wr w') := fun w' hb => ⟨(hb.cell (cell_lt d2)).trans d2, (hb.cell (cell_lt d5)).trans d5, (hb.cell (cell_lt y1)).trans y1, (hb.cell (cell_lt y2)).trans y2, (hb.cell (cell_lt z1)).trans z1, (hb.cell (cell_lt z2)).trans z2, (hb.cell (cell_lt x1)).trans x1, (hb.cell (cell_lt x2)).trans x2, hb⟩
          have U1 := hide' u1
          have U2 := hide' u2
          have U3 := hide' u3
          have U4 := hide' u4
          have HWW := hide' hw
          obtain ⟨fk, hfk⟩ : ∃ x, f.k = x := ⟨_, rfl⟩
          obtain ⟨fn, hfn⟩ : ∃ x, f.n = x := ⟨_, rfl⟩
          obtain ⟨gk, hgk⟩ : ∃ x, g.k = x := ⟨_, rfl⟩
          obtain ⟨gn, hgn⟩ : ∃ x, g.n = x := ⟨_, rfl⟩
          obtain ⟨tk, htk⟩ : ∃ x, t.k = x := ⟨_, rfl⟩
          obtain ⟨tn, htn⟩ : ∃ x, t.n = x := ⟨_, rfl⟩
          simp only [hfk, hfn, htk, htn] at HWf
          simp only [hgk, hgn, htk, htn] at HWg
          simp only [hfk, hfn, hgk, hgn, htk, htn] at HSX
          have HLAST : Hid (∀ w', (w'.cell? ⟨w.heap.size, 1, none⟩ = some (.slice (some ⟨b, off, none⟩) fs.length cap) ∧ w'.cell? ⟨w.heap.size + 1, 1, none⟩ = some (.slice (some ⟨b2, off2, none⟩) gs.length cap2) ∧ w'.cell? ⟨b, off + k * 2, none⟩ = some (.string fk) ∧ w'.cell? ⟨b, off + k * 2 + 1, none⟩ = some (.int .i64 fn) ∧ w'.cell? ⟨b2, off2 + k * 2, none⟩ = some (.string gk) ∧ w'.cell? ⟨b2, off2 + k * 2 + 1, none⟩ = some (.int .i64 gn) ∧ w'.cell? ⟨b3, off3 + m * 2, none⟩ = some (.string tk) ∧ w'.cell? ⟨b3, off3 + m * 2 + 1, none⟩ = some (.int .i64 tn) ∧ Below wr.heap.size wr w') → Below wr.heap.size wr w') := fun w' h => h.2.2.2.2.2.2.2.2
          have hm0 : (0 : Int) ≤ (m : Int) := by omega
          have hm1 : (m : Int) < 8 := by omega
          clear ht hv1 hv2 hbo hw hwf hwg u1 u2 u3 u4 d1 d2 d3 d4 d5 d6 x1 x2 y1 y2 z1 z2 hfk hfn hgk hgn htk htn hin hlt' hbx
          go_wp2_with fail
          go_region_held3 (fun w' => w'.cell? ⟨w.heap.size, 1, none⟩ = some (.slice (some ⟨b, off, none⟩) fs.length cap) ∧ w'.cell? ⟨w.heap.size + 1, 1, none⟩ = some (.slice (some ⟨b2, off2, none⟩) gs.length cap2) ∧ w'.cell? ⟨b, off + k * 2, none⟩ = some (.string fk) ∧ w'.cell? ⟨b, off + k * 2 + 1, none⟩ = some (.int .i64 fn) ∧ w'.cell? ⟨b2, off2 + k * 2, none⟩ = some (.string gk) ∧ w'.cell? ⟨b2, off2 + k * 2 + 1, none⟩ = some (.int .i64 gn) ∧ w'.cell? ⟨b3, off3 + m * 2, none⟩ = some (.string tk) ∧ w'.cell? ⟨b3, off3 + m * 2 + 1, none⟩ = some (.int .i64 tn) ∧ Below wr.heap.size wr w')
            (first | assumption | exact HSX.out _ (Below.refl _ _) | exact HSX.out _ (Below.refl _ _).drew | exact HSX.out _ (HLAST.out _ (by assumption)).drew | exact hS)
            (first
              | (go_at_call_of 50 (Value.agg #[.string fk, .int .i64 fn]); refine (HWf _).out.mono ?_; rintro e5 w5 ⟨rfl, hb5⟩; have hq1 := HLAST.out _ (by assumption); have hS := HSX.out _ (hq1.trans (hb5.mono hq1.size)); clear hq1)
              | (go_at_call_of 50 (Value.agg #[.string gk, .int .i64 gn]); refine (HWg _).out.mono ?_; rintro e5 w5 ⟨rfl, hb5⟩; have hq1 := HLAST.out _ (by assumption); have hS := HSX.out _ (hq1.trans (hb5.mono hq1.size)); clear hq1))
          rename_i w5 hS2
          have hbr := HLAST.out _ hS2
          have hr7' := ownsRow_below hr7 hbr
          have hr8' := ownsRow_below hr8 hbr
          have hFC' := hide' (hFC.out.on hbr)
          have hb9 := HNY.out.trans (hbr.mono HNY.out.size)
          have hb3hi' : b3 < w5.heap.size := Nat.lt_of_lt_of_le hb3hi hbr.size
          clear hS2 hbr HSX HLAST HWf HWg hr7 hr8 hny hFC hb3hi
          rcases HWW.out with ⟨e1, l1, l2, l3⟩ | ⟨e1, e2, l1, l2, l3⟩ | ⟨e1, e2, hc, l1, l2, l3⟩ | ⟨e1, e2, hc, l1, l2, l3⟩ | ⟨e1, e2, hc, l1, l2, l3⟩
          · have g1 : decide (v1 < 0) = true := by have := of_decide_eq_false e1; exact decide_eq_true (by omega)
            have U1' := hide' (U1.out.trans (by rw [l1, Bool.or_false]))
            have U2' := hide' (U2.out.trans (by rw [e1, Bool.false_and, Bool.or_false]))
            have U3' := hide' (U3.out.trans (by rw [l2, Bool.or_false]))
            have U4' := hide' (U4.out.trans (by rw [l3, Bool.or_false]))
            clear e1 l1 l2 l3 U1 U2 U3 U4
            go_wp2_with fail
            go_roundw
            case rel => exact ⟨m + 1, p1, p2, x7, x8, by omega, by go_num, rfl, rfl, hr7', hr8', by omega, by omega, hap, hb9, hfar7, hfar8, hb3hi', hFC', U1'.out.symm, U2'.out.symm, hH7.out.eq U3'.out, hH8.out.eq U4'.out⟩
            case measure => simp [intOf]; omega
          · have g1 : decide (v1 < 0) = false := by have := of_decide_eq_true e1; exact decide_eq_false (by omega)
            have g2 : decide (v2 < 0) = true := by have := of_decide_eq_false e2; exact decide_eq_true (by omega)
            have U1' := hide' (U1.out.trans (by rw [l1, Bool.or_false]))
            have U2' := hide' (U2.out.trans (by rw [e1, e2, Bool.true_and, Bool.or_false]))
            have U3' := hide' (U3.out.trans (by rw [l2, Bool.or_false]))
            have U4' := hide' (U4.out.trans (by rw [l3, Bool.or_false]))
            clear e1 e2 l1 l2 l3 U1 U2 U3 U4
            go_wp2_with fail
            go_roundw
            case rel => exact ⟨m + 1, p1, p2, x7, x8, by omega, by go_num, rfl, rfl, hr7', hr8', by omega, by omega, hap, hb9, hfar7, hfar8, hb3hi', hFC', U1'.out.symm, U2'.out.symm, hH7.out.eq U3'.out, hH8.out.eq U4'.out⟩
            case measure => simp [intOf]; omega
          · have g1 : decide (v1 < 0) = false := by have := of_decide_eq_true e1; exact decide_eq_false (by omega)
            have g2 : decide (v2 < 0) = false := by have := of_decide_eq_true e2; exact decide_eq_false (by omega)
            have g3 : (v1 == v2) = true := by rw [beq_iff_eq]; exact hc
            have U1' := hide' (U1.out.trans (by rw [l1, Bool.or_true]))
            have U2' := hide' (U2.out.trans (by rw [e1, e2, Bool.true_and, Bool.or_true]))
            have U3' := hide' (U3.out.trans (by rw [l2, Bool.or_false]))
            have U4' := hide' (U4.out.trans (by rw [l3, Bool.or_false]))
            clear e1 e2 l1 l2 l3 U1 U2 U3 U4 hc
            go_wp2_with fail
            go_roundw
            case rel => exact ⟨m + 1, true, true, x7, x8, by omega, by go_num, rfl, rfl, hr7', hr8', by omega, by omega, hap, hb9, hfar7, hfar8, hb3hi', hFC', U1'.out.symm, U2'.out.symm, hH7.out.eq U3'.out, hH8.out.eq U4'.out⟩
            case measure => simp [intOf]; omega
          · have g1 : decide (v1 < 0) = false := by have := of_decide_eq_true e1; exact decide_eq_false (by omega)
            have g2 : decide (v2 < 0) = false := by have := of_decide_eq_true e2; exact decide_eq_false (by omega)
            have g3 : (v1 == v2) = false := by rw [beq_eq_false_iff_ne]; omega
            have g4 : decide (v1 < v2) = true := decide_eq_true hc
            have U1' := hide' (U1.out.trans (by rw [l1, Bool.or_false]))
            have U2' := hide' (U2.out.trans (by rw [e1, e2, Bool.true_and, Bool.or_true]))
            have U3' := hide' (U3.out.trans (by rw [l2, Bool.or_true]))
            have U4' := hide' (U4.out.trans (by rw [l3, Bool.or_false]))
            clear e1 e2 l1 l2 l3 U1 U2 U3 U4 hc
            go_wp2_with (at_builtin; go_must (refine wpList_append_own_at _ rfl _ _ 26 rfl w2.heap.size 3 i0 _ 1 8 Tryd.underlying26 hi hz0 hz1 hz2 rfl (by decide) _ _ _ rfl (hr7'.alloc _) ⟨w5.heap.size, 0, none⟩ 1 1 [.int .i64 k] rfl rfl ?a1 ?a2 ?a3 ?a4 ?a5 ?_))
            case a1 => intro j u hu; exact cells_new' w5 _ _ j u hu rfl
            case a2 => intro u hu; simp at hu; subst hu; rfl
            case a3 => unfold maxLen; omega
            case a4 => omega
            case a5 => have := hb9.size; simp; omega
            intro v' w6 hn6 hg6 _ hloc
            have hb10 := (hb9.alloc hb9.size (.cells #[.int .i64 k] 3)).grown hg6 (by have := hb9.size; simp; omega) (fun k hk => (hr7'.lt k hk).1)
            have ho6 := own_apart (hr8'.alloc (.cells #[.int .i64 k] 3)) hg6 hap
            have ap6 := Apart.left hap hr8' (Nat.le_succ _) hloc
            have fr6 := far_new hfar7 (by omega) hloc
            have hFC6 := hide' ((hFC'.out.alloc (.cells #[.int .i64 k] 3)).grown (by simp; omega) hg6 hfar7)
            have hhi6 : b3 < w6.heap.size := by have := hg6.size; simp at this; omega
            have hlen6 : (x7 ++ [(k : Int)]).length = x7.length + 1 := by simp
            have HL6 := hide' hlen6
            clear hloc hg6 hlen6
            go_wp2_with fail
            go_roundw
            case rel => exact ⟨m + 1, p1, true, x7 ++ [(k : Int)], x8, by omega, by go_num, rfl, rfl, by rw [ints_snoc, HL6.out]; exact hn6, ho6, by rw [HL6.out]; omega, by omega, ap6, hb10, fr6, hfar8, hhi6, hFC6, U1'.out.symm, U2'.out.symm, hH7.out.more.eq U3'.out, hH8.out.eq U4'.out⟩
            case measure => simp [intOf]; omega
          · have g1 : decide (v1 < 0) = false := by have := of_decide_eq_true e1; exact decide_eq_false (by omega)
            have g2 : decide (v2 < 0) = false := by have := of_decide_eq_true e2; exact decide_eq_false (by omega)
            have g3 : (v1 == v2) = false := by rw [beq_eq_false_iff_ne]; omega
            have g4 : decide (v1 < v2) = false := decide_eq_false (by omega)
            have U1' := hide' (U1.out.trans (by rw [l1, Bool.or_false]))
            have U2' := hide' (U2.out.trans (by rw [e1, e2, Bool.true_and, Bool.or_true]))
            have U3' := hide' (U3.out.trans (by rw [l2, Bool.or_false]))
            have U4' := hide' (U4.out.trans (by rw [l3, Bool.or_true]))
            clear e1 e2 l1 l2 l3 U1 U2 U3 U4 hc
            go_wp2_with (at_builtin; go_must (refine wpList_append_own_at _ rfl _ _ 26 rfl w2.heap.size 3 i0 _ 1 8 Tryd.underlying26 hi hz0 hz1 hz2 rfl (by decide) _ _ _ rfl (hr8'.alloc _) ⟨w5.heap.size, 0, none⟩ 1 1 [.int .i64 k] rfl rfl ?a1 ?a2 ?a3 ?a4 ?a5 ?_))
            case a1 => intro j u hu; exact cells_new' w5 _ _ j u hu rfl
            case a2 => intro u hu; simp at hu; subst hu; rfl
            case a3 => unfold maxLen; omega
            case a4 => omega
            case a5 => have := hb9.size; simp; omega
            intro v' w6 hn6 hg6 _ hloc
            have hb10 := (hb9.alloc hb9.size (.cells #[.int .i64 k] 3)).grown hg6 (by have := hb9.size; simp; omega) (fun k hk => (hr8'.lt k hk).1)
            have ho6 := own_apart (hr7'.alloc (.cells #[.int .i64 k] 3)) hg6 hap.symm
            have ap6 := Apart.left hap.symm hr7' (Nat.le_succ _) hloc
            have fr6 := far_new hfar8 (by omega) hloc
            have hFC6 := hide' ((hFC'.out.alloc (.cells #[.int .i64 k] 3)).grown (by simp; omega) hg6 hfar8)
            have hhi6 : b3 < w6.heap.size := by have := hg6.size; simp at this; omega
            have hlen6 : (x8 ++ [(k : Int)]).length = x8.length + 1 := by simp
            have HL6 := hide' hlen6
            clear hloc hg6 hlen6
            go_wp2_with fail
            go_roundw
            case rel => exact ⟨m + 1, p1, true, x7, x8 ++ [(k : Int)], by omega, by go_num, rfl, rfl, ho6, by rw [ints_snoc, HL6.out]; exact hn6, by omega, by rw [HL6.out]; omega, ap6.symm, hb10, hfar7, fr6, hhi6, hFC6, U1'.out.symm, U2'.out.symm, hH7.out.eq U3'.out, hH8.out.more.eq U4'.out⟩
            case measure => simp [intOf]; omega
        · have hm8 : m = 8 := by omega
          subst hm8
          have r1 := hP1.out.trans (any_done (likeT φF f g) allT 8 (by decide))
          have r2 := hP2.out.trans (any_done (bothOk φF f g) allT 8 (by decide))
          have r3 := any_done (lessT φF f g) allT 8 (by decide)
          have r4 := any_done (moreT φF f g) allT 8 (by decide)
          have R7 := hide' (HN7.out x7 (hH7.out.eq r3.symm))
          have R8 := hide' (HN8.out x8 (hH8.out.eq r4.symm))
          have RQ := hide' (HQS.out.trans (by rw [← r1]))
          cases p2
          · have h0 := hide' ((H3.out rfl ((HNO.out r2.symm).out)).out)
            have hend := hide' (box2_below hbx)
            clear r1 r2 r3 r4 R7 R8 RQ hr7 hr8 hH7 hH8 hP1 hP2 HWC HW1 HW2 HCF HCG HNO HYES hFC
            go_wp2_with fail
            go_ret2
            exact ⟨h0.out, hend.out⟩
          · have hd' := (HYES.out r2.symm)
            clear r1 r2 r3 r4 hH7 hH8 hP1 hP2 HWC HW1 HW2 HCF HCG HNO HYES hFC H3
            cases q
            · go_wp2_with fail
              go_roundw
              case rel => exact ⟨k + 1, false, x7, x8, by omega, by go_num, rfl, hr7, hr8, by omega, by omega, hap, HNY.out, (by show _ = _; rw [RQ.out]; rfl), hd', R7, R8⟩
              case measure => simp [intOf]; omega
            · go_wp2_with fail
              go_roundw
              case rel => exact ⟨k + 1, p1, x7, x8, by omega, by go_num, rfl, hr7, hr8, by omega, by omega, hap, HNY.out, (by show _ = _; rw [RQ.out]; rfl), hd', R7, R8⟩
              case measure => simp [intOf]; omega
    · have hke : k = fs.length := by omega
      subst hke
      have hq := hide' (show q = (List.zip fs gs).all lkP by rw [hQ.out, List.take_of_length_le (by rw [HZL.out]; exact Nat.le_refl _)])
      have hall := hide' (all_done someP (List.zip fs gs) fs.length (by rw [HZL.out]; exact Nat.le_refl _) hd.out)
      have HX := hide' (cross_has hc7.out hc8.out)
      have I7 := hide' (ISl.own hown7)
      have I8 := hide' (ISl.own hown8)
      have FIN : Hid (∀ c r, c = crossL (idxs lsP (List.zip fs gs) fs.length) (idxs mrP (List.zip fs gs) fs.length) → r = (q || c) → E (.returned (.tuple #[.bool r, .int .i64 0]))) := fun c r h hr => by rw [hr]; exact (H4.out rfl QN.out HL.out hall.out q c hq.out h).out
      obtain ⟨C, hC⟩ : ∃ c, crossL (idxs lsP (List.zip fs gs) fs.length) (idxs mrP (List.zip fs gs) fs.length) = c := ⟨_, rfl⟩
      rw [hC] at FIN HX
      obtain ⟨A7, cap7, rfl, ha7, hm7, hA7⟩ := I7.out
      obtain ⟨A8, cap8, rfl, ha8, hm8, hA8⟩ := I8.out
      rw [show maxLen = 9223372036854775807 from rfl] at hm7 hm8
      have HA7 := hide' hA7
      have HA8 := hide' hA8
      have HEND := hide' (box2_below hbx)
      clear I7 I8 hq hall hd hQ hown7 hown8 hap hnx HNX hbx HA HB H3 H4 hC hA7 hA8 hc7 hc8 HF1 HF2 CB
      obtain ⟨wo, rfl⟩ : ∃ wo : World, wo = wr := ⟨_, rfl⟩
      go_wp2_with fail
      go_loopw [16] (fun i wr => ∃ (n : Nat), n ≤ c7.length ∧ i = .int .i64 n ∧ Below wo.heap.size wo wr ∧ Hid (NoPair (c7.take n) c8)) (fun i _ => c7.length - (intOf i).toNat)
      case atStart => exact ⟨0, Nat.zero_le _, rfl, Below.refl _ _, (fun x hx => by simp at hx)⟩
      case round =>
        obtain ⟨n, hn, rfl, hnx, hNP⟩ := hrel
        by_cases hltn : n < c7.length
        · obtain ⟨b7, o7, rfl, hcs7⟩ := HA7.out (by omega)
          have HC7 := hide' hcs7
          have hn0 : (0 : Int) ≤ (n : Int) := by omega
          have hn1 : (n : Int) < (c7.length : Int) := by omega
          clear hcs7 d1 d2 d3 d4 d5 d6
          obtain ⟨wp, rfl⟩ : ∃ wp : World, wp = wr := ⟨_, rfl⟩
          go_wp2_with fail
          go_loopw [17] (fun i wr => ∃ (m : Nat), m ≤ c8.length ∧ i = .int .i64 m ∧ Below wo.heap.size wo wr ∧ Hid (∀ y ∈ c8.take m, c7[n] = y)) (fun i _ => c8.length - (intOf i).toNat)
          case atStart => exact ⟨0, Nat.zero_le _, rfl, hnx, (fun x hx => by simp at hx)⟩
          case round =>
            obtain ⟨m, hm, rfl, hny, hAY⟩ := hrel
            by_cases hltm : m < c8.length
            · obtain ⟨b8, o8, rfl, hcs8⟩ := HA8.out (by omega)
              have z7 := (hny.cell (cell_lt (HC7.out n hltn))).trans (HC7.out n hltn)
              have z8 := (hny.cell (cell_lt (hcs8 m hltm))).trans (hcs8 m hltm)
              have hyes : Hid ((c7[n] == c8[m]) = true → ∀ y ∈ c8.take (m + 1), c7[n] = y) := fun h y hy => by
                rw [List.take_succ_eq_append_getElem hltm] at hy
                rcases List.mem_append.1 hy with hy | hy
                · exact hAY.out y hy
                · obtain rfl : y = c8[m] := by simpa using hy
                  exact beq_iff_eq.1 h
              have hno : Hid ((c7[n] == c8[m]) = false → C = true) := fun h => HX.out.2 ⟨_, List.getElem_mem hltn, _, List.getElem_mem hltm, by rw [beq_eq_false_iff_ne] at h; exact h⟩
              obtain ⟨a7, ha⟩ : ∃ x, c7[n] = x := ⟨_, rfl⟩
              obtain ⟨a8, hb⟩ : ∃ x, c8[m] = x := ⟨_, rfl⟩
              rw [ha] at z7
              rw [hb] at z8
              rw [ha, hb] at hno
              have hyes' : Hid ((a7 == a8) = true → ∀ y ∈ c8.take (m + 1), c7[n] = y) := by rw [← ha, ← hb]; exact hyes
              have hm0 : (0 : Int) ≤ (m : Int) := by omega
              have hm1 : (m : Int) < (c8.length : Int) := by omega
              clear ha hb hyes hcs8 hAY
              cases hab : (a7 == a8)
              · have hab' : (a7 != a8) = true := by simp only [bne, hab]; rfl
                have hC := hno.out hab
                have fin := hide' (FIN.out C true rfl (by rw [hC, Bool.or_true]))
                have hend := hide' (HEND.out.trans (hny.mono HEND.out.size))
                clear hC hno hyes' HX FIN
                go_wp2_with fail
                go_quiet (fail)
                go_wp2_with fail
                go_ret2
                exact ⟨fin.out, below_draws hend.out _⟩
              · have hab' : (a7 != a8) = false := by simp only [bne, hab]; rfl
                have hd' := hide' (hyes'.out hab)
                clear hno hyes'
                go_wp2_with fail
                go_quiet (fail)
                go_wp2_with fail
                go_roundw
                case rel => exact ⟨m + 1, by omega, by go_num, below_draws hny _, hd'⟩
                case measure => simp [intOf]; omega
            · have hNP' : Hid (NoPair (c7.take (n + 1)) c8) := fun x hx y hy => by
                rw [List.take_succ_eq_append_getElem hltn] at hx
                rcases List.mem_append.1 hx with hx | hx
                · exact hNP.out x hx y hy
                · obtain rfl : x = c7[n] := by simpa using hx
                  exact hAY.out y (by rw [List.take_of_length_le (by omega)]; exact hy)
              clear hAY hNP
              go_wp2_with fail
              go_roundw
              case rel => exact ⟨n + 1, by omega, by go_num, hny, hNP'⟩
              case measure => simp [intOf]; omega
        · have hCf : C = false := by
            cases hC : C
            · rfl
            · obtain ⟨x, hx, y, hy, hne⟩ := HX.out.1 hC
              exact absurd (hNP.out x (by rw [List.take_of_length_le (by omega)]; exact hx) y hy) hne
          have fin := hide' (FIN.out C q rfl (by rw [hCf, Bool.or_false]))
          have hend := hide' (HEND.out.trans (hnx.mono HEND.out.size))
          clear hCf hNP HX FIN d1 d2 d3 d4 d5 d6
          go_wp2_with fail
          go_ret2
          exact ⟨fin.out, hend.out⟩

end Go.Proofs.YtdmdfokkibijjaaDoor
