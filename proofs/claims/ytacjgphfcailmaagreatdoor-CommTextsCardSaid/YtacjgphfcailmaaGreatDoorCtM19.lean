/-
  Layer 20: the walk of comm.Sum.
-/
import Derived.Test.YtacjgphfcailmaaGreatDoorCtM18a
import Derived.Deep.DeepCutAuto
namespace Go.Proofs.YtacjgphfcailmaaGreatDoor
open Go.RowKit Go.Sort
open Ct Mp
set_option linter.unusedVariables false
set_option linter.unusedSimpArgs false

theorem Own.beside {B b : Nat} {w w' : World} {v : Value} {l : List Cnt} (h : Own B w v l) (hg : w.grownBy w' (some b)) (hb : b < B) : Own B w' v l :=
  World.ownsRow.kept h hg (.inr fun e => by
    have := (World.ownsRow.lt h b e).1
    omega)
theorem MapS.below {w w' : World} {b : Nat} {m : List Cnt} (h : MapS w b m) (hb : Below w.heap.size w w') : MapS w' b m := by
  obtain ⟨E, c, h1, h2⟩ := h
  exact ⟨E, c, (hb.block b (Array.getElem?_eq_some_iff.1 h1).1).trans h1, h2⟩
theorem act_lit (a : Act) (hd : a.defers = []) (hs : a.tmps.size = 51) : a = { tmps := #[a.tmps[0]?.getD undef, a.tmps[1]?.getD undef, a.tmps[2]?.getD undef, a.tmps[3]?.getD undef, a.tmps[4]?.getD undef, a.tmps[5]?.getD undef, a.tmps[6]?.getD undef, a.tmps[7]?.getD undef, a.tmps[8]?.getD undef, a.tmps[9]?.getD undef, a.tmps[10]?.getD undef, a.tmps[11]?.getD undef, a.tmps[12]?.getD undef, a.tmps[13]?.getD undef, a.tmps[14]?.getD undef, a.tmps[15]?.getD undef, a.tmps[16]?.getD undef, a.tmps[17]?.getD undef, a.tmps[18]?.getD undef, a.tmps[19]?.getD undef, a.tmps[20]?.getD undef, a.tmps[21]?.getD undef, a.tmps[22]?.getD undef, a.tmps[23]?.getD undef, a.tmps[24]?.getD undef, a.tmps[25]?.getD undef, a.tmps[26]?.getD undef, a.tmps[27]?.getD undef, a.tmps[28]?.getD undef, a.tmps[29]?.getD undef, a.tmps[30]?.getD undef, a.tmps[31]?.getD undef, a.tmps[32]?.getD undef, a.tmps[33]?.getD undef, a.tmps[34]?.getD undef, a.tmps[35]?.getD undef, a.tmps[36]?.getD undef, a.tmps[37]?.getD undef, a.tmps[38]?.getD undef, a.tmps[39]?.getD undef, a.tmps[40]?.getD undef, a.tmps[41]?.getD undef, a.tmps[42]?.getD undef, a.tmps[43]?.getD undef, a.tmps[44]?.getD undef, a.tmps[45]?.getD undef, a.tmps[46]?.getD undef, a.tmps[47]?.getD undef, a.tmps[48]?.getD undef, a.tmps[49]?.getD undef, a.tmps[50]?.getD undef], defers := [] } := by
  obtain ⟨t, d⟩ := a
  subst hd
  have e : t = #[t[0]?.getD undef, t[1]?.getD undef, t[2]?.getD undef, t[3]?.getD undef, t[4]?.getD undef, t[5]?.getD undef, t[6]?.getD undef, t[7]?.getD undef, t[8]?.getD undef, t[9]?.getD undef, t[10]?.getD undef, t[11]?.getD undef, t[12]?.getD undef, t[13]?.getD undef, t[14]?.getD undef, t[15]?.getD undef, t[16]?.getD undef, t[17]?.getD undef, t[18]?.getD undef, t[19]?.getD undef, t[20]?.getD undef, t[21]?.getD undef, t[22]?.getD undef, t[23]?.getD undef, t[24]?.getD undef, t[25]?.getD undef, t[26]?.getD undef, t[27]?.getD undef, t[28]?.getD undef, t[29]?.getD undef, t[30]?.getD undef, t[31]?.getD undef, t[32]?.getD undef, t[33]?.getD undef, t[34]?.getD undef, t[35]?.getD undef, t[36]?.getD undef, t[37]?.getD undef, t[38]?.getD undef, t[39]?.getD undef, t[40]?.getD undef, t[41]?.getD undef, t[42]?.getD undef, t[43]?.getD undef, t[44]?.getD undef, t[45]?.getD undef, t[46]?.getD undef, t[47]?.getD undef, t[48]?.getD undef, t[49]?.getD undef, t[50]?.getD undef] := by
    apply Array.ext'
    apply List.ext_getElem?
    intro i
    by_cases hi : i < 51
    · have h1 : t.toList[i]? = some (t[i]?.getD undef) := by
        rw [Array.getElem?_toList]
        have : i < t.size := by rw [show t.size = 51 from hs]; exact hi
        simp [this]
      rw [h1]
      have : ∀ (f : Nat → Value), ([f 0, f 1, f 2, f 3, f 4, f 5, f 6, f 7, f 8, f 9, f 10, f 11, f 12, f 13, f 14, f 15, f 16, f 17, f 18, f 19, f 20, f 21, f 22, f 23, f 24, f 25, f 26, f 27, f 28, f 29, f 30, f 31, f 32, f 33, f 34, f 35, f 36, f 37, f 38, f 39, f 40, f 41, f 42, f 43, f 44, f 45, f 46, f 47, f 48, f 49, f 50] : List Value)[i]? = some (f i) := fun f => by
        have e2 : ([f 0, f 1, f 2, f 3, f 4, f 5, f 6, f 7, f 8, f 9, f 10, f 11, f 12, f 13, f 14, f 15, f 16, f 17, f 18, f 19, f 20, f 21, f 22, f 23, f 24, f 25, f 26, f 27, f 28, f 29, f 30, f 31, f 32, f 33, f 34, f 35, f 36, f 37, f 38, f 39, f 40, f 41, f 42, f 43, f 44, f 45, f 46, f 47, f 48, f 49, f 50] : List Value) = (List.range 51).map f := rfl
        rw [e2]
        simp [hi]
      exact (this fun i => t[i]?.getD undef).symm
    · rw [List.getElem?_eq_none (by rw [Array.length_toList]; have : t.size = 51 := hs; omega), List.getElem?_eq_none (by simp; omega)]
  rw [← e]
theorem own_or (v : Value) : v.ownBlock = none ∨ v.ownBlock ≠ none := by cases v.ownBlock <;> simp
def SumE (all : List Cnt) (w : World) (e : Ending) (w' : World) : Prop := ∃ u M s, e = .returned u ∧ Cs w' u s ∧ s.Perm (some0 M) ∧ SortedC s ∧ Sums M all ∧ Below w.heap.size w w'
set_option maxHeartbeats 16000000 in
set_option maxRecDepth 100000 in
theorem sum_at (l m : List Cnt) (v x : Value) (w : World) (hv : Cs w v l) (hx : Cs w x m) (hn : ∀ c ∈ l ++ m, near c) (hl : l.length ≤ 400) (hm : m.length ≤ 400) :
    Calls Tryz.prog 9 #[v, x] w (SumE (l ++ m) w) := by
  have hmm := @run_makeMap Tryz.prog
  have KC := fun b c u h1 h2 h3 => Lib.hid (concat_at l m v x b c u h1 h2 h3 hl hm)
  have hal : (l ++ m).length ≤ 800 := by rw [List.length_append]; omega
  obtain ⟨all, hall⟩ : ∃ a, l ++ m = a := ⟨_, rfl⟩
  rw [hall] at hn hal KC ⊢
  have HN := Lib.hid hn
  have bm : Below w.heap.size w (w.alloc (.map #[] 0)) := (Below.refl _ _).alloc (Nat.le_refl _) _
  have b2 : Below w.heap.size w ((w.alloc (.map #[] 0)).alloc (.cells #[v, x] 22)) := bm.alloc (by simp) _
  have K1 := (KC (w.heap.size + 1) 2 ((w.alloc (.map #[] 0)).alloc (.cells #[v, x] 22)) (hv.below b2) (hx.below b2) (by have := heap_alloc_new (w.alloc (.map #[] 0)) (.cells #[v, x] 22); rw [World.size_alloc] at this; exact this))
  have HMM : Hid (MapS ((w.alloc (.map #[] 0)).alloc (.cells #[v, x] 22)) w.heap.size []) := Lib.hid ⟨#[], 0, (Below.heap_alloc _ _ _ (by simp)).trans (heap_alloc_new w _), by simp, by simp, by simp⟩
  have HB := Lib.hid b2
  obtain ⟨A1, c1, rfl, -⟩ := hv
  obtain ⟨A2, c2, rfl, -⟩ := hx
  clear hn hall bm b2 KC
  go_enter Tryz.func9, Tryz.ntmps9
  go_wp2_with fail
  refine K1.out.mono ?_
  rintro e w2 ⟨u, rfl, ho, hb⟩
  have hM2 := HMM.out.below hb
  have hB2 := HB.out.trans (hb.mono HB.out.size)
  have hlt : w.heap.size < ((w.alloc (.map #[] 0)).alloc (.cells #[.slice A1 l.length c1, .slice A2 m.length c2] 22)).heap.size := by simp; omega
  obtain ⟨B, hBB⟩ : ∃ B, ((w.alloc (.map #[] 0)).alloc (.cells #[.slice A1 l.length c1, .slice A2 m.length c2] 22)).heap.size = B := ⟨_, rfl⟩
  rw [hBB] at ho hlt
  obtain ⟨Aa, ca, rfl, k1, k2, -⟩ := ho.form
  have HO := Lib.hid ho
  have H2 := Lib.hid (And.intro hM2 (And.intro hB2 hlt))
  obtain ⟨n, hna⟩ : ∃ n, all.length = n := ⟨_, rfl⟩
  have HNA := Lib.hid hna
  rw [hna] at k1 hal HO ⊢
  have hn9 : (n : Int) ≤ 800 := by omega
  obtain ⟨bm, hbm⟩ : ∃ b, w.heap.size = b := ⟨_, rfl⟩
  have HBM := Lib.hid hbm
  clear ho hb hM2 hB2 hlt hBB hna K1 HMM HB
  rw [hbm] at H2 ⊢
  clear hbm
  go_wp2_with fail
  go_loopw [18] (fun i wr => ∃ (k : Nat) (mm : List Cnt), k ≤ n ∧ i = .int .i64 k ∧ MapS wr bm mm ∧ Sums mm (all.take k) ∧ Own B wr (.slice Aa n ca) all ∧ Below bm w2 wr ∧ mm.length ≤ k) (fun i _ => n - (intOf i).toNat)
  case atStart => exact ⟨0, [], Nat.zero_le _, rfl, H2.out.1, Sums.nil, HO.out, Below.refl _ _, Nat.le_refl _⟩
  case round =>
    obtain ⟨k, mm, hk, rfl, hM, hS, hO, hB, hml⟩ := hrel
    have hk0 : (0 : Int) ≤ (k : Int) := by omega
    have hk9 : (k : Int) ≤ 800 := by omega
    by_cases hlt : k < n
    · have hk1 : (k : Int) < (n : Int) := by omega
      have hka : k < all.length := by rw [HNA.out]; exact hlt
      obtain ⟨ba, rfl, hbA, hba, y0, y1, y2, y3, -⟩ := hO.at hka
      obtain ⟨cx, hcx⟩ : ∃ x, all[k] = x := ⟨_, rfl⟩
      rw [hcx] at y0 y1 y2 y3
      have HCX := Lib.hid hcx
      have HR := Lib.hid (And.intro hM (And.intro hS (And.intro hO hB)))
      clear hM hS hO hB hcx
      go_upto_region 7 with fail
      obtain ⟨W2, m', ⟨v8, born, W1, k2x, k2', k5, k7⟩, hM', hS', hG, hml'⟩ := mapS_step (w := (wr.alloc (.cells #[.int .i64 cx.frm, .int .i64 cx.to, .string cx.kind, .int .i64 0] 32)).drew) (c := cx) (l := all.take k) (HR.out.1.below ((Below.refl _ _).alloc (Nat.le_refl _) _).drew) HR.out.2.1 (by rw [List.length_take]; omega) (fun x hx => HN.out x (List.mem_of_mem_take hx)) (HN.out cx (HCX.out ▸ List.getElem_mem hka))
      have hld := run_loadVar_row (P := Tryz.prog) (wr.alloc (.cells #[.int .i64 cx.frm, .int .i64 cx.to, .string cx.kind, .int .i64 0] 32)).drew wr.heap.size 32 32 _ _ _ (heap_alloc_new wr _) Tryz.underlying32 rfl (by kernel_rfl)
      obtain ⟨W, hW⟩ : ∃ W, (wr.alloc (.cells #[.int .i64 cx.frm, .int .i64 cx.to, .string cx.kind, .int .i64 0] 32)) = W := ⟨_, rfl⟩
      have HW := Lib.hid hW
      have HM := Lib.hid (And.intro hM' (And.intro hS' hG))
      clear hM' hS' hG
      rw [hW] at k2x k5 hld HM ⊢
      clear hW
      let val : Nat → Value := fun i => match i with
        | 0 => .map (some bm) | 1 => cKey cx.frm cx.to cx.kind | 2 => .int .i64 v8 | 3 => .int .i64 cx.many | 4 => .int .i64 (wrap64 (v8 + cx.many)) | 5 => .tuple #[.int .i64 v8, .int .i64 born] | 6 => .int .i64 born | _ => undef
      refine draws_fixed val (fun L => if L 7 = true then W2 else if L 5 = true then W1 else W.drew) _ (by kernel_rfl) (by kernel_rfl) (by kernel_rfl) (by kernel_rfl) (fun L L' h => ?_) (fun L i o a ho hL hb hc hv hr => ?_) rfl (fun a hr => ?_)
      · have e1 := h 7 (by decide)
        have e2 := h 5 (by decide)
        simp only [e1, e2]
      · have p5 : a.eval (.tmp 5) = .map (some bm) := hr 5 (by kernel_rfl)
        have p7 : a.eval (.tmp 7) = .pointer (some ⟨wr.heap.size, 0, none⟩) := hr 7 (by kernel_rfl)
        have p8 : a.eval (.tmp 8) = .int .i64 cx.many := hr 8 (by kernel_rfl)
        have f7 : ∀ j, j < 7 → L j = false → L 7 = false := fun j hj h => by
          cases h12 : L 7 with
          | false => rfl
          | true =>
            have := hc 7 j (List.all_eq_true.1 (show ((List.range 7).all fun j => edgeB _ 7 j) = true by kernel_rfl) j (List.mem_range.2 hj)) h12
            rw [h] at this
            cases this
        have f5 : ∀ j, j < 2 → L j = false → L 5 = false := fun j hj h => by
          cases h10 : L 5 with
          | false => rfl
          | true =>
            have := hc 5 j (List.all_eq_true.1 (show ((List.range 2).all fun j => edgeB _ 5 j) = true by kernel_rfl) j (List.mem_range.2 hj)) h10
            rw [h] at this
            cases this
        have T := fun (j t : Nat) h1 h2 => show a.eval (.tmp t) = val j from hv j t h2 (hb j h1)
        rcases i with _ | _ | _ | _ | _ | _ | _ | _ | i
        all_goals simp only [List.getElem?_toArray, List.getElem?_cons_succ, List.getElem?_cons_zero, Option.some.injEq, List.getElem?_nil, reduceCtorEq] at ho
        all_goals subst ho
        · have g7 := f7 0 (by decide) hL
          have g5 := f5 0 (by decide) hL
          left
          simp only [g7, g5, Bool.false_or, Nat.reduceBEq, Bool.false_eq_true, if_false, Bool.or_false, if_true]
          clear hv hb hc f7 f5 T
          simp [execOp, p5, val]
        · have g7 := f7 1 (by decide) hL
          have g5 := f5 1 (by decide) hL
          left
          simp only [g7, g5, Bool.false_or, Nat.reduceBEq, Bool.false_eq_true, if_false, Bool.or_false, if_true]
          clear hv hb hc f7 f5 T
          simp [execOp, p7, val, Instr.loadAt, Instr.sureAddr, hld, cKey]
        · have g7 := f7 2 (by decide) hL
          have t1 := T 0 25 (by kernel_rfl) (by kernel_rfl)
          have t2 := T 1 26 (by kernel_rfl) (by kernel_rfl)
          left
          simp only [g7, Bool.false_or, Nat.reduceBEq, Bool.false_eq_true, if_false, Bool.or_false, if_true]
          clear hv hb hc f7 f5 T
          by_cases h5 : L 5 = true
          · simp [execOp, t1, t2, val, h5, k2']
          · simp [execOp, t1, t2, val, h5, k2x]
        · have g7 := f7 3 (by decide) hL
          left
          simp only [g7, Bool.false_or, Nat.reduceBEq, Bool.false_eq_true, if_false, Bool.or_false, if_true]
          clear hv hb hc f7 f5 T
          by_cases h5 : L 5 = true
          · simp [execOp, p8, val, h5]
          · simp [execOp, p8, val, h5]
        · have g7 := f7 4 (by decide) hL
          have t1 := T 2 27 (by kernel_rfl) (by kernel_rfl)
          have t2 := T 3 28 (by kernel_rfl) (by kernel_rfl)
          left
          simp only [g7, Bool.false_or, Nat.reduceBEq, Bool.false_eq_true, if_false, Bool.or_false, if_true]
          clear hv hb hc f7 f5 T
          have hg : ∀ w, (eqGuard .add 3 (.tmp 27) (.tmp 28) (.int .i64 v8) (.int .i64 cx.many)).run Tryz.prog w = .ok () w := fun w => by kernel_rfl
          have hb : ∀ w, (binOp .add 3 (.int .i64 v8) (.int .i64 cx.many)).run Tryz.prog w = .ok (.int .i64 (IntKind.i64.wrap (v8 + cx.many))) w := fun w => by kernel_rfl
          have hw64 : IntKind.i64.wrap (v8 + cx.many) = wrap64 (v8 + cx.many) := by
            simp [IntKind.wrap, IntKind.bits, IntKind.signed, wrap64]
            split <;> omega
          simp [execOp, t1, t2, val, hg, hb, hw64]
        · have g7 := f7 5 (by decide) hL
          have t1 := T 0 25 (by kernel_rfl) (by kernel_rfl)
          have t2 := T 1 26 (by kernel_rfl) (by kernel_rfl)
          left
          simp only [g7, hL, Bool.false_or, Nat.reduceBEq, Bool.false_eq_true, if_false, Bool.or_false, if_true]
          clear hv hb hc f7 f5 T
          simp [execOp, t1, t2, val, k5]
        · have g7 := f7 6 (by decide) hL
          have g5 := hb 5 (by kernel_rfl)
          have t1 := T 5 30 (by kernel_rfl) (by kernel_rfl)
          left
          simp only [g7, g5, Bool.false_or, Nat.reduceBEq, Bool.false_eq_true, if_false, Bool.or_false, if_true]
          clear hv hb hc f7 f5 T
          simp [execOp, t1, val, Instr.extract]
        · have g5 := hc 6 5 (by kernel_rfl) (hb 6 (by kernel_rfl))
          have t1 := T 0 25 (by kernel_rfl) (by kernel_rfl)
          have t2 := T 6 31 (by kernel_rfl) (by kernel_rfl)
          have t3 := T 4 29 (by kernel_rfl) (by kernel_rfl)
          right
          refine ⟨rfl, ?_⟩
          simp only [hL, g5, Bool.false_or, Nat.reduceBEq, Bool.false_eq_true, if_false, Bool.or_false, if_true]
          clear hv hb hc f7 f5 T
          simp [execOp, t1, t2, t3, val, k7]
      · have hs0 := hr.1
        have hd0 := hr.2.1
        have G0 := at_rest (t := 0) (by kernel_rfl) hr
        have G1 := at_rest (t := 1) (by kernel_rfl) hr
        have G2 := at_rest (t := 2) (by kernel_rfl) hr
        have G3 := at_rest (t := 3) (by kernel_rfl) hr
        have G4 := at_rest (t := 4) (by kernel_rfl) hr
        have G5 := at_rest (t := 5) (by kernel_rfl) hr
        have G6 := at_rest (t := 6) (by kernel_rfl) hr
        have G7 := at_rest (t := 7) (by kernel_rfl) hr
        have G8 := at_rest (t := 8) (by kernel_rfl) hr
        have G9 := at_rest (t := 9) (by kernel_rfl) hr
        have G10 := at_rest (t := 10) (by kernel_rfl) hr
        have G11 := at_rest (t := 11) (by kernel_rfl) hr
        have G12 := at_rest (t := 12) (by kernel_rfl) hr
        have G13 := at_rest (t := 13) (by kernel_rfl) hr
        have G14 := at_rest (t := 14) (by kernel_rfl) hr
        have G15 := at_rest (t := 15) (by kernel_rfl) hr
        have G16 := at_rest (t := 16) (by kernel_rfl) hr
        have G17 := at_rest (t := 17) (by kernel_rfl) hr
        have G18 := at_rest (t := 18) (by kernel_rfl) hr
        have G19 := at_rest (t := 19) (by kernel_rfl) hr
        have G20 := at_rest (t := 20) (by kernel_rfl) hr
        have G21 := at_rest (t := 21) (by kernel_rfl) hr
        have G22 := at_rest (t := 22) (by kernel_rfl) hr
        have G23 := at_rest (t := 23) (by kernel_rfl) hr
        have G24 := at_rest (t := 24) (by kernel_rfl) hr
        have G32 := at_rest (t := 32) (by kernel_rfl) hr
        have G33 := at_rest (t := 33) (by kernel_rfl) hr
        have G34 := at_rest (t := 34) (by kernel_rfl) hr
        have G35 := at_rest (t := 35) (by kernel_rfl) hr
        have G36 := at_rest (t := 36) (by kernel_rfl) hr
        have G37 := at_rest (t := 37) (by kernel_rfl) hr
        have G38 := at_rest (t := 38) (by kernel_rfl) hr
        have G39 := at_rest (t := 39) (by kernel_rfl) hr
        have G40 := at_rest (t := 40) (by kernel_rfl) hr
        have G41 := at_rest (t := 41) (by kernel_rfl) hr
        have G42 := at_rest (t := 42) (by kernel_rfl) hr
        have G43 := at_rest (t := 43) (by kernel_rfl) hr
        have G44 := at_rest (t := 44) (by kernel_rfl) hr
        have G45 := at_rest (t := 45) (by kernel_rfl) hr
        have G46 := at_rest (t := 46) (by kernel_rfl) hr
        have G47 := at_rest (t := 47) (by kernel_rfl) hr
        have G48 := at_rest (t := 48) (by kernel_rfl) hr
        have G49 := at_rest (t := 49) (by kernel_rfl) hr
        have G50 := at_rest (t := 50) (by kernel_rfl) hr
        simp only [Array.getD_eq_getD_getElem?, List.getElem?_toArray, List.getElem?_cons_zero, List.getElem?_cons_succ, Option.getD_some] at G0 G1 G2 G3 G4 G5 G6 G7 G8 G9 G10 G11 G12 G13 G14 G15 G16 G17 G18 G19 G20 G21 G22 G23 G24 G32 G33 G34 G35 G36 G37 G38 G39 G40 G41 G42 G43 G44 G45 G46 G47 G48 G49 G50
        have hA := act_lit a hd0 hs0
        simp only [G0, G1, G2, G3, G4, G5, G6, G7, G8, G9, G10, G11, G12, G13, G14, G15, G16, G17, G18, G19, G20, G21, G22, G23, G24, G32, G33, G34, G35, G36, G37, G38, G39, G40, G41, G42, G43, G44, G45, G46, G47, G48, G49, G50] at hA
        obtain ⟨v25, hv25⟩ : ∃ x, a.tmps[25]?.getD undef = x := ⟨_, rfl⟩; obtain ⟨v26, hv26⟩ : ∃ x, a.tmps[26]?.getD undef = x := ⟨_, rfl⟩; obtain ⟨v27, hv27⟩ : ∃ x, a.tmps[27]?.getD undef = x := ⟨_, rfl⟩; obtain ⟨v28, hv28⟩ : ∃ x, a.tmps[28]?.getD undef = x := ⟨_, rfl⟩; obtain ⟨v29, hv29⟩ : ∃ x, a.tmps[29]?.getD undef = x := ⟨_, rfl⟩; obtain ⟨v30, hv30⟩ : ∃ x, a.tmps[30]?.getD undef = x := ⟨_, rfl⟩; obtain ⟨v31, hv31⟩ : ∃ x, a.tmps[31]?.getD undef = x := ⟨_, rfl⟩
        rw [hv25, hv26, hv27, hv28, hv29, hv30, hv31] at hA
        clear G0 G1 G2 G3 G4 G5 G6 G7 G8 G9 G10 G11 G12 G13 G14 G15 G16 G17 G18 G19 G20 G21 G22 G23 G24 G32 G33 G34 G35 G36 G37 G38 G39 G40 G41 G42 G43 G44 G45 G46 G47 G48 G49 G50 hv25 hv26 hv27 hv28 hv29 hv30 hv31 hs0 hd0 hr
        subst hA
        simp only [if_true]
        go_wp2_with fail
        have hbw : Below wr.heap.size wr W.drew := by rw [← HW.out]; exact ((Below.refl _ _).alloc (Nat.le_refl _) _).drew
        have hbz : bm ≤ wr.heap.size := by have h1 := HBM.out; have h2 := H2.out.2.1.size; have h3 := HR.out.2.2.2.size; omega
        have hO2 := (HR.out.2.2.1.below hbw).beside HM.out.2.2 H2.out.2.2
        have hB2 := (HR.out.2.2.2.trans (hbw.mono hbz)).grown HM.out.2.2 (Nat.le_trans hbz hbw.size) (fun k hk => by cases hk; exact Nat.le_refl _)
        have htk : all.take (k + 1) = all.take k ++ [cx] := by rw [List.take_succ_eq_append_getElem hka, HCX.out]
        exact ⟨⟨k + 1, m', by omega, by go_num, HM.out.1, by rw [htk]; exact HM.out.2.1, hO2, hB2, by omega⟩, by simp [intOf]; omega⟩
    · obtain rfl : k = n := by omega
      have hk1 : ¬ ((k : Int) < (k : Int)) := by omega
      have htk : all.take k = all := by rw [← HNA.out]; exact List.take_length
      rw [htk] at hS
      have HS := Lib.hid hS
      obtain ⟨w3, hrange, hI, hb3⟩ := iter_start hM
      have hrlt : bm < wr.heap.size := by
        obtain ⟨_, _, h, _⟩ := hM
        exact (Array.getElem?_eq_some_iff.1 h).1
      have hr3 : wr.heap.size < w3.heap.size := by
        obtain ⟨_, _, _, _, _, h, _⟩ := hI
        exact (Array.getElem?_eq_some_iff.1 h).1
      have hbz : bm ≤ wr.heap.size := Nat.le_of_lt hrlt
      have HB3 : Hid (Below bm w w3) := Lib.hid ((H2.out.2.1.trans hB).trans (hb3.mono hbz))
      have HI := Lib.hid hI
      obtain ⟨r, hr⟩ : ∃ r, wr.heap.size = r := ⟨_, rfl⟩
      rw [hr] at hrange HI hr3 hrlt
      clear hM hS hO hB hI hb3 htk hbz hr
      go_wp2_with fail
      go_loopw [9] (fun vs wz => ∃ s, Own w3.heap.size wz vs s ∧ Iter wz bm r mm s ∧ Below bm w wz ∧ w3.heap.size ≤ wz.heap.size) (fun _ wz => iterLeft wz bm r)
      case atStart => exact ⟨[], Own.nil _ _, HI.out, HB3.out, Nat.le_refl _⟩
      case round =>
        obtain ⟨s, hO, hI, hB, hz⟩ := hrel
        have hsl := Nat.le_trans hI.len hml
        have HR := Lib.hid (And.intro hO (And.intro hI (And.intro hB hz)))
        rcases iter_next hI 0 with ⟨hnext, hp⟩ | ⟨c, w4, hnext, hent, hI4, hlt4, hg4⟩
        · have HP := Lib.hid hp
          have KS := Lib.hid (sort_at w3.heap.size _ s _ HR.out.1 HR.out.2.2.2 (by omega))
          clear hO hI hB hp
          go_wp2_with fail
          refine KS.out.mono ?_
          rintro e w5 ⟨rfl, s', hp', hs', ho', hb'⟩
          have HE := Lib.hid (show SumE all w _ w5 from ⟨_, mm, s', rfl, by
            have hl' := hp'.length_eq
            exact Own.cs (B := w3.heap.size) (by unfold Own; rw [hl']; exact ho'), hp'.trans HP.out, hs', HS.out, by have h1 := HBM.out; have h2 := HB3.out.size; subst h1; exact HR.out.2.2.1.trans (hb'.mono (by omega))⟩)
          clear hp' hs' ho' hb' KS
          go_wp2_with fail
          go_ret
          exact HE.out
        · unfold cKey at hnext hent
          have HI4 := Lib.hid (And.intro hI4 (And.intro hlt4 hg4))
          clear hO hI hB hI4 hlt4 hg4
          by_cases hz : c.many = 0
          · have hz2 : (c.many == 0) = true := by simp [hz]
            have h0 : some0 [c] = [] := by unfold some0; simp [hz]
            rw [h0, List.append_nil] at HI4
            go_wp2_with fail
            have g1 : w4.grownBy (w4.alloc (.cells #[.int .i64 c.frm, .int .i64 c.to, .string c.kind, .int .i64 0] 32)) none := World.grownBy_alloc w4 _ none
            have gg := HI4.out.2.2.andThen g1 (fun j hj => by cases hj)
            obtain ⟨i1, i2⟩ := HI4.out.1.keep g1 (by simp) (by simp)
            exact ⟨⟨s, (HR.out.1.beside HI4.out.2.2 hr3).below ((Below.refl _ _).alloc (Nat.le_refl _) _), i1, HR.out.2.2.1.grown gg (by have := HR.out.2.2.2; omega) (fun k hk => by cases hk; omega), Nat.le_trans HR.out.2.2.2 gg.size⟩, by rw [i2]; exact HI4.out.2.1⟩
          · have hz2 : (c.many == 0) = false := by simp [hz]
            have h0 : some0 [c] = [c] := by unfold some0; simp [hz]
            rw [h0] at HI4
            have g1 : w4.grownBy (w4.alloc (.cells #[.int .i64 c.frm, .int .i64 c.to, .string c.kind, .int .i64 c.many] 32)) none := World.grownBy_alloc w4 _ none
            have hz5 : (w4.alloc (.cells #[.int .i64 c.frm, .int .i64 c.to, .string c.kind, .int .i64 c.many] 32)).heap.size = w4.heap.size + 1 := by simp
            have hone := Lib.hid (Own.one (w := (w4.alloc (.cells #[.int .i64 c.frm, .int .i64 c.to, .string c.kind, .int .i64 c.many] 32))) (Nat.le_refl _) c hz5)
            have g2 : (w4.alloc (.cells #[.int .i64 c.frm, .int .i64 c.to, .string c.kind, .int .i64 c.many] 32)).grownBy ((w4.alloc (.cells #[.int .i64 c.frm, .int .i64 c.to, .string c.kind, .int .i64 c.many] 32)).alloc (.cells #[.int .i64 c.frm, .int .i64 c.to, .string c.kind, .int .i64 c.many] 32)) none := World.grownBy_alloc _ _ none
            have g12 := g1.andThen g2 (fun j hj => by cases hj)
            have hOw := Lib.hid (World.ownsRow.kept (HR.out.1.beside HI4.out.2.2 hr3) g12 (own_or _))
            have gg := Lib.hid (HI4.out.2.2.andThen g12 (fun j hj => by cases hj))
            have HG := Lib.hid g12
            have hz3 := Nat.le_trans HR.out.2.2.2 gg.out.size
            clear g1 g2 g12 hz5
            go_wp2_with (at_builtin; refine wpList_append_cs rfl (.tmp 44) (.tmp 46) rfl w3.heap.size hz3 _ _ s [c] rfl rfl hOw.out hone.out.cs (by simp; omega) ?_)
            intro v7 w7 h7 hg7
            have hrow := fun j hj => (World.ownsRow.lt hOw.out j hj).1
            obtain ⟨i1, i2⟩ := HI4.out.1.keep HG.out (by simp) (by simp)
            obtain ⟨j1, j2⟩ := i1.keep hg7 (fun e => by have := hrow _ e.symm; omega) (fun e => by have := hrow _ e.symm; omega)
            have hb7 := (HR.out.2.2.1.grown gg.out (by have := HR.out.2.2.2; omega) (fun k hk => by cases hk; omega)).grown hg7 (by omega) (fun k hk => by have := hrow _ hk; omega)
            have HJ := Lib.hid (And.intro j1 (And.intro hb7 (Nat.le_trans hz3 hg7.size)))
            have hlt7 : iterLeft w7 bm r < iterLeft wr bm r := by rw [j2, i2]; exact HI4.out.2.1
            clear i1 i2 j1 j2 hb7 hrow hg7
            go_wp2_with fail
            exact ⟨⟨_, h7, HJ.out.1, HJ.out.2.1, HJ.out.2.2⟩, hlt7⟩
end Go.Proofs.YtacjgphfcailmaaGreatDoor
