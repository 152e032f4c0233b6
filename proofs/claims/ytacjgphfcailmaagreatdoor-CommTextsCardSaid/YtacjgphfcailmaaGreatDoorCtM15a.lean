/-
  Layer 20: rows of counts: their cells, stores into them, appends within drawn regions.
-/
import Derived.Test.YtacjgphfcailmaaGreatDoorCtM12
import Derived.Lib.AppendIntMem
import Derived.Lib.LaidTab
import Derived.Deep.Upon
import Derived.Lib.AppendZerosOnto
import Derived.Lib.AppendZeros
import Derived.OwnWalk
import Derived.Deep.AppendSrc
namespace Go.Proofs.YtacjgphfcailmaaGreatDoor
open Go.RowKit Go.Sort
open Ct
set_option linter.unusedVariables false
set_option linter.unusedSimpArgs false

set_option maxHeartbeats 4000000 in
theorem ptext_at (l : List Cnt) (v : Value) (z : Int) (w : World) (hv : Cs w v l) (hn : ∀ c ∈ l, near c) (hl : l.length ≤ 400) (hI : ItoaOK w) :
    Calls Tryz.prog 6 #[v, .int .i64 z] w (TextE z l w) := by
  by_cases h : 1 ≤ z ∧ z ≤ 8
  · obtain ⟨P, rfl⟩ : ∃ P : Nat, z = (P : Int) := ⟨z.toNat, by omega⟩
    exact ptext_yes l v P w hv hn hl (by omega) (by omega) hI
  · have HE := Lib.hid (text_no (P := z) (l := l) (w := w) (w' := w) (fun q => h ⟨q.1, q.2.1⟩) (Below.refl _ _))
    by_cases h1 : z < 1
    · clear hv hI h
      go_enter Tryz.func6, Tryz.ntmps6
      go_wp2_with fail
      go_ret2
      exact HE.out
    · have h2 : 8 < z := by omega
      clear hv hI h
      go_enter Tryz.func6, Tryz.ntmps6
      go_wp2_with fail
      go_ret2
      exact HE.out
theorem gPow : Tryz.prog.globalNamed "internal/strconv.uint64pow10" = some 0 := by kernel_rfl
def PowTab (w : World) : Prop := Lib.TabIs Tryz.prog w "internal/strconv.uint64pow10" .u64 Lib.pow10Tab
theorem PowTab.on {w u : World} (h : PowTab w) (hb : Below w.heap.size w u) : PowTab u := var?_below hb gPow (by
  unfold PowTab Lib.TabIs World.var? at h
  simp only [gPow, Option.bind_some] at h
  split at h
  · rename_i cs t z hb'
    exact (Array.getElem?_eq_some_iff.1 hb').1
  · cases h) h
theorem itoaOK (w : World) (h : PowTab w) : ItoaOK w := by
  intro n u h0 h1 hu
  refine (Tryz.strconv_Itoa n h0 h1 u (h.on hu)).mono ?_
  rintro e w' ⟨rfl, k, os, rfl⟩
  exact ⟨rfl, Lib.below_grow _ _ (Nat.le_refl _) k os⟩
end Go.Proofs.YtacjgphfcailmaaGreatDoor

namespace Go.Proofs.YtacjgphfcailmaaGreatDoor
open Go.RowKit Go.Sort
open Ct
set_option linter.unusedVariables false
set_option linter.unusedSimpArgs false

theorem cntV_len (c : Cnt) : (cntV c).length = 4 := rfl
theorem flat_len : ∀ l : List Cnt, (l.flatMap cntV).length = l.length * 4
  | [] => rfl
  | x :: r => by
    rw [List.flatMap_cons, List.length_append, cntV_len, flat_len r, List.length_cons, Nat.add_mul]
    omega
theorem flat_at : ∀ (l : List Cnt) (k : Nat) (hk : k < l.length) (j : Nat), j < 4 → (l.flatMap cntV)[k * 4 + j]? = (cntV l[k])[j]?
  | x :: r, 0, _, j, hj => by
    rw [List.flatMap_cons, List.getElem?_append_left (by rw [cntV_len]; omega)]
    simp
  | x :: r, k + 1, hk, j, hj => by
    have hge : (cntV x).length ≤ (k + 1) * 4 + j := by rw [cntV_len, Nat.add_mul]; omega
    rw [List.flatMap_cons, List.getElem?_append_right hge, cntV_len]
    have e : (k + 1) * 4 + j - 4 = k * 4 + j := by rw [Nat.add_mul]; omega
    rw [e, flat_at r k (by simpa using hk) j hj]
    simp
theorem cnt_one (l : List Cnt) : ∀ u ∈ l.flatMap cntV, u.oneCell' = true := by
  intro u hu
  obtain ⟨c, _, hc⟩ := List.mem_flatMap.1 hu
  simp only [cntV, List.mem_cons, List.not_mem_nil, or_false] at hc
  rcases hc with rfl | rfl | rfl | rfl <;> rfl
theorem infoCnt : (Tryz.prog.info? 32).map (fun i => (i.zero, i.size, i.bytes)) = some (some (.agg #[.int .i64 0, .int .i64 0, .string ⟨#[]⟩, .int .i64 0]), 4, 40) := by kernel_rfl
/-- a row of counts of the call's own -/
def Own (B : Nat) (w : World) (v : Value) (l : List Cnt) : Prop := w.ownsRow B 32 4 v l.length (l.flatMap cntV)
theorem Own.nil (B : Nat) (w : World) : Own B w (.slice none 0 0) [] := World.ownsRow_nil _ _ _ _
theorem Own.form {B : Nat} {w : World} {v : Value} {l : List Cnt} (h : Own B w v l) : ∃ A cap, v = .slice A l.length cap ∧ l.length ≤ cap ∧ cap ≤ maxLen ∧ (0 < l.length → ∃ g, A = some ⟨g, 0, none⟩ ∧ B ≤ g ∧ g < w.heap.size) := by
  have hlt := h.lt
  rcases h.2 with ⟨rfl, h0⟩ | ⟨g, cap, cur, rfl, hg, hb, h1, h2, h3, h4⟩
  · exact ⟨none, 0, by rw [h0], by omega, by unfold maxLen; omega, fun hp => by omega⟩
  · exact ⟨_, cap, rfl, h1, h2, fun _ => ⟨g, rfl, hg, (hlt g rfl).2⟩⟩
theorem Own.cs {B : Nat} {w : World} {v : Value} {l : List Cnt} (h : Own B w v l) : Cs w v l := by
  obtain ⟨A, cap, rfl, h1, h2, h3⟩ := h.form
  refine ⟨A, cap, rfl, h1, by unfold maxLen at h2; omega, fun h0 => ?_⟩
  obtain ⟨g, rfl, _, _⟩ := h3 h0
  refine ⟨g, 0, rfl, fun i hi j u hu => ?_⟩
  have hj : j < 4 := (List.getElem?_eq_some_iff.1 hu).1
  have := World.ownsRow.cells h (g := g) rfl (i * 4 + j) u (by rw [flat_at l i hi j hj]; exact hu)
  have e : (⟨g, 0, none⟩ : Addr).add (i * 4 + j) = ⟨g, 0 + i * 4 + j, none⟩ := by
    unfold Addr.add
    split <;> simp_all <;> omega
  rw [e] at this
  exact this
theorem Own.below {B : Nat} {w w' : World} {v : Value} {l : List Cnt} (h : Own B w v l) (hb : Below w.heap.size w w') : Own B w' v l :=
  World.ownsRow.kept h (row := none) ⟨hb.os, hb.tape, hb.output, hb.size, fun k hk _ => hb.block k hk⟩ (by cases v.ownBlock <;> simp)
/-- one append of whatever slice of counts -/
theorem run_append_cs (w : World) (ty : TypeId) (B : Nat) (hB : B ≤ w.heap.size) (v x : Value) (l m : List Cnt) (hv : Own B w v l) (hx : Cs w x m) (hl : l.length + m.length ≤ 100000) :
    ∃ v' w', (Builtin.append_ #[22, 22] ty #[v, x]).run Tryz.prog w = .ok v' w' ∧ Own B w' v' (l ++ m) ∧ w.grownBy w' v.ownBlock := by
  obtain ⟨i0, hi, hz0, hz1, hz2⟩ := info_parts infoCnt
  obtain ⟨A, cap, rfl, h1, h2, h3⟩ := hx
  cases A with
  | none =>
    have h0 : m.length = 0 := by
      rcases Nat.eq_zero_or_pos m.length with h0 | h0
      · exact h0
      · obtain ⟨b, off, h4, _⟩ := h3 h0
        cases h4
    have hm : m = [] := List.eq_nil_of_length_eq_zero h0
    subst hm
    obtain ⟨A', cap', rfl, k1, k2, k3⟩ := hv.form
    exact ⟨_, w, run_append_nothing (P := Tryz.prog) w _ _ ty 32 i0 Tryz.underlying22 hi A' _ cap' k1 _ (Src.ofNil _ Tryz.underlying22 cap), by rw [List.append_nil]; exact hv, World.grownBy.refl _ _⟩
  | some ad =>
    obtain ⟨v', w', hr, k1, k2, _⟩ := run_append_own (P := Tryz.prog) w B 22 ty 32 i0 _ 4 40 Tryz.underlying22 hi hz0 hz1 hz2 rfl (by decide) v _ _ hv ad m.length cap (m.flatMap cntV) (flat_len m) (fun j u hu => by
      have hj := (List.getElem?_eq_some_iff.1 hu).1
      rw [flat_len] at hj
      obtain ⟨b, off, h4, hc⟩ := h3 (by omega)
      cases h4
      have e := flat_at m (j / 4) (by omega) (j % 4) (by omega)
      rw [show j / 4 * 4 + j % 4 = j by omega, hu] at e
      have := hc (j / 4) (by omega) (j % 4) u e.symm
      rw [show off + j / 4 * 4 + j % 4 = off + j by omega] at this
      have e2 : (⟨b, off, none⟩ : Addr).add j = ⟨b, off + j, none⟩ := by
        unfold Addr.add
        split <;> simp_all
      rw [e2]
      exact this) (cnt_one m) (by unfold maxLen; omega) (by omega) hB
    refine ⟨v', w', hr, ?_, k2⟩
    unfold Own
    rw [List.length_append, List.flatMap_append]
    exact k1
theorem wpList_append_cs {ops : Array Oper} {rest : List Oper} {o : Oper} {a : Act} {w : World} {Q : Exit → Act → World → Prop} (hgd : o.guard = none) (s x : Operand)
    (ho : o.op = .call { callee := .builtin .append, args := #[s, x], argTypes := #[22, 22] }) (B : Nat) (hB : B ≤ w.heap.size) (v xv : Value) (l m : List Cnt) (hs : a.eval s = v) (hxv : a.eval x = xv) (hv : Own B w v l) (hx : Cs w xv m) (hl : l.length + m.length ≤ 100000)
    (h : ∀ v' w', Own B w' v' (l ++ m) → w.grownBy w' v.ownBlock → wpList Tryz.prog ops Q rest (a.put o.dst v') w') : wpList Tryz.prog ops Q (o :: rest) a w := by
  obtain ⟨v', w', hr, h1, h2⟩ := run_append_cs w o.type B hB v xv l m hv hx hl
  exact Lib.wpList_append_run w hgd s x _ _ ho v xv hs hxv v' w' hr (h v' w' h1 h2)
end Go.Proofs.YtacjgphfcailmaaGreatDoor

namespace Go.Proofs.YtacjgphfcailmaaGreatDoor
open Go.RowKit Go.Sort
open Ct
set_option linter.unusedVariables false
set_option linter.unusedSimpArgs false

set_option maxHeartbeats 8000000 in
set_option maxRecDepth 100000 in
theorem grow_at (n : Nat) (hn : n ≤ 100000) (w : World) :
    Calls Tryz.prog 28 #[.slice none 0 0, .int .i64 n] w fun e w' => ∃ v, e = .returned v ∧ Own w.heap.size w' v [] ∧ Below w.heap.size w w' := by
  have h1 : ¬ ((n : Int) < 0) := by omega
  have hn9 : (n : Int) ≤ 100000 := by omega
  have hn0 : (0 : Int) ≤ (n : Int) := by omega
  rcases Nat.eq_zero_or_pos n with rfl | hp
  · have HO := Lib.hid (And.intro (Own.nil w.heap.size w) (Below.refl w.heap.size w))
    go_enter Tryz.func28, Tryz.ntmps28
    go_wp2_with fail
    go_ret
    exact ⟨_, rfl, HO.out⟩
  · obtain ⟨i0, hi, hz0, hz1, hz2⟩ := info_parts infoCnt
    have hp' : (0 : Int) < (n : Int) := by omega
    have hr := fun ty => Lib.run_append_grow_zeros (P := Tryz.prog) w 22 3 ty 32 i0 _ .i64 .i64 Tryz.underlying22 Tryz.underlying3 hi hz0 none 0 0 [] (run_firstCells_none w.drew i0.size 0 0 0) n hp (by omega) (by omega) (by omega) (by rw [hz2]; omega) (growslice_fits (by omega) (by rw [hz2]; omega))
    simp only [Nat.zero_add] at hr
    have hG := grownCap_ge w n 0 32
    have hG2 := grownCap_le_maxLen w n 0 32 (by unfold maxLen; omega)
    obtain ⟨G, hGG⟩ : ∃ G, grownCap w n 0 32 = G := ⟨_, rfl⟩
    rw [hGG] at hr hG hG2
    obtain ⟨cs, hcs⟩ : ∃ cs : Array Value, (([] : List Value).toArray ++ Builtin.zeroCells (Value.agg #[.int .i64 0, .int .i64 0, .string ⟨#[]⟩, .int .i64 0]).cells n ++ Builtin.zeroCells (Value.agg #[.int .i64 0, .int .i64 0, .string ⟨#[]⟩, .int .i64 0]).cells (G - n)) = cs := ⟨_, rfl⟩
    have hsz : cs.size = G * 4 := by
      rw [← hcs, Array.size_append, Array.size_append, size_zeroCells, size_zeroCells]
      simp [Value.cells]
      omega
    rw [hcs] at hr
    have HO : Hid (Own w.heap.size (w.drew.alloc (.cells cs 32)) (.slice (some ⟨w.heap.size, 0, none⟩) 0 G) [] ∧ Below w.heap.size w (w.drew.alloc (.cells cs 32))) := by
      refine Lib.hid ⟨⟨rfl, .inr ⟨w.heap.size, G, cs, rfl, Nat.le_refl _, heap_alloc_new w.drew _, Nat.zero_le _, hG2, hsz, by simp⟩⟩, (Below.refl _ _).drew.alloc (Nat.le_refl _) _⟩
    have hG9 : (0 : Int) ≤ (G : Int) := by omega
    clear hcs hsz hGG
    go_enter Tryz.func28, Tryz.ntmps28
    go_wp2_with (at_builtin; refine Lib.wpList_append_run _ rfl _ _ _ _ rfl _ _ rfl rfl _ _ (hr _) ?_)
    go_ret
    exact ⟨_, rfl, HO.out⟩
set_option maxHeartbeats 8000000 in
set_option maxRecDepth 100000 in
theorem concat_at (l m : List Cnt) (v x : Value) (b c : Nat) (w : World) (hv : Cs w v l) (hx : Cs w x m) (hb : w.heap[b]? = some (.cells #[v, x] 22 (0, 0))) (hl : l.length ≤ 400) (hm : m.length ≤ 400) :
    Calls Tryz.prog 17 #[.slice (some ⟨b, 0, none⟩) 2 c] w fun e w' => ∃ u, e = .returned u ∧ Own w.heap.size w' u (l ++ m) ∧ Below w.heap.size w w' := by
  have HV := Lib.hid (And.intro hv hx)
  have x0 : w.cell? ⟨b, 0, none⟩ = some v := blk_cell hb 0
  have x1 : w.cell? ⟨b, 1, none⟩ = some x := blk_cell hb 1
  obtain ⟨A, cap, rfl, h1, h2, -⟩ := hv
  obtain ⟨A2, cap2, rfl, h3, h4, -⟩ := hx
  have hbl : b < w.heap.size := (Array.getElem?_eq_some_iff.1 hb).1
  have KG := Lib.hid (fun u => grow_at (l.length + m.length) (by omega) u)
  have HL := Lib.hid (And.intro hl hm)
  obtain ⟨n1, hn1⟩ : ∃ n, l.length = n := ⟨_, rfl⟩
  obtain ⟨n2, hn2⟩ : ∃ n, m.length = n := ⟨_, rfl⟩
  rw [hn1] at KG HV h1 hl x0
  rw [hn2] at KG HV h3 hm x1
  rw [show ((n1 + n2 : Nat) : Int) = (n1 : Int) + (n2 : Int) by omega] at KG
  have p0 : (0 : Int) ≤ (n1 : Int) := by omega
  have p1 : (n1 : Int) ≤ 400 := by omega
  have p2 : (0 : Int) ≤ (n2 : Int) := by omega
  have p3 : (n2 : Int) ≤ 400 := by omega
  have p4 : ¬ ((n1 : Int) < 0) := by omega
  have p5 : ¬ ((n1 : Int) + (n2 : Int) < 0) := by omega
  have HX1 := Lib.hid x1
  clear hb hn1 hn2
  go_enter Tryz.func17, Tryz.ntmps17
  go_wp2_with fail
  refine wp_loop_rounds 3 ?_
  rw [rounds_succ]
  go_wp2_with fail
  rw [rounds_succ]
  go_wp2_with fail
  rw [rounds_succ]
  go_wp2_with fail
  refine (KG.out _).mono ?_
  rintro e w1 ⟨u, rfl, ho, hb1⟩
  have y0 := (hb1.cell (p := ⟨b, 0, none⟩) hbl).trans x0
  have y1 := (hb1.cell (p := ⟨b, 1, none⟩) hbl).trans x1
  have hv1 : Cs w1 (.slice A n1 cap) l := HV.out.1.below hb1
  have HO1 := Lib.hid (And.intro ho hb1)
  clear ho hb1 x0 x1 KG
  go_wp2_with fail
  refine wp_loop_rounds 3 ?_
  rw [rounds_succ]
  go_wp2_with (at_builtin; refine wpList_append_cs rfl _ _ rfl w.heap.size HO1.out.2.size u _ [] l rfl rfl HO1.out.1 hv1 (by have := HL.out; simp; omega) ?_)
  intro u2 w2 ho2 hg2
  have hb2 := HO1.out.2.grown hg2 HO1.out.2.size (fun k hk => (World.ownsRow.lt HO1.out.1 k hk).1)
  have y1' := (hb2.cell (p := ⟨b, 1, none⟩) hbl).trans HX1.out
  have hx2 : Cs w2 (.slice A2 n2 cap2) m := HV.out.2.below hb2
  have HO2 := Lib.hid (And.intro ho2 hb2)
  clear ho2 hg2 hb2 hv1 y0 y1 HO1
  go_wp2_with fail
  rw [rounds_succ]
  go_wp2_with (at_builtin; refine wpList_append_cs rfl _ _ rfl w.heap.size HO2.out.2.size u2 _ l m rfl rfl HO2.out.1 hx2 (by have := HL.out; omega) ?_)
  intro u3 w3 ho3 hg3
  have hb3 := HO2.out.2.grown hg3 HO2.out.2.size (fun k hk => (World.ownsRow.lt HO2.out.1 k hk).1)
  have HO3 := Lib.hid (And.intro ho3 hb3)
  clear ho3 hg3 hb3 hx2 y1' HO2
  go_wp2_with fail
  rw [rounds_succ]
  go_wp2_with fail
  go_ret
  exact ⟨_, rfl, HO3.out⟩
end Go.Proofs.YtacjgphfcailmaaGreatDoor

namespace Go.Proofs.YtacjgphfcailmaaGreatDoor
open Go.RowKit Go.Sort
open Ct
set_option linter.unusedVariables false
set_option linter.unusedSimpArgs false

theorem flat_set : ∀ (l : List Cnt) (k : Nat) (hk : k < l.length) (j : Nat) (u : Value) (x' : Cnt), j < 4 → cntV x' = (cntV l[k]).set j u → (l.flatMap cntV).set (k * 4 + j) u = (l.set k x').flatMap cntV
  | x :: r, 0, _, j, u, x', hj, he => by
    simp only [List.getElem_cons_zero] at he
    rw [List.flatMap_cons, List.set_cons_zero, List.flatMap_cons, he, List.set_append]
    rw [if_pos (by rw [cntV_len]; omega)]
    simp
  | x :: r, k + 1, hk, j, u, x', hj, he => by
    have hge : ¬ (k + 1) * 4 + j < (cntV x).length := by rw [cntV_len, Nat.add_mul]; omega
    rw [List.flatMap_cons, List.set_cons_succ, List.flatMap_cons, List.set_append, if_neg hge, cntV_len]
    have e : (k + 1) * 4 + j - 4 = k * 4 + j := by rw [Nat.add_mul]; omega
    rw [e, flat_set r k (by simpa using hk) j u x' hj (by simpa using he)]
/-- the cells of an owned row -/
theorem Own.at {B : Nat} {w : World} {A : Option Addr} {n cap : Nat} {l : List Cnt} (h : Own B w (.slice A n cap) l) {i : Nat} (hi : i < l.length) : ∃ g, A = some ⟨g, 0, none⟩ ∧ B ≤ g ∧ g < w.heap.size ∧
    w.cell? ⟨g, i * 4, none⟩ = some (.int .i64 l[i].frm) ∧ w.cell? ⟨g, i * 4 + 1, none⟩ = some (.int .i64 l[i].to) ∧ w.cell? ⟨g, i * 4 + 2, none⟩ = some (.string l[i].kind) ∧ w.cell? ⟨g, i * 4 + 3, none⟩ = some (.int .i64 l[i].many) ∧ w.frozen? ⟨g, i * 4 + 3, none⟩ = false := by
  obtain ⟨A', cap', e, h1, h2, h3⟩ := h.form
  obtain ⟨g, hA, h4, h5⟩ := h3 (by omega)
  cases e
  subst hA
  have key : ∀ (j : Nat) (u : Value), (cntV l[i])[j]? = some u → w.cell? ⟨g, i * 4 + j, none⟩ = some u := fun j u hu => by
    have hj : j < 4 := (List.getElem?_eq_some_iff.1 hu).1
    have := World.ownsRow.cells h (g := g) rfl (i * 4 + j) u (by rw [flat_at l i hi j hj]; exact hu)
    have e : (⟨g, 0, none⟩ : Addr).add (i * 4 + j) = ⟨g, i * 4 + j, none⟩ := by
      unfold Addr.add
      split <;> simp_all <;> omega
    rwa [e] at this
  exact ⟨g, rfl, h4, h5, key 0 _ rfl, key 1 _ rfl, key 2 _ rfl, key 3 _ rfl, World.ownsRow.frozenAt h _⟩
/-- a store into the number of a count -/
theorem Own.store {B : Nat} {w : World} {g n cap : Nat} {l : List Cnt} (h : Own B w (.slice (some ⟨g, 0, none⟩) n cap) l) {i : Nat} (hi : i < l.length) (z : Int) : Own B (w.setCell ⟨g, i * 4 + 3, none⟩ (.int .i64 z)) (.slice (some ⟨g, 0, none⟩) n cap) (l.set i { l[i] with many := z }) := by
  obtain ⟨A', cap', e, -⟩ := h.form
  cases e
  have := (World.ownsRow.stored h (i * 4 + 3) (.int .i64 z)).1
  rw [flat_set l i hi 3 (.int .i64 z) { l[i] with many := z } (by omega) rfl] at this
  unfold Own
  rw [List.length_set]
  exact this
/-- a row that has just been built -/
theorem Own.one {B : Nat} {w : World} (hB : B ≤ w.heap.size) (c : Cnt) {b : Nat} (hb : w.heap.size = b) : Own B (w.alloc (.cells #[.int .i64 c.frm, .int .i64 c.to, .string c.kind, .int .i64 c.many] 32)) (.slice (some ⟨b, 0, none⟩) 1 1) [c] := by
  subst hb
  exact ⟨rfl, .inr ⟨w.heap.size, 1, _, rfl, hB, heap_alloc_new w _, Nat.le_refl _, by unfold maxLen; omega, rfl, rfl⟩⟩
/-- .. onto a slice without room -/
theorem run_append_full (w : World) (ty : TypeId) (B : Nat) (hB : B ≤ w.heap.size) (A : Option Addr) (q : Nat) (x : Value) (l m : List Cnt) (hv : Cs w (.slice A q q) l) (hx : Cs w x m) (hm : 0 < m.length) (hl : l.length + m.length ≤ 100000) :
    ∃ v' w', (Builtin.append_ #[22, 22] ty #[.slice A q q, x]).run Tryz.prog w = .ok v' w' ∧ Own B w' v' (l ++ m) ∧ w.grownBy w' none := by
  obtain ⟨i0, hi, hz0, hz1, hz2⟩ := info_parts infoCnt
  obtain ⟨A', cap', e, h1, h2, h3⟩ := hx
  obtain ⟨A2, cap2, e2, k1, k2, k3⟩ := hv
  subst e
  cases e2
  obtain ⟨b, off, rfl, hc⟩ := h3 hm
  have key : ∀ (l : List Cnt) (b off : Nat), (∀ (i : Nat) (h : i < l.length) (j : Nat) (u : Value), (cntV l[i])[j]? = some u → w.cell? ⟨b, off + i * 4 + j, none⟩ = some u) → ∀ (j : Nat) (u : Value), (l.flatMap cntV)[j]? = some u → w.cell? ((⟨b, off, none⟩ : Addr).add j) = some u := by
    intro l b off hc j u hu
    have hj := (List.getElem?_eq_some_iff.1 hu).1
    rw [flat_len] at hj
    have e := flat_at l (j / 4) (by omega) (j % 4) (by omega)
    rw [show j / 4 * 4 + j % 4 = j by omega, hu] at e
    have := hc (j / 4) (by omega) (j % 4) u e.symm
    rw [show off + j / 4 * 4 + j % 4 = off + j by omega] at this
    have e2 : (⟨b, off, none⟩ : Addr).add j = ⟨b, off + j, none⟩ := by
      unfold Addr.add
      split <;> simp_all
    rw [e2]
    exact this
  have hold : (Builtin.firstCells i0.size l.length (.slice A l.length l.length)).run Tryz.prog w.drew = .ok (l.flatMap cntV).toArray w.drew := by
    rw [hz1]
    cases A with
    | none =>
      have h0 : l.length = 0 := by
        rcases Nat.eq_zero_or_pos l.length with h0 | h0
        · exact h0
        · obtain ⟨b, off, h4, _⟩ := k3 h0
          cases h4
      have hl0 : l = [] := List.eq_nil_of_length_eq_zero h0
      subst hl0
      exact run_firstCells_none w.drew 4 0 0 0
    | some ad =>
      refine run_firstCells_some w.drew 4 l.length ad l.length l.length (l.flatMap cntV) (flat_len l) fun j u hu => ?_
      have hj := (List.getElem?_eq_some_iff.1 hu).1
      rw [flat_len] at hj
      obtain ⟨b2, off2, h4, hc2⟩ := k3 (by omega)
      cases h4
      exact key l b2 off2 hc2 j u hu
  have hsrc : Src Tryz.prog i0.size 22 (.slice (some ⟨b, off, none⟩) m.length cap') m.length (m.flatMap cntV) w := by
    rw [hz1]
    exact Src.ofSlice w Tryz.underlying22 _ _ _ _ (flat_len m) (fun j u hu => key m b off hc j u hu) (cnt_one m)
  have hr := run_append_grow_src (P := Tryz.prog) w 22 22 ty 32 i0 _ Tryz.underlying22 hi hz0 A l.length l.length (l.flatMap cntV) hold _ m.length _ hsrc (by omega) (by omega) (growslice_fits (by omega) (by rw [hz2]; omega))
  have hG := grownCap_ge w (l.length + m.length) l.length 32
  have hG2 := grownCap_le_maxLen w (l.length + m.length) l.length 32 (by unfold maxLen; omega)
  obtain ⟨G, hGG⟩ : ∃ G, grownCap w (l.length + m.length) l.length 32 = G := ⟨_, rfl⟩
  rw [hGG] at hr hG hG2
  refine ⟨_, _, hr, ?_, ?_⟩
  · unfold Own
    rw [List.length_append, List.flatMap_append]
    have hlen : (l.flatMap cntV ++ m.flatMap cntV).length = (l.length + m.length) * 4 := by rw [List.length_append, flat_len, flat_len]; omega
    refine ⟨hlen, .inr ⟨w.heap.size, G, _, rfl, hB, heap_alloc_new w.drew _, hG, hG2, ?_, ?_⟩⟩
    · rw [Array.size_append, size_zeroCells, List.size_toArray, hlen]
      simp [Value.cells]
      omega
    · have hle : (l.length + m.length) * 4 = (l.flatMap cntV ++ m.flatMap cntV).length := hlen.symm
      rw [hle, Array.toList_append]
      simp only []
      rw [List.take_append_of_le_length (Nat.le_refl _), List.take_length]
  · exact ⟨rfl, rfl, rfl, by simp, fun k hk _ => Below.heap_alloc w.drew _ k hk⟩
theorem step_append_cs {ops : Array Oper} {o : Oper} {a : Act} {w : World} {K : Act → World → Prop} {Q : Exit → Act → World → Prop} {E : Prop} (hgd : o.guard = none) (s x : Operand)
    (ho : o.op = .call { callee := .builtin .append, args := #[s, x], argTypes := #[22, 22] }) (B : Nat) (hB : B ≤ w.heap.size) (v xv : Value) (l m : List Cnt) (hs : a.eval s = v) (hxv : a.eval x = xv) (hv : Own B w v l) (hx : Cs w xv m) (hl : l.length + m.length ≤ 100000)
    (h : ∀ v' w', Own B w' v' (l ++ m) → w.grownBy w' v.ownBlock → K (a.put o.dst v') w') : if Region.wanted o (yielded ops a.tmps) = true then Oper.wp Tryz.prog o a w K Q else E := by
  have hw : Region.wanted o (yielded ops a.tmps) = true := by simp [Region.wanted, hgd]
  rw [if_pos hw]
  obtain ⟨v', w', hr, h1, h2⟩ := run_append_cs w o.type B hB v xv l m hv hx hl
  unfold Oper.wp execOp
  simp only [ho, resolve, invoke, builtin, Sem.run_bind, Sem.run_pure, Result.andThen_ok, List.map_toArray, List.map_cons, List.map_nil, hs, hxv, hr]
  exact h v' w' h1 h2
theorem step_append_full {ops : Array Oper} {o : Oper} {a : Act} {w : World} {K : Act → World → Prop} {Q : Exit → Act → World → Prop} {E : Prop} (hgd : o.guard = none) (s x : Operand)
    (ho : o.op = .call { callee := .builtin .append, args := #[s, x], argTypes := #[22, 22] }) (B : Nat) (hB : B ≤ w.heap.size) (A : Option Addr) (q : Nat) (xv : Value) (l m : List Cnt) (hs : a.eval s = .slice A q q) (hxv : a.eval x = xv) (hv : Cs w (.slice A q q) l) (hx : Cs w xv m) (hm : 0 < m.length) (hl : l.length + m.length ≤ 100000)
    (h : ∀ v' w', Own B w' v' (l ++ m) → w.grownBy w' none → K (a.put o.dst v') w') : if Region.wanted o (yielded ops a.tmps) = true then Oper.wp Tryz.prog o a w K Q else E := by
  have hw : Region.wanted o (yielded ops a.tmps) = true := by simp [Region.wanted, hgd]
  rw [if_pos hw]
  obtain ⟨v', w', hr, h1, h2⟩ := run_append_full w o.type B hB A q xv l m hv hx hm hl
  unfold Oper.wp execOp
  simp only [ho, resolve, invoke, builtin, Sem.run_bind, Sem.run_pure, Result.andThen_ok, List.map_toArray, List.map_cons, List.map_nil, hs, hxv, hr]
  exact h v' w' h1 h2
end Go.Proofs.YtacjgphfcailmaaGreatDoor
