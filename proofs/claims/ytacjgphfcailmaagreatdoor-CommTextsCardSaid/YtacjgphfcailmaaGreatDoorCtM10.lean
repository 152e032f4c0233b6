/-
  Layer 20: the walks of a text that is built: a byte and a string are written behind it.
-/
import Derived.Test.YtacjgphfcailmaaGreatDoorCtM5
import Derived.Deep.QuietTactic
import Derived.BigQuiet
import Derived.StillTailTactics
import Derived.Outline
import Derived.Lib.Small
import Derived.Sort.Walk0
import Derived.Sort.Grow
import Derived.Lib.Builder
import Derived.Lib.AppendStr
namespace Go.Proofs.YtacjgphfcailmaaGreatDoor
open Go.RowKit
open Ct
set_option linter.unusedVariables false
set_option linter.unusedSimpArgs false

set_option maxHeartbeats 4000000 in
theorem rtext_at (l : List Cnt) (v : Value) (z : Int) (w : World) (hv : Cs w v l) (hn : ∀ c ∈ l, near c) (hl : l.length ≤ 400) (hI : ItoaOK w) :
    Calls Tryz.prog 7 #[v, .int .i64 z] w (TextE z l w) := by
  by_cases h : 1 ≤ z ∧ z ≤ 8
  · obtain ⟨P, rfl⟩ : ∃ P : Nat, z = (P : Int) := ⟨z.toNat, by omega⟩
    exact rtext_yes l v P w hv hn hl (by omega) (by omega) hI
  · have K0 := fun u => Lib.hid (isPlaces_at z u)
    have d : (decide (1 ≤ z) && decide (z ≤ 8)) = false := by
      cases hq : (decide (1 ≤ z) && decide (z ≤ 8))
      · rfl
      · simp at hq; exact absurd hq h
    rw [d] at K0
    have HE := Lib.hid (text_no (P := z) (l := l) (w := w) (w' := w) (fun q => h ⟨q.1, q.2.1⟩) (Below.refl _ _))
    clear d hv hI h
    go_enter Tryz.func7, Tryz.ntmps7
    go_wp2_with fail
    refine (K0 _).out.mono ?_
    rintro e w1 ⟨rfl, rfl⟩
    go_wp2_with fail
    go_ret2
    exact HE.out
def ordI (a b : Int) : Int := if a < b then -1 else if b < a then 1 else 0
def ordS (x y : ByteArray) : Int := if Op.bytesLess x.toList y.toList then -1 else if !(Op.bytesLess x.toList y.toList || x.toList == y.toList) then 1 else 0
set_option maxHeartbeats 2000000 in
theorem ordI_at (a b : Int) (w : World) : Calls Tryz.prog 21 #[.int .i64 a, .int .i64 b] w fun e w' => e = .returned (.int .i64 (ordI a b)) ∧ w = w' := by
  unfold ordI
  by_cases h : a < b
  · rw [if_pos h]
    go_enter Tryz.func21, Tryz.ntmps21
    go_wp2_with fail
    go_ret
    exact ⟨rfl, rfl⟩
  · rw [if_neg h]
    by_cases h2 : b < a
    · rw [if_pos h2]
      go_enter Tryz.func21, Tryz.ntmps21
      go_wp2_with fail
      go_ret
      exact ⟨rfl, rfl⟩
    · rw [if_neg h2]
      go_enter Tryz.func21, Tryz.ntmps21
      go_wp2_with fail
      go_ret
      exact ⟨rfl, rfl⟩
set_option maxHeartbeats 2000000 in
theorem ordS_at (a b : ByteArray) (w : World) : Calls Tryz.prog 22 #[.string a, .string b] w fun e w' => e = .returned (.int .i64 (ordS a b)) ∧ w = w' := by
  have b1 : (Op.bytesLess a.toList b.toList = true) ∨ (Op.bytesLess a.toList b.toList = false) := by cases Op.bytesLess a.toList b.toList <;> simp
  have b2 : ((a.toList == b.toList) = true) ∨ ((a.toList == b.toList) = false) := by cases (a.toList == b.toList) <;> simp
  unfold ordS
  rcases b1 with b1 | b1 <;> rcases b2 with b2 | b2 <;> simp only [b1, b2, if_true, Bool.false_eq_true, if_false, Bool.or_true, Bool.or_false, Bool.not_true, Bool.not_false, Bool.true_or] <;>
  · go_enter Tryz.func22, Tryz.ntmps22
    go_wp2_with fail
    go_ret
    exact ⟨rfl, rfl⟩
end Go.Proofs.YtacjgphfcailmaaGreatDoor

namespace Go.Proofs.YtacjgphfcailmaaGreatDoor
open Go.RowKit Go.Sort
open Ct
set_option linter.unusedVariables false
set_option linter.unusedSimpArgs false

def or3 (a b c : Int) : Int := if a != 0 then a else if b != 0 then b else c
def cmpC (x y : Cnt) : Int := or3 (ordI x.frm y.frm) (ordI x.to y.to) (ordS x.kind y.kind)
theorem blk_cell {w : World} {b : Nat} {cs : Array Value} {t : TypeId} (h : w.heap[b]? = some (.cells cs t (0, 0))) (i : Nat) : w.cell? ⟨b, i, none⟩ = cs[i]? := by simp [World.cell?, h]
def orL : List Int → Int
  | [] => 0
  | x :: r => if x != 0 then x else orL r
theorem orL_skip {l : List Int} {k : Nat} (h : k < l.length) (h0 : l[k] = 0) (he : orL l = orL (l.drop k)) : orL l = orL (l.drop (k + 1)) := by
  rw [he, List.drop_eq_getElem_cons h, h0]
  rfl
theorem orL_hit {l : List Int} {k : Nat} (h : k < l.length) (h0 : l[k] ≠ 0) (he : orL l = orL (l.drop k)) : orL l = l[k] := by
  rw [he, List.drop_eq_getElem_cons h]
  simp [orL, h0]
set_option maxHeartbeats 4000000 in
theorem or_at (l : List Int) (b c : Nat) (w : World) (hc : ∀ (j : Nat) (h : j < l.length), w.cell? ⟨b, 0 + j, none⟩ = some (.int .i64 l[j])) (hl : l.length ≤ 1000) :
    Calls Tryz.prog 20 #[.slice (some ⟨b, 0, none⟩) l.length c] w fun e w' => e = .returned (.int .i64 (orL l)) ∧ w = w' := by
  have HC := Lib.hid hc
  clear hc
  go_enter Tryz.func20, Tryz.ntmps20
  go_wp2_with fail
  go_loop [8] (fun i => ∃ k : Nat, k ≤ l.length ∧ i = .int .i64 k ∧ orL l = orL (l.drop k)) (fun i => l.length - (intOf i).toNat)
  case atStart => exact ⟨0, Nat.zero_le _, rfl, rfl⟩
  case round =>
    obtain ⟨k, hk, rfl, he⟩ := hrel
    have HE := Lib.hid he
    clear he
    have hk0 : (0 : Int) ≤ (k : Int) := by omega
    have hk2 : (l.length : Int) ≤ 1000 := by omega
    by_cases hlt : k < l.length
    · have x0 := HC.out k hlt
      have hk1 : (k : Int) < (l.length : Int) := by omega
      rw [Nat.zero_add] at x0
      by_cases hz : l[k] = 0
      · have HS := Lib.hid (orL_skip hlt hz HE.out)
        rw [hz] at x0
        clear hz
        go_wp2_with fail
        go_round
        case rel => exact ⟨k + 1, by omega, by go_num, HS.out⟩
        case measure => simp [intOf]; omega
      · have HS := Lib.hid (orL_hit hlt hz HE.out)
        obtain ⟨x, hx⟩ : ∃ x, l[k] = x := ⟨_, rfl⟩
        rw [hx] at x0 hz HS
        have hz' : (x != 0) = true := by simpa using hz
        have hz2 : (x == 0) = false := by simpa using hz
        clear hx
        go_wp2_with fail
        go_ret
        exact ⟨by rw [HS.out]; rfl, rfl⟩
    · obtain rfl : k = l.length := by omega
      have hk1 : ¬ ((l.length : Int) < (l.length : Int)) := by omega
      have e0 : orL l = 0 := by rw [HE.out, List.drop_length]; rfl
      have HS := Lib.hid e0
      clear e0
      go_wp2_with fail
      go_ret
      exact ⟨by rw [HS.out]; rfl, rfl⟩
theorem or3_at (x y z : Int) (b c : Nat) (w : World) (h0 : w.cell? ⟨b, 0, none⟩ = some (.int .i64 x)) (h1 : w.cell? ⟨b, 1, none⟩ = some (.int .i64 y)) (h2 : w.cell? ⟨b, 2, none⟩ = some (.int .i64 z)) :
    Calls Tryz.prog 20 #[.slice (some ⟨b, 0, none⟩) 3 c] w fun e w' => e = .returned (.int .i64 (or3 x y z)) ∧ w = w' := by
  have h := or_at [x, y, z] b c w (fun j hj => by
    match j, hj with
    | 0, _ => exact h0
    | 1, _ => exact h1
    | 2, _ => exact h2) (by simp)
  have e : orL [x, y, z] = or3 x y z := by
    unfold or3 orL orL orL orL
    by_cases hx : x = 0 <;> by_cases hy : y = 0 <;> by_cases hz : z = 0 <;> simp [hx, hy, hz]
  rw [e] at h
  exact h

set_option maxHeartbeats 8000000 in
set_option maxRecDepth 100000 in
/-- the function by which Sum sorts -/
theorem sumCmp_at (x y : Cnt) (W : World) : Calls Tryz.prog 19 #[.agg #[.int .i64 x.frm, .int .i64 x.to, .string x.kind, .int .i64 x.many], .agg #[.int .i64 y.frm, .int .i64 y.to, .string y.kind, .int .i64 y.many]] W fun e w' => e = .returned (.int .i64 (cmpC x y)) ∧ ∃ q os', w' = grow (W.drewN q) os' := by
  have K1 := fun a b u => Lib.hid (ordI_at a b u)
  have K2 := fun a b u => Lib.hid (ordS_at a b u)
  have K3 := fun a b c h cp u h0 h1 h2 => Lib.hid (or3_at a b c h cp u h0 h1 h2)
  unfold cmpC
  obtain ⟨c1, hc1⟩ : ∃ c, ordI x.frm y.frm = c := ⟨_, rfl⟩
  obtain ⟨c2, hc2⟩ : ∃ c, ordI x.to y.to = c := ⟨_, rfl⟩
  obtain ⟨c3, hc3⟩ : ∃ c, ordS x.kind y.kind = c := ⟨_, rfl⟩
  have k1 := fun u => (K1 x.frm y.frm u).out
  have k2 := fun u => (K1 x.to y.to u).out
  have k3 := fun u => (K2 x.kind y.kind u).out
  rw [hc1, hc2, hc3]
  rw [hc1] at k1
  rw [hc2] at k2
  rw [hc3] at k3
  have Q1 := Lib.hid (fun u => (k1 u).mono fun e w' h => And.intro h.1 h.2.symm)
  have Q2 := Lib.hid (fun u => (k2 u).mono fun e w' h => And.intro h.1 h.2.symm)
  have Q3 := Lib.hid (fun u => (k3 u).mono fun e w' h => And.intro h.1 h.2.symm)
  clear k1 k2 k3 hc1 hc2 hc3 K1 K2
  go_enter Tryz.func19, Tryz.ntmps19
  go_wp2_with fail
  obtain ⟨W1, hW1⟩ : ∃ W1, ((W.alloc (.cells #[.int .i64 x.frm, .int .i64 x.to, .string x.kind, .int .i64 x.many] 32)).alloc (.cells #[.int .i64 y.frm, .int .i64 y.to, .string y.kind, .int .i64 y.many] 32)).drew = W1 := ⟨_, rfl⟩
  have bx : W1.heap[W.heap.size]? = some (.cells #[.int .i64 x.frm, .int .i64 x.to, .string x.kind, .int .i64 x.many] 32 (0, 0)) := by
    rw [← hW1]
    exact (Below.heap_alloc _ _ _ (by simp)).trans (heap_alloc_new W _)
  have bY : W1.heap[W.heap.size + 1]? = some (.cells #[.int .i64 y.frm, .int .i64 y.to, .string y.kind, .int .i64 y.many] 32 (0, 0)) := by
    rw [← hW1]
    have := heap_alloc_new (W.alloc (.cells #[.int .i64 x.frm, .int .i64 x.to, .string x.kind, .int .i64 x.many] 32)) (.cells #[.int .i64 y.frm, .int .i64 y.to, .string y.kind, .int .i64 y.many] 32)
    rw [World.size_alloc] at this
    exact this
  have x0 : W1.cell? ⟨W.heap.size, 0, none⟩ = some (.int .i64 x.frm) := blk_cell bx 0
  have x1 : W1.cell? ⟨W.heap.size, 1, none⟩ = some (.int .i64 x.to) := blk_cell bx 1
  have x2 : W1.cell? ⟨W.heap.size, 2, none⟩ = some (.string x.kind) := blk_cell bx 2
  have y0 : W1.cell? ⟨W.heap.size + 1, 0, none⟩ = some (.int .i64 y.frm) := blk_cell bY 0
  have y1 : W1.cell? ⟨W.heap.size + 1, 1, none⟩ = some (.int .i64 y.to) := blk_cell bY 1
  have y2 : W1.cell? ⟨W.heap.size + 1, 2, none⟩ = some (.string y.kind) := blk_cell bY 2
  have HW1 := Lib.hid hW1
  refine wp_region_still_tail 15 (by kernel_rfl) (by kernel_rfl) ?_
  show wpStill _ _ (World.drew ((W.alloc _).alloc _)) (fun a' => wpList _ _ _ _ a' (World.drew ((W.alloc _).alloc _))) _ _
  rw [hW1]
  clear hW1 bx bY
  simp only [List.take_succ_cons, List.take_zero, List.drop_succ_cons, List.drop_zero]
  still_step
  still_step
  still_step
  still_step
  still_call (Q1.out _)
  still_step
  still_step
  still_step
  still_step
  still_call (Q2.out _)
  still_step
  still_step
  still_step
  still_step
  still_call (Q3.out _)
  refine wpStill_nil ?_
  clear x0 x1 x2 y0 y1 y2
  have KO := fun u h0 h1 h2 => Lib.hid (or3_at c1 c2 c3 W1.heap.size 3 u h0 h1 h2)
  go_wp2_with fail
  refine (KO _ (blk_cell (heap_alloc_new W1 _) 0) (blk_cell (heap_alloc_new W1 _) 1) (blk_cell (heap_alloc_new W1 _) 2)).out.mono ?_
  rintro e w2 ⟨rfl, rfl⟩
  clear KO
  go_wp2_with fail
  go_ret
  refine ⟨rfl, 1, #[.cells #[.int .i64 x.frm, .int .i64 x.to, .string x.kind, .int .i64 x.many] 32] ++ #[.cells #[.int .i64 y.frm, .int .i64 y.to, .string y.kind, .int .i64 y.many] 32] ++ #[.cells #[.int .i64 c1, .int .i64 c2, .int .i64 c3] 3], ?_⟩
  rw [← HW1.out, alloc_eq_grow, alloc_eq_grow, alloc_eq_grow, ← grow_grow, ← grow_grow]
  rfl
end Go.Proofs.YtacjgphfcailmaaGreatDoor

namespace Go.Proofs.YtacjgphfcailmaaGreatDoor
open Go.RowKit Go.Sort
open Ct
set_option linter.unusedVariables false
set_option linter.unusedSimpArgs false

def lessB (x y : Cnt) : Bool := if x.frm = y.frm then (if x.to = y.to then Op.bytesLess x.kind.toList y.kind.toList else decide (x.to < y.to)) else decide (x.frm < y.frm)
theorem lessB_iff (x y : Cnt) : lessB x y = true ↔ keyLt x y := by
  unfold lessB keyLt
  rw [bytesLess_eq]
  by_cases h1 : x.frm = y.frm
  · by_cases h2 : x.to = y.to
    · simp [h1, h2]
    · simp [h1, h2]
  · simp [h1]
set_option maxHeartbeats 4000000 in
theorem less_at (x y : Cnt) (w : World) : Calls Tryz.prog 23 #[.agg #[.int .i64 x.frm, .int .i64 x.to, .string x.kind, .int .i64 x.many], .agg #[.int .i64 y.frm, .int .i64 y.to, .string y.kind, .int .i64 y.many]] w fun e w' => e = .returned (.bool (lessB x y)) ∧ Below w.heap.size w w' := by
  obtain ⟨W1, hW1⟩ : ∃ W1, (w.alloc (.cells #[.int .i64 x.frm, .int .i64 x.to, .string x.kind, .int .i64 x.many] 32)).alloc (.cells #[.int .i64 y.frm, .int .i64 y.to, .string y.kind, .int .i64 y.many] 32) = W1 := ⟨_, rfl⟩
  have bx : W1.heap[w.heap.size]? = some (.cells #[.int .i64 x.frm, .int .i64 x.to, .string x.kind, .int .i64 x.many] 32 (0, 0)) := by
    rw [← hW1]
    exact (Below.heap_alloc _ _ _ (by simp)).trans (heap_alloc_new w _)
  have bY : W1.heap[w.heap.size + 1]? = some (.cells #[.int .i64 y.frm, .int .i64 y.to, .string y.kind, .int .i64 y.many] 32 (0, 0)) := by
    rw [← hW1]
    have := heap_alloc_new (w.alloc (.cells #[.int .i64 x.frm, .int .i64 x.to, .string x.kind, .int .i64 x.many] 32)) (.cells #[.int .i64 y.frm, .int .i64 y.to, .string y.kind, .int .i64 y.many] 32)
    rw [World.size_alloc] at this
    exact this
  have hB : Below w.heap.size w W1 := by
    rw [← hW1]
    exact ((Below.refl _ _).alloc (Nat.le_refl _) _).alloc (by simp) _
  have HB := Lib.hid hB
  have x0 : W1.cell? ⟨w.heap.size, 0, none⟩ = some (.int .i64 x.frm) := blk_cell bx 0
  have x1 : W1.cell? ⟨w.heap.size, 1, none⟩ = some (.int .i64 x.to) := blk_cell bx 1
  have x2 : W1.cell? ⟨w.heap.size, 2, none⟩ = some (.string x.kind) := blk_cell bx 2
  have y0 : W1.cell? ⟨w.heap.size + 1, 0, none⟩ = some (.int .i64 y.frm) := blk_cell bY 0
  have y1 : W1.cell? ⟨w.heap.size + 1, 1, none⟩ = some (.int .i64 y.to) := blk_cell bY 1
  have y2 : W1.cell? ⟨w.heap.size + 1, 2, none⟩ = some (.string y.kind) := blk_cell bY 2
  unfold lessB
  clear bx bY hB
  by_cases h1 : x.frm = y.frm
  · rw [if_pos h1]
    by_cases h2 : x.to = y.to
    · rw [if_pos h2]
      rw [h1] at x0 ⊢
      rw [h2] at x1 ⊢
      go_enter Tryz.func23, Tryz.ntmps23
      rw [h1, h2] at hW1
      go_wp2_with fail
      go_ret
      exact ⟨rfl, HB.out⟩
    · rw [if_neg h2]
      have d2 : (x.to != y.to) = true := by simpa using h2
      rw [h1] at x0 ⊢
      rw [h1] at hW1
      go_enter Tryz.func23, Tryz.ntmps23
      go_wp2_with fail
      go_ret
      exact ⟨rfl, HB.out⟩
  · rw [if_neg h1]
    have d1 : (x.frm != y.frm) = true := by simpa using h1
    go_enter Tryz.func23, Tryz.ntmps23
    go_wp2_with fail
    go_ret
    exact ⟨rfl, HB.out⟩
end Go.Proofs.YtacjgphfcailmaaGreatDoor

namespace Go.Proofs.YtacjgphfcailmaaGreatDoor
open Go.RowKit Go.Sort
open Ct
set_option linter.unusedVariables false
set_option linter.unusedSimpArgs false

theorem infoB : (Tryz.prog.info? 52).map (·.size) = some 2 := by kernel_rfl
theorem infoB' : ∃ j, Tryz.prog.info? 52 = some j ∧ j.size = 2 := by
  have h := infoB
  cases hi : Tryz.prog.info? 52 with
  | none => rw [hi] at h; cases h
  | some j => rw [hi] at h; exact ⟨j, rfl, by simpa using h⟩
theorem liesB : liesAt Tryz.prog Tryz.prog.depth 52 (2 / Tryz.prog.cellsOf 52) 0 52 1 = true := by kernel_rfl
theorem noEscape (b : Nat) (w : World) : (callFunc 36 #[.pointer (some ⟨b, 0, none⟩)]).run Tryz.prog w = .ok (.value (.pointer (some ⟨b, 0, none⟩))) w := by kernel_rfl
set_option maxHeartbeats 4000000 in
theorem copyCheck_used (b : Nat) (w : World) (h0 : w.cell? ⟨b, 0, none⟩ = some (.pointer (some ⟨b, 0, none⟩))) :
    Calls Tryz.prog 26 #[.pointer (some ⟨b, 0, none⟩)] w fun e w' => e = .returned (.tuple #[]) ∧ w' = w := by
  obtain ⟨j, hj, hjs⟩ := infoB'
  have hz := fun u : World => Lib.run_neq_ptr_same u ⟨b, 0, none⟩ Tryz.underlying49 hj
  go_enter Tryz.func26, Tryz.ntmps26
  go_wp2_with fail
  exact bodyPost_end (v := .tuple #[]) (by simp [results, Tryz.results26, go_sem]) rfl ⟨rfl, rfl⟩
set_option maxHeartbeats 4000000 in
theorem copyCheck_fresh (b : Nat) (w : World) (h0 : w.cell? ⟨b, 0, none⟩ = some (.pointer none)) (hf : w.frozen? ⟨b, 0, none⟩ = false) (hsh : w.shape? b = some (52, 2)) :
    Calls Tryz.prog 26 #[.pointer (some ⟨b, 0, none⟩)] w fun e w' => e = .returned (.tuple #[]) ∧ w' = w.setCell ⟨b, 0, none⟩ (.pointer (some ⟨b, 0, none⟩)) := by
  obtain ⟨j, hj, hjs⟩ := infoB'
  have hz := fun u : World => Lib.run_neq_ptr_same u ⟨b, 0, none⟩ Tryz.underlying49 hj
  have hcv := Lib.run_to_unsafe w ⟨b, 0, none⟩ Tryz.underlying49 Tryz.underlying94 hj (by rw [hjs]; decide) hsh (Nat.zero_lt_succ 1)
  have hcw := Lib.run_from_unsafe w ⟨b, 0, none⟩ Tryz.underlying94 Tryz.underlying49 hj hsh liesB
  have hne := fun u : World => noEscape b u
  have h1 := World.cell?_setCell_same w ⟨b, 0, none⟩ (.pointer (some ⟨b, 0, none⟩)) h0
  clear hsh hj hjs
  go_enter Tryz.func26, Tryz.ntmps26
  go_wp2_with fail
  exact bodyPost_end (v := .tuple #[]) (by simp [results, Tryz.results26, go_sem]) rfl ⟨rfl, rfl⟩
end Go.Proofs.YtacjgphfcailmaaGreatDoor

namespace Go.Proofs.YtacjgphfcailmaaGreatDoor
open Go.RowKit Go.Sort
open Ct
set_option linter.unusedVariables false
set_option linter.unusedSimpArgs false

theorem infoByte : (Tryz.prog.info? 5).map (fun i => (i.zero, i.size, i.bytes)) = some (some (.int .u8 0), 1, 1) := by kernel_rfl
/-- a builder in a block of its own -/
abbrev Bld (B b : Nat) (l : List Value) (w : World) : Prop := Lib.IsBuilder 52 5 B b l w
theorem copyCheck_any (B b : Nat) (l : List Value) (w : World) (h : Bld B b l w) :
    Calls Tryz.prog 26 #[.pointer (some ⟨b, 0, none⟩)] w fun e w' => e = .returned (.tuple #[]) ∧ Lib.BuilderAt 52 5 B b (.pointer (some ⟨b, 0, none⟩)) l w' ∧ Below B w w' := by
  rcases h with h | h
  · refine (copyCheck_fresh b w h.cell0 h.frozen0 h.shape).mono ?_
    rintro e w' ⟨rfl, rfl⟩
    exact ⟨rfl, h.used _, (Below.refl B w).setCell (p := ⟨b, 0, none⟩) h.1 _⟩
  · refine (copyCheck_used b w h.cell0).mono ?_
    rintro e w' ⟨rfl, rfl⟩
    exact ⟨rfl, h, Below.refl _ _⟩
set_option maxHeartbeats 4000000 in
set_option maxRecDepth 100000 in
theorem writeByte_at (B b : Nat) (l : List Value) (c : Int) (w : World) (h : Bld B b l w) (hlen : l.length + 1 ≤ 140737488355328) (hBw : B ≤ w.heap.size) :
    Calls Tryz.prog 12 #[.pointer (some ⟨b, 0, none⟩), .int .u8 c] w fun e w' => e = .returned .nilIface ∧ Bld B b (l ++ [.int .u8 c]) w' ∧ Below B w w' := by
  obtain ⟨i0, hi, hz0, hz1, hz2⟩ := info_parts infoByte
  have K := Lib.hid (copyCheck_any B b l w h)
  go_enter Tryz.func12, Tryz.ntmps12
  go_wp2_with fail
  refine K.out.mono ?_
  rintro e w1 ⟨rfl, h1, hb1⟩
  obtain ⟨hB, v, hbk, hown, hne⟩ := h1
  have c1 : w1.cell? ⟨b, 1, none⟩ = some v := by rw [Lib.cell_of_heap hbk]; rfl
  clear K
  go_wp2_with (at_builtin; refine wpList_append_own _ rfl _ _ 50 rfl B 5 i0 (.int .u8 0) 1 1 Tryz.underlying50 hi hz0 hz1 hz2 rfl (by decide) _ _ _ rfl (hown.alloc _) ⟨w1.heap.size, 0, none⟩ 1 1 [.int .u8 c] rfl rfl ?c1 ?c2 ?c3 ?c4 ?c5 ?_)
  case c1 =>
    intro j u hj
    match j, hj with
    | 0, hj => simp at hj; subst hj; simp [Addr.add]
  case c2 => intro u hu; simp at hu; subst hu; rfl
  case c3 => unfold maxLen; omega
  case c4 => omega
  case c5 => have := hb1.size; simp; omega
  intro v' w2 hown' hgrow _
  have hlt : b < w1.heap.size := Lib.BuilderAt.lt ⟨hB, v, hbk, hown, hne⟩
  have hb2 : w2.heap[b]? = some (.cells #[.pointer (some ⟨b, 0, none⟩), v] 52 (0, 0)) := by
    rw [hgrow.block b (by simp; omega) (fun e => hne e.symm), Lib.alloc_old w1 _ b hlt]
    exact hbk
  have d1 : w2.cell? ⟨b, 1, none⟩ = some v := by rw [Lib.cell_of_heap hb2]; rfl
  have f1 : w2.frozen? ⟨b, 1, none⟩ = false := Lib.frozen_of_heap hb2 1
  have HP := Lib.hid (And.intro (Lib.BuilderAt.put (T := 52) (e := 5) hB hb2 (bs' := l ++ [.int .u8 c]) (by simpa using hown') (by decide)) (((hb1.alloc (by have := hb1.size; omega) _).grown hgrow (by have := hb1.size; simp; omega) (fun k hk => (hown.lt k hk).1)).setCell (p := ⟨b, 1, none⟩) hB v'))
  obtain ⟨g, cap, rfl⟩ : ∃ g cap, v' = .slice (some ⟨g, 0, none⟩) (l.length + 1) cap := by
    rcases hown'.2 with ⟨_, h0⟩ | ⟨g, cap, cur, hv, _⟩
    · omega
    · exact ⟨g, cap, hv⟩
  clear hown' hgrow hb2 hown hbk
  go_wp2_with fail
  go_ret
  exact ⟨rfl, .inr HP.out.1, HP.out.2⟩
set_option maxHeartbeats 4000000 in
set_option maxRecDepth 100000 in
theorem writeString_at (B b : Nat) (l : List Value) (s : ByteArray) (w : World) (h : Bld B b l w) (hlen : l.length + s.size ≤ 140737488355328) (hBw : B ≤ w.heap.size) :
    Calls Tryz.prog 13 #[.pointer (some ⟨b, 0, none⟩), .string s] w fun e w' => e = .returned (.tuple #[.int .i64 s.size, .nilIface]) ∧ Bld B b (l ++ Lib.strCells s) w' ∧ Below B w w' := by
  obtain ⟨i0, hi, hz0, hz1, hz2⟩ := info_parts infoByte
  have K := Lib.hid (copyCheck_any B b l w h)
  go_enter Tryz.func13, Tryz.ntmps13
  go_wp2_with fail
  refine K.out.mono ?_
  rintro e w1 ⟨rfl, h1, hb1⟩
  obtain ⟨hB, v, hbk, hown, hne⟩ := h1
  have c1 : w1.cell? ⟨b, 1, none⟩ = some v := by rw [Lib.cell_of_heap hbk]; rfl
  clear K
  go_wp2_with (at_builtin; refine Lib.wpList_append_own_string _ rfl _ _ 50 9 rfl B 5 i0 Tryz.underlying50 Tryz.underlying9 hi hz0 hz1 hz2 _ _ _ rfl hown s rfl ?c3 ?c4 ?c5 ?_)
  case c3 => unfold maxLen; omega
  case c4 => omega
  case c5 => have := hb1.size; omega
  intro v' w2 hown' hgrow _
  have hlt : b < w1.heap.size := Lib.BuilderAt.lt ⟨hB, v, hbk, hown, hne⟩
  have hb2 : w2.heap[b]? = some (.cells #[.pointer (some ⟨b, 0, none⟩), v] 52 (0, 0)) := by
    rw [hgrow.block b hlt (fun e => hne e.symm)]
    exact hbk
  have d1 : w2.cell? ⟨b, 1, none⟩ = some v := by rw [Lib.cell_of_heap hb2]; rfl
  have f1 : w2.frozen? ⟨b, 1, none⟩ = false := Lib.frozen_of_heap hb2 1
  have HP := Lib.hid (And.intro (Lib.BuilderAt.put (T := 52) (e := 5) hB hb2 (bs' := l ++ Lib.strCells s) (by simpa [Lib.strCells_length] using hown') (by decide)) ((hb1.grown hgrow (by have := hb1.size; omega) (fun k hk => (hown.lt k hk).1)).setCell (p := ⟨b, 1, none⟩) hB v'))
  obtain ⟨ao, n', cap, rfl⟩ : ∃ ao n' cap, v' = .slice ao n' cap := by
    rcases hown'.2 with ⟨hv, _⟩ | ⟨g, cap, cur, hv, _⟩
    · exact ⟨_, _, _, hv⟩
    · exact ⟨_, _, _, hv⟩
  clear hown' hgrow hb2 hown hbk
  go_wp2_with fail
  go_ret2
  exact ⟨rfl, .inr HP.out.1, HP.out.2⟩
end Go.Proofs.YtacjgphfcailmaaGreatDoor
