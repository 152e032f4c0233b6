/-
  Layer 16: the walk of the order of counts: cmp.Compare at strings, cmp.Or, and the function that sorts them.
-/
import Derived.Test.YtimmmbjdaibplaaW17
import Derived.Test.YtimmmbjdaibplaaShelf
import Derived.Deep.QuietTactic
import Derived.BigQuiet
import Derived.StillTailTactics
import Derived.Outline
import Derived.Lib.Small
import Derived.Sort.Walk0
namespace Go.Proofs.Ytimmmbjdaibplaa
open Go.RowKit Go.Shelf Go.Sort
open Nt
set_option linter.unusedVariables false
set_option linter.unusedSimpArgs false

def cmpS (x y : ByteArray) : Int := if Op.bytesLess x.toList y.toList then -1 else if !(Op.bytesLess x.toList y.toList || x.toList == y.toList) then 1 else 0
def or3 (a b c : Int) : Int := if a != 0 then a else if b != 0 then b else c
def cmpC (x y : Cnt) : Int := or3 (Lib.compareInt x.frm y.frm) (Lib.compareInt x.to y.to) (cmpS x.kind y.kind)

set_option maxHeartbeats 2000000 in
theorem isNaN_str (x : ByteArray) (w : World) : Calls Try.prog 69 #[.string x] w fun e w' => e = .returned (.bool false) ∧ w = w' := by
  go_enter Try.func69, Try.ntmps69
  go_wp2_with fail
  go_ret
  exact ⟨rfl, rfl⟩
set_option maxHeartbeats 2000000 in
theorem cmpS_at (x y : ByteArray) (w : World) : Calls Try.prog 46 #[.string x, .string y] w fun e w' => e = .returned (.int .i64 (cmpS x y)) ∧ w = w' := by
  have K := fun s u => Lib.hid (isNaN_str s u)
  have b1 : (Op.bytesLess x.toList y.toList = true) ∨ (Op.bytesLess x.toList y.toList = false) := by cases Op.bytesLess x.toList y.toList <;> simp
  have b2 : ((x.toList == y.toList) = true) ∨ ((x.toList == y.toList) = false) := by cases (x.toList == y.toList) <;> simp
  unfold cmpS
  rcases b1 with b1 | b1 <;> rcases b2 with b2 | b2 <;> simp only [b1, b2, if_true, Bool.false_eq_true, if_false, Bool.or_true, Bool.or_false, Bool.not_true, Bool.not_false, Bool.true_or] <;>
  · go_enter Try.func46, Try.ntmps46
    go_wp2_with fail
    refine (K _ _).out.mono ?_
    rintro e w1 ⟨rfl, rfl⟩
    go_wp2_with fail
    refine (K _ _).out.mono ?_
    rintro e w1 ⟨rfl, rfl⟩
    go_wp2_with fail
    go_ret
    exact ⟨rfl, rfl⟩

def orL : List Int → Int
  | [] => 0
  | x :: r => if x != 0 then x else orL r
theorem orL_skip {l : List Int} {k : Nat} (h : k < l.length) (h0 : l[k] = 0) (he : orL l = orL (l.drop k)) : orL l = orL (l.drop (k + 1)) := by
  rw [he, List.drop_eq_getElem_cons h, h0]
  rfl
theorem orL_hit {l : List Int} {k : Nat} (h : k < l.length) (h0 : l[k] ≠ 0) (he : orL l = orL (l.drop k)) : orL l = l[k] := by
  rw [he, List.drop_eq_getElem_cons h]
  simp [orL, h0]
set_option maxHeartbeats 4000000 in
theorem or_at (l : List Int) (b c : Nat) (w : World) (hc : ∀ (j : Nat) (h : j < l.length), w.cell? ⟨b, 0 + j, none⟩ = some (.int .i64 l[j])) (hl : l.length ≤ 1000) :
    Calls Try.prog 44 #[.slice (some ⟨b, 0, none⟩) l.length c] w fun e w' => e = .returned (.int .i64 (orL l)) ∧ w = w' := by
  have HC := Lib.hid hc
  clear hc
  go_enter Try.func44, Try.ntmps44
  go_wp2_with fail
  go_loop [8] (fun i => ∃ k : Nat, k ≤ l.length ∧ i = .int .i64 k ∧ orL l = orL (l.drop k)) (fun i => l.length - (intOf i).toNat)
  case atStart => exact ⟨0, Nat.zero_le _, rfl, rfl⟩
  case round =>
    obtain ⟨k, hk, rfl, he⟩ := hrel
    have HE := Lib.hid he
    clear he
    have hk0 : (0 : Int) ≤ (k : Int) := by omega
    have hk2 : (l.length : Int) ≤ 1000 := by omega
    by_cases hlt : k < l.length
    · have x0 := HC.out k hlt
      have hk1 : (k : Int) < (l.length : Int) := by omega
      rw [Nat.zero_add] at x0
      by_cases hz : l[k] = 0
      · have HS := Lib.hid (orL_skip hlt hz HE.out)
        rw [hz] at x0
        clear hz
        go_wp2_with fail
        go_round
        case rel => exact ⟨k + 1, by omega, by go_num, HS.out⟩
        case measure => simp [intOf]; omega
      · have HS := Lib.hid (orL_hit hlt hz HE.out)
        obtain ⟨x, hx⟩ : ∃ x, l[k] = x := ⟨_, rfl⟩
        rw [hx] at x0 hz HS
        have hz' : (x != 0) = true := by simpa using hz
        have hz2 : (x == 0) = false := by simpa using hz
        clear hx
        go_wp2_with fail
        go_ret
        exact ⟨by rw [HS.out]; rfl, rfl⟩
    · obtain rfl : k = l.length := by omega
      have hk1 : ¬ ((l.length : Int) < (l.length : Int)) := by omega
      have e0 : orL l = 0 := by rw [HE.out, List.drop_length]; rfl
      have HS := Lib.hid e0
      clear e0
      go_wp2_with fail
      go_ret
      exact ⟨by rw [HS.out]; rfl, rfl⟩
theorem or3_at (x y z : Int) (b c : Nat) (w : World) (h0 : w.cell? ⟨b, 0, none⟩ = some (.int .i64 x)) (h1 : w.cell? ⟨b, 1, none⟩ = some (.int .i64 y)) (h2 : w.cell? ⟨b, 2, none⟩ = some (.int .i64 z)) :
    Calls Try.prog 44 #[.slice (some ⟨b, 0, none⟩) 3 c] w fun e w' => e = .returned (.int .i64 (or3 x y z)) ∧ w = w' := by
  have h := or_at [x, y, z] b c w (fun j hj => by
    match j, hj with
    | 0, _ => exact h0
    | 1, _ => exact h1
    | 2, _ => exact h2) (by simp)
  have e : orL [x, y, z] = or3 x y z := by
    unfold or3 orL orL orL orL
    by_cases hx : x = 0 <;> by_cases hy : y = 0 <;> by_cases hz : z = 0 <;> simp [hx, hy, hz]
  rw [e] at h
  exact h

set_option maxHeartbeats 8000000 in
set_option maxRecDepth 100000 in
/-- the function by which Sent sorts -/
theorem sentCmp_at (x y : Cnt) (W : World) : Calls Try.prog 43 #[.agg (cntA x), .agg (cntA y)] W fun e w' => e = .returned (.int .i64 (cmpC x y)) ∧ ∃ q os', w' = grow (W.drewN q) os' := by
  have K1 := fun a b u => Lib.hid (Try.cmp_Compare_int a b u)
  have K2 := fun a b u => Lib.hid (cmpS_at a b u)
  have K3 := fun a b c h cp u h0 h1 h2 => Lib.hid (or3_at a b c h cp u h0 h1 h2)
  unfold cmpC
  obtain ⟨c1, hc1⟩ : ∃ c, Lib.compareInt x.frm y.frm = c := ⟨_, rfl⟩
  obtain ⟨c2, hc2⟩ : ∃ c, Lib.compareInt x.to y.to = c := ⟨_, rfl⟩
  obtain ⟨c3, hc3⟩ : ∃ c, cmpS x.kind y.kind = c := ⟨_, rfl⟩
  have k1 := fun u => (K1 x.frm y.frm u).out
  have k2 := fun u => (K1 x.to y.to u).out
  have k3 := fun u => (K2 x.kind y.kind u).out
  rw [hc1, hc2, hc3]
  rw [hc1] at k1
  rw [hc2] at k2
  rw [hc3] at k3
  have Q1 := Lib.hid k1
  have Q2 := Lib.hid k2
  have Q3 := Lib.hid (fun u => (k3 u).mono fun e w' h => And.intro h.1 h.2.symm)
  clear k1 k2 k3 hc1 hc2 hc3 K1 K2
  unfold cntA
  go_enter Try.func43, Try.ntmps43
  go_wp2_with fail
  obtain ⟨W1, hW1⟩ : ∃ W1, ((W.alloc (.cells #[.int .i64 x.frm, .int .i64 x.to, .string x.kind, .int .i64 x.many] 48)).alloc (.cells #[.int .i64 y.frm, .int .i64 y.to, .string y.kind, .int .i64 y.many] 48)).drew = W1 := ⟨_, rfl⟩
  have bx : W1.heap[W.heap.size]? = some (.cells #[.int .i64 x.frm, .int .i64 x.to, .string x.kind, .int .i64 x.many] 48 (0, 0)) := by
    rw [← hW1]
    exact (Below.heap_alloc _ _ _ (by simp)).trans (heap_alloc_new W _)
  have bY : W1.heap[W.heap.size + 1]? = some (.cells #[.int .i64 y.frm, .int .i64 y.to, .string y.kind, .int .i64 y.many] 48 (0, 0)) := by
    rw [← hW1]
    have := heap_alloc_new (W.alloc (.cells #[.int .i64 x.frm, .int .i64 x.to, .string x.kind, .int .i64 x.many] 48)) (.cells #[.int .i64 y.frm, .int .i64 y.to, .string y.kind, .int .i64 y.many] 48)
    rw [World.size_alloc] at this
    exact this
  have x0 : W1.cell? ⟨W.heap.size, 0, none⟩ = some (.int .i64 x.frm) := blk_cell bx 0
  have x1 : W1.cell? ⟨W.heap.size, 1, none⟩ = some (.int .i64 x.to) := blk_cell bx 1
  have x2 : W1.cell? ⟨W.heap.size, 2, none⟩ = some (.string x.kind) := blk_cell bx 2
  have y0 : W1.cell? ⟨W.heap.size + 1, 0, none⟩ = some (.int .i64 y.frm) := blk_cell bY 0
  have y1 : W1.cell? ⟨W.heap.size + 1, 1, none⟩ = some (.int .i64 y.to) := blk_cell bY 1
  have y2 : W1.cell? ⟨W.heap.size + 1, 2, none⟩ = some (.string y.kind) := blk_cell bY 2
  have HW1 := Lib.hid hW1
  refine wp_region_still_tail 15 (by kernel_rfl) (by kernel_rfl) ?_
  show wpStill _ _ (World.drew ((W.alloc _).alloc _)) (fun a' => wpList _ _ _ _ a' (World.drew ((W.alloc _).alloc _))) _ _
  rw [hW1]
  clear hW1 bx bY
  simp only [List.take_succ_cons, List.take_zero, List.drop_succ_cons, List.drop_zero]
  still_step
  still_step
  still_step
  still_step
  still_call (Q1.out _)
  still_step
  still_step
  still_step
  still_step
  still_call (Q2.out _)
  still_step
  still_step
  still_step
  still_step
  still_call (Q3.out _)
  refine wpStill_nil ?_
  clear x0 x1 x2 y0 y1 y2
  have KO := fun u h0 h1 h2 => Lib.hid (or3_at c1 c2 c3 W1.heap.size 3 u h0 h1 h2)
  go_wp2_with fail
  refine (KO _ (blk_cell (heap_alloc_new W1 _) 0) (blk_cell (heap_alloc_new W1 _) 1) (blk_cell (heap_alloc_new W1 _) 2)).out.mono ?_
  rintro e w2 ⟨rfl, rfl⟩
  clear KO
  go_wp2_with fail
  go_ret
  refine ⟨rfl, 1, #[.cells #[.int .i64 x.frm, .int .i64 x.to, .string x.kind, .int .i64 x.many] 48] ++ #[.cells #[.int .i64 y.frm, .int .i64 y.to, .string y.kind, .int .i64 y.many] 48] ++ #[.cells #[.int .i64 c1, .int .i64 c2, .int .i64 c3] 3], ?_⟩
  rw [← HW1.out, alloc_eq_grow, alloc_eq_grow, alloc_eq_grow, ← grow_grow, ← grow_grow]
  rfl
end Go.Proofs.Ytimmmbjdaibplaa
