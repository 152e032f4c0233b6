/-
  Layer 20: the walk of the document's Text.
-/
import Derived.Test.YtacjgphfcailmaaGreatDoorCtP1
import Derived.Test.YtacjgphfcailmaaGreatDoorProg
import Derived.WalkKit
import Derived.ProofKit
import Derived.WalkSpells
import Derived.WalkLawsBesides
import Derived.Lib.Hide
import Derived.Below
import Derived.Laws.StructEq
import Derived.Deep.QuietTactic
import Derived.BigQuiet
import Derived.Deep.RegionHeld3
import Derived.BigRegion
import Derived.Lib.ItoaNum
namespace Go.Proofs.YtacjgphfcailmaaGreatDoor
open Go.RowKit
open Ct
set_option linter.unusedVariables false
set_option linter.unusedSimpArgs false

def cntV (c : Cnt) : List Value := [.int .i64 c.frm, .int .i64 c.to, .string c.kind, .int .i64 c.many]
/-- a slice of counts -/
def Cs (w : World) (v : Value) (l : List Cnt) : Prop :=
  ∃ A cap, v = .slice A l.length cap ∧ l.length ≤ cap ∧ cap ≤ 9223372036854775807 ∧
    (0 < l.length → ∃ b off, A = some ⟨b, off, none⟩ ∧ ∀ (i : Nat) (h : i < l.length) (j : Nat) (u : Value), (cntV l[i])[j]? = some u → w.cell? ⟨b, off + i * 4 + j, none⟩ = some u)
theorem Cs.below {w w' : World} {v : Value} {l : List Cnt} (h : Cs w v l) (hb : Below w.heap.size w w') : Cs w' v l := by
  obtain ⟨A, cap, rfl, h1, h2, h3⟩ := h
  refine ⟨A, cap, rfl, h1, h2, fun h0 => ?_⟩
  obtain ⟨b, off, rfl, hc⟩ := h3 h0
  exact ⟨b, off, rfl, fun i hi j u hu => (hb.cell (World.block_lt_of_cell? w _ (hc i hi j u hu))).trans (hc i hi j u hu)⟩
def farC (c : Cnt) : Bool := decide (1099511627776 < c.many) || decide (c.many < -1099511627776)
def farB (l : List Cnt) : Bool := l.any farC || decide ((400 : Int) < l.length)
theorem farB_hit {l : List Cnt} {k : Nat} (h : k < l.length) (hf : farC l[k] = true) : farB l = true := by
  unfold farB
  rw [List.any_eq_true.2 ⟨l[k], List.getElem_mem h, hf⟩]
  rfl
theorem farB_end {l : List Cnt} (h : ∀ (j : Nat) (hj : j < l.length), farC l[j] = false) : farB l = decide ((400 : Int) < l.length) := by
  unfold farB
  rw [List.any_eq_false.2 (fun x hx => by
    obtain ⟨j, hj, rfl⟩ := List.getElem_of_mem hx
    simp [h j hj])]
  rfl
theorem farB_false {l : List Cnt} (h : farB l = false) : (∀ c ∈ l, near c) ∧ l.length ≤ 400 := by
  unfold farB at h
  simp only [Bool.or_eq_false_iff, List.any_eq_false, decide_eq_false_iff_not] at h
  refine ⟨fun c hc => ?_, by omega⟩
  have := h.1 c hc
  unfold farC at this
  simp only [Bool.or_eq_true, decide_eq_true_eq, not_or] at this
  unfold near
  omega

set_option maxHeartbeats 4000000 in
set_option maxRecDepth 100000 in
theorem far_at (l : List Cnt) (v : Value) (w : World) (h : Cs w v l) : Calls Tryz.prog 4 #[v] w fun e w' => e = .returned (.bool (farB l)) ∧ w = w' := by
  obtain ⟨A, cap, rfl, hc1, hc2, hc⟩ := h
  have HC := Lib.hid hc
  clear hc
  go_enter Tryz.func4, Tryz.ntmps4
  go_wp2_with fail
  go_loop [3] (fun i => ∃ k : Nat, k ≤ l.length ∧ i = .int .i64 k ∧ ∀ (j : Nat) (hj : j < l.length), j < k → farC l[j] = false) (fun i => l.length - (intOf i).toNat)
  case atStart => exact ⟨0, Nat.zero_le _, rfl, fun j hj h => by omega⟩
  case round =>
    obtain ⟨k, hk, rfl, hf⟩ := hrel
    have HF := Lib.hid hf
    clear hf
    have hk0 : (0 : Int) ≤ (k : Int) := by omega
    by_cases hlt : k < l.length
    · have hk1 : (k : Int) < (l.length : Int) := by omega
      obtain ⟨b, off, rfl, hcell⟩ := HC.out (by omega)
      have x3 := hcell k hlt 3 _ rfl
      have HT := Lib.hid (farB_hit hlt)
      have HS : Hid (farC l[k] = false → ∀ (j : Nat) (hj : j < l.length), j < k + 1 → farC l[j] = false) := Lib.hid fun q j hj hjk => by
        by_cases e : j = k
        · subst e; exact q
        · exact HF.out j hj (by omega)
      obtain ⟨c, hcc⟩ : ∃ c, l[k] = c := ⟨_, rfl⟩
      rw [hcc] at x3 HT HS
      obtain ⟨m, hm⟩ : ∃ m, c.many = m := ⟨_, rfl⟩
      have hfc : farC c = (decide (1099511627776 < m) || decide (m < -1099511627776)) := by unfold farC; rw [hm]
      rw [hm] at x3
      rw [hfc] at HT HS
      clear hcell hcc hm hfc HC HF
      cases d1 : decide (1099511627776 < m)
      · cases d2 : decide (m < -1099511627776)
        · have HS' := Lib.hid (HS.out (by rw [d1, d2]; rfl))
          clear HS HT
          have d1' := of_decide_eq_false d1
          have d2' := of_decide_eq_false d2
          go_wp2_with fail
          go_round
          case rel => exact ⟨k + 1, by omega, by go_num, HS'.out⟩
          case measure => simp [intOf]; omega
        · have HT' := Lib.hid (HT.out (by rw [d1, d2]; rfl))
          clear HS HT
          have d1' := of_decide_eq_false d1
          have d2' := of_decide_eq_true d2
          go_wp2_with fail
          go_ret
          exact ⟨by rw [HT'.out]; rfl, rfl⟩
      · have HT' := Lib.hid (HT.out (by rw [d1]; rfl))
        clear HS HT
        have d1' := of_decide_eq_true d1
        go_wp2_with fail
        go_ret
        exact ⟨by rw [HT'.out]; rfl, rfl⟩
    · obtain rfl : k = l.length := by omega
      have hk1 : ¬ ((l.length : Int) < (l.length : Int)) := by omega
      have HE := Lib.hid (farB_end fun j hj => HF.out j hj hj)
      clear HF HC
      go_wp2_with fail
      go_ret
      exact ⟨by rw [HE.out]; rfl, rfl⟩
end Go.Proofs.YtacjgphfcailmaaGreatDoor

namespace Go.Proofs.YtacjgphfcailmaaGreatDoor
open Go.RowKit
open Ct
set_option linter.unusedVariables false
set_option linter.unusedSimpArgs false

def eqBCnt (x y : Cnt) : Bool := x.frm == y.frm && x.to == y.to && x.kind.toList == y.kind.toList && x.many == y.many
theorem guardCnt (x y : Cnt) (op : BinOp) (a b : Operand) (w : World) : Sem.run Tryz.prog (eqGuard op 32 a b (.agg #[.int .i64 x.frm, .int .i64 x.to, .string x.kind, .int .i64 x.many]) (.agg #[.int .i64 y.frm, .int .i64 y.to, .string y.kind, .int .i64 y.many])) w = .ok () w := run_eqGuard_agg w op 32 a b _ _ (by kernel_rfl)
set_option maxHeartbeats 4000000 in
theorem neqCnt (x y : Cnt) (w : World) : Sem.run Tryz.prog (binOp .neq 32 (.agg #[.int .i64 x.frm, .int .i64 x.to, .string x.kind, .int .i64 x.many]) (.agg #[.int .i64 y.frm, .int .i64 y.to, .string y.kind, .int .i64 y.many])) w = .ok (.bool (!eqBCnt x y)) w := by
  have ui := Tryz.underlying3
  have ai := Tryz.isAgg3
  have zi := Tryz.sizeOf3
  have ub := Tryz.underlying4
  have ab := Tryz.isAgg4
  have zb := Tryz.sizeOf4
  have us := Tryz.underlying9
  have as1 := Tryz.isAgg9
  have zs := Tryz.sizeOf9
  have hS : Tryz.prog.underlying 32 = some (.struct (Tryz.prog.fieldsOf 32)) := by kernel_rfl
  have hp : Tryz.prog.stoodInHeld 32 = false := by kernel_rfl
  rw [run_neq_struct, show (10000 : Nat) = 9999 + 1 from rfl, run_equalIn_agg w 9999 32 _ _ hS hp]
  simp only [Program.fieldsOf, Tryz.underlying32]
  go_simp
  unfold eqBCnt
  by_cases g0 : x.frm = y.frm <;> by_cases g1 : x.to = y.to <;> by_cases g2 : x.kind.toList = y.kind.toList <;> by_cases g3 : x.many = y.many <;> simp [*]


theorem eqBCnt_self (x : Cnt) : eqBCnt x x = true := by
  unfold eqBCnt
  simp
set_option maxHeartbeats 8000000 in
set_option maxRecDepth 100000 in
theorem same_at (l : List Cnt) (v u : Value) (w : World) (h1 : Cs w v l) (h2 : Cs w u l) : Calls Tryz.prog 8 #[v, u] w fun e w' => e = .returned (.bool true) ∧ ∃ n, w' = w.drewN n := by
  obtain ⟨A, cap, rfl, hc1, hc2, hc⟩ := h1
  obtain ⟨B, cap2, rfl, hd1, hd2, hd⟩ := h2
  have HC := Lib.hid hc
  have HD := Lib.hid hd
  have H0 : Hid (∃ n, w = w.drewN n) := ⟨0, rfl⟩
  obtain ⟨n, hn⟩ : ∃ n, l.length = n := ⟨_, rfl⟩
  have HN := Lib.hid hn
  rw [hn] at hc1 hd1
  rw [hn]
  have d0 : ((n : Int) != (n : Int)) = false := by simp
  have hnn : (n : Int) ≤ 9223372036854775807 := by omega
  clear hc hd hn
  go_enter Tryz.func8, Tryz.ntmps8
  go_wp2_with fail
  go_loopw [5] (fun i wr => ∃ k m : Nat, k ≤ n ∧ i = .int .i64 k ∧ wr = w.drewN m) (fun i _ => n - (intOf i).toNat)
  case atStart => exact ⟨0, 0, Nat.zero_le _, rfl, rfl⟩
  case round =>
    obtain ⟨k, m, hk, rfl, rfl⟩ := hrel
    have hk0 : (0 : Int) ≤ (k : Int) := by omega
    by_cases hlt : k < n
    · have hki : (k : Int) < (n : Int) := by omega
      have hk1 : k < l.length := by rw [HN.out]; exact hlt
      obtain ⟨b, off, rfl, s1⟩ := HC.out (by have := HN.out; omega)
      obtain ⟨b2, off2, rfl, s2⟩ := HD.out (by have := HN.out; omega)
      have x0 := s1 k hk1 0 _ rfl
      have x1 := s1 k hk1 1 _ rfl
      have x2 := s1 k hk1 2 _ rfl
      have x3 := s1 k hk1 3 _ rfl
      have y0 := s2 k hk1 0 _ rfl
      have y1 := s2 k hk1 1 _ rfl
      have y2 := s2 k hk1 2 _ rfl
      have y3 := s2 k hk1 3 _ rfl
      simp only [Nat.add_zero] at x0 y0
      obtain ⟨x, hx⟩ : ∃ x, l[k] = x := ⟨_, rfl⟩
      rw [hx] at x0 x1 x2 x3 y0 y1 y2 y3
      clear hx s1 s2 hk1
      have hz : ∀ u : World, Sem.run Tryz.prog (binOp .neq 32 (.agg #[.int .i64 x.frm, .int .i64 x.to, .string x.kind, .int .i64 x.many]) (.agg #[.int .i64 x.frm, .int .i64 x.to, .string x.kind, .int .i64 x.many])) u = .ok (.bool false) u := fun u => by
        rw [neqCnt, eqBCnt_self]
        rfl
      have hgd := guardCnt x x
      clear HC HD
      go_wp2_with fail
      go_quiet (fail)
      go_wp2_with fail
      go_roundw
      case rel => exact ⟨k + 1, _, by omega, by go_num, rfl⟩
      case measure => simp [intOf]; omega
    · obtain rfl : k = n := by omega
      have hki : ¬ ((k : Int) < (k : Int)) := by omega
      clear HC HD
      go_wp2_with fail
      go_ret
      exact ⟨rfl, _, rfl⟩
end Go.Proofs.YtacjgphfcailmaaGreatDoor

namespace Go.Proofs.YtacjgphfcailmaaGreatDoor
open Go.RowKit
open Ct
set_option linter.unusedVariables false
set_option linter.unusedSimpArgs false

def rowV (n : Nat) (f : Nat → Int) : Array Value := ((List.range n).map fun k => Value.int .i64 (f k)).toArray
theorem rowV_at (n : Nat) (f : Nat → Int) (k : Nat) (h : k < n) : (rowV n f)[k]? = some (.int .i64 (f k)) := by
  unfold rowV
  simp [h]
theorem rowV_set (n : Nat) (f g : Nat → Int) (k : Nat) (x : Int) (hx : g k = x) (hg : ∀ j, j ≠ k → g j = f j) : (rowV n f).setIfInBounds k (.int .i64 x) = rowV n g := by
  apply Array.ext_getElem?
  intro i
  rw [Array.getElem?_setIfInBounds]
  unfold rowV
  simp only [List.getElem?_toArray, List.getElem?_map, List.size_toArray, List.length_map, List.length_range]
  by_cases hi : i < n
  · rw [List.getElem?_range hi]
    by_cases e : k = i
    · subst e
      simp [hi, hx]
    · rw [if_neg e]
      simp [hg i (fun q => e q.symm)]
  · rw [List.getElem?_eq_none (by simpa using hi)]
    split
    · rename_i e
      simp [← e, show ¬ k < n by omega]
    · rfl
/-- a row of ints of the call's own -/
def RowI (w : World) (b n : Nat) (f : Nat → Int) : Prop := w.heap[b]? = some (.cells (rowV n f) 3 (0, 0))
theorem RowI.cell {w : World} {b n : Nat} {f : Nat → Int} (h : RowI w b n f) (k : Nat) (hk : k < n) : w.cell? ⟨b, k, none⟩ = some (.int .i64 (f k)) := by
  rw [← rowV_at n f k hk]
  simp only [World.cell?]
  unfold RowI at h
  rw [h]
  rfl
theorem RowI.free {w : World} {b n : Nat} {f : Nat → Int} (h : RowI w b n f) (k : Nat) : w.frozen? ⟨b, k, none⟩ = false := by
  unfold RowI at h
  simp [World.frozen?, h]
theorem RowI.lt {w : World} {b n : Nat} {f : Nat → Int} (h : RowI w b n f) : b < w.heap.size := (Array.getElem?_eq_some_iff.1 h).1
theorem RowI.below {w w' : World} {b n : Nat} {f : Nat → Int} (h : RowI w b n f) (hb : Below w.heap.size w w') : RowI w' b n f := (hb.block b h.lt).trans h
theorem RowI.set {w : World} {b n : Nat} {f g : Nat → Int} (h : RowI w b n f) (k : Nat) (x : Int) (hx : g k = x) (hg : ∀ j, j ≠ k → g j = f j) : RowI (w.setCell ⟨b, k, none⟩ (.int .i64 x)) b n g := by
  have := heap_setCell_same w b k _ _ (.int .i64 x) h
  rw [rowV_set n f g k x hx hg] at this
  exact this
theorem hit_at (c : Cnt) (P : Nat) (i j : Nat) (hi : c.frm = (i : Int)) (hj : c.to = (j : Int)) (i' j' : Nat) : hit c i' j' = if i' = i ∧ j' = j then c.many else 0 := by
  unfold hit
  by_cases e : i' = i ∧ j' = j
  · rw [if_pos e, if_pos ⟨by rw [hi, e.1], by rw [hj, e.2]⟩]
  · rw [if_neg e, if_neg]
    rintro ⟨a, b⟩
    exact e ⟨by omega, by omega⟩
/-- the document's table, after a count -/
theorem many_step (P : Nat) (l : List Cnt) (c : Cnt) (i j : Nat) (hP : 0 < P) (hj' : j < P) (hi : c.frm = (i : Int)) (hj : c.to = (j : Int)) :
    cellOf (l ++ [c]) ((i * P + j) / P) ((i * P + j) % P) = cellOf l ((i * P + j) / P) ((i * P + j) % P) + c.many ∧
    ∀ k, k ≠ i * P + j → cellOf (l ++ [c]) (k / P) (k % P) = cellOf l (k / P) (k % P) := by
  have h1 : (i * P + j) / P = i := by rw [Nat.mul_comm, Nat.mul_add_div (by omega), Nat.div_eq_of_lt (by omega), Nat.add_zero]
  have h2 : (i * P + j) % P = j := by rw [Nat.mul_comm, Nat.mul_add_mod, Nat.mod_eq_of_lt (by omega)]
  refine ⟨?_, fun k hk => ?_⟩
  · rw [cellOf_snoc, hit_at c P i j hi hj, h1, h2, if_pos ⟨rfl, rfl⟩]
  · rw [cellOf_snoc, hit_at c P i j hi hj, if_neg]
    · omega
    · rintro ⟨a, b⟩
      apply hk
      have := Nat.div_add_mod k P
      rw [a, b, Nat.mul_comm] at this
      exact this.symm
theorem good_iff (P : Nat) (c : Cnt) : good P c = true ↔ 0 ≤ c.frm ∧ c.frm < P ∧ 0 ≤ c.to ∧ c.to < P ∧ 0 ≤ c.many := by
  unfold good
  simp only [Bool.and_eq_true, decide_eq_true_eq]
  exact ⟨fun h => ⟨h.1.1.1.1, h.1.1.1.2, h.1.1.2, h.1.2, h.2⟩, fun h => ⟨⟨⟨⟨h.1, h.2.1⟩, h.2.2.1⟩, h.2.2.2.1⟩, h.2.2.2.2⟩⟩
set_option maxHeartbeats 2000000 in
theorem isPlaces_at (z : Int) (w : World) : Calls Tryz.prog 16 #[.int .i64 z] w fun e w' => e = .returned (.bool (decide (1 ≤ z) && decide (z ≤ 8))) ∧ w = w' := by
  by_cases h1 : z < 1
  · have d : (decide (1 ≤ z) && decide (z ≤ 8)) = false := by simp; omega
    rw [d]
    go_enter Tryz.func16, Tryz.ntmps16
    go_wp2_with fail
    go_ret
    exact ⟨by first | (simp; done) | (simp; omega), rfl⟩
  · by_cases h2 : 8 < z
    · have d : (decide (1 ≤ z) && decide (z ≤ 8)) = false := by simp; omega
      rw [d]
      go_enter Tryz.func16, Tryz.ntmps16
      go_wp2_with fail
      go_ret
      exact ⟨by first | (simp; done) | (simp; omega), rfl⟩
    · have d : (decide (1 ≤ z) && decide (z ≤ 8)) = true := by simp; omega
      rw [d]
      go_enter Tryz.func16, Tryz.ntmps16
      go_wp2_with fail
      go_ret
      exact ⟨by first | (simp; done) | (simp; omega), rfl⟩
end Go.Proofs.YtacjgphfcailmaaGreatDoor

namespace Go.Proofs.YtacjgphfcailmaaGreatDoor
open Go.RowKit
open Ct
set_option linter.unusedVariables false
set_option linter.unusedSimpArgs false

theorem infoInt : (Tryz.prog.info? 3).map (fun i => (i.zero, i.size, i.bytes)) = some (some (.int .i64 0), 1, 8) := by kernel_rfl
theorem make_row (C : Nat) (hC : C ≤ 64) (u : World) : (Instr.makeSlice 48 (.int .i64 C) (.int .i64 C)).run Tryz.prog u = .ok (.slice (some ⟨u.heap.size, 0, none⟩) C C) (u.alloc (.cells (rowV C fun _ => 0) 3)) := by
  obtain ⟨i0, hi0, hz0, hz1, hz2⟩ := info_parts infoInt
  have h := run_make (P := Tryz.prog) u 48 3 i0 _ Tryz.underlying48 hi0 hz0 .i64 .i64 C C (by omega) (Int.le_refl _) (by rw [hz2]; omega) (by omega)
  rw [Int.toNat_natCast, hz1, Nat.mul_one] at h
  have e : madeCells (Value.int .i64 0).cells C = rowV C fun _ => 0 := by
    apply Array.ext
    · simp [madeCells, rowV]
    · intro i h1 h2
      simp [madeCells, rowV, Value.cells, Nat.mod_one]
  rw [e] at h
  exact h
/-- what the table's text is; none: it is refused -/
def textOf (P : Int) (l : List Cnt) : Option (List UInt8) := if 1 ≤ P ∧ P ≤ 8 ∧ l.all (good P.toNat) = true then some (textTo Lib.itoa P.toNat l (P.toNat * P.toNat)) else none
def TextE (P : Int) (l : List Cnt) (w : World) (e : Ending) (w' : World) : Prop := (match textOf P l with
  | some s => e = .returned (.tuple #[.string ⟨s.toArray⟩, .int .i64 0])
  | none => e = .returned (.tuple #[.string ⟨#[]⟩, .int .i64 2])) ∧ Below w.heap.size w w'
theorem text_no {P : Int} {l : List Cnt} {w w' : World} (h : ¬ (1 ≤ P ∧ P ≤ 8 ∧ l.all (good P.toNat) = true)) (hb : Below w.heap.size w w') : TextE P l w (.returned (.tuple #[.string ⟨#[]⟩, .int .i64 2])) w' := by
  unfold TextE textOf
  rw [if_neg h]
  exact ⟨rfl, hb⟩
theorem text_yes {P : Nat} {l : List Cnt} {w w' : World} (h1 : 1 ≤ P) (h2 : P ≤ 8) (h3 : ∀ (j : Nat) (hj : j < l.length), good P l[j] = true) (hb : Below w.heap.size w w') : TextE P l w (.returned (.tuple #[.string ⟨(textTo Lib.itoa P l (P * P)).toArray⟩, .int .i64 0])) w' := by
  unfold TextE textOf
  rw [if_pos]
  · exact ⟨rfl, hb⟩
  · refine ⟨by omega, by omega, List.all_eq_true.2 fun x hx => ?_⟩
    obtain ⟨j, hj, rfl⟩ := List.getElem_of_mem hx
    exact h3 j hj
theorem bad_all {P : Nat} {l : List Cnt} {k : Nat} (hk : k < l.length) (h : good P l[k] = false) : ¬ (1 ≤ (P : Int) ∧ (P : Int) ≤ 8 ∧ l.all (good (P : Int).toNat) = true) := by
  rintro ⟨_, _, h3⟩
  have := List.all_eq_true.1 h3 l[k] (List.getElem_mem hk)
  rw [Int.toNat_natCast, h] at this
  cases this
/-- what strconv.Itoa gives -/
def ItoaOK (w : World) : Prop := ∀ (n : Int) (u : World), -9223372036854775808 ≤ n → n ≤ 9223372036854775807 → Below w.heap.size w u →
  Calls Tryz.prog 14 #[.int .i64 n] u fun e w' => e = .returned (.string ⟨(Lib.itoa n).toArray⟩) ∧ Below u.heap.size u w'
structure ManyL (w wr : World) (R P : Nat) (l : List Cnt) (k : Nat) : Prop where
  row : RowI wr R (P * P) (fun q => cellOf (l.take k) (q / P) (q % P))
  be : Below w.heap.size w wr
  rb : w.heap.size ≤ R
  ok : ∀ (j : Nat) (hj : j < l.length), j < k → good P l[j] = true
theorem ManyL.start (w : World) (P : Nat) (l : List Cnt) : ManyL w (w.alloc (.cells (rowV (P * P) fun _ => 0) 3)) w.heap.size P l 0 :=
  ⟨heap_alloc_new _ _, (Below.refl _ _).alloc (Nat.le_refl _) _, Nat.le_refl _, fun j hj h => by omega⟩
theorem ManyL.step {w wr : World} {R P k : Nat} {l : List Cnt} (h : ManyL w wr R P l k) (hk : k < l.length) (hg : good P l[k] = true) (o : Obj) (x : Int) {i j : Nat} (hi : l[k].frm = (i : Int)) (hj : l[k].to = (j : Int)) (hP : 0 < P) (hj' : j < P) {w2 : World} (hw2 : Below wr.heap.size wr w2)
    (hx : x = cellOf (l.take k) ((i * P + j) / P) ((i * P + j) % P) + l[k].many) : ManyL w (w2.setCell ⟨R, i * P + j, none⟩ (.int .i64 x)) R P l (k + 1) := by
  obtain ⟨s1, s2⟩ := many_step P (l.take k) l[k] i j hP hj' hi hj
  rw [← List.take_succ_eq_append_getElem hk] at s1 s2
  refine ⟨(h.row.below hw2).set _ _ (by rw [s1, hx]) s2, (h.be.trans (hw2.mono h.be.size)).setCell (p := ⟨R, i * P + j, none⟩) h.rb _, h.rb, fun q hq hqk => ?_⟩
  by_cases e : q = k
  · subst e; exact hg
  · exact h.ok q hq (by omega)
end Go.Proofs.YtacjgphfcailmaaGreatDoor
