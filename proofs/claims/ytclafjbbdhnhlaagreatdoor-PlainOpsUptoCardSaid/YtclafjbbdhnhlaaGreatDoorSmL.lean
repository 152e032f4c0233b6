/-
  The document's Op: its list of values, and what it returns.
-/
import Derived.Test.YtclafjbbdhnhlaaGreatDoorSmK
import Derived.OwnWalk
import Derived.Deep.DeepMust
namespace Go.Proofs.YtclafjbbdhnhlaaGreatDoor
open Go.RowKit
set_option linter.unusedVariables false
set_option linter.unusedSimpArgs false

namespace Sm
def refA (k : Nm) (l : List Int) : (Int × Bool) × Bool × Bool :=
  match l with
  | [a] => ref1 k a
  | [a, b] => ref2 k a b
  | _ => ((0, false), false, false)
def rOpV (x : (Int × Bool) × Bool × Bool) : Int × Bool × Int := if x.2.2 then (if x.2.1 then (x.1.1, true, 0) else (0, false, 0)) else (0, false, 2)
theorem rop_at (k : Nm) (s : ByteArray) (h : Is k s) (l : List Int) (v : Value) (w : World) (hv : VSl w v l) :
    Calls Tryz.prog 23 #[.string s, v] w fun e w' => e = .returned (resV (refA k l)) ∧ Below w.heap.size w w' := by
  match l, hv with
  | [a], hv => exact rop1_at k s h a v w hv
  | [a, b], hv => exact rop2_at k s h a b v w hv
  | [], hv => exact rop0_at k s h [] (by simp) (by simp) v w hv
  | a :: b :: c :: r, hv => exact rop0_at k s h (a :: b :: c :: r) (by simp) (by simp) v w hv

/-- the cells of so many values -/
def VRow (xs : List Value) (l : List Int) (k : Nat) : Prop := xs.length = 2 * k ∧ ∀ i (h : i < l.length), i < k → xs[i * 2]? = some (.int .i64 l[i])
theorem VRow.snoc {xs : List Value} {l : List Int} {k : Nat} (h : VRow xs l k) (hk : k < l.length) : VRow (xs ++ [.int .i64 l[k], .bool false]) l (k + 1) := by
  refine ⟨by simp [h.1]; omega, fun i hi hik => ?_⟩
  have hl := h.1
  by_cases e : i = k
  · subst e
    rw [List.getElem?_append_right (by omega)]
    simp [hl, show i * 2 - 2 * i = 0 by omega]
  · rw [List.getElem?_append_left (by omega)]
    exact h.2 i hi (by omega)
theorem valInfo : (Tryz.prog.info? 52).map (fun i => (i.zero, i.size, i.bytes)) = some (some (.agg #[.int .i64 0, .bool false]), 2, 16) := by kernel_rfl
theorem VSl.own {w : World} {base : Nat} {v : Value} {xs : List Value} {l : List Int} (h : w.ownsRow base 52 2 v l.length xs) (hg : VRow xs l l.length) : VSl w v l := by
  rcases h.2 with ⟨rfl, h0⟩ | ⟨g, cap, cur, rfl, _, hh, hnc, hm, hsz, htk⟩
  · have : l = [] := List.eq_nil_of_length_eq_zero h0
    subst this
    exact ⟨none, 0, rfl, Nat.le_refl _, Nat.zero_le _, fun h => by cases h⟩
  · refine ⟨_, cap, rfl, hnc, hm, fun _ => ⟨g, 0, rfl, fun i hi => ?_⟩⟩
    have hl := hg.1
    rw [Nat.zero_add, h.cellAt (i * 2) (by omega), hg.2 i hi hi]

set_option maxHeartbeats 8000000 in
set_option maxRecDepth 100000 in
theorem rOp_at (k : Nm) (s : ByteArray) (h : Is k s) (l : List Int) (hlen : l.length ≤ 1048576) (v : Value) (w : World) (hv : ISl w v l) :
    Calls Tryz.prog 14 #[.string s, v] w fun e w' => e = .returned (.tuple #[.int .i64 (rOpV (refA k l)).1, .bool (rOpV (refA k l)).2.1, .int .i64 (rOpV (refA k l)).2.2]) ∧ Below w.heap.size w w' := by
  have HR := fun v1 w1 hv1 => hide' (rop_at k s h l v1 w1 hv1)
  obtain ⟨A, cap, rfl, hca, hma, hA⟩ := hv
  have HA := hide' hA
  have hmax : maxLen = 9223372036854775807 := rfl
  rw [hmax] at hma
  obtain ⟨i0, hi, hz0, hz1, hz2⟩ := info_parts valInfo
  obtain ⟨x, hx⟩ : ∃ x, refA k l = x := ⟨_, rfl⟩
  rw [hx] at HR ⊢
  obtain ⟨⟨x1, x2⟩, x3, x4⟩ := x
  have hv1 : rOpV ((x1, x2), x3, x4) = if x4 then (if x3 then (x1, true, 0) else (0, false, 0)) else (0, false, 2) := rfl
  unfold resV at HR
  simp only at HR
  clear hA hmax hx h
  go_enter Tryz.func14, Tryz.ntmps14
  go_wp2_with fail
  go_loopw [7, 8] (fun t i wr => ∃ (k : Nat) (xs : List Value), k ≤ l.length ∧ i = .int .i64 k ∧ wr.ownsRow w.heap.size 52 2 t k xs ∧ Below w.heap.size w wr ∧ Hid (VRow xs l k)) (fun _ i _ => l.length - (intOf i).toNat)
  case atStart => exact ⟨0, [], Nat.zero_le _, rfl, World.ownsRow_nil _ _ _ _, Below.refl _ _, ⟨rfl, fun i h1 h2 => by omega⟩⟩
  case round =>
    obtain ⟨k, xs, hk, rfl, hown, hnx, hG⟩ := hrel
    by_cases hlt : k < l.length
    · obtain ⟨b, off, rfl, hCA⟩ := HA.out (by omega)
      have y1 := hCA k hlt
      have z1 := (hnx.cell (cell_lt y1)).trans y1
      have hG2 := hide' (hG.out.snoc hlt)
      obtain ⟨a, ha⟩ : ∃ t, l[k] = t := ⟨_, rfl⟩
      simp only [ha] at z1 hG2
      have hj0 : (0 : Int) ≤ (k : Int) := by omega
      have hj1 : (k : Int) < (l.length : Int) := by omega
      clear ha y1 hCA hG HA HR hv1
      go_wp2_with (at_builtin; go_must (refine wpList_append_own _ rfl _ _ 57 rfl w.heap.size 52 i0 _ 2 16 Tryz.underlying57 hi hz0 hz1 hz2 rfl (by decide) _ _ _ rfl (hown.alloc _) ⟨wr.heap.size, 0, none⟩ 1 1 [.int .i64 a, .bool false] rfl rfl ?c1 ?c2 ?c3 ?c4 ?c5 ?_))
      case c1 => intro j u hu; exact cells_new' wr _ _ j u hu rfl
      case c2 => intro u hu; simp at hu; rcases hu with rfl | rfl <;> rfl
      case c3 => unfold maxLen; omega
      case c4 => omega
      case c5 => have := hnx.size; simp; omega
      intro v'' w5 hown5 hg5 _
      have hb5 := (hnx.alloc hnx.size (.cells #[.int .i64 a, .bool false] 52)).grown hg5 (by have := hnx.size; simp; omega) (fun k hk => (hown.lt k hk).1)
      go_wp2_with fail
      go_roundw
      case rel => exact ⟨k + 1, _, by omega, by go_num, hown5, hb5, hG2⟩
      case measure => simp [intOf]; omega
    · have hke : k = l.length := by omega
      subst hke
      have HV := hide' (HR _ wr (VSl.own hown hG.out))
      clear HR HA hG hown
      go_wp2_with fail
      refine HV.out.out.mono ?_
      rintro e w1 ⟨rfl, hb1⟩
      have hend := (hnx.trans (hb1.mono hnx.size)).alloc (hnx.trans (hb1.mono hnx.size)).size (.cells #[.int .i64 x1, .bool x2] 52)
      have r := cells_pair w1 (.int .i64 x1) (.bool x2) 52
      clear HV hb1 hnx
      cases x4 <;> cases x3
      all_goals
        simp only [if_true, Bool.false_eq_true, if_false] at hv1
        go_wp2_with fail
        all_goals exact bodyPost_ret (by simp [results, Tryz.results14, go_sem, hv1]) rfl ⟨rfl, hend⟩
end Sm
end Go.Proofs.YtclafjbbdhnhlaaGreatDoor
