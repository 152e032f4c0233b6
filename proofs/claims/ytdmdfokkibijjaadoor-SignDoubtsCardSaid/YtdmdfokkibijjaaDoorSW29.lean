/-
  Layer 9: the walks of types and of all: the eight actuals.
-/
import Derived.Test.YtdmdfokkibijjaaDoorSW28
namespace Go.Proofs.YtdmdfokkibijjaaDoor
open Go.RowKit
open Sgn
set_option linter.unusedVariables false
set_option linter.unusedSimpArgs false

def allT : List F := [⟨cInt, 0⟩, ⟨cBool, 0⟩, ⟨cDom, 1⟩, ⟨cArr, 1⟩, ⟨cDom, 2⟩, ⟨cArr, 2⟩, ⟨cDom, 3⟩, ⟨cArr, 3⟩]
def fcells (fs : List F) : List Value := fs.flatMap fun f => [.string f.k, .int .i64 f.n]
theorem fcells_len (fs : List F) : (fcells fs).length = fs.length * 2 := by
  unfold fcells
  induction fs with
  | nil => rfl
  | cons a r ih => rw [List.flatMap_cons, List.length_append, ih, List.length_cons]; simp; omega
theorem fcells_at : ∀ (fs : List F) (i : Nat) (h : i < fs.length), (fcells fs)[i * 2]? = some (.string fs[i].k) ∧ (fcells fs)[i * 2 + 1]? = some (.int .i64 fs[i].n)
  | a :: r, 0, _ => ⟨rfl, rfl⟩
  | a :: r, i + 1, h => by
    have ih := fcells_at r i (by simpa using h)
    have e : fcells (a :: r) = .string a.k :: .int .i64 a.n :: fcells r := rfl
    have e1 : (i + 1) * 2 = i * 2 + 1 + 1 := by omega
    rw [e, e1]
    simpa using ih
theorem formalInfo : (Tryd.prog.info? 43).map (fun i => (i.zero, i.size, i.bytes)) = some (some (.agg #[.string ⟨#[]⟩, .int .i64 0]), 2, 24) := by kernel_rfl
theorem FSl.own {w : World} {base : Nat} {v : Value} {fs : List F} (h : w.ownsRow base 43 2 v fs.length (fcells fs)) : FSl w v fs := by
  rcases h.2 with ⟨rfl, h0⟩ | ⟨g, cap, cur, rfl, _, hh, hnc, hm, hsz, htk⟩
  · have : fs = [] := by
      cases fs with
      | nil => rfl
      | cons a b => cases h0
    subst this
    exact ⟨none, 0, rfl, Nat.le_refl _, Nat.zero_le _, fun h => by cases h⟩
  · refine ⟨_, cap, rfl, hnc, hm, fun _ => ⟨g, 0, rfl, fun i hi => ?_⟩⟩
    obtain ⟨h1, h2⟩ := fcells_at fs i hi
    refine ⟨?_, ?_⟩
    · rw [Nat.zero_add, h.cellAt (i * 2) (by omega), h1]
    · rw [Nat.zero_add, h.cellAt (i * 2 + 1) (by omega), h2]
theorem all_step (r : Nat) (h1 : 1 ≤ r) (h3 : r ≤ 3) : fcells (allT.take (2 * r)) ++ [.string cDom, .int .i64 r, .string cArr, .int .i64 r] = fcells (allT.take (2 * r + 2)) := by
  obtain rfl | rfl | rfl : r = 1 ∨ r = 2 ∨ r = 3 := by omega
  all_goals rfl
def FsEnd (w w' : World) (e : Ending) : Prop := ∃ b off cap, e = .returned (.slice (some ⟨b, off, none⟩) 8 cap) ∧ 8 ≤ cap ∧ cap ≤ maxLen ∧ w.heap.size ≤ b ∧ FCells w' b off allT ∧ Below w.heap.size w w'
theorem fsEnd_of {w w' : World} {v : Value} (h : w'.ownsRow w.heap.size 43 2 v 8 (fcells allT)) (hb : Below w.heap.size w w') : FsEnd w w' (.returned v) := by
  have h2 := FSl.own (fs := allT) h
  rcases h.2 with ⟨rfl, h0⟩ | ⟨g, cap, cur, rfl, hbg, hh, hnc, hm, hsz, htk⟩
  · cases h0
  · obtain ⟨A, cap', e, hc, hm', hF⟩ := h2
    obtain ⟨b, off, rfl, hC⟩ := hF (by decide)
    simp only [Value.slice.injEq, Option.some.injEq, Addr.mk.injEq, and_true] at e
    obtain ⟨⟨rfl, rfl⟩, -, rfl⟩ := e
    exact ⟨g, 0, cap, rfl, hnc, hm, hbg, hC, hb⟩

set_option maxHeartbeats 4000000 in
set_option maxRecDepth 100000 in
theorem types_any (w : World) : Calls Tryd.prog 66 #[] w fun e w' => FsEnd w w' e := by
  obtain ⟨i0, hi, hz0, hz1, hz2⟩ := info_parts formalInfo
  go_enter Tryd.func66, Tryd.ntmps66
  go_wp2_with fail
  go_loopw [1, 2] (fun v i wr => ∃ (r : Nat), 1 ≤ r ∧ r ≤ 4 ∧ i = .int .i64 r ∧ wr.ownsRow w.heap.size 43 2 v (2 * r) (fcells (allT.take (2 * r))) ∧ Below w.heap.size w wr) (fun _ i _ => 4 - (intOf i).toNat)
  case atStart => exact ⟨1, Nat.le_refl _, by omega, rfl, World.ownsRow_lit _ _ 2 (Nat.le_refl _) (by unfold maxLen; omega) rfl, (Below.refl _ _).alloc (Nat.le_refl _) _⟩
  case round =>
    obtain ⟨r, h1, h4, rfl, hown, hnx⟩ := hrel
    by_cases hlt : r ≤ 3
    · have hst := hide' (all_step r h1 hlt)
      have hle : decide ((r : Int) ≤ 3) = true := decide_eq_true (by omega)
      go_wp2_with (at_builtin; go_must (refine wpList_append_own _ rfl _ _ 23 rfl w.heap.size 43 i0 _ 2 24 Tryd.underlying23 hi hz0 hz1 hz2 rfl (by decide) _ _ _ rfl (hown.alloc _) ⟨wr.heap.size, 0, none⟩ 2 2 [.string cDom, .int .i64 r, .string cArr, .int .i64 r] rfl rfl ?c1 ?c2 ?c3 ?c4 ?c5 ?_))
      case c1 => intro j u hu; exact cells_new' wr _ _ j u hu rfl
      case c2 => intro u hu; simp at hu; rcases hu with rfl | rfl | rfl | rfl <;> rfl
      case c3 => unfold maxLen; omega
      case c4 => omega
      case c5 => have := hnx.size; simp; omega
      intro v'' w5 hown5 hg5 _
      have hb5 := (hnx.alloc hnx.size (.cells #[.string cDom, .int .i64 r, .string cArr, .int .i64 r] 43)).grown hg5 (by have := hnx.size; simp; omega) (fun k hk => (hown.lt k hk).1)
      rw [hst.out] at hown5
      go_wp2_with fail
      go_roundw
      case rel => exact ⟨r + 1, by omega, by omega, by go_num, by rw [Nat.mul_add]; exact hown5, hb5⟩
      case measure => simp [intOf]; omega
    · have hr : r = 4 := by omega
      subst hr
      have hF : wr.ownsRow w.heap.size 43 2 u1 8 (fcells allT) := hown
      clear hown
      go_wp2_with fail
      go_ret
      exact fsEnd_of hF hnx

set_option maxHeartbeats 4000000 in
set_option maxRecDepth 100000 in
theorem rAll_any (w : World) : Calls Tryd.prog 55 #[] w fun e w' => FsEnd w w' e := by
  obtain ⟨i0, hi, hz0, hz1, hz2⟩ := info_parts formalInfo
  go_enter Tryd.func55, Tryd.ntmps55
  go_wp2_with fail
  go_loopw [1, 2] (fun v i wr => ∃ (r : Nat), 1 ≤ r ∧ r ≤ 4 ∧ i = .int .i64 r ∧ wr.ownsRow w.heap.size 43 2 v (2 * r) (fcells (allT.take (2 * r))) ∧ Below w.heap.size w wr) (fun _ i _ => 4 - (intOf i).toNat)
  case atStart => exact ⟨1, Nat.le_refl _, by omega, rfl, World.ownsRow_lit _ _ 2 (Nat.le_refl _) (by unfold maxLen; omega) rfl, (Below.refl _ _).alloc (Nat.le_refl _) _⟩
  case round =>
    obtain ⟨r, h1, h4, rfl, hown, hnx⟩ := hrel
    by_cases hlt : r ≤ 3
    · have hst := hide' (all_step r h1 hlt)
      have hle : decide ((r : Int) ≤ 3) = true := decide_eq_true (by omega)
      go_wp2_with (at_builtin; go_must (refine wpList_append_own _ rfl _ _ 23 rfl w.heap.size 43 i0 _ 2 24 Tryd.underlying23 hi hz0 hz1 hz2 rfl (by decide) _ _ _ rfl (hown.alloc _) ⟨wr.heap.size, 0, none⟩ 2 2 [.string cDom, .int .i64 r, .string cArr, .int .i64 r] rfl rfl ?c1 ?c2 ?c3 ?c4 ?c5 ?_))
      case c1 => intro j u hu; exact cells_new' wr _ _ j u hu rfl
      case c2 => intro u hu; simp at hu; rcases hu with rfl | rfl | rfl | rfl <;> rfl
      case c3 => unfold maxLen; omega
      case c4 => omega
      case c5 => have := hnx.size; simp; omega
      intro v'' w5 hown5 hg5 _
      have hb5 := (hnx.alloc hnx.size (.cells #[.string cDom, .int .i64 r, .string cArr, .int .i64 r] 43)).grown hg5 (by have := hnx.size; simp; omega) (fun k hk => (hown.lt k hk).1)
      rw [hst.out] at hown5
      go_wp2_with fail
      go_roundw
      case rel => exact ⟨r + 1, by omega, by omega, by go_num, by rw [Nat.mul_add]; exact hown5, hb5⟩
      case measure => simp [intOf]; omega
    · have hr : r = 4 := by omega
      subst hr
      have hF : wr.ownsRow w.heap.size 43 2 u1 8 (fcells allT) := hown
      clear hown
      go_wp2_with fail
      go_ret
      exact fsEnd_of hF hnx

end Go.Proofs.YtdmdfokkibijjaaDoor
