/-
  Layer 16: the walks of slices.Clone and slices.Delete at messages.
-/
import Derived.Test.YtimmmbjdaibplaaW6
namespace Go.Proofs.Ytimmmbjdaibplaa
open Go.RowKit
open Nt
set_option linter.unusedVariables false
set_option linter.unusedSimpArgs false

/-- a block with some cells overwritten -/
def setMany (cur : Array Value) : Nat → List Value → Array Value
  | _, [] => cur
  | o, v :: r => setMany (cur.setIfInBounds o v) (o + 1) r
theorem setMany_list : ∀ (vs : List Value) (cur : Array Value) (o : Nat), o + vs.length ≤ cur.size → (setMany cur o vs).toList = cur.toList.take o ++ vs ++ cur.toList.drop (o + vs.length)
  | [], cur, o, _ => by simp [setMany]
  | v :: r, cur, o, h => by
    simp only [List.length_cons] at h
    have ih := setMany_list r (cur.setIfInBounds o v) (o + 1) (by simp; omega)
    unfold setMany
    rw [ih, Array.toList_setIfInBounds]
    have ho : o < cur.toList.length := by simp; omega
    rw [List.set_eq_take_append_cons_drop, if_pos ho]
    have h1 : (cur.toList.take o).length = o := by rw [List.length_take]; omega
    have e1 : (cur.toList.take o ++ v :: cur.toList.drop (o + 1)).take (o + 1) = cur.toList.take o ++ [v] := by
      rw [List.take_append, h1, show o + 1 - o = 1 by omega, List.take_take, Nat.min_eq_right (by omega)]
      rfl
    have e2 : (cur.toList.take o ++ v :: cur.toList.drop (o + 1)).drop (o + 1 + r.length) = cur.toList.drop (o + (r.length + 1)) := by
      rw [List.drop_append, h1, List.drop_eq_nil_of_le (by rw [h1]; omega), show o + 1 + r.length - o = r.length + 1 by omega, List.drop_succ_cons, List.drop_drop]
      simp only [List.nil_append]
      congr 1
      omega
    rw [e1, e2]
    simp
theorem setMany_size : ∀ (vs : List Value) (cur : Array Value) (o : Nat), (setMany cur o vs).size = cur.size
  | [], _, _ => rfl
  | v :: r, cur, o => by unfold setMany; rw [setMany_size r]; simp
theorem setCells_block {g : Nat} {t : TypeId} : ∀ (vs : List Value) (w : World) (cur : Array Value) (o : Nat), w.heap[g]? = some (.cells cur t (0, 0)) → (w.setCells g o vs).heap[g]? = some (.cells (setMany cur o vs) t (0, 0))
  | [], _, _, _, h => h
  | v :: r, w, cur, o, h => setCells_block r _ _ _ (heap_setCell_same w g o cur t v h)
theorem setCells_other {g k : Nat} (hk : k ≠ g) : ∀ (vs : List Value) (w : World) (o : Nat), (w.setCells g o vs).heap[k]? = w.heap[k]?
  | [], _, _ => rfl
  | v :: r, w, o => (setCells_other hk r _ _).trans (Below.heap_setCell _ _ _ _ hk)
theorem setCells_size (g : Nat) : ∀ (vs : List Value) (w : World) (o : Nat), (w.setCells g o vs).heap.size = w.heap.size
  | [], _, _ => rfl
  | v :: r, w, o => (setCells_size g r _ _).trans (by simp [World.setCell])
theorem setCells_rest (g : Nat) : ∀ (vs : List Value) (w : World) (o : Nat), (w.setCells g o vs).os = w.os ∧ (w.setCells g o vs).tape = w.tape ∧ (w.setCells g o vs).output = w.output
  | [], _, _ => ⟨rfl, rfl, rfl⟩
  | v :: r, w, o => setCells_rest g r _ _

def zero6 : List Value := [.int .i64 0, .int .i64 0, .int .i64 0, .int .i64 0, .int .i64 0, .int .i64 0]
/-- what Delete leaves -/
def DelE (g cap k d : Nat) (l : List Msg) (w : World) (e : Ending) (w' : World) : Prop :=
  e = .returned (.slice (some ⟨g, 0, none⟩) (k + d) cap) ∧ w'.ownsRow 0 74 6 (.slice (some ⟨g, 0, none⟩) (k + d) cap) (k + d) ((l.eraseIdx k).flatMap msgV) ∧ Keeps [g] w w'
set_option maxHeartbeats 2000000 in
theorem delE_of {g cap k d : Nat} {l : List Msg} {w : World} (hl : l.length = k + d + 1) (hown : w.ownsRow 0 74 6 (.slice (some ⟨g, 0, none⟩) (k + d + 1) cap) (k + d + 1) (l.flatMap msgV)) :
    DelE g cap k d l w (.returned (.slice (some ⟨g, 0, none⟩) (k + d) cap)) ((w.drew.setCells g (k * 6) ((l.drop (k + 1)).flatMap msgV)).setCells g ((k + d) * 6) zero6) := by
  obtain ⟨hlen, hh⟩ := hown
  rcases hh with ⟨h', _⟩ | ⟨g', cap', cur, h', _, hg, hnc, hcm, hcs, htake⟩
  · cases h'
  · simp only [Value.slice.injEq, Option.some.injEq, Addr.mk.injEq, and_true, true_and] at h'
    obtain ⟨rfl, rfl⟩ := h'
    have hd : ((l.drop (k + 1)).flatMap msgV).length = d * 6 := by rw [flat_len msgV_len, List.length_drop, hl, show k + d + 1 - (k + 1) = d by omega]
    have hsz : cur.size = cap * 6 := hcs
    have hcap : (k + d + 1) * 6 ≤ cap * 6 := Nat.mul_le_mul_right _ hnc
    have b1 := setCells_block (t := 74) ((l.drop (k + 1)).flatMap msgV) w.drew cur (k * 6) hg
    have b2 := setCells_block (t := 74) zero6 _ _ ((k + d) * 6) b1
    have l1 := setMany_list ((l.drop (k + 1)).flatMap msgV) cur (k * 6) (by rw [hd]; omega)
    have l2 := setMany_list zero6 (setMany cur (k * 6) ((l.drop (k + 1)).flatMap msgV)) ((k + d) * 6) (by rw [setMany_size]; simp only [zero6, List.length_cons, List.length_nil]; omega)
    have he : (l.eraseIdx k).flatMap msgV = (l.take k).flatMap msgV ++ (l.drop (k + 1)).flatMap msgV := by rw [List.eraseIdx_eq_take_drop_succ, List.flatMap_append]
    have ht : cur.toList.take (k * 6) = (l.take k).flatMap msgV := by
      have e1 : l.flatMap msgV = (l.take k).flatMap msgV ++ (l.drop k).flatMap msgV := by rw [← List.flatMap_append, List.take_append_drop]
      have e2 : cur.toList.take (k * 6) = (cur.toList.take ((k + d + 1) * 6)).take (k * 6) := by rw [List.take_take, Nat.min_eq_left (by omega)]
      rw [e2, htake, e1, List.take_append_of_le_length (by rw [flat_len msgV_len, List.length_take]; omega), List.take_of_length_le (by rw [flat_len msgV_len, List.length_take]; omega)]
    refine ⟨rfl, ⟨?_, .inr ⟨g, cap, _, rfl, Nat.zero_le _, b2, by omega, hcm, ?_, ?_⟩⟩, ?_⟩
    · rw [flat_len msgV_len, List.length_eraseIdx_of_lt (by omega), show l.length - 1 = k + d by omega]
    · rw [setMany_size, setMany_size, hsz]
    · rw [l2, List.append_assoc, List.take_append_of_le_length (by rw [List.length_take, Array.length_toList, setMany_size]; omega), List.take_take, Nat.min_self, l1, he, ht, List.append_assoc, ← List.append_assoc]
      rw [List.take_append_of_le_length (by rw [List.length_append, flat_len msgV_len, hd, List.length_take]; omega), List.take_of_length_le (by rw [List.length_append, flat_len msgV_len, hd, List.length_take]; omega)]
    · have r1 := setCells_rest g ((l.drop (k + 1)).flatMap msgV) w.drew (k * 6)
      have r2 := setCells_rest g zero6 (w.drew.setCells g (k * 6) ((l.drop (k + 1)).flatMap msgV)) ((k + d) * 6)
      exact ⟨r2.1.trans r1.1, r2.2.1.trans r1.2.1, r2.2.2.trans r1.2.2, by rw [setCells_size, setCells_size]; exact Nat.le_refl _, fun x _ hx => (setCells_other (by simpa using hx) _ _ _).trans (setCells_other (by simpa using hx) _ _ _)⟩

theorem clear_one (w1 : World) (g o c : Nat) (v0 v1 v2 v3 v4 v5 : Value) (y0 : w1.cell? ⟨g, o, none⟩ = some v0) (y1 : w1.cell? ⟨g, o + 1, none⟩ = some v1) (y2 : w1.cell? ⟨g, o + 2, none⟩ = some v2) (y3 : w1.cell? ⟨g, o + 3, none⟩ = some v3) (y4 : w1.cell? ⟨g, o + 4, none⟩ = some v4) (y5 : w1.cell? ⟨g, o + 5, none⟩ = some v5) (hf : ∀ j, w1.frozen? ⟨g, j, none⟩ = false) :
    (Builtin.clear_ #[33] 0 #[.slice (some ⟨g, o, none⟩) 1 c]).run Try.prog w1 = .ok (.tuple #[]) (w1.setCells g o zero6) := by
  obtain ⟨i0, hi0, hz0, hz1, hz2⟩ := info_parts infoMsg
  have hzv : ∀ w, (zeroValue 74).run Try.prog w = .ok (.agg #[.int .i64 0, .int .i64 0, .int .i64 0, .int .i64 0, .int .i64 0, .int .i64 0]) w := fun w => by simp [zeroValue, typeInfo, hi0, hz0]
  have hzc : (Builtin.zeroCells (Value.agg #[.int .i64 0, .int .i64 0, .int .i64 0, .int .i64 0, .int .i64 0, .int .i64 0]).cells 1).toList = zero6 := by
    apply List.ext_getElem
    · simp [Builtin.zeroCells, Value.cells, zero6]
    · intro i h1 h2
      simp only [zero6, List.length_cons, List.length_nil] at h2
      have : i = 0 ∨ i = 1 ∨ i = 2 ∨ i = 3 ∨ i = 4 ∨ i = 5 := by omega
      rcases this with rfl | rfl | rfl | rfl | rfl | rfl <;> simp [Builtin.zeroCells, Value.cells, zero6]
  have hst := run_storeCells_cells (P := Try.prog) g o zero6 0 w1 (fun j hj => by
    simp only [zero6, List.length_cons, List.length_nil] at hj
    rw [Nat.add_zero]
    have : j = 0 ∨ j = 1 ∨ j = 2 ∨ j = 3 ∨ j = 4 ∨ j = 5 := by omega
    rcases this with rfl | rfl | rfl | rfl | rfl | rfl
    · simp [y0]
    · simp [y1]
    · simp [y2]
    · simp [y3]
    · simp [y4]
    · simp [y5]) (fun j hj => hf _) (fun v hv => by
    simp only [zero6, List.mem_cons, List.not_mem_nil, or_false] at hv
    rcases hv with rfl | rfl | rfl | rfl | rfl | rfl <;> rfl)
  simp only [Nat.add_zero] at hst
  simp [Builtin.clear_, run_underlying Try.underlying33, hzv, hzc, hst]
set_option maxHeartbeats 8000000 in
set_option maxRecDepth 100000 in
theorem delete_at (g cap k d : Nat) (l : List Msg) (w : World) (hl : l.length = k + d + 1) (hown : w.ownsRow 0 74 6 (.slice (some ⟨g, 0, none⟩) (k + d + 1) cap) (k + d + 1) (l.flatMap msgV)) (hn : k + d + 1 ≤ 100000) :
    Calls Try.prog 34 #[.slice (some ⟨g, 0, none⟩) (k + d + 1) cap, .int .i64 k, .int .i64 ((k : Int) + 1)] w (DelE g cap k d l w) := by
  obtain ⟨i0, hi0, hz0, hz1, hz2⟩ := info_parts infoMsg
  have HE := Lib.hid (delE_of hl hown)
  obtain ⟨M, hM⟩ : ∃ x, (l.drop (k + 1)).flatMap msgV = x := ⟨_, rfl⟩
  rw [hM] at HE
  have hMl : M.length = d * 6 := by rw [← hM, flat_len msgV_len, List.length_drop, hl, show k + d + 1 - (k + 1) = d by omega]
  obtain ⟨A0, cap0, e0, _, hcap⟩ := own_form hown
  obtain ⟨rfl, rfl⟩ : some ⟨g, 0, none⟩ = A0 ∧ cap = cap0 := by injection e0 with h1 _ h2; exact ⟨h1, h2⟩
  clear e0
  have hfr : ∀ j, w.frozen? ⟨g, j, none⟩ = false := fun j => hown.frozenAt j
  obtain ⟨cur, hcur⟩ := own_type hown (g := g) rfl
  have hcs : cur.size = cap * 6 ∧ cap ≤ 9223372036854775807 := by
    rcases hown.2 with ⟨h', _⟩ | ⟨g', cap', cur', h', _, hg, _, hm, hs', _⟩
    · cases h'
    · simp only [Value.slice.injEq, Option.some.injEq, Addr.mk.injEq, and_true, true_and] at h'
      obtain ⟨rfl, rfl⟩ := h'
      rw [hcur] at hg
      injection hg with hg
      injection hg with hg
      subst hg
      exact ⟨hs', hm⟩
  have hsome : ∀ j, j < cap * 6 → (w.cell? ⟨g, j, none⟩).isSome = true := fun j hj => by
    rw [blk_cell hcur j]
    simp [hcs.1, hj]
  obtain ⟨A, hA, hnews⟩ : ∃ A : Addr, (if cap = k + 1 then some (⟨g, 0, none⟩ : Addr) else some ⟨g, (k + 1) * 6, none⟩) = some A ∧ Hid (∀ j u, M[j]? = some u → w.drew.cell? (A.add j) = some u) := by
    by_cases h : cap = k + 1
    · refine ⟨⟨g, 0, none⟩, by simp [h], fun j u hu => ?_⟩
      have h0 : M.length = 0 := by rw [hMl]; omega
      rw [List.length_eq_zero_iff.1 h0] at hu
      simp at hu
    · refine ⟨⟨g, (k + 1) * 6, none⟩, by simp [h], fun j u hu => ?_⟩
      rw [Addr.add_lit]
      refine own_at hown ?_
      rw [← hM] at hu
      have e : l.flatMap msgV = (l.take (k + 1)).flatMap msgV ++ (l.drop (k + 1)).flatMap msgV := by rw [← List.flatMap_append, List.take_append_drop]
      have hlen : ((l.take (k + 1)).flatMap msgV).length = (k + 1) * 6 := by rw [flat_len msgV_len, List.length_take, Nat.min_eq_left (by omega)]
      rw [e, List.getElem?_append_right (by rw [hlen]; omega), hlen, show (k + 1) * 6 + j - (k + 1) * 6 = j by omega]
      exact hu
  have s1 : Hid (M.length = d * 6) := hMl
  have s2 : Hid (∀ u ∈ M, u.oneCell' = true) := by
    intro u hu
    rw [← hM] at hu
    obtain ⟨m, _, hm⟩ := List.mem_flatMap.1 hu
    simp only [msgV, List.mem_cons, List.not_mem_nil, or_false] at hm
    rcases hm with rfl | rfl | rfl | rfl | rfl | rfl <;> rfl
  have s3 : Hid (∀ j, j < M.length → (w.drew.cell? ⟨g, 0 + k * 6 + j, none⟩).isSome = true ∧ w.drew.frozen? ⟨g, 0 + k * 6 + j, none⟩ = false) := by
    intro j hj
    rw [hMl] at hj
    exact ⟨hsome _ (by omega), hfr _⟩
  have hB := setCells_block M w.drew cur (k * 6) hcur
  have hBs : ∀ j, j < cap * 6 → ∃ u, (w.drew.setCells g (k * 6) M).cell? ⟨g, j, none⟩ = some u := fun j hj => ⟨(setMany cur (k * 6) M)[j]'(by rw [setMany_size, hcs.1]; exact hj), by rw [blk_cell hB j]; simp [setMany_size, hcs.1, hj]⟩
  have hBf : ∀ j, (w.drew.setCells g (k * 6) M).frozen? ⟨g, j, none⟩ = false := fun j => blk_free hB j
  obtain ⟨v0, y0⟩ := hBs ((k + d) * 6) (by omega)
  obtain ⟨v1, y1⟩ := hBs ((k + d) * 6 + 1) (by omega)
  obtain ⟨v2, y2⟩ := hBs ((k + d) * 6 + 2) (by omega)
  obtain ⟨v3, y3⟩ := hBs ((k + d) * 6 + 3) (by omega)
  obtain ⟨v4, y4⟩ := hBs ((k + d) * 6 + 4) (by omega)
  obtain ⟨v5, y5⟩ := hBs ((k + d) * 6 + 5) (by omega)
  obtain ⟨w1, hw1⟩ : ∃ x, w.drew.setCells g (k * 6) M = x := ⟨_, rfl⟩
  rw [hw1] at y0 y1 y2 y3 y4 y5 hBf HE
  have hclear := fun c => clear_one w1 g ((k + d) * 6) c v0 v1 v2 v3 v4 v5 y0 y1 y2 y3 y4 y5 hBf
  clear y0 y1 y2 y3 y4 y5 hBf
  have hx1 : ((k : Int) == (k : Int) + 1) = false := beq_eq_false_iff_ne.2 (by omega)
  have hk0 : (0 : Int) ≤ (k : Int) := by omega
  have hk1 : (k : Int) + 1 ≤ ((k + d + 1 : Nat) : Int) := by omega
  have hk2 : ((k : Int) + 1).toNat = k + 1 := by omega
  have hkc : k ≤ cap := by omega
  have hk3 : (0 : Int) ≤ (k : Int) + 1 := by omega
  have hk4 : (k : Int) ≤ (k : Int) + (d : Int) := by omega
  have hkd : k + d ≤ k + d + 1 := by omega
  have hne : ¬ cap = k + d := by omega
  have hm := hcs.2
  clear hcs hsome hcur hfr hown hl hM hMl hB hBs
  go_enter Try.func34, Try.ntmps34
  go_wp2_with fail
  go_region_law (refine step_append_room rfl (.tmp 22) (.tmp 25) 33 rfl 74 i0 6 Try.underlying33 hi0 hz1 g 0 k cap (by simp [Act.eval, Act.put]) A d (cap - (k + 1)) M (by simp [Act.eval, Act.put, hA, show k + d + 1 - (k + 1) = d by omega]) s1.out hnews.out s2.out (by omega) s3.out ?_)
  go_wp2_with fail
  go_ret
  exact HE.out
end Go.Proofs.Ytimmmbjdaibplaa
