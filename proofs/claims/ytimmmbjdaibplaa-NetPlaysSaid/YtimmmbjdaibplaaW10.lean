/-
  Layer 16: the walk of New.
-/
import Derived.Test.YtimmmbjdaibplaaW9
namespace Go.Proofs.Ytimmmbjdaibplaa
open Go.RowKit
open Nt
set_option linter.unusedVariables false
set_option linter.unusedSimpArgs false

def NewBad (w : World) (e : Ending) (w' : World) : Prop := e = .returned (.tuple #[.pointer none, .int .i64 2]) ∧ w = w'
theorem new_bad (P C : Int) (w : World) (h : P < 1 ∨ 8 < P ∨ C < 1 ∨ 64 < C) : Calls Try.prog 7 #[.int .i64 P, .int .i64 C] w (NewBad w) := by
  by_cases h1 : P < 1
  · go_enter Try.func7, Try.ntmps7
    go_wp2
    go_ret2
    exact ⟨rfl, rfl⟩
  by_cases h2 : 8 < P
  · go_enter Try.func7, Try.ntmps7
    go_wp2
    go_ret2
    exact ⟨rfl, rfl⟩
  by_cases h3 : C < 1
  · go_enter Try.func7, Try.ntmps7
    go_wp2
    go_ret2
    exact ⟨rfl, rfl⟩
  have h4 : 64 < C := by omega
  go_enter Try.func7, Try.ntmps7
  go_wp2
  go_ret2
  exact ⟨rfl, rfl⟩

/-- the net as far as it is made: k places -/
structure Made (w wr : World) (C k : Nat) (rs : List Nat) (vc : Value) : Prop where
  hd : wr.heap[w.heap.size]? = some (.cells #[vc, .slice none 0 0, .slice none 0 0, .slice none 0 0] 67 (0, 0))
  tb : wr.ownsRow 0 22 1 vc k (rs.map fun r => Value.slice (some ⟨r, 0, none⟩) C C)
  nw : ∀ g, vc.ownBlock = some g → w.heap.size ≤ g
  rl : rs.length = k
  rn : ∀ r ∈ rs, w.heap.size ≤ r
  nd : rs.Nodup
  row : ∀ r ∈ rs, wr.heap[r]? = some (.cells (intsV (List.replicate C 0)) 3 (0, 0))
  be : Below w.heap.size w wr
theorem infoRow : (Try.prog.info? 22).map (fun i => (i.zero, i.size, i.bytes)) = some (some (.slice none 0 0), 1, 24) := by kernel_rfl

theorem infoInt : (Try.prog.info? 3).map (fun i => (i.zero, i.size, i.bytes)) = some (some (.int .i64 0), 1, 8) := by kernel_rfl
theorem make_row (C : Nat) (hC : C ≤ 64) (u : World) : (Instr.makeSlice 22 (.int .i64 C) (.int .i64 C)).run Try.prog u = .ok (.slice (some ⟨u.heap.size, 0, none⟩) C C) (u.alloc (.cells (intsV (List.replicate C 0)) 3)) := by
  obtain ⟨i0, hi0, hz0, hz1, hz2⟩ := info_parts infoInt
  have h := run_make (P := Try.prog) u 22 3 i0 _ Try.underlying22 hi0 hz0 .i64 .i64 C C (by omega) (Int.le_refl _) (by rw [hz2]; omega) (by omega)
  rw [Int.toNat_natCast, hz1, Nat.mul_one] at h
  have e : madeCells (Value.int .i64 0).cells C = intsV (List.replicate C 0) := by
    apply Array.ext
    · simp [madeCells, intsV]
    · intro i h1 h2
      simp [madeCells, intsV, Value.cells, Nat.mod_one]
  rw [e] at h
  exact h
theorem made_next {w wr w1 : World} {C k g cap : Nat} {rs : List Nat} {vc : Value} (hM : Made w wr C k rs vc) (o2 : Obj)
    (hown : w1.ownsRow 0 22 1 (.slice (some ⟨g, 0, none⟩) (k + 1) cap) (k + 1) ((rs.map fun r => Value.slice (some ⟨r, 0, none⟩) C C) ++ [.slice (some ⟨wr.heap.size, 0, none⟩) C C]))
    (hgrow : ((wr.drew.alloc (.cells (intsV (List.replicate C 0)) 3)).alloc o2).grownBy w1 vc.ownBlock) (hat : vc.ownBlock = some g ∨ g = wr.heap.size + 2) :
    Made w (w1.setCell ⟨w.heap.size, 0, none⟩ (.slice (some ⟨g, 0, none⟩) (k + 1) cap)) C (k + 1) (rs ++ [wr.heap.size]) (.slice (some ⟨g, 0, none⟩) (k + 1) cap) := by
  have hal := blk_lt hM.hd
  have hsz : ((wr.drew.alloc (.cells (intsV (List.replicate C 0)) 3)).alloc o2).heap.size = wr.heap.size + 2 := by simp
  have hold : ∀ x, x < wr.heap.size → ((wr.drew.alloc (.cells (intsV (List.replicate C 0)) 3)).alloc o2).heap[x]? = wr.heap[x]? := fun x hx => (Below.heap_alloc _ _ _ (by simp; omega)).trans (Below.heap_alloc wr.drew _ _ hx)
  have hrow0 : ((wr.drew.alloc (.cells (intsV (List.replicate C 0)) 3)).alloc o2).heap[wr.heap.size]? = some (.cells (intsV (List.replicate C 0)) 3 (0, 0)) := (Below.heap_alloc _ _ _ (by simp)).trans (heap_alloc_new wr.drew _)
  have hva : vc.ownBlock ≠ some w.heap.size := fun e => by
    obtain ⟨c, hc⟩ := own_type hM.tb e
    exact absurd (blk_type hc hM.hd) (by decide)
  have hvl : ∀ x, vc.ownBlock = some x → x < wr.heap.size := fun x hx => (hM.tb.lt x hx).2
  have hga : g ≠ w.heap.size := by
    rcases hat with e | e
    · exact fun h => hva (h ▸ e)
    · omega
  have keep : ∀ x, x < wr.heap.size → x ≠ w.heap.size → vc.ownBlock ≠ some x → (w1.setCell ⟨w.heap.size, 0, none⟩ (.slice (some ⟨g, 0, none⟩) (k + 1) cap)).heap[x]? = wr.heap[x]? := fun x hx hxa hxv => (Below.heap_setCell _ _ _ _ hxa).trans ((hgrow.block x (by omega) (fun e => hxv e.symm)).trans (hold x hx))
  have h1a := (hgrow.block w.heap.size (by omega) (fun e => hva e.symm)).trans ((hold _ hal).trans hM.hd)
  refine ⟨?_, ?_, ?_, by simp [hM.rl], ?_, ?_, ?_, ?_⟩
  · rw [heap_setCell_same _ _ _ _ _ _ h1a]
    rfl
  · rw [List.map_append]
    exact ownsRow_setCell_other hown (by simp [Value.ownBlock]; exact hga) _
  · intro x hx
    simp only [Value.ownBlock, Option.some.injEq] at hx
    subst hx
    rcases hat with e | e
    · exact hM.nw _ e
    · omega
  · intro r hr
    rcases List.mem_append.1 hr with h | h
    · exact hM.rn r h
    · rw [List.mem_singleton.1 h]; omega
  · refine List.nodup_append.2 ⟨hM.nd, by simp, fun x hx y hy => ?_⟩
    rw [List.mem_singleton.1 hy]
    intro e
    have := blk_lt (hM.row x hx)
    omega
  · intro r hr
    rcases List.mem_append.1 hr with h | h
    · have hr1 := hM.row r h
      refine (keep r (blk_lt hr1) (fun e => ?_) (fun e => ?_)).trans hr1
      · rw [e] at hr1; exact absurd (blk_type hr1 hM.hd) (by decide)
      · obtain ⟨c, hc⟩ := own_type hM.tb e; exact absurd (blk_type hc hr1) (by decide)
    · rw [List.mem_singleton.1 h]
      exact (Below.heap_setCell _ _ _ _ (by simp only; omega)).trans ((hgrow.block _ (by omega) (fun e => by have := hvl _ e.symm; omega)).trans hrow0)
  · have hb1 := (((hM.be.drew.alloc hM.be.size (.cells (intsV (List.replicate C 0)) 3)).alloc (Nat.le_trans hM.be.size (by simp)) o2).grown hgrow (by rw [hsz]; exact Nat.le_trans hM.be.size (by omega)) (fun x hx => hM.nw x hx))
    exact hb1.setCell (Nat.le_refl _) _
theorem made_end {w wr : World} {C P : Nat} {rs : List Nat} {vc : Value} (hM : Made w wr C P rs vc) (h0 : 1 ≤ P) : ∃ T, NetX wr w.heap.size C T ⟨List.replicate P (List.replicate C 0), [], [], []⟩ ∧ (∀ k ∈ T, w.heap.size ≤ k) := by
  have htb := hM.tb
  rcases htb.2 with ⟨_, h⟩ | ⟨bc, kc, cur, rfl, _, hg, hnc, hcm, hcs, htake⟩
  · omega
  · refine ⟨_, ⟨bc, kc, cur, rs, .slice none 0 0, .slice none 0 0, .slice none 0 0, rfl, ?_, hg, by simpa using hnc, hcm, by simp [hM.rl], ?_, hM.nd, ?_, World.ownsRow_nil _ _ _ _, World.ownsRow_nil _ _ _ _, World.ownsRow_nil _ _ _ _⟩, ?_⟩
    · have := hM.hd
      simpa using this
    · intro p hp
      have h1 := own_at htb (j := p) (u := .slice (some ⟨rs[p], 0, none⟩) C C) (by simp [hp])
      rw [blk_cell hg p] at h1
      exact ⟨C, h1⟩
    · intro p hp hp'
      have := hM.row _ (List.getElem_mem hp)
      exact RowAt.of (by simpa using this)
    · intro x hx
      simp only [netL, List.mem_cons, List.mem_append] at hx
      rcases hx with rfl | rfl | hx | hx | hx | hx
      · exact Nat.le_refl _
      · exact hM.nw _ rfl
      · exact hM.rn _ hx
      all_goals simp [ownL, Value.ownBlock] at hx
def NewE (P C : Nat) (w : World) (e : Ending) (w' : World) : Prop := ∃ a T, e = .returned (.tuple #[.pointer (some ⟨a, 0, none⟩), .int .i64 0]) ∧ NetX w' a C T ⟨List.replicate P (List.replicate C 0), [], [], []⟩ ∧ (∀ k ∈ T, w.heap.size ≤ k) ∧ Below w.heap.size w w'

set_option maxHeartbeats 8000000 in
set_option maxRecDepth 100000 in
theorem new_at (P C : Nat) (w : World) (hP0 : 1 ≤ P) (hP : P ≤ 8) (hC0 : 1 ≤ C) (hC : C ≤ 64) : Calls Try.prog 7 #[.int .i64 P, .int .i64 C] w (NewE P C w) := by
  obtain ⟨i0, hi0, hz0, hz1, hz2⟩ := info_parts infoRow
  have p1 : ¬ ((P : Int) < 1) := by omega
  have p2 : ¬ ((8 : Int) < (P : Int)) := by omega
  have p3 : ¬ ((C : Int) < 1) := by omega
  have p4 : ¬ ((64 : Int) < (C : Int)) := by omega
  have q1 : (0 : Int) ≤ (C : Int) := by omega
  go_enter Try.func7, Try.ntmps7
  go_wp2_with fail
  go_loopw [24] (fun i wr => ∃ (k : Nat) (rs : List Nat) (vc : Value), k ≤ P ∧ i = .int .i64 k ∧ Made w wr C k rs vc) (fun i _ => P - (intOf i).toNat)
  case atStart => exact ⟨0, [], .slice none 0 0, Nat.zero_le _, rfl, ⟨heap_alloc_new w _, World.ownsRow_nil _ _ _ _, (fun g hg => by simp [Value.ownBlock] at hg), rfl, (fun r hr => by cases hr), List.nodup_nil, (fun r hr => by cases hr), (Below.refl _ _).alloc (Nat.le_refl _) _⟩⟩
  case round =>
    obtain ⟨k, rs, vc, hk, rfl, hM⟩ := hrel
    have c0 := blk_cell hM.hd 0
    have e0 := blk_free hM.hd 0
    simp only [List.getElem?_toArray, List.getElem?_cons_zero] at c0
    by_cases hlt : k < P
    · have hlt' : (k : Int) < (P : Int) := by omega
      have hmk := make_row C hC
      have lg := blk_lt hM.hd
      have ag : vc.ownBlock ≠ some w.heap.size := fun e => by
        obtain ⟨c, hc⟩ := own_type hM.tb e
        exact absurd (blk_type hc hM.hd) (by decide)
      have fz0 := fun o => cell_alloc (o := o) c0
      have fz1 := fun o o2 => cell_alloc (o := o2) (cell_alloc (w := wr.drew) (o := o) c0)
      have fz2 := fun o o2 => free_alloc (o := o2) (cell_alloc (w := wr.drew) (o := o) c0) (free_alloc (w := wr.drew) (o := o) c0 e0)
      have HM := Lib.hid hM
      clear hM
      go_wp2_with fail
      go_region_law
        ((refine step_append_lies _ (by rfl) _ _ _ (by rfl) 0 22 i0 _ 1 24 Try.underlying59 hi0 hz0 hz1 hz2 rfl (by omega) vc k (rs.map fun r => Value.slice (some ⟨r, 0, none⟩) C C) (by rfl) ((HM.out.tb.drew.alloc _).alloc _)
              ⟨wr.heap.size + 1, 0, none⟩ 1 1 [.slice (some ⟨wr.heap.size, 0, none⟩) C C] (by rfl) (by rfl) (World.news_of_block (cs := #[.slice (some ⟨wr.heap.size, 0, none⟩) C C]) (t := 22) (fr := (0, 0)) (news2 wr.drew _ _ _)) (by simp [Value.oneCell'])
              (by omega) (by unfold maxLen; omega) (by omega) (by simp) (wr.heap.size + 2) (by simp) ?_; intro gg cap' w1 hown1 hgrow hat hlt2; have hs1 := (hgrow.cell_far ⟨w.heap.size, 0, none⟩ (by simp; omega) (Ne.symm ag)).trans (fz1 _ _); have hs2 := (hgrow.frozen_far ⟨w.heap.size, 0, none⟩ (by simp; omega) (Ne.symm ag)).trans (fz2 _ _)))
      all_goals
        go_wp2_with fail
        exact ⟨⟨k + 1, rs ++ [wr.heap.size], _, by omega, by go_num, made_next HM.out _ hown1 hgrow hat⟩, by simp [intOf]; omega⟩
    · obtain rfl : k = P := by omega
      have HE := Lib.hid (made_end hM hP0)
      have HB := Lib.hid hM.be
      clear hM
      go_wp2_with fail
      go_ret2
      obtain ⟨T, h1, h2⟩ := HE.out
      exact ⟨_, T, rfl, h1, h2, HB.out⟩
end Go.Proofs.Ytimmmbjdaibplaa
