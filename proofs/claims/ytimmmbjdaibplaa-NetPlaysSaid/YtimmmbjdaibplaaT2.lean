/-
  Layer 17: the walk of the document's New.
-/
import Derived.Test.YtimmmbjdaibplaaT1
namespace Go.Proofs.Ytimmmbjdaibplaa
open Go.RowKit
open Nt
set_option linter.unusedVariables false
set_option linter.unusedSimpArgs false

theorem rnew_bad (P C : Int) (w : World) (h : P < 1 ∨ 8 < P ∨ C < 1 ∨ 64 < C) : Calls Try.prog 18 #[.int .i64 P, .int .i64 C] w (NewBad w) := by
  by_cases h1 : P < 1
  · go_enter Try.func18, Try.ntmps18
    go_wp2
    go_ret2
    exact ⟨rfl, rfl⟩
  by_cases h2 : 8 < P
  · go_enter Try.func18, Try.ntmps18
    go_wp2
    go_ret2
    exact ⟨rfl, rfl⟩
  by_cases h3 : C < 1
  · go_enter Try.func18, Try.ntmps18
    go_wp2
    go_ret2
    exact ⟨rfl, rfl⟩
  have h4 : 64 < C := by omega
  go_enter Try.func18, Try.ntmps18
  go_wp2
  go_ret2
  exact ⟨rfl, rfl⟩

/-- the document's net as far as it is made: k rows of counts -/
structure RMade (w wr : World) (P C k : Nat) (rs : List Nat) (vc : Value) : Prop where
  hd : wr.heap[w.heap.size + 1]? = some (.cells #[.int .i64 P, .int .i64 C, .slice (some ⟨w.heap.size, 0, none⟩) (P * C) (P * C), .slice none 0 0, .slice none 0 0, vc] 61 (0, 0))
  va : wr.heap[w.heap.size]? = some (.cells (intsV (List.replicate (P * C) 0)) 3 (0, 0))
  tb : wr.ownsRow 0 22 1 vc k (rs.map fun r => Value.slice (some ⟨r, 0, none⟩) 5 5)
  nw : ∀ g, vc.ownBlock = some g → w.heap.size + 2 ≤ g
  rl : rs.length = k
  rn : ∀ r ∈ rs, w.heap.size + 2 ≤ r
  nd : rs.Nodup
  row : ∀ r ∈ rs, wr.heap[r]? = some (.cells (intsV (List.replicate 5 0)) 3 (0, 0))
  be : Below w.heap.size w wr
theorem rmade_next {w wr w1 : World} {P C k g cap : Nat} {rs : List Nat} {vc : Value} (hM : RMade w wr P C k rs vc) (o2 : Obj)
    (hown : w1.ownsRow 0 22 1 (.slice (some ⟨g, 0, none⟩) (k + 1) cap) (k + 1) ((rs.map fun r => Value.slice (some ⟨r, 0, none⟩) 5 5) ++ [.slice (some ⟨wr.heap.size, 0, none⟩) 5 5]))
    (hgrow : ((wr.drew.alloc (.cells (intsV (List.replicate 5 0)) 3)).alloc o2).grownBy w1 vc.ownBlock) (hat : vc.ownBlock = some g ∨ g = wr.heap.size + 2) :
    RMade w (w1.setCell ⟨w.heap.size + 1, 5, none⟩ (.slice (some ⟨g, 0, none⟩) (k + 1) cap)) P C (k + 1) (rs ++ [wr.heap.size]) (.slice (some ⟨g, 0, none⟩) (k + 1) cap) := by
  have hal := blk_lt hM.hd
  have hsz : ((wr.drew.alloc (.cells (intsV (List.replicate 5 0)) 3)).alloc o2).heap.size = wr.heap.size + 2 := by simp
  have hold : ∀ x, x < wr.heap.size → ((wr.drew.alloc (.cells (intsV (List.replicate 5 0)) 3)).alloc o2).heap[x]? = wr.heap[x]? := fun x hx => (Below.heap_alloc _ _ _ (by simp; omega)).trans (Below.heap_alloc wr.drew _ _ hx)
  have hrow0 : ((wr.drew.alloc (.cells (intsV (List.replicate 5 0)) 3)).alloc o2).heap[wr.heap.size]? = some (.cells (intsV (List.replicate 5 0)) 3 (0, 0)) := (Below.heap_alloc _ _ _ (by simp)).trans (heap_alloc_new wr.drew _)
  have hva : vc.ownBlock ≠ some (w.heap.size + 1) := fun e => by
    obtain ⟨c, hc⟩ := own_type hM.tb e
    exact absurd (blk_type hc hM.hd) (by decide)
  have hvl : ∀ x, vc.ownBlock = some x → x < wr.heap.size := fun x hx => (hM.tb.lt x hx).2
  have hga : g ≠ w.heap.size + 1 := by
    rcases hat with e | e
    · exact fun h => hva (h ▸ e)
    · omega
  have keep : ∀ x, x < wr.heap.size → x ≠ w.heap.size + 1 → vc.ownBlock ≠ some x → (w1.setCell ⟨w.heap.size + 1, 5, none⟩ (.slice (some ⟨g, 0, none⟩) (k + 1) cap)).heap[x]? = wr.heap[x]? := fun x hx hxa hxv => (Below.heap_setCell _ _ _ _ hxa).trans ((hgrow.block x (by omega) (fun e => hxv e.symm)).trans (hold x hx))
  have h1a := (hgrow.block (w.heap.size + 1) (by omega) (fun e => hva e.symm)).trans ((hold _ hal).trans hM.hd)
  have hvv := blk_lt hM.va
  refine ⟨?_, ?_, ?_, ?_, by simp [hM.rl], ?_, ?_, ?_, ?_⟩
  · rw [heap_setCell_same _ _ _ _ _ _ h1a]
    rfl
  · refine (keep _ hvv (by omega) (fun e => ?_)).trans hM.va
    obtain ⟨c, hc⟩ := own_type hM.tb e
    exact absurd (blk_type hc hM.va) (by decide)
  · rw [List.map_append]
    exact ownsRow_setCell_other hown (by simp [Value.ownBlock]; exact hga) _
  · intro x hx
    simp only [Value.ownBlock, Option.some.injEq] at hx
    subst hx
    rcases hat with e | e
    · exact hM.nw _ e
    · omega
  · intro r hr
    rcases List.mem_append.1 hr with h | h
    · exact hM.rn r h
    · rw [List.mem_singleton.1 h]; omega
  · refine List.nodup_append.2 ⟨hM.nd, by simp, fun x hx y hy => ?_⟩
    rw [List.mem_singleton.1 hy]
    intro e
    have := blk_lt (hM.row x hx)
    omega
  · intro r hr
    rcases List.mem_append.1 hr with h | h
    · have hr1 := hM.row r h
      refine (keep r (blk_lt hr1) (fun e => ?_) (fun e => ?_)).trans hr1
      · rw [e] at hr1; exact absurd (blk_type hr1 hM.hd) (by decide)
      · obtain ⟨c, hc⟩ := own_type hM.tb e; exact absurd (blk_type hc hr1) (by decide)
    · rw [List.mem_singleton.1 h]
      exact (Below.heap_setCell _ _ _ _ (by simp only; omega)).trans ((hgrow.block _ (by omega) (fun e => by have := hvl _ e.symm; omega)).trans hrow0)
  · have hb1 := (((hM.be.drew.alloc hM.be.size (.cells (intsV (List.replicate 5 0)) 3)).alloc (Nat.le_trans hM.be.size (by simp)) o2).grown hgrow (by rw [hsz]; exact Nat.le_trans hM.be.size (by omega)) (fun x hx => Nat.le_trans (by omega) (hM.nw x hx)))
    exact hb1.setCell (p := ⟨w.heap.size + 1, 5, none⟩) (Nat.le_succ _) _
theorem cntRow_nil (P i : Nat) : cntRow P [] i = List.replicate 5 0 := rfl
theorem zero_flat (P C : Nat) : (List.replicate P (List.replicate C (0 : Int))).flatten = List.replicate (P * C) 0 := by simp
theorem intsV_list (l : List Int) : (intsV l).toList = intL l := by simp [intsV, intL]
theorem rmade_end {w wr : World} {C P : Nat} {rs : List Nat} {vc : Value} (hM : RMade w wr P C (P * P) rs vc) (hPC : P * C ≤ 512) (hPP : P * P ≤ 64) : ∃ T, RefX wr (w.heap.size + 1) P C T ⟨List.replicate P (List.replicate C 0), [], [], []⟩ ∧ (∀ k ∈ T, w.heap.size ≤ k) := by
  have own : ∀ {b n : Nat} {l : List Int}, wr.heap[b]? = some (.cells (intsV l) 3 (0, 0)) → l.length = n → n ≤ 512 → Loose wr 3 1 (.slice (some ⟨b, 0, none⟩) n n) n (intL l) := fun {b n l} hb hl hn =>
    ⟨by simp [intL, hl], .inr ⟨b, n, _, rfl, hb, Nat.le_refl _, by unfold maxLen; omega, by simp [intsV, hl], by rw [intsV_list]; exact List.take_of_length_le (by simp [intL, hl])⟩⟩
  refine ⟨_, ⟨_, .slice none 0 0, .slice none 0 0, vc, _, w.heap.size, rs, rfl, hM.hd, ?_, Loose.nil _ _ _, Loose.nil _ _ _, .of_own hM.tb, hM.rl, rfl, fun i hi => ⟨5, by simp [hi], ?_⟩, List.nodup_cons.2 ⟨fun hm => ?_, hM.nd⟩⟩, fun k hk => ?_⟩
  · show Loose _ _ _ _ _ (intL (List.replicate P (List.replicate C (0 : Int))).flatten)
    rw [zero_flat]
    exact own hM.va (by simp) hPC
  · show Loose _ _ _ _ _ (intL (cntRow P [] i))
    rw [cntRow_nil]
    exact own (hM.row _ (List.getElem_mem hi)) (by simp) (by omega)
  · have := hM.rn _ hm
    omega
  · simp only [refL, List.mem_cons, List.mem_append] at hk
    rcases hk with rfl | rfl | hk | hk | hk | hk
    · omega
    · exact Nat.le_refl _
    · have := hM.rn _ hk; omega
    · simp [ownL, Value.ownBlock] at hk
    · simp [ownL, Value.ownBlock] at hk
    · have := hM.nw _ (ownL_mem hk); omega
theorem make_rowN (n : Nat) (hn : n ≤ 512) (u : World) : (Instr.makeSlice 22 (.int .i64 n) (.int .i64 n)).run Try.prog u = .ok (.slice (some ⟨u.heap.size, 0, none⟩) n n) (u.alloc (.cells (intsV (List.replicate n 0)) 3)) := by
  obtain ⟨i0, hi0, hz0, hz1, hz2⟩ := info_parts infoInt
  have h := run_make (P := Try.prog) u 22 3 i0 _ Try.underlying22 hi0 hz0 .i64 .i64 n n (by omega) (Int.le_refl _) (by rw [hz2]; omega) (by omega)
  rw [Int.toNat_natCast, hz1, Nat.mul_one] at h
  have e : madeCells (Value.int .i64 0).cells n = intsV (List.replicate n 0) := by
    apply Array.ext
    · simp [madeCells, intsV]
    · intro i h1 h2
      simp [madeCells, intsV, Value.cells, Nat.mod_one]
  rw [e] at h
  exact h
def RNewE (P C : Nat) (w : World) (e : Ending) (w' : World) : Prop := ∃ a T, e = .returned (.tuple #[.pointer (some ⟨a, 0, none⟩), .int .i64 0]) ∧ RefX w' a P C T ⟨List.replicate P (List.replicate C 0), [], [], []⟩ ∧ (∀ k ∈ T, w.heap.size ≤ k) ∧ Below w.heap.size w w'

set_option maxHeartbeats 8000000 in
set_option maxRecDepth 100000 in
theorem rnew_at (P C : Nat) (w : World) (hP0 : 1 ≤ P) (hP : P ≤ 8) (hC0 : 1 ≤ C) (hC : C ≤ 64) : Calls Try.prog 18 #[.int .i64 P, .int .i64 C] w (RNewE P C w) := by
  obtain ⟨i0, hi0, hz0, hz1, hz2⟩ := info_parts infoRow
  have p1 : ¬ ((P : Int) < 1) := by omega
  have p2 : ¬ ((8 : Int) < (P : Int)) := by omega
  have p3 : ¬ ((C : Int) < 1) := by omega
  have p4 : ¬ ((64 : Int) < (C : Int)) := by omega
  have q1 : (0 : Int) ≤ (C : Int) := by omega
  have q2 : (C : Int) ≤ 64 := by omega
  have q3 : (0 : Int) ≤ (P : Int) := by omega
  have q4 : (P : Int) ≤ 8 := by omega
  have hPC : P * C ≤ 512 := Nat.mul_le_mul hP hC
  have hPP : P * P ≤ 64 := Nat.mul_le_mul hP hP
  obtain ⟨n, hn⟩ : ∃ n : Nat, P * C = n := ⟨_, rfl⟩
  obtain ⟨q, hq⟩ : ∃ n : Nat, P * P = n := ⟨_, rfl⟩
  have en : (P : Int) * (C : Int) = (n : Int) := by rw [← hn]; simp
  have eq : (P : Int) * (P : Int) = (q : Int) := by rw [← hq]; simp
  have hn5 : n ≤ 512 := by omega
  have hq5 : q ≤ 64 := by omega
  have n0 : (0 : Int) ≤ (n : Int) := by omega
  have n1 : (n : Int) ≤ 512 := by omega
  have q5 : (q : Int) ≤ 64 := by omega
  have hmn := make_rowN n hn5
  have HN := Lib.hid hn
  have HQ := Lib.hid hq
  have HPC := Lib.hid hPC
  have HPP := Lib.hid hPP
  have h0 : Hid (RMade w ((w.alloc (.cells (intsV (List.replicate n 0)) 3)).alloc (.cells #[.int .i64 P, .int .i64 C, .slice (some ⟨w.heap.size, 0, none⟩) n n, .slice none 0 0, .slice none 0 0, .slice none 0 0] 61)) P C 0 [] (.slice none 0 0)) := by
    subst hn
    refine ⟨?_, (Below.heap_alloc _ _ _ (by simp)).trans (heap_alloc_new w _), World.ownsRow_nil _ _ _ _, (fun g hg => by simp [Value.ownBlock] at hg), rfl, (fun r hr => by cases hr), List.nodup_nil, (fun r hr => by cases hr), ((Below.refl _ _).alloc (Nat.le_refl _) _).alloc (by simp) _⟩
    have := heap_alloc_new (w.alloc (.cells (intsV (List.replicate (P * C) 0)) 3)) (.cells #[.int .i64 P, .int .i64 C, .slice (some ⟨w.heap.size, 0, none⟩) (P * C) (P * C), .slice none 0 0, .slice none 0 0, .slice none 0 0] 61)
    rw [World.size_alloc] at this
    exact this
  clear hn hq hPC hPP hC hC0
  go_enter Try.func18, Try.ntmps18
  go_wp2_with fail
  go_loopw [7] (fun i wr => ∃ (k : Nat) (rs : List Nat) (vc : Value), k ≤ q ∧ i = .int .i64 k ∧ RMade w wr P C k rs vc) (fun i _ => q - (intOf i).toNat)
  case atStart => exact ⟨0, [], .slice none 0 0, Nat.zero_le _, rfl, h0.out⟩
  case round =>
    obtain ⟨k, rs, vc, hk, rfl, hM⟩ := hrel
    clear h0
    have c0 := blk_cell hM.hd 5
    have e0 := blk_free hM.hd 5
    simp only [List.getElem?_toArray, List.getElem?_cons_zero, List.getElem?_cons_succ] at c0
    by_cases hlt : k < q
    · have hlt' : (k : Int) < (q : Int) := by omega
      have hmk := make_rowN 5 (by omega)
      simp only [Int.ofNat_eq_natCast, Int.cast_ofNat_Int] at hmk
      have lg := blk_lt hM.hd
      have ag : vc.ownBlock ≠ some (w.heap.size + 1) := fun e => by
        obtain ⟨c, hc⟩ := own_type hM.tb e
        exact absurd (blk_type hc hM.hd) (by decide)
      have fz0 := fun o => cell_alloc (o := o) c0
      have fy1 := fun o o2 => cell_alloc (o := o2) (cell_alloc (w := wr) (o := o) c0)
      have fz1 := fun o o2 => cell_alloc (o := o2) (cell_alloc (w := wr.drew) (o := o) c0)
      have fz2 := fun o o2 => free_alloc (o := o2) (cell_alloc (w := wr.drew) (o := o) c0) (free_alloc (w := wr.drew) (o := o) c0 e0)
      have HM := Lib.hid hM
      clear hM
      go_wp2_with fail
      go_region_law
        ((refine step_append_lies _ (by rfl) _ _ _ (by rfl) 0 22 i0 _ 1 24 Try.underlying59 hi0 hz0 hz1 hz2 rfl (by omega) vc k (rs.map fun r => Value.slice (some ⟨r, 0, none⟩) 5 5) (by rfl) ((HM.out.tb.drew.alloc _).alloc _)
              ⟨wr.heap.size + 1, 0, none⟩ 1 1 [.slice (some ⟨wr.heap.size, 0, none⟩) 5 5] (by rfl) (by rfl) (World.news_of_block (cs := #[.slice (some ⟨wr.heap.size, 0, none⟩) 5 5]) (t := 22) (fr := (0, 0)) (news2 wr.drew _ _ _)) (by simp [Value.oneCell'])
              (by omega) (by unfold maxLen; omega) (by omega) (by simp) (wr.heap.size + 2) (by simp) ?_; intro gg cap' w1 hown1 hgrow hat hlt2; have hs1 := (hgrow.cell_far ⟨w.heap.size + 1, 5, none⟩ (by simp; omega) (Ne.symm ag)).trans (fz1 _ _); have hs2 := (hgrow.frozen_far ⟨w.heap.size + 1, 5, none⟩ (by simp; omega) (Ne.symm ag)).trans (fz2 _ _)))
      all_goals
        go_wp2_with fail
        exact ⟨⟨k + 1, rs ++ [wr.heap.size], _, by omega, by go_num, rmade_next HM.out _ hown1 hgrow hat⟩, by simp [intOf]; omega⟩
    · obtain rfl : k = q := by omega
      have hlt' : ¬ ((k : Int) < (k : Int)) := by omega
      have HE := Lib.hid (rmade_end (by rw [HQ.out]; exact hM) HPC.out HPP.out)
      have HB := Lib.hid hM.be
      clear hM
      go_wp2_with fail
      go_ret2
      obtain ⟨T, h1, h2⟩ := HE.out
      exact ⟨_, T, rfl, h1, h2, HB.out⟩
end Go.Proofs.Ytimmmbjdaibplaa
