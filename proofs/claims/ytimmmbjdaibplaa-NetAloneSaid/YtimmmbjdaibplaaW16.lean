/-
  Layer 16: the walk of NetAlone.
-/
import Derived.Test.YtimmmbjdaibplaaW15
namespace Go.Proofs.Ytimmmbjdaibplaa
open Go.RowKit
open Nt
set_option linter.unusedVariables false
set_option linter.unusedSimpArgs false

set_option maxHeartbeats 32000000 in
set_option maxRecDepth 100000 in
theorem alone_walk (d f t c v k : Int) (w : World) : Calls Try.prog 6 #[.agg #[.int .u8 d, .int .i64 f, .int .i64 t, .int .i64 c, .int .i64 v, .int .i64 k]] w fun e w' => e = .returned (.bool true) ∧ Below w.heap.size w w' := by
  obtain ⟨w0, hw0⟩ : ∃ x, ((w.alloc (.cells #[.int .u8 d, .int .i64 f, .int .i64 t, .int .i64 c, .int .i64 v, .int .i64 k] 41)).alloc (.cells #[.slice none 0 0, .slice none 0 0, .slice none 0 0, .slice none 0 0] 67)).alloc (.cells #[.pointer none, .pointer (some ⟨w.heap.size + 1, 0, none⟩)] 25) = x := ⟨_, rfl⟩
  have hb0 : Below w.heap.size w w0 := by rw [← hw0]; exact (((Below.refl _ _).alloc (Nat.le_refl _) _).alloc (by simp) _).alloc (by simp; omega) _
  have hbx : w0.heap[w.heap.size]? = some (.cells #[.int .u8 d, .int .i64 f, .int .i64 t, .int .i64 c, .int .i64 v, .int .i64 k] 41 (0, 0)) := by rw [← hw0]; exact (Below.heap_alloc _ _ _ (by simp; omega)).trans ((Below.heap_alloc _ _ _ (by simp)).trans (heap_alloc_new w _))
  have hzn : w0.heap[w.heap.size + 1]? = some (.cells #[.slice none 0 0, .slice none 0 0, .slice none 0 0, .slice none 0 0] 67 (0, 0)) := by rw [← hw0]; exact (Below.heap_alloc _ _ _ (by simp)).trans (news2 w _ _ _)
  have hsl : w0.heap[w.heap.size + 2]? = some (.cells #[.pointer none, .pointer (some ⟨w.heap.size + 1, 0, none⟩)] 25 (0, 0)) := by
    rw [← hw0]
    have h := heap_alloc_new ((w.alloc (.cells #[.int .u8 d, .int .i64 f, .int .i64 t, .int .i64 c, .int .i64 v, .int .i64 k] 41)).alloc (.cells #[.slice none 0 0, .slice none 0 0, .slice none 0 0, .slice none 0 0] 67)) (.cells #[.pointer none, .pointer (some ⟨w.heap.size + 1, 0, none⟩)] 25)
    simpa using h
  have HB0 := Lib.hid hb0
  have HBX := Lib.hid hbx
  have HSL := Lib.hid hsl
  have N0 := Lib.hid (non_nil w0)
  have N1 := Lib.hid (non_zero w0 (w.heap.size + 1) (blk_cell hzn 0))
  have KA := fun u => Lib.hid (awake_at u)
  clear hb0 hbx hzn hsl
  go_enter Try.func6, Try.ntmps6
  go_wp2_with fail
  go_loopw [30] (fun x wr => ∃ j : Nat, j ≤ 2 ∧ x = .int .i64 j ∧ Below w0.heap.size w0 wr) (fun x _ => 2 - (intOf x).toNat)
  case atStart => exact ⟨0, Nat.zero_le _, rfl, Below.refl _ _⟩
  case round =>
    obtain ⟨j, hj, rfl, hb⟩ := hrel
    by_cases hlt : j < 2
    · obtain ⟨pv, hpv, hN⟩ : ∃ pv, wr.cell? ⟨w.heap.size + 2, j, none⟩ = some pv ∧ Non w0 pv := by
        have hj2 : j = 0 ∨ j = 1 := by omega
        rcases hj2 with rfl | rfl
        · exact ⟨_, (hb.cell (p := ⟨w.heap.size + 2, 0, none⟩) (blk_lt HSL.out)).trans (blk_cell HSL.out 0), N0.out⟩
        · exact ⟨_, (hb.cell (p := ⟨w.heap.size + 2, 1, none⟩) (blk_lt HSL.out)).trans (blk_cell HSL.out 1), N1.out⟩
      have HN := Lib.hid hN
      have HB := Lib.hid hb
      have CB := Lib.hid (fun (u : World) (hu : Below w0.heap.size w0 u) (i : Nat) => (hu.cell (p := ⟨w.heap.size, i, none⟩) (blk_lt HBX.out)).trans (blk_cell HBX.out i))
      have hj0 : (0 : Int) ≤ (j : Int) := by omega
      have hj1 : (j : Int) < 2 := by omega
      clear hN hb
      have hu0 := HB.out
      clear hu0
      have d1 := CB.out _ HB.out 1
      have d2 := CB.out _ HB.out 2
      have d3 := CB.out _ HB.out 3
      have d4 := CB.out _ HB.out 4
      have d5 := CB.out _ HB.out 5
      simp only [List.getElem?_toArray, List.getElem?_cons_zero, List.getElem?_cons_succ] at d1
      simp only [List.getElem?_toArray, List.getElem?_cons_zero, List.getElem?_cons_succ] at d2
      simp only [List.getElem?_toArray, List.getElem?_cons_zero, List.getElem?_cons_succ] at d3
      simp only [List.getElem?_toArray, List.getElem?_cons_zero, List.getElem?_cons_succ] at d4
      simp only [List.getElem?_toArray, List.getElem?_cons_zero, List.getElem?_cons_succ] at d5
      go_wp2_with fail
      refine (put_none pv f t c v _ (HN.out.on HB.out)).mono ?_
      rintro e u900 ⟨rfl, hb0⟩
      have HB' := Lib.hid (HB.out.trans (hb0.mono HB.out.size))
      clear HB hb0 d1 d2 d3 d4 d5
      have HB := HB'
      clear HB'
      have d1 := CB.out _ HB.out 1
      have d2 := CB.out _ HB.out 2
      have d3 := CB.out _ HB.out 3
      have d4 := CB.out _ HB.out 4
      have d5 := CB.out _ HB.out 5
      simp only [List.getElem?_toArray, List.getElem?_cons_zero, List.getElem?_cons_succ] at d1
      simp only [List.getElem?_toArray, List.getElem?_cons_zero, List.getElem?_cons_succ] at d2
      simp only [List.getElem?_toArray, List.getElem?_cons_zero, List.getElem?_cons_succ] at d3
      simp only [List.getElem?_toArray, List.getElem?_cons_zero, List.getElem?_cons_succ] at d4
      simp only [List.getElem?_toArray, List.getElem?_cons_zero, List.getElem?_cons_succ] at d5
      go_wp2_with fail
      refine (get_none pv f t c _ (HN.out.on HB.out)).mono ?_
      rintro e u901 ⟨rfl, hb1⟩
      have HB' := Lib.hid (HB.out.trans (hb1.mono HB.out.size))
      clear HB hb1 d1 d2 d3 d4 d5
      have HB := HB'
      clear HB'
      have d1 := CB.out _ HB.out 1
      have d2 := CB.out _ HB.out 2
      have d3 := CB.out _ HB.out 3
      have d4 := CB.out _ HB.out 4
      have d5 := CB.out _ HB.out 5
      simp only [List.getElem?_toArray, List.getElem?_cons_zero, List.getElem?_cons_succ] at d1
      simp only [List.getElem?_toArray, List.getElem?_cons_zero, List.getElem?_cons_succ] at d2
      simp only [List.getElem?_toArray, List.getElem?_cons_zero, List.getElem?_cons_succ] at d3
      simp only [List.getElem?_toArray, List.getElem?_cons_zero, List.getElem?_cons_succ] at d4
      simp only [List.getElem?_toArray, List.getElem?_cons_zero, List.getElem?_cons_succ] at d5
      go_wp2_with fail
      refine (add_none pv f t c v _ (HN.out.on HB.out)).mono ?_
      rintro e u902 ⟨rfl, hb2⟩
      have HB' := Lib.hid (HB.out.trans (hb2.mono HB.out.size))
      clear HB hb2 d1 d2 d3 d4 d5
      have HB := HB'
      clear HB'
      have d1 := CB.out _ HB.out 1
      have d2 := CB.out _ HB.out 2
      have d3 := CB.out _ HB.out 3
      have d4 := CB.out _ HB.out 4
      have d5 := CB.out _ HB.out 5
      simp only [List.getElem?_toArray, List.getElem?_cons_zero, List.getElem?_cons_succ] at d1
      simp only [List.getElem?_toArray, List.getElem?_cons_zero, List.getElem?_cons_succ] at d2
      simp only [List.getElem?_toArray, List.getElem?_cons_zero, List.getElem?_cons_succ] at d3
      simp only [List.getElem?_toArray, List.getElem?_cons_zero, List.getElem?_cons_succ] at d4
      simp only [List.getElem?_toArray, List.getElem?_cons_zero, List.getElem?_cons_succ] at d5
      go_wp2_with fail
      refine (drain_none pv _ (HN.out.on HB.out)).mono ?_
      rintro e u903 ⟨rfl, hb3⟩
      have HB' := Lib.hid (HB.out.trans (hb3.mono HB.out.size))
      clear HB hb3 d1 d2 d3 d4 d5
      have HB := HB'
      clear HB'
      have d1 := CB.out _ HB.out 1
      have d2 := CB.out _ HB.out 2
      have d3 := CB.out _ HB.out 3
      have d4 := CB.out _ HB.out 4
      have d5 := CB.out _ HB.out 5
      simp only [List.getElem?_toArray, List.getElem?_cons_zero, List.getElem?_cons_succ] at d1
      simp only [List.getElem?_toArray, List.getElem?_cons_zero, List.getElem?_cons_succ] at d2
      simp only [List.getElem?_toArray, List.getElem?_cons_zero, List.getElem?_cons_succ] at d3
      simp only [List.getElem?_toArray, List.getElem?_cons_zero, List.getElem?_cons_succ] at d4
      simp only [List.getElem?_toArray, List.getElem?_cons_zero, List.getElem?_cons_succ] at d5
      go_wp2_with fail
      refine (done_none pv k _ (HN.out.on HB.out)).mono ?_
      rintro e u904 ⟨rfl, hb4⟩
      have HB' := Lib.hid (HB.out.trans (hb4.mono HB.out.size))
      clear HB hb4 d1 d2 d3 d4 d5
      have HB := HB'
      clear HB'
      have d1 := CB.out _ HB.out 1
      have d2 := CB.out _ HB.out 2
      have d3 := CB.out _ HB.out 3
      have d4 := CB.out _ HB.out 4
      have d5 := CB.out _ HB.out 5
      simp only [List.getElem?_toArray, List.getElem?_cons_zero, List.getElem?_cons_succ] at d1
      simp only [List.getElem?_toArray, List.getElem?_cons_zero, List.getElem?_cons_succ] at d2
      simp only [List.getElem?_toArray, List.getElem?_cons_zero, List.getElem?_cons_succ] at d3
      simp only [List.getElem?_toArray, List.getElem?_cons_zero, List.getElem?_cons_succ] at d4
      simp only [List.getElem?_toArray, List.getElem?_cons_zero, List.getElem?_cons_succ] at d5
      go_wp2_with fail
      refine (value_none pv k _ (HN.out.on HB.out)).mono ?_
      rintro e u905 ⟨rfl, hb5⟩
      have HB' := Lib.hid (HB.out.trans (hb5.mono HB.out.size))
      clear HB hb5 d1 d2 d3 d4 d5
      have HB := HB'
      clear HB'
      have d1 := CB.out _ HB.out 1
      have d2 := CB.out _ HB.out 2
      have d3 := CB.out _ HB.out 3
      have d4 := CB.out _ HB.out 4
      have d5 := CB.out _ HB.out 5
      simp only [List.getElem?_toArray, List.getElem?_cons_zero, List.getElem?_cons_succ] at d1
      simp only [List.getElem?_toArray, List.getElem?_cons_zero, List.getElem?_cons_succ] at d2
      simp only [List.getElem?_toArray, List.getElem?_cons_zero, List.getElem?_cons_succ] at d3
      simp only [List.getElem?_toArray, List.getElem?_cons_zero, List.getElem?_cons_succ] at d4
      simp only [List.getElem?_toArray, List.getElem?_cons_zero, List.getElem?_cons_succ] at d5
      go_wp2_with fail
      refine (open_none pv f _ (HN.out.on HB.out)).mono ?_
      rintro e u906 ⟨rfl, hb6⟩
      have HB' := Lib.hid (HB.out.trans (hb6.mono HB.out.size))
      clear HB hb6 d1 d2 d3 d4 d5
      have HB := HB'
      clear HB'
      have d1 := CB.out _ HB.out 1
      have d2 := CB.out _ HB.out 2
      have d3 := CB.out _ HB.out 3
      have d4 := CB.out _ HB.out 4
      have d5 := CB.out _ HB.out 5
      simp only [List.getElem?_toArray, List.getElem?_cons_zero, List.getElem?_cons_succ] at d1
      simp only [List.getElem?_toArray, List.getElem?_cons_zero, List.getElem?_cons_succ] at d2
      simp only [List.getElem?_toArray, List.getElem?_cons_zero, List.getElem?_cons_succ] at d3
      simp only [List.getElem?_toArray, List.getElem?_cons_zero, List.getElem?_cons_succ] at d4
      simp only [List.getElem?_toArray, List.getElem?_cons_zero, List.getElem?_cons_succ] at d5
      go_wp2_with fail
      refine (cell_none pv f c _ (HN.out.on HB.out)).mono ?_
      rintro e u907 ⟨rfl, hb7⟩
      have HB' := Lib.hid (HB.out.trans (hb7.mono HB.out.size))
      clear HB hb7 d1 d2 d3 d4 d5
      have HB := HB'
      clear HB'
      have d1 := CB.out _ HB.out 1
      have d2 := CB.out _ HB.out 2
      have d3 := CB.out _ HB.out 3
      have d4 := CB.out _ HB.out 4
      have d5 := CB.out _ HB.out 5
      simp only [List.getElem?_toArray, List.getElem?_cons_zero, List.getElem?_cons_succ] at d1
      simp only [List.getElem?_toArray, List.getElem?_cons_zero, List.getElem?_cons_succ] at d2
      simp only [List.getElem?_toArray, List.getElem?_cons_zero, List.getElem?_cons_succ] at d3
      simp only [List.getElem?_toArray, List.getElem?_cons_zero, List.getElem?_cons_succ] at d4
      simp only [List.getElem?_toArray, List.getElem?_cons_zero, List.getElem?_cons_succ] at d5
      go_wp2_with fail
      refine (deliver_none pv k _ (HN.out.on HB.out)).mono ?_
      rintro e u908 ⟨rfl, hb8⟩
      have HB' := Lib.hid (HB.out.trans (hb8.mono HB.out.size))
      clear HB hb8 d1 d2 d3 d4 d5
      have HB := HB'
      clear HB'
      have d1 := CB.out _ HB.out 1
      have d2 := CB.out _ HB.out 2
      have d3 := CB.out _ HB.out 3
      have d4 := CB.out _ HB.out 4
      have d5 := CB.out _ HB.out 5
      simp only [List.getElem?_toArray, List.getElem?_cons_zero, List.getElem?_cons_succ] at d1
      simp only [List.getElem?_toArray, List.getElem?_cons_zero, List.getElem?_cons_succ] at d2
      simp only [List.getElem?_toArray, List.getElem?_cons_zero, List.getElem?_cons_succ] at d3
      simp only [List.getElem?_toArray, List.getElem?_cons_zero, List.getElem?_cons_succ] at d4
      simp only [List.getElem?_toArray, List.getElem?_cons_zero, List.getElem?_cons_succ] at d5
      go_wp2_with fail
      refine (flying_none pv _ (HN.out.on HB.out)).mono ?_
      rintro e u909 ⟨rfl, hb9⟩
      have HB' := Lib.hid (HB.out.trans (hb9.mono HB.out.size))
      clear HB hb9 d1 d2 d3 d4 d5
      have HB := HB'
      clear HB'
      have d1 := CB.out _ HB.out 1
      have d2 := CB.out _ HB.out 2
      have d3 := CB.out _ HB.out 3
      have d4 := CB.out _ HB.out 4
      have d5 := CB.out _ HB.out 5
      simp only [List.getElem?_toArray, List.getElem?_cons_zero, List.getElem?_cons_succ] at d1
      simp only [List.getElem?_toArray, List.getElem?_cons_zero, List.getElem?_cons_succ] at d2
      simp only [List.getElem?_toArray, List.getElem?_cons_zero, List.getElem?_cons_succ] at d3
      simp only [List.getElem?_toArray, List.getElem?_cons_zero, List.getElem?_cons_succ] at d4
      simp only [List.getElem?_toArray, List.getElem?_cons_zero, List.getElem?_cons_succ] at d5
      go_wp2_with fail
      refine (sent_none pv _ (HN.out.on HB.out)).mono ?_
      rintro e u910 ⟨rfl, hb10⟩
      have HB' := Lib.hid (HB.out.trans (hb10.mono HB.out.size))
      clear HB hb10 d1 d2 d3 d4 d5
      have HB := HB'
      clear HB'
      have d1 := CB.out _ HB.out 1
      have d2 := CB.out _ HB.out 2
      have d3 := CB.out _ HB.out 3
      have d4 := CB.out _ HB.out 4
      have d5 := CB.out _ HB.out 5
      simp only [List.getElem?_toArray, List.getElem?_cons_zero, List.getElem?_cons_succ] at d1
      simp only [List.getElem?_toArray, List.getElem?_cons_zero, List.getElem?_cons_succ] at d2
      simp only [List.getElem?_toArray, List.getElem?_cons_zero, List.getElem?_cons_succ] at d3
      simp only [List.getElem?_toArray, List.getElem?_cons_zero, List.getElem?_cons_succ] at d4
      simp only [List.getElem?_toArray, List.getElem?_cons_zero, List.getElem?_cons_succ] at d5
      go_wp2_with fail
      refine (copy_none pv _ (HN.out.on HB.out)).mono ?_
      rintro e u911 ⟨rfl, hb11⟩
      have HB' := Lib.hid (HB.out.trans (hb11.mono HB.out.size))
      clear HB hb11 d1 d2 d3 d4 d5
      have HB := HB'
      clear HB'
      have d1 := CB.out _ HB.out 1
      have d2 := CB.out _ HB.out 2
      have d3 := CB.out _ HB.out 3
      have d4 := CB.out _ HB.out 4
      have d5 := CB.out _ HB.out 5
      simp only [List.getElem?_toArray, List.getElem?_cons_zero, List.getElem?_cons_succ] at d1
      simp only [List.getElem?_toArray, List.getElem?_cons_zero, List.getElem?_cons_succ] at d2
      simp only [List.getElem?_toArray, List.getElem?_cons_zero, List.getElem?_cons_succ] at d3
      simp only [List.getElem?_toArray, List.getElem?_cons_zero, List.getElem?_cons_succ] at d4
      simp only [List.getElem?_toArray, List.getElem?_cons_zero, List.getElem?_cons_succ] at d5
      go_wp2_with fail
      refine (same_nn pv (.pointer none) _ (HN.out.on HB.out) (N0.out.on HB.out)).mono ?_
      rintro e u99 ⟨rfl, rfl⟩
      go_wp2_with fail
      refine (same_nn (.pointer none) pv _ (N0.out.on HB.out) (HN.out.on HB.out)).mono ?_
      rintro e u99 ⟨rfl, rfl⟩
      go_wp2_with fail
      exact ⟨⟨j + 1, by omega, by go_num, HB.out⟩, by simp [intOf]; omega⟩
    · have HB := Lib.hid hb
      have HBW := Lib.hid (HB0.out.trans (hb.mono HB0.out.size))
      have d1 : wr.cell? ⟨w.heap.size, 1, none⟩ = some (.int .i64 f) := (hb.cell (p := ⟨w.heap.size, 1, none⟩) (blk_lt HBX.out)).trans (blk_cell HBX.out 1)
      have d2 : wr.cell? ⟨w.heap.size, 2, none⟩ = some (.int .i64 t) := (hb.cell (p := ⟨w.heap.size, 2, none⟩) (blk_lt HBX.out)).trans (blk_cell HBX.out 2)
      obtain rfl : j = 2 := by omega
      clear hb hj hlt
      by_cases hbad : f < 1 ∨ 8 < f ∨ t < 1 ∨ 64 < t
      · have KN := fun u => Lib.hid (new_bad f t u hbad)
        unfold NewBad at KN
        clear hbad
        go_wp2_with fail
        refine (KN _).out.mono ?_
        rintro e w1 ⟨rfl, rfl⟩
        go_wp2_with fail
        refine (KA _).out.mono ?_
        rintro e w2 ⟨rfl, hb2⟩
        have HEND := Lib.hid (HBW.out.trans (hb2.mono HBW.out.size))
        clear hb2
        go_wp2_with fail
        go_ret
        exact ⟨rfl, HEND.out⟩
      · obtain ⟨P, hP⟩ : ∃ P : Nat, f = P := ⟨f.toNat, by omega⟩
        obtain ⟨C, hC⟩ : ∃ C : Nat, t = C := ⟨t.toNat, by omega⟩
        have hP1 : 1 ≤ P := by omega
        have hP8 : P ≤ 8 := by omega
        have KN := fun u => Lib.hid (new_at P C u hP1 hP8 (by omega) (by omega))
        rw [← hP, ← hC] at KN
        unfold NewE at KN
        clear hbad hP hC
        go_wp2_with fail
        refine (KN _).out.mono ?_
        rintro e w1 ⟨a, T, rfl, hx, hT, hb1⟩
        have HY := Lib.hid (yes_of hx (by simp; omega) (by simp; omega))
        have HN := Lib.hid (N0.out.on (HB.out.trans (hb1.mono HB.out.size)))
        have HB1 := Lib.hid (HBW.out.trans (hb1.mono HBW.out.size))
        clear hx hT hb1 KN
        go_wp2_with fail
        refine (same_yn _ _ _ HY.out HN.out).mono ?_
        rintro e w2 ⟨rfl, rfl⟩
        go_wp2_with fail
        refine (same_ny _ _ _ HN.out HY.out).mono ?_
        rintro e w2 ⟨rfl, rfl⟩
        go_wp2_with fail
        refine (KA _).out.mono ?_
        rintro e w2 ⟨rfl, hb2⟩
        have HEND := Lib.hid (HB1.out.trans (hb2.mono HB1.out.size))
        clear hb2
        go_wp2_with fail
        go_ret
        exact ⟨rfl, HEND.out⟩
end Go.Proofs.Ytimmmbjdaibplaa
