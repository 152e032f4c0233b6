/-
  Layer 16: what the methods answer of nets that are none.
-/
import Derived.Test.YtimmmbjdaibplaaW12
namespace Go.Proofs.Ytimmmbjdaibplaa
open Go.RowKit
open Nt
set_option linter.unusedVariables false
set_option linter.unusedSimpArgs false

/-- a net that is none, in every later world -/
def Non (w : World) (v : Value) : Prop := ∀ u, Below w.heap.size w u → Calls Try.prog 32 #[v] u fun e w' => e = .returned (.bool true) ∧ u = w'
theorem Non.on {w u : World} {v : Value} (h : Non w v) (hb : Below w.heap.size w u) : Non u v := fun u' hb' => h u' (hb.trans (hb'.mono hb.size))
theorem non_nil (w : World) : Non w (.pointer none) := fun u _ => none_nil u
theorem non_zero (w : World) (a : Nat) (h : w.cell? ⟨a, 0, none⟩ = some (.slice none 0 0)) : Non w (.pointer (some ⟨a, 0, none⟩)) := fun u hb => none_zero a u ((hb.cell (World.block_lt_of_cell? w _ h)).trans h)
set_option maxHeartbeats 4000000 in
theorem request_none (v : Value) (f p k c z : Int) (w : World) (h : Non w v) : Calls Try.prog 31 #[v, .agg #[.int .i64 f, .int .i64 p, .int .i64 k, .int .i64 c, .int .i64 z, .int .i64 0]] w fun e w' => e = .returned (.tuple #[.int .i64 0, .int .i64 6]) ∧ Below w.heap.size w w' := by
  have K := Lib.hid (h _ ((Below.refl _ w).alloc (Nat.le_refl _) (.cells #[.int .i64 f, .int .i64 p, .int .i64 k, .int .i64 c, .int .i64 z, .int .i64 0] 74)))
  have K0 := Lib.hid (h w (Below.refl _ _))
  clear h
  go_enter Try.func31, Try.ntmps31
  go_wp2_with fail
  refine K.out.mono ?_
  rintro e w1 ⟨rfl, rfl⟩
  clear K K0
  go_wp2_with fail
  go_ret2
  exact ⟨rfl, (Below.refl _ _).alloc (Nat.le_refl _) _⟩
set_option maxHeartbeats 4000000 in
theorem put_none (v : Value) (f p c z : Int) (w : World) (h : Non w v) : Calls Try.prog 28 #[v, .int .i64 f, .int .i64 p, .int .i64 c, .int .i64 z] w fun e w' => e = .returned (.tuple #[.int .i64 0, .int .i64 6]) ∧ Below w.heap.size w w' := by
  have K := Lib.hid (request_none v f p 1 c z w h)
  clear h
  go_enter Try.func28, Try.ntmps28
  go_wp2_with fail
  refine K.out.mono ?_
  rintro e w1 ⟨rfl, hb⟩
  have HB := Lib.hid hb
  clear K hb
  go_wp2_with fail
  go_ret2
  exact ⟨rfl, HB.out⟩
set_option maxHeartbeats 4000000 in
theorem add_none (v : Value) (f p c z : Int) (w : World) (h : Non w v) : Calls Try.prog 10 #[v, .int .i64 f, .int .i64 p, .int .i64 c, .int .i64 z] w fun e w' => e = .returned (.tuple #[.int .i64 0, .int .i64 6]) ∧ Below w.heap.size w w' := by
  have K := Lib.hid (request_none v f p 3 c z w h)
  clear h
  go_enter Try.func10, Try.ntmps10
  go_wp2_with fail
  refine K.out.mono ?_
  rintro e w1 ⟨rfl, hb⟩
  have HB := Lib.hid hb
  clear K hb
  go_wp2_with fail
  go_ret2
  exact ⟨rfl, HB.out⟩
set_option maxHeartbeats 4000000 in
theorem get_none (v : Value) (f p c : Int) (w : World) (h : Non w v) : Calls Try.prog 29 #[v, .int .i64 f, .int .i64 p, .int .i64 c] w fun e w' => e = .returned (.tuple #[.int .i64 0, .int .i64 6]) ∧ Below w.heap.size w w' := by
  have K := Lib.hid (request_none v f p 2 c 0 w h)
  clear h
  go_enter Try.func29, Try.ntmps29
  go_wp2_with fail
  refine K.out.mono ?_
  rintro e w1 ⟨rfl, hb⟩
  have HB := Lib.hid hb
  clear K hb
  go_wp2_with fail
  go_ret2
  exact ⟨rfl, HB.out⟩
set_option maxHeartbeats 4000000 in
theorem drain_none (v : Value) (w : World) (h : Non w v) : Calls Try.prog 30 #[v] w fun e w' => e = .returned (.tuple #[.int .i64 0, .int .i64 6]) ∧ Below w.heap.size w w' := by
  have K0 := Lib.hid (h w (Below.refl _ _))
  clear h
  go_enter Try.func30, Try.ntmps30
  go_wp2_with fail
  refine K0.out.mono ?_
  rintro e w1 ⟨rfl, rfl⟩
  clear K0
  go_wp2_with fail
  go_ret2
  exact ⟨rfl, Below.refl _ _⟩
set_option maxHeartbeats 4000000 in
theorem deliver_none (v : Value) (k : Int) (w : World) (h : Non w v) : Calls Try.prog 12 #[v, .int .i64 k] w fun e w' => e = .returned (.int .i64 6) ∧ Below w.heap.size w w' := by
  have K0 := Lib.hid (h w (Below.refl _ _))
  clear h
  go_enter Try.func12, Try.ntmps12
  go_wp2_with fail
  refine K0.out.mono ?_
  rintro e w1 ⟨rfl, rfl⟩
  clear K0
  go_wp2_with fail
  go_ret
  exact ⟨rfl, Below.refl _ _⟩
set_option maxHeartbeats 4000000 in
theorem open_none (v : Value) (k : Int) (w : World) (h : Non w v) : Calls Try.prog 15 #[v, .int .i64 k] w fun e w' => e = .returned (.tuple #[.int .i64 0, .int .i64 6]) ∧ Below w.heap.size w w' := by
  have K0 := Lib.hid (h w (Below.refl _ _))
  clear h
  go_enter Try.func15, Try.ntmps15
  go_wp2_with fail
  refine K0.out.mono ?_
  rintro e w1 ⟨rfl, rfl⟩
  clear K0
  go_wp2_with fail
  go_ret2
  exact ⟨rfl, Below.refl _ _⟩
set_option maxHeartbeats 4000000 in
theorem cell_none (v : Value) (k c : Int) (w : World) (h : Non w v) : Calls Try.prog 14 #[v, .int .i64 k, .int .i64 c] w fun e w' => e = .returned (.tuple #[.int .i64 0, .int .i64 6]) ∧ Below w.heap.size w w' := by
  have K0 := Lib.hid (h w (Below.refl _ _))
  clear h
  go_enter Try.func14, Try.ntmps14
  go_wp2_with fail
  refine K0.out.mono ?_
  rintro e w1 ⟨rfl, rfl⟩
  clear K0
  go_wp2_with fail
  go_ret2
  exact ⟨rfl, Below.refl _ _⟩
set_option maxHeartbeats 4000000 in
theorem flying_none (v : Value) (w : World) (h : Non w v) : Calls Try.prog 11 #[v] w fun e w' => e = .returned (.slice none 0 0) ∧ Below w.heap.size w w' := by
  have K0 := Lib.hid (h w (Below.refl _ _))
  clear h
  go_enter Try.func11, Try.ntmps11
  go_wp2_with fail
  refine K0.out.mono ?_
  rintro e w1 ⟨rfl, rfl⟩
  clear K0
  go_wp2_with fail
  go_ret
  exact ⟨rfl, Below.refl _ _⟩
set_option maxHeartbeats 4000000 in
theorem sent_none (v : Value) (w : World) (h : Non w v) : Calls Try.prog 17 #[v] w fun e w' => e = .returned (.slice none 0 0) ∧ Below w.heap.size w w' := by
  have K0 := Lib.hid (h w (Below.refl _ _))
  clear h
  go_enter Try.func17, Try.ntmps17
  go_wp2_with fail
  refine K0.out.mono ?_
  rintro e w1 ⟨rfl, rfl⟩
  clear K0
  go_wp2_with fail
  go_ret
  exact ⟨rfl, Below.refl _ _⟩
set_option maxHeartbeats 4000000 in
theorem copy_none (v : Value) (w : World) (h : Non w v) : Calls Try.prog 19 #[v] w fun e w' => e = .returned (.pointer none) ∧ Below w.heap.size w w' := by
  have K0 := Lib.hid (h w (Below.refl _ _))
  clear h
  go_enter Try.func19, Try.ntmps19
  go_wp2_with fail
  refine K0.out.mono ?_
  rintro e w1 ⟨rfl, rfl⟩
  clear K0
  go_wp2_with fail
  go_ret
  exact ⟨rfl, Below.refl _ _⟩
set_option maxHeartbeats 4000000 in
theorem find_none (v : Value) (k : Int) (w : World) (h : Non w v) : Calls Try.prog 38 #[v, .int .i64 k] w (FindE ⟨0, 0, false⟩ 6 w) := by
  have K := Lib.hid (h _ ((Below.refl _ w).alloc (Nat.le_refl _) (.cells #[.int .i64 0, .int .i64 0, .bool false] 81)))
  clear h
  go_enter Try.func38, Try.ntmps38
  go_wp2_with fail
  refine K.out.mono ?_
  rintro e w1 ⟨rfl, rfl⟩
  clear K
  go_wp2_with fail
  obtain ⟨r0, r1, r2⟩ := cells_new3 w (.int .i64 0) (.int .i64 0) (.bool false) 81
  exact bodyPost_ret (v := .tuple #[.agg #[.int .i64 0, .int .i64 0, .bool false], .int .i64 6]) (by simp [results, Try.results38, go_sem, r0, r1, r2]) rfl ⟨rfl, (Below.refl _ _).alloc (Nat.le_refl _) _⟩
set_option maxHeartbeats 4000000 in
theorem done_none (v : Value) (k : Int) (w : World) (h : Non w v) : Calls Try.prog 16 #[v, .int .i64 k] w fun e w' => e = .returned (.tuple #[.bool false, .int .i64 6]) ∧ Below w.heap.size w w' := by
  have K := Lib.hid (find_none v k w h)
  clear h
  go_enter Try.func16, Try.ntmps16
  go_wp2_with fail
  refine K.out.mono ?_
  rintro e w2 ⟨rfl, hb⟩
  have HB := Lib.hid hb
  obtain ⟨r0, r1, r2⟩ := cells_new3 w2 (.int .i64 0) (.int .i64 0) (.bool false) 81
  clear hb K
  go_wp2_with fail
  go_ret2
  exact ⟨rfl, HB.out.alloc HB.out.size _⟩
set_option maxHeartbeats 4000000 in
theorem value_none (v : Value) (k : Int) (w : World) (h : Non w v) : Calls Try.prog 13 #[v, .int .i64 k] w fun e w' => e = .returned (.tuple #[.int .i64 0, .int .i64 6]) ∧ Below w.heap.size w w' := by
  have K := Lib.hid (find_none v k w h)
  clear h
  go_enter Try.func13, Try.ntmps13
  go_wp2_with fail
  refine K.out.mono ?_
  rintro e w2 ⟨rfl, hb⟩
  have HB := Lib.hid hb
  obtain ⟨r0, r1, r2⟩ := cells_new3 w2 (.int .i64 0) (.int .i64 0) (.bool false) 81
  clear hb K
  go_wp2_with fail
  go_ret2
  exact ⟨rfl, HB.out.alloc HB.out.size _⟩
end Go.Proofs.Ytimmmbjdaibplaa
