/-
  Layer 16: the walks of the functions that compare two lists: messages, SameCounts, sameLists, slices.Equal.
-/
import Derived.Test.YtimmmbjdaibplaaR5
import Derived.Laws.StructEq
import Derived.Shelf.SlicesE.Kit
namespace Go.Proofs.Ytimmmbjdaibplaa
open Go.RowKit Go.Shelf
open Nt
set_option linter.unusedVariables false
set_option linter.unusedSimpArgs false

theorem drew_add (w : World) (m n : Nat) : (w.drewN m).drewN n = w.drewN (m + n) := World.drewN_drewN ..
theorem take_eq_succ {α : Type} {l m : List α} {k : Nat} (h : l.take k = m.take k) (hk : k < l.length) (hk' : k < m.length) (e : l[k] = m[k]) : l.take (k + 1) = m.take (k + 1) := by
  rw [List.take_succ_eq_append_getElem hk, List.take_succ_eq_append_getElem hk', h, e]
/-- what can be seen of a slice -/
def Sees (w : World) (v : Value) (n : Nat) (xs : List Value) : Prop := ∃ A cap, v = .slice A n cap ∧ (0 < n → ∃ g, A = some ⟨g, 0, none⟩ ∧ ∀ (j : Nat) (u : Value), xs[j]? = some u → w.cell? ⟨g, j, none⟩ = some u)
theorem Sees.of_loose {w : World} {e : TypeId} {size : Nat} {v : Value} {n : Nat} {xs : List Value} (h : Loose w e size v n xs) : Sees w v n xs := by
  obtain ⟨A, cap, rfl, hA, -⟩ := h.form
  refine ⟨A, cap, rfl, fun h0 => ?_⟩
  obtain ⟨g, rfl⟩ := hA h0
  exact ⟨g, rfl, fun j u hu => h.cellAt hu⟩
theorem Sees.of_own {w : World} {base : Nat} {e : TypeId} {size : Nat} {v : Value} {n : Nat} {xs : List Value} (h : w.ownsRow base e size v n xs) : Sees w v n xs := .of_loose (.of_own h)
theorem Sees.of_row {w : World} {r k : Nat} {l : List Int} (h : RowAt w r l) : Sees w (.slice (some ⟨r, 0, none⟩) l.length k) l.length (intL l) := by
  refine ⟨_, k, rfl, fun _ => ⟨r, rfl, fun j u hu => ?_⟩⟩
  have hj : j < l.length := by
    have := (List.getElem?_eq_some_iff.1 hu).1
    simpa [intL] using this
  rw [intL_at hj] at hu
  injection hu with hu
  rw [← hu]
  exact h.cell hj
theorem Sees.drewN {w : World} {v : Value} {n : Nat} {xs : List Value} (h : Sees w v n xs) (m : Nat) : Sees (w.drewN m) v n xs := h
theorem take_ne {α : Type} {l m : List α} {k : Nat} (hk : k < l.length) (hk' : k < m.length) (e : l[k] ≠ m[k]) : l ≠ m := fun h => by
  subst h
  exact e rfl

def eqBMsg (x y : Msg) : Bool := x.frm == y.frm && x.to == y.to && x.kind == y.kind && x.cell == y.cell && x.val == y.val && x.hnd == y.hnd
theorem eqBMsg_iff (x y : Msg) : eqBMsg x y = true ↔ x = y := by
  unfold eqBMsg
  constructor
  · intro h
    simp only [Bool.and_eq_true, beq_iff_eq] at h
    cases x
    cases y
    simp only at h
    simp only [Msg.mk.injEq]
    exact by simp_all
  · rintro rfl
    simp
theorem guardMsg (x y : Msg) (op : BinOp) (a b : Operand) (w : World) : Sem.run Try.prog (eqGuard op 74 a b (.agg #[.int .i64 x.frm, .int .i64 x.to, .int .i64 x.kind, .int .i64 x.cell, .int .i64 x.val, .int .i64 x.hnd]) (.agg #[.int .i64 y.frm, .int .i64 y.to, .int .i64 y.kind, .int .i64 y.cell, .int .i64 y.val, .int .i64 y.hnd])) w = .ok () w := run_eqGuard_agg w op 74 a b _ _ (by kernel_rfl)
set_option maxHeartbeats 4000000 in
theorem neqMsg (x y : Msg) (w : World) : Sem.run Try.prog (binOp .neq 74 (.agg #[.int .i64 x.frm, .int .i64 x.to, .int .i64 x.kind, .int .i64 x.cell, .int .i64 x.val, .int .i64 x.hnd]) (.agg #[.int .i64 y.frm, .int .i64 y.to, .int .i64 y.kind, .int .i64 y.cell, .int .i64 y.val, .int .i64 y.hnd])) w = .ok (.bool (!eqBMsg x y)) w := by
  have ui := Try.underlying3
  have ai := Try.isAgg3
  have zi := Try.sizeOf3
  have ub := Try.underlying4
  have ab := Try.isAgg4
  have zb := Try.sizeOf4
  have us := Try.underlying9
  have as1 := Try.isAgg9
  have zs := Try.sizeOf9
  have hS : Try.prog.underlying 74 = some (.struct (Try.prog.fieldsOf 74)) := by kernel_rfl
  have hp : Try.prog.stoodInHeld 74 = false := by kernel_rfl
  rw [run_neq_struct, show (10000 : Nat) = 9999 + 1 from rfl, run_equalIn_agg w 9999 74 _ _ hS hp]
  simp only [Program.fieldsOf, Try.underlying74]
  go_simp
  unfold eqBMsg
  by_cases g0 : x.frm = y.frm <;> by_cases g1 : x.to = y.to <;> by_cases g2 : x.kind = y.kind <;> by_cases g3 : x.cell = y.cell <;> by_cases g4 : x.val = y.val <;> by_cases g5 : x.hnd = y.hnd <;> simp [*]

def eqBHd (x y : Hd) : Bool := x.frm == y.frm && x.val == y.val && x.dn == y.dn
theorem eqBHd_iff (x y : Hd) : eqBHd x y = true ↔ x = y := by
  unfold eqBHd
  constructor
  · intro h
    simp only [Bool.and_eq_true, beq_iff_eq] at h
    cases x
    cases y
    simp only at h
    simp only [Hd.mk.injEq]
    exact by simp_all
  · rintro rfl
    simp
theorem guardHd (x y : Hd) (op : BinOp) (a b : Operand) (w : World) : Sem.run Try.prog (eqGuard op 81 a b (.agg #[.int .i64 x.frm, .int .i64 x.val, .bool x.dn]) (.agg #[.int .i64 y.frm, .int .i64 y.val, .bool y.dn])) w = .ok () w := run_eqGuard_agg w op 81 a b _ _ (by kernel_rfl)
set_option maxHeartbeats 4000000 in
theorem neqHd (x y : Hd) (w : World) : Sem.run Try.prog (binOp .neq 81 (.agg #[.int .i64 x.frm, .int .i64 x.val, .bool x.dn]) (.agg #[.int .i64 y.frm, .int .i64 y.val, .bool y.dn])) w = .ok (.bool (!eqBHd x y)) w := by
  have ui := Try.underlying3
  have ai := Try.isAgg3
  have zi := Try.sizeOf3
  have ub := Try.underlying4
  have ab := Try.isAgg4
  have zb := Try.sizeOf4
  have us := Try.underlying9
  have as1 := Try.isAgg9
  have zs := Try.sizeOf9
  have hS : Try.prog.underlying 81 = some (.struct (Try.prog.fieldsOf 81)) := by kernel_rfl
  have hp : Try.prog.stoodInHeld 81 = false := by kernel_rfl
  rw [run_neq_struct, show (10000 : Nat) = 9999 + 1 from rfl, run_equalIn_agg w 9999 81 _ _ hS hp]
  simp only [Program.fieldsOf, Try.underlying81]
  go_simp
  unfold eqBHd
  by_cases g0 : x.frm = y.frm <;> by_cases g1 : x.val = y.val <;> by_cases g2 : x.dn = y.dn <;> simp [*]

def eqBRH (x y : Hd) : Bool := x.frm == y.frm && x.dn == y.dn && x.val == y.val
theorem eqBRH_iff (x y : Hd) : eqBRH x y = true ↔ x = y := by
  unfold eqBRH
  constructor
  · intro h
    simp only [Bool.and_eq_true, beq_iff_eq] at h
    cases x
    cases y
    simp only at h
    simp only [Hd.mk.injEq]
    exact by simp_all
  · rintro rfl
    simp
theorem guardRH (x y : Hd) (op : BinOp) (a b : Operand) (w : World) : Sem.run Try.prog (eqGuard op 101 a b (.agg #[.int .i64 x.frm, .bool x.dn, .int .i64 x.val]) (.agg #[.int .i64 y.frm, .bool y.dn, .int .i64 y.val])) w = .ok () w := run_eqGuard_agg w op 101 a b _ _ (by kernel_rfl)
set_option maxHeartbeats 4000000 in
theorem neqRH (x y : Hd) (w : World) : Sem.run Try.prog (binOp .neq 101 (.agg #[.int .i64 x.frm, .bool x.dn, .int .i64 x.val]) (.agg #[.int .i64 y.frm, .bool y.dn, .int .i64 y.val])) w = .ok (.bool (!eqBRH x y)) w := by
  have ui := Try.underlying3
  have ai := Try.isAgg3
  have zi := Try.sizeOf3
  have ub := Try.underlying4
  have ab := Try.isAgg4
  have zb := Try.sizeOf4
  have us := Try.underlying9
  have as1 := Try.isAgg9
  have zs := Try.sizeOf9
  have hS : Try.prog.underlying 101 = some (.struct (Try.prog.fieldsOf 101)) := by kernel_rfl
  have hp : Try.prog.stoodInHeld 101 = false := by kernel_rfl
  rw [run_neq_struct, show (10000 : Nat) = 9999 + 1 from rfl, run_equalIn_agg w 9999 101 _ _ hS hp]
  simp only [Program.fieldsOf, Try.underlying101]
  go_simp
  unfold eqBRH
  by_cases g0 : x.frm = y.frm <;> by_cases g1 : x.dn = y.dn <;> by_cases g2 : x.val = y.val <;> simp [*]

def eqBCnt (x y : Cnt) : Bool := x.frm == y.frm && x.to == y.to && x.kind.toList == y.kind.toList && x.many == y.many
theorem eqBCnt_iff (x y : Cnt) : eqBCnt x y = true ↔ x = y := by
  unfold eqBCnt
  constructor
  · intro h
    simp only [Bool.and_eq_true, beq_iff_eq] at h
    cases x
    cases y
    simp only at h
    simp only [Cnt.mk.injEq]
    exact ⟨h.1.1.1, h.1.1.2, bytes_ext h.1.2, h.2⟩
  · rintro rfl
    simp
theorem guardCnt (x y : Cnt) (op : BinOp) (a b : Operand) (w : World) : Sem.run Try.prog (eqGuard op 48 a b (.agg #[.int .i64 x.frm, .int .i64 x.to, .string x.kind, .int .i64 x.many]) (.agg #[.int .i64 y.frm, .int .i64 y.to, .string y.kind, .int .i64 y.many])) w = .ok () w := run_eqGuard_agg w op 48 a b _ _ (by kernel_rfl)
set_option maxHeartbeats 4000000 in
theorem neqCnt (x y : Cnt) (w : World) : Sem.run Try.prog (binOp .neq 48 (.agg #[.int .i64 x.frm, .int .i64 x.to, .string x.kind, .int .i64 x.many]) (.agg #[.int .i64 y.frm, .int .i64 y.to, .string y.kind, .int .i64 y.many])) w = .ok (.bool (!eqBCnt x y)) w := by
  have ui := Try.underlying3
  have ai := Try.isAgg3
  have zi := Try.sizeOf3
  have ub := Try.underlying4
  have ab := Try.isAgg4
  have zb := Try.sizeOf4
  have us := Try.underlying9
  have as1 := Try.isAgg9
  have zs := Try.sizeOf9
  have hS : Try.prog.underlying 48 = some (.struct (Try.prog.fieldsOf 48)) := by kernel_rfl
  have hp : Try.prog.stoodInHeld 48 = false := by kernel_rfl
  rw [run_neq_struct, show (10000 : Nat) = 9999 + 1 from rfl, run_equalIn_agg w 9999 48 _ _ hS hp]
  simp only [Program.fieldsOf, Try.underlying48]
  go_simp
  unfold eqBCnt
  by_cases g0 : x.frm = y.frm <;> by_cases g1 : x.to = y.to <;> by_cases g2 : x.kind.toList = y.kind.toList <;> by_cases g3 : x.many = y.many <;> simp [*]

set_option maxHeartbeats 8000000 in
set_option maxRecDepth 100000 in
theorem msgs_at (v1 v2 : Value) (l1 l2 : List Msg) (w : World) (h1 : Sees w v1 l1.length (l1.flatMap msgV)) (h2 : Sees w v2 l2.length (l2.flatMap msgV)) (hl1 : l1.length ≤ 100000) (hl2 : l2.length ≤ 100000) (q : Bool) (hq : q = true ↔ l1 = l2) :
    Calls Try.prog 25 #[v1, v2] w fun e w' => e = .returned (.bool q) ∧ ∃ n, w' = w.drewN n := by
  obtain ⟨A1, cap1, rfl, hA1⟩ := h1
  obtain ⟨A2, cap2, rfl, hA2⟩ := h2
  have H0 : Hid (∃ n, w = w.drewN n) := ⟨0, rfl⟩
  by_cases hlen : l1.length = l2.length
  · obtain ⟨n, hn⟩ : ∃ n, l1.length = n := ⟨_, rfl⟩
    have hn2 : l2.length = n := by omega
    have HN1 := Lib.hid hn
    have HN2 := Lib.hid hn2
    have HA1 := Lib.hid hA1
    have HA2 := Lib.hid hA2
    have HQ := Lib.hid hq
    rw [hn, hn2]
    have d0 : ((n : Int) != (n : Int)) = false := by simp
    have hnn : (n : Int) ≤ 100000 := by omega
    clear hn hn2 hA1 hA2 hq hlen hl1 hl2
    go_enter Try.func25, Try.ntmps25
    go_wp2_with fail
    go_loopw [5] (fun i wr => ∃ k m : Nat, k ≤ n ∧ i = .int .i64 k ∧ Hid (l1.take k = l2.take k) ∧ wr = w.drewN m) (fun i _ => n - (intOf i).toNat)
    case atStart => exact ⟨0, 0, Nat.zero_le _, rfl, (by simp : l1.take 0 = l2.take 0), rfl⟩
    case round =>
      obtain ⟨k, m, hk, rfl, htk, rfl⟩ := hrel
      have hk0 : (0 : Int) ≤ (k : Int) := by omega
      by_cases hlt : k < n
      · have hki : (k : Int) < (n : Int) := by omega
        have hk1 : k < l1.length := by rw [HN1.out]; exact hlt
        have hk2 : k < l2.length := by rw [HN2.out]; exact hlt
        obtain ⟨g1, rfl, s1⟩ := HA1.out (by have := HN1.out; omega)
        obtain ⟨g2, rfl, s2⟩ := HA2.out (by have := HN2.out; omega)
        have x0 := s1 _ _ ((flat_at msgV_len l1 k hk1 0 (by omega)).trans rfl)
        have y0 := s2 _ _ ((flat_at msgV_len l2 k hk2 0 (by omega)).trans rfl)
        have x1 := s1 _ _ ((flat_at msgV_len l1 k hk1 1 (by omega)).trans rfl)
        have y1 := s2 _ _ ((flat_at msgV_len l2 k hk2 1 (by omega)).trans rfl)
        have x2 := s1 _ _ ((flat_at msgV_len l1 k hk1 2 (by omega)).trans rfl)
        have y2 := s2 _ _ ((flat_at msgV_len l2 k hk2 2 (by omega)).trans rfl)
        have x3 := s1 _ _ ((flat_at msgV_len l1 k hk1 3 (by omega)).trans rfl)
        have y3 := s2 _ _ ((flat_at msgV_len l2 k hk2 3 (by omega)).trans rfl)
        have x4 := s1 _ _ ((flat_at msgV_len l1 k hk1 4 (by omega)).trans rfl)
        have y4 := s2 _ _ ((flat_at msgV_len l2 k hk2 4 (by omega)).trans rfl)
        have x5 := s1 _ _ ((flat_at msgV_len l1 k hk1 5 (by omega)).trans rfl)
        have y5 := s2 _ _ ((flat_at msgV_len l2 k hk2 5 (by omega)).trans rfl)
        simp only [Nat.add_zero] at x0 y0
        have HT : l1[k] = l2[k] → l1.take (k + 1) = l2.take (k + 1) := fun e => take_eq_succ htk.out hk1 hk2 e
        have hxy : l1[k] = l2[k] ∨ l1[k] ≠ l2[k] := Classical.em _
        have HNE0 : l1[k] ≠ l2[k] → l1 ≠ l2 := fun e => take_ne hk1 hk2 e
        obtain ⟨x, hx⟩ : ∃ x, l1[k] = x := ⟨_, rfl⟩
        obtain ⟨y, hy⟩ : ∃ y, l2[k] = y := ⟨_, rfl⟩
        rw [hx] at x0 x1 x2 x3 x4 x5
        rw [hy] at y0 y1 y2 y3 y4 y5
        rw [hx, hy] at hxy HT HNE0
        clear hx hy s1 s2 hk1 hk2
        rcases hxy with hxy | hxy
        · subst hxy
          have HT2 := Lib.hid (HT rfl)
          clear HT HNE0
          have hz : ∀ u : World, Sem.run Try.prog (binOp .neq 74 (.agg #[.int .i64 x.frm, .int .i64 x.to, .int .i64 x.kind, .int .i64 x.cell, .int .i64 x.val, .int .i64 x.hnd]) (.agg #[.int .i64 x.frm, .int .i64 x.to, .int .i64 x.kind, .int .i64 x.cell, .int .i64 x.val, .int .i64 x.hnd])) u = .ok (.bool false) u := fun u => by rw [neqMsg, (eqBMsg_iff x x).2 rfl]; rfl
          have hgd := guardMsg x x
          go_wp2_with fail
          go_quiet (fail)
          go_wp2_with fail
          go_roundw
          case rel => exact ⟨k + 1, _, by omega, by go_num, HT2, rfl⟩
          case measure => simp [intOf]; omega
        · have hqf : q = false := by
            cases q
            · rfl
            · exact absurd (HQ.out.1 rfl) (HNE0 hxy)
          subst hqf
          clear HT HNE0
          have hz : ∀ u : World, Sem.run Try.prog (binOp .neq 74 (.agg #[.int .i64 x.frm, .int .i64 x.to, .int .i64 x.kind, .int .i64 x.cell, .int .i64 x.val, .int .i64 x.hnd]) (.agg #[.int .i64 y.frm, .int .i64 y.to, .int .i64 y.kind, .int .i64 y.cell, .int .i64 y.val, .int .i64 y.hnd])) u = .ok (.bool true) u := fun u => by
            have e : eqBMsg x y = false := by
              cases he : eqBMsg x y
              · rfl
              · exact absurd ((eqBMsg_iff x y).1 he) hxy
            rw [neqMsg, e]
            rfl
          have hgd := guardMsg x y
          clear hxy
          go_wp2_with fail
          go_quiet (fail)
          go_wp2_with fail
          go_ret
          exact ⟨rfl, _, drew_add _ _ _⟩
      · obtain rfl : k = n := by omega
        have hqt : q = true := HQ.out.2 (by
          have := htk.out
          rw [List.take_of_length_le (by rw [HN1.out]; omega), List.take_of_length_le (by rw [HN2.out]; omega)] at this
          exact this)
        subst hqt
        have hki : ¬ ((k : Int) < (k : Int)) := by omega
        go_wp2_with fail
        go_ret
        exact ⟨rfl, _, rfl⟩
  · have hqf : q = false := by
      cases q
      · rfl
      · exact absurd (congrArg List.length (hq.1 rfl)) hlen
    subst hqf
    have d0 : ((l1.length : Int) != (l2.length : Int)) = true := by simp; omega
    clear hA1 hA2 hq hlen
    go_enter Try.func25, Try.ntmps25
    go_wp2_with fail
    go_ret
    exact ⟨rfl, H0.out⟩

set_option maxHeartbeats 8000000 in
set_option maxRecDepth 100000 in
theorem cnts_at (v1 v2 : Value) (l1 l2 : List Cnt) (w : World) (h1 : Sees w v1 l1.length (l1.flatMap cntV)) (h2 : Sees w v2 l2.length (l2.flatMap cntV)) (hl1 : l1.length ≤ 100000) (hl2 : l2.length ≤ 100000) (q : Bool) (hq : q = true ↔ l1 = l2) :
    Calls Try.prog 26 #[v1, v2] w fun e w' => e = .returned (.bool q) ∧ ∃ n, w' = w.drewN n := by
  obtain ⟨A1, cap1, rfl, hA1⟩ := h1
  obtain ⟨A2, cap2, rfl, hA2⟩ := h2
  have H0 : Hid (∃ n, w = w.drewN n) := ⟨0, rfl⟩
  by_cases hlen : l1.length = l2.length
  · obtain ⟨n, hn⟩ : ∃ n, l1.length = n := ⟨_, rfl⟩
    have hn2 : l2.length = n := by omega
    have HN1 := Lib.hid hn
    have HN2 := Lib.hid hn2
    have HA1 := Lib.hid hA1
    have HA2 := Lib.hid hA2
    have HQ := Lib.hid hq
    rw [hn, hn2]
    have d0 : ((n : Int) != (n : Int)) = false := by simp
    have hnn : (n : Int) ≤ 100000 := by omega
    clear hn hn2 hA1 hA2 hq hlen hl1 hl2
    go_enter Try.func26, Try.ntmps26
    go_wp2_with fail
    go_loopw [5] (fun i wr => ∃ k m : Nat, k ≤ n ∧ i = .int .i64 k ∧ Hid (l1.take k = l2.take k) ∧ wr = w.drewN m) (fun i _ => n - (intOf i).toNat)
    case atStart => exact ⟨0, 0, Nat.zero_le _, rfl, (by simp : l1.take 0 = l2.take 0), rfl⟩
    case round =>
      obtain ⟨k, m, hk, rfl, htk, rfl⟩ := hrel
      have hk0 : (0 : Int) ≤ (k : Int) := by omega
      by_cases hlt : k < n
      · have hki : (k : Int) < (n : Int) := by omega
        have hk1 : k < l1.length := by rw [HN1.out]; exact hlt
        have hk2 : k < l2.length := by rw [HN2.out]; exact hlt
        obtain ⟨g1, rfl, s1⟩ := HA1.out (by have := HN1.out; omega)
        obtain ⟨g2, rfl, s2⟩ := HA2.out (by have := HN2.out; omega)
        have x0 := s1 _ _ ((flat_at cntV_len l1 k hk1 0 (by omega)).trans rfl)
        have y0 := s2 _ _ ((flat_at cntV_len l2 k hk2 0 (by omega)).trans rfl)
        have x1 := s1 _ _ ((flat_at cntV_len l1 k hk1 1 (by omega)).trans rfl)
        have y1 := s2 _ _ ((flat_at cntV_len l2 k hk2 1 (by omega)).trans rfl)
        have x2 := s1 _ _ ((flat_at cntV_len l1 k hk1 2 (by omega)).trans rfl)
        have y2 := s2 _ _ ((flat_at cntV_len l2 k hk2 2 (by omega)).trans rfl)
        have x3 := s1 _ _ ((flat_at cntV_len l1 k hk1 3 (by omega)).trans rfl)
        have y3 := s2 _ _ ((flat_at cntV_len l2 k hk2 3 (by omega)).trans rfl)
        simp only [Nat.add_zero] at x0 y0
        have HT : l1[k] = l2[k] → l1.take (k + 1) = l2.take (k + 1) := fun e => take_eq_succ htk.out hk1 hk2 e
        have hxy : l1[k] = l2[k] ∨ l1[k] ≠ l2[k] := Classical.em _
        have HNE0 : l1[k] ≠ l2[k] → l1 ≠ l2 := fun e => take_ne hk1 hk2 e
        obtain ⟨x, hx⟩ : ∃ x, l1[k] = x := ⟨_, rfl⟩
        obtain ⟨y, hy⟩ : ∃ y, l2[k] = y := ⟨_, rfl⟩
        rw [hx] at x0 x1 x2 x3
        rw [hy] at y0 y1 y2 y3
        rw [hx, hy] at hxy HT HNE0
        clear hx hy s1 s2 hk1 hk2
        rcases hxy with hxy | hxy
        · subst hxy
          have HT2 := Lib.hid (HT rfl)
          clear HT HNE0
          have hz : ∀ u : World, Sem.run Try.prog (binOp .neq 48 (.agg #[.int .i64 x.frm, .int .i64 x.to, .string x.kind, .int .i64 x.many]) (.agg #[.int .i64 x.frm, .int .i64 x.to, .string x.kind, .int .i64 x.many])) u = .ok (.bool false) u := fun u => by rw [neqCnt, (eqBCnt_iff x x).2 rfl]; rfl
          have hgd := guardCnt x x
          go_wp2_with fail
          go_quiet (fail)
          go_wp2_with fail
          go_roundw
          case rel => exact ⟨k + 1, _, by omega, by go_num, HT2, rfl⟩
          case measure => simp [intOf]; omega
        · have hqf : q = false := by
            cases q
            · rfl
            · exact absurd (HQ.out.1 rfl) (HNE0 hxy)
          subst hqf
          clear HT HNE0
          have hz : ∀ u : World, Sem.run Try.prog (binOp .neq 48 (.agg #[.int .i64 x.frm, .int .i64 x.to, .string x.kind, .int .i64 x.many]) (.agg #[.int .i64 y.frm, .int .i64 y.to, .string y.kind, .int .i64 y.many])) u = .ok (.bool true) u := fun u => by
            have e : eqBCnt x y = false := by
              cases he : eqBCnt x y
              · rfl
              · exact absurd ((eqBCnt_iff x y).1 he) hxy
            rw [neqCnt, e]
            rfl
          have hgd := guardCnt x y
          clear hxy
          go_wp2_with fail
          go_quiet (fail)
          go_wp2_with fail
          go_ret
          exact ⟨rfl, _, drew_add _ _ _⟩
      · obtain rfl : k = n := by omega
        have hqt : q = true := HQ.out.2 (by
          have := htk.out
          rw [List.take_of_length_le (by rw [HN1.out]; omega), List.take_of_length_le (by rw [HN2.out]; omega)] at this
          exact this)
        subst hqt
        have hki : ¬ ((k : Int) < (k : Int)) := by omega
        go_wp2_with fail
        go_ret
        exact ⟨rfl, _, rfl⟩
  · have hqf : q = false := by
      cases q
      · rfl
      · exact absurd (congrArg List.length (hq.1 rfl)) hlen
    subst hqf
    have d0 : ((l1.length : Int) != (l2.length : Int)) = true := by simp; omega
    clear hA1 hA2 hq hlen
    go_enter Try.func26, Try.ntmps26
    go_wp2_with fail
    go_ret
    exact ⟨rfl, H0.out⟩

set_option maxHeartbeats 8000000 in
set_option maxRecDepth 100000 in
theorem eqMsgs_at (v1 v2 : Value) (l1 l2 : List Msg) (w : World) (h1 : Sees w v1 l1.length (l1.flatMap msgV)) (h2 : Sees w v2 l2.length (l2.flatMap msgV)) (hl1 : l1.length ≤ 100000) (hl2 : l2.length ≤ 100000) (q : Bool) (hq : q = true ↔ l1 = l2) :
    Calls Try.prog 52 #[v1, v2] w fun e w' => e = .returned (.bool q) ∧ ∃ n, w' = w.drewN n := by
  obtain ⟨A1, cap1, rfl, hA1⟩ := h1
  obtain ⟨A2, cap2, rfl, hA2⟩ := h2
  have H0 : Hid (∃ n, w = w.drewN n) := ⟨0, rfl⟩
  by_cases hlen : l1.length = l2.length
  · obtain ⟨n, hn⟩ : ∃ n, l1.length = n := ⟨_, rfl⟩
    have hn2 : l2.length = n := by omega
    have HN1 := Lib.hid hn
    have HN2 := Lib.hid hn2
    have HA1 := Lib.hid hA1
    have HA2 := Lib.hid hA2
    have HQ := Lib.hid hq
    rw [hn, hn2]
    have d0 : ((n : Int) != (n : Int)) = false := by simp
    have hnn : (n : Int) ≤ 100000 := by omega
    clear hn hn2 hA1 hA2 hq hlen hl1 hl2
    go_enter Try.func52, Try.ntmps52
    go_wp2_with fail
    go_loopw [13] (fun i wr => ∃ k m : Nat, k ≤ n ∧ i = .int .i64 k ∧ Hid (l1.take k = l2.take k) ∧ wr = w.drewN m) (fun i _ => n - (intOf i).toNat)
    case atStart => exact ⟨0, 0, Nat.zero_le _, rfl, (by simp : l1.take 0 = l2.take 0), rfl⟩
    case round =>
      obtain ⟨k, m, hk, rfl, htk, rfl⟩ := hrel
      have hk0 : (0 : Int) ≤ (k : Int) := by omega
      by_cases hlt : k < n
      · have hki : (k : Int) < (n : Int) := by omega
        have hk1 : k < l1.length := by rw [HN1.out]; exact hlt
        have hk2 : k < l2.length := by rw [HN2.out]; exact hlt
        obtain ⟨g1, rfl, s1⟩ := HA1.out (by have := HN1.out; omega)
        obtain ⟨g2, rfl, s2⟩ := HA2.out (by have := HN2.out; omega)
        have x0 := s1 _ _ ((flat_at msgV_len l1 k hk1 0 (by omega)).trans rfl)
        have y0 := s2 _ _ ((flat_at msgV_len l2 k hk2 0 (by omega)).trans rfl)
        have x1 := s1 _ _ ((flat_at msgV_len l1 k hk1 1 (by omega)).trans rfl)
        have y1 := s2 _ _ ((flat_at msgV_len l2 k hk2 1 (by omega)).trans rfl)
        have x2 := s1 _ _ ((flat_at msgV_len l1 k hk1 2 (by omega)).trans rfl)
        have y2 := s2 _ _ ((flat_at msgV_len l2 k hk2 2 (by omega)).trans rfl)
        have x3 := s1 _ _ ((flat_at msgV_len l1 k hk1 3 (by omega)).trans rfl)
        have y3 := s2 _ _ ((flat_at msgV_len l2 k hk2 3 (by omega)).trans rfl)
        have x4 := s1 _ _ ((flat_at msgV_len l1 k hk1 4 (by omega)).trans rfl)
        have y4 := s2 _ _ ((flat_at msgV_len l2 k hk2 4 (by omega)).trans rfl)
        have x5 := s1 _ _ ((flat_at msgV_len l1 k hk1 5 (by omega)).trans rfl)
        have y5 := s2 _ _ ((flat_at msgV_len l2 k hk2 5 (by omega)).trans rfl)
        simp only [Nat.add_zero] at x0 y0
        have HT : l1[k] = l2[k] → l1.take (k + 1) = l2.take (k + 1) := fun e => take_eq_succ htk.out hk1 hk2 e
        have hxy : l1[k] = l2[k] ∨ l1[k] ≠ l2[k] := Classical.em _
        have HNE0 : l1[k] ≠ l2[k] → l1 ≠ l2 := fun e => take_ne hk1 hk2 e
        obtain ⟨x, hx⟩ : ∃ x, l1[k] = x := ⟨_, rfl⟩
        obtain ⟨y, hy⟩ : ∃ y, l2[k] = y := ⟨_, rfl⟩
        rw [hx] at x0 x1 x2 x3 x4 x5
        rw [hy] at y0 y1 y2 y3 y4 y5
        rw [hx, hy] at hxy HT HNE0
        clear hx hy s1 s2 hk1 hk2
        rcases hxy with hxy | hxy
        · subst hxy
          have HT2 := Lib.hid (HT rfl)
          clear HT HNE0
          have hz : ∀ u : World, Sem.run Try.prog (binOp .neq 74 (.agg #[.int .i64 x.frm, .int .i64 x.to, .int .i64 x.kind, .int .i64 x.cell, .int .i64 x.val, .int .i64 x.hnd]) (.agg #[.int .i64 x.frm, .int .i64 x.to, .int .i64 x.kind, .int .i64 x.cell, .int .i64 x.val, .int .i64 x.hnd])) u = .ok (.bool false) u := fun u => by rw [neqMsg, (eqBMsg_iff x x).2 rfl]; rfl
          have hgd := guardMsg x x
          go_wp2_with fail
          go_quiet (fail)
          go_wp2_with fail
          go_roundw
          case rel => exact ⟨k + 1, _, by omega, by go_num, HT2, rfl⟩
          case measure => simp [intOf]; omega
        · have hqf : q = false := by
            cases q
            · rfl
            · exact absurd (HQ.out.1 rfl) (HNE0 hxy)
          subst hqf
          clear HT HNE0
          have hz : ∀ u : World, Sem.run Try.prog (binOp .neq 74 (.agg #[.int .i64 x.frm, .int .i64 x.to, .int .i64 x.kind, .int .i64 x.cell, .int .i64 x.val, .int .i64 x.hnd]) (.agg #[.int .i64 y.frm, .int .i64 y.to, .int .i64 y.kind, .int .i64 y.cell, .int .i64 y.val, .int .i64 y.hnd])) u = .ok (.bool true) u := fun u => by
            have e : eqBMsg x y = false := by
              cases he : eqBMsg x y
              · rfl
              · exact absurd ((eqBMsg_iff x y).1 he) hxy
            rw [neqMsg, e]
            rfl
          have hgd := guardMsg x y
          clear hxy
          go_wp2_with fail
          go_quiet (fail)
          go_wp2_with fail
          go_ret
          exact ⟨rfl, _, drew_add _ _ _⟩
      · obtain rfl : k = n := by omega
        have hqt : q = true := HQ.out.2 (by
          have := htk.out
          rw [List.take_of_length_le (by rw [HN1.out]; omega), List.take_of_length_le (by rw [HN2.out]; omega)] at this
          exact this)
        subst hqt
        have hki : ¬ ((k : Int) < (k : Int)) := by omega
        go_wp2_with fail
        go_ret
        exact ⟨rfl, _, rfl⟩
  · have hqf : q = false := by
      cases q
      · rfl
      · exact absurd (congrArg List.length (hq.1 rfl)) hlen
    subst hqf
    have d0 : ((l1.length : Int) != (l2.length : Int)) = true := by simp; omega
    clear hA1 hA2 hq hlen
    go_enter Try.func52, Try.ntmps52
    go_wp2_with fail
    go_ret
    exact ⟨rfl, H0.out⟩

set_option maxHeartbeats 8000000 in
set_option maxRecDepth 100000 in
theorem eqHds_at (v1 v2 : Value) (l1 l2 : List Hd) (w : World) (h1 : Sees w v1 l1.length (l1.flatMap hdV)) (h2 : Sees w v2 l2.length (l2.flatMap hdV)) (hl1 : l1.length ≤ 100000) (hl2 : l2.length ≤ 100000) (q : Bool) (hq : q = true ↔ l1 = l2) :
    Calls Try.prog 53 #[v1, v2] w fun e w' => e = .returned (.bool q) ∧ ∃ n, w' = w.drewN n := by
  obtain ⟨A1, cap1, rfl, hA1⟩ := h1
  obtain ⟨A2, cap2, rfl, hA2⟩ := h2
  have H0 : Hid (∃ n, w = w.drewN n) := ⟨0, rfl⟩
  by_cases hlen : l1.length = l2.length
  · obtain ⟨n, hn⟩ : ∃ n, l1.length = n := ⟨_, rfl⟩
    have hn2 : l2.length = n := by omega
    have HN1 := Lib.hid hn
    have HN2 := Lib.hid hn2
    have HA1 := Lib.hid hA1
    have HA2 := Lib.hid hA2
    have HQ := Lib.hid hq
    rw [hn, hn2]
    have d0 : ((n : Int) != (n : Int)) = false := by simp
    have hnn : (n : Int) ≤ 100000 := by omega
    clear hn hn2 hA1 hA2 hq hlen hl1 hl2
    go_enter Try.func53, Try.ntmps53
    go_wp2_with fail
    go_loopw [13] (fun i wr => ∃ k m : Nat, k ≤ n ∧ i = .int .i64 k ∧ Hid (l1.take k = l2.take k) ∧ wr = w.drewN m) (fun i _ => n - (intOf i).toNat)
    case atStart => exact ⟨0, 0, Nat.zero_le _, rfl, (by simp : l1.take 0 = l2.take 0), rfl⟩
    case round =>
      obtain ⟨k, m, hk, rfl, htk, rfl⟩ := hrel
      have hk0 : (0 : Int) ≤ (k : Int) := by omega
      by_cases hlt : k < n
      · have hki : (k : Int) < (n : Int) := by omega
        have hk1 : k < l1.length := by rw [HN1.out]; exact hlt
        have hk2 : k < l2.length := by rw [HN2.out]; exact hlt
        obtain ⟨g1, rfl, s1⟩ := HA1.out (by have := HN1.out; omega)
        obtain ⟨g2, rfl, s2⟩ := HA2.out (by have := HN2.out; omega)
        have x0 := s1 _ _ ((flat_at hdV_len l1 k hk1 0 (by omega)).trans rfl)
        have y0 := s2 _ _ ((flat_at hdV_len l2 k hk2 0 (by omega)).trans rfl)
        have x1 := s1 _ _ ((flat_at hdV_len l1 k hk1 1 (by omega)).trans rfl)
        have y1 := s2 _ _ ((flat_at hdV_len l2 k hk2 1 (by omega)).trans rfl)
        have x2 := s1 _ _ ((flat_at hdV_len l1 k hk1 2 (by omega)).trans rfl)
        have y2 := s2 _ _ ((flat_at hdV_len l2 k hk2 2 (by omega)).trans rfl)
        simp only [Nat.add_zero] at x0 y0
        have HT : l1[k] = l2[k] → l1.take (k + 1) = l2.take (k + 1) := fun e => take_eq_succ htk.out hk1 hk2 e
        have hxy : l1[k] = l2[k] ∨ l1[k] ≠ l2[k] := Classical.em _
        have HNE0 : l1[k] ≠ l2[k] → l1 ≠ l2 := fun e => take_ne hk1 hk2 e
        obtain ⟨x, hx⟩ : ∃ x, l1[k] = x := ⟨_, rfl⟩
        obtain ⟨y, hy⟩ : ∃ y, l2[k] = y := ⟨_, rfl⟩
        rw [hx] at x0 x1 x2
        rw [hy] at y0 y1 y2
        rw [hx, hy] at hxy HT HNE0
        clear hx hy s1 s2 hk1 hk2
        rcases hxy with hxy | hxy
        · subst hxy
          have HT2 := Lib.hid (HT rfl)
          clear HT HNE0
          have hz : ∀ u : World, Sem.run Try.prog (binOp .neq 81 (.agg #[.int .i64 x.frm, .int .i64 x.val, .bool x.dn]) (.agg #[.int .i64 x.frm, .int .i64 x.val, .bool x.dn])) u = .ok (.bool false) u := fun u => by rw [neqHd, (eqBHd_iff x x).2 rfl]; rfl
          have hgd := guardHd x x
          go_wp2_with fail
          go_quiet (fail)
          go_wp2_with fail
          go_roundw
          case rel => exact ⟨k + 1, _, by omega, by go_num, HT2, rfl⟩
          case measure => simp [intOf]; omega
        · have hqf : q = false := by
            cases q
            · rfl
            · exact absurd (HQ.out.1 rfl) (HNE0 hxy)
          subst hqf
          clear HT HNE0
          have hz : ∀ u : World, Sem.run Try.prog (binOp .neq 81 (.agg #[.int .i64 x.frm, .int .i64 x.val, .bool x.dn]) (.agg #[.int .i64 y.frm, .int .i64 y.val, .bool y.dn])) u = .ok (.bool true) u := fun u => by
            have e : eqBHd x y = false := by
              cases he : eqBHd x y
              · rfl
              · exact absurd ((eqBHd_iff x y).1 he) hxy
            rw [neqHd, e]
            rfl
          have hgd := guardHd x y
          clear hxy
          go_wp2_with fail
          go_quiet (fail)
          go_wp2_with fail
          go_ret
          exact ⟨rfl, _, drew_add _ _ _⟩
      · obtain rfl : k = n := by omega
        have hqt : q = true := HQ.out.2 (by
          have := htk.out
          rw [List.take_of_length_le (by rw [HN1.out]; omega), List.take_of_length_le (by rw [HN2.out]; omega)] at this
          exact this)
        subst hqt
        have hki : ¬ ((k : Int) < (k : Int)) := by omega
        go_wp2_with fail
        go_ret
        exact ⟨rfl, _, rfl⟩
  · have hqf : q = false := by
      cases q
      · rfl
      · exact absurd (congrArg List.length (hq.1 rfl)) hlen
    subst hqf
    have d0 : ((l1.length : Int) != (l2.length : Int)) = true := by simp; omega
    clear hA1 hA2 hq hlen
    go_enter Try.func53, Try.ntmps53
    go_wp2_with fail
    go_ret
    exact ⟨rfl, H0.out⟩

set_option maxHeartbeats 8000000 in
set_option maxRecDepth 100000 in
theorem eqCnts_at (v1 v2 : Value) (l1 l2 : List Cnt) (w : World) (h1 : Sees w v1 l1.length (l1.flatMap cntV)) (h2 : Sees w v2 l2.length (l2.flatMap cntV)) (hl1 : l1.length ≤ 100000) (hl2 : l2.length ≤ 100000) (q : Bool) (hq : q = true ↔ l1 = l2) :
    Calls Try.prog 54 #[v1, v2] w fun e w' => e = .returned (.bool q) ∧ ∃ n, w' = w.drewN n := by
  obtain ⟨A1, cap1, rfl, hA1⟩ := h1
  obtain ⟨A2, cap2, rfl, hA2⟩ := h2
  have H0 : Hid (∃ n, w = w.drewN n) := ⟨0, rfl⟩
  by_cases hlen : l1.length = l2.length
  · obtain ⟨n, hn⟩ : ∃ n, l1.length = n := ⟨_, rfl⟩
    have hn2 : l2.length = n := by omega
    have HN1 := Lib.hid hn
    have HN2 := Lib.hid hn2
    have HA1 := Lib.hid hA1
    have HA2 := Lib.hid hA2
    have HQ := Lib.hid hq
    rw [hn, hn2]
    have d0 : ((n : Int) != (n : Int)) = false := by simp
    have hnn : (n : Int) ≤ 100000 := by omega
    clear hn hn2 hA1 hA2 hq hlen hl1 hl2
    go_enter Try.func54, Try.ntmps54
    go_wp2_with fail
    go_loopw [13] (fun i wr => ∃ k m : Nat, k ≤ n ∧ i = .int .i64 k ∧ Hid (l1.take k = l2.take k) ∧ wr = w.drewN m) (fun i _ => n - (intOf i).toNat)
    case atStart => exact ⟨0, 0, Nat.zero_le _, rfl, (by simp : l1.take 0 = l2.take 0), rfl⟩
    case round =>
      obtain ⟨k, m, hk, rfl, htk, rfl⟩ := hrel
      have hk0 : (0 : Int) ≤ (k : Int) := by omega
      by_cases hlt : k < n
      · have hki : (k : Int) < (n : Int) := by omega
        have hk1 : k < l1.length := by rw [HN1.out]; exact hlt
        have hk2 : k < l2.length := by rw [HN2.out]; exact hlt
        obtain ⟨g1, rfl, s1⟩ := HA1.out (by have := HN1.out; omega)
        obtain ⟨g2, rfl, s2⟩ := HA2.out (by have := HN2.out; omega)
        have x0 := s1 _ _ ((flat_at cntV_len l1 k hk1 0 (by omega)).trans rfl)
        have y0 := s2 _ _ ((flat_at cntV_len l2 k hk2 0 (by omega)).trans rfl)
        have x1 := s1 _ _ ((flat_at cntV_len l1 k hk1 1 (by omega)).trans rfl)
        have y1 := s2 _ _ ((flat_at cntV_len l2 k hk2 1 (by omega)).trans rfl)
        have x2 := s1 _ _ ((flat_at cntV_len l1 k hk1 2 (by omega)).trans rfl)
        have y2 := s2 _ _ ((flat_at cntV_len l2 k hk2 2 (by omega)).trans rfl)
        have x3 := s1 _ _ ((flat_at cntV_len l1 k hk1 3 (by omega)).trans rfl)
        have y3 := s2 _ _ ((flat_at cntV_len l2 k hk2 3 (by omega)).trans rfl)
        simp only [Nat.add_zero] at x0 y0
        have HT : l1[k] = l2[k] → l1.take (k + 1) = l2.take (k + 1) := fun e => take_eq_succ htk.out hk1 hk2 e
        have hxy : l1[k] = l2[k] ∨ l1[k] ≠ l2[k] := Classical.em _
        have HNE0 : l1[k] ≠ l2[k] → l1 ≠ l2 := fun e => take_ne hk1 hk2 e
        obtain ⟨x, hx⟩ : ∃ x, l1[k] = x := ⟨_, rfl⟩
        obtain ⟨y, hy⟩ : ∃ y, l2[k] = y := ⟨_, rfl⟩
        rw [hx] at x0 x1 x2 x3
        rw [hy] at y0 y1 y2 y3
        rw [hx, hy] at hxy HT HNE0
        clear hx hy s1 s2 hk1 hk2
        rcases hxy with hxy | hxy
        · subst hxy
          have HT2 := Lib.hid (HT rfl)
          clear HT HNE0
          have hz : ∀ u : World, Sem.run Try.prog (binOp .neq 48 (.agg #[.int .i64 x.frm, .int .i64 x.to, .string x.kind, .int .i64 x.many]) (.agg #[.int .i64 x.frm, .int .i64 x.to, .string x.kind, .int .i64 x.many])) u = .ok (.bool false) u := fun u => by rw [neqCnt, (eqBCnt_iff x x).2 rfl]; rfl
          have hgd := guardCnt x x
          go_wp2_with fail
          go_quiet (fail)
          go_wp2_with fail
          go_roundw
          case rel => exact ⟨k + 1, _, by omega, by go_num, HT2, rfl⟩
          case measure => simp [intOf]; omega
        · have hqf : q = false := by
            cases q
            · rfl
            · exact absurd (HQ.out.1 rfl) (HNE0 hxy)
          subst hqf
          clear HT HNE0
          have hz : ∀ u : World, Sem.run Try.prog (binOp .neq 48 (.agg #[.int .i64 x.frm, .int .i64 x.to, .string x.kind, .int .i64 x.many]) (.agg #[.int .i64 y.frm, .int .i64 y.to, .string y.kind, .int .i64 y.many])) u = .ok (.bool true) u := fun u => by
            have e : eqBCnt x y = false := by
              cases he : eqBCnt x y
              · rfl
              · exact absurd ((eqBCnt_iff x y).1 he) hxy
            rw [neqCnt, e]
            rfl
          have hgd := guardCnt x y
          clear hxy
          go_wp2_with fail
          go_quiet (fail)
          go_wp2_with fail
          go_ret
          exact ⟨rfl, _, drew_add _ _ _⟩
      · obtain rfl : k = n := by omega
        have hqt : q = true := HQ.out.2 (by
          have := htk.out
          rw [List.take_of_length_le (by rw [HN1.out]; omega), List.take_of_length_le (by rw [HN2.out]; omega)] at this
          exact this)
        subst hqt
        have hki : ¬ ((k : Int) < (k : Int)) := by omega
        go_wp2_with fail
        go_ret
        exact ⟨rfl, _, rfl⟩
  · have hqf : q = false := by
      cases q
      · rfl
      · exact absurd (congrArg List.length (hq.1 rfl)) hlen
    subst hqf
    have d0 : ((l1.length : Int) != (l2.length : Int)) = true := by simp; omega
    clear hA1 hA2 hq hlen
    go_enter Try.func54, Try.ntmps54
    go_wp2_with fail
    go_ret
    exact ⟨rfl, H0.out⟩

set_option maxHeartbeats 8000000 in
set_option maxRecDepth 100000 in
theorem lists_at (v1 v2 : Value) (l1 l2 : List Int) (w : World) (h1 : Sees w v1 l1.length (intL l1)) (h2 : Sees w v2 l2.length (intL l2)) (hl1 : l1.length ≤ 100000) (hl2 : l2.length ≤ 100000) (q : Bool) (hq : q = true ↔ l1 = l2) :
    Calls Try.prog 61 #[v1, v2] w fun e w' => e = .returned (.bool q) ∧ ∃ n, w' = w.drewN n := by
  obtain ⟨A1, cap1, rfl, hA1⟩ := h1
  obtain ⟨A2, cap2, rfl, hA2⟩ := h2
  have H0 : Hid (∃ n, w = w.drewN n) := ⟨0, rfl⟩
  by_cases hlen : l1.length = l2.length
  · obtain ⟨n, hn⟩ : ∃ n, l1.length = n := ⟨_, rfl⟩
    have hn2 : l2.length = n := by omega
    have HN1 := Lib.hid hn
    have HN2 := Lib.hid hn2
    have HA1 := Lib.hid hA1
    have HA2 := Lib.hid hA2
    have HQ := Lib.hid hq
    rw [hn, hn2]
    have d0 : ((n : Int) != (n : Int)) = false := by simp
    have hnn : (n : Int) ≤ 100000 := by omega
    clear hn hn2 hA1 hA2 hq hlen hl1 hl2
    go_enter Try.func61, Try.ntmps61
    go_wp2_with fail
    go_loopw [5] (fun i wr => ∃ k m : Nat, k ≤ n ∧ i = .int .i64 k ∧ Hid (l1.take k = l2.take k) ∧ wr = w.drewN m) (fun i _ => n - (intOf i).toNat)
    case atStart => exact ⟨0, 0, Nat.zero_le _, rfl, (by simp : l1.take 0 = l2.take 0), rfl⟩
    case round =>
      obtain ⟨k, m, hk, rfl, htk, rfl⟩ := hrel
      have hk0 : (0 : Int) ≤ (k : Int) := by omega
      by_cases hlt : k < n
      · have hki : (k : Int) < (n : Int) := by omega
        have hk1 : k < l1.length := by rw [HN1.out]; exact hlt
        have hk2 : k < l2.length := by rw [HN2.out]; exact hlt
        obtain ⟨g1, rfl, s1⟩ := HA1.out (by have := HN1.out; omega)
        obtain ⟨g2, rfl, s2⟩ := HA2.out (by have := HN2.out; omega)
        have x0 := s1 _ _ (intL_at hk1)
        have y0 := s2 _ _ (intL_at hk2)
        have HT : l1[k] = l2[k] → l1.take (k + 1) = l2.take (k + 1) := fun e => take_eq_succ htk.out hk1 hk2 e
        have hxy : l1[k] = l2[k] ∨ l1[k] ≠ l2[k] := Classical.em _
        have HNE0 : l1[k] ≠ l2[k] → l1 ≠ l2 := fun e => take_ne hk1 hk2 e
        obtain ⟨x, hx⟩ : ∃ x, l1[k] = x := ⟨_, rfl⟩
        obtain ⟨y, hy⟩ : ∃ y, l2[k] = y := ⟨_, rfl⟩
        rw [hx] at x0
        rw [hy] at y0
        rw [hx, hy] at hxy HT HNE0
        clear hx hy s1 s2 hk1 hk2
        rcases hxy with hxy | hxy
        · subst hxy
          have HT2 := Lib.hid (HT rfl)
          clear HT HNE0
          have hz : (x != x) = false := by simp
          go_wp2_with fail
          go_quiet (fail)
          go_wp2_with fail
          go_roundw
          case rel => exact ⟨k + 1, _, by omega, by go_num, HT2, rfl⟩
          case measure => simp [intOf]; omega
        · have hqf : q = false := by
            cases q
            · rfl
            · exact absurd (HQ.out.1 rfl) (HNE0 hxy)
          subst hqf
          clear HT HNE0
          have hz : (x != y) = true := by simpa using hxy
          clear hxy
          go_wp2_with fail
          go_quiet (fail)
          go_wp2_with fail
          go_ret
          exact ⟨rfl, _, drew_add _ _ _⟩
      · obtain rfl : k = n := by omega
        have hqt : q = true := HQ.out.2 (by
          have := htk.out
          rw [List.take_of_length_le (by rw [HN1.out]; omega), List.take_of_length_le (by rw [HN2.out]; omega)] at this
          exact this)
        subst hqt
        have hki : ¬ ((k : Int) < (k : Int)) := by omega
        go_wp2_with fail
        go_ret
        exact ⟨rfl, _, rfl⟩
  · have hqf : q = false := by
      cases q
      · rfl
      · exact absurd (congrArg List.length (hq.1 rfl)) hlen
    subst hqf
    have d0 : ((l1.length : Int) != (l2.length : Int)) = true := by simp; omega
    clear hA1 hA2 hq hlen
    go_enter Try.func61, Try.ntmps61
    go_wp2_with fail
    go_ret
    exact ⟨rfl, H0.out⟩

set_option maxHeartbeats 8000000 in
set_option maxRecDepth 100000 in
theorem eqInts_at (v1 v2 : Value) (l1 l2 : List Int) (w : World) (h1 : Sees w v1 l1.length (intL l1)) (h2 : Sees w v2 l2.length (intL l2)) (hl1 : l1.length ≤ 100000) (hl2 : l2.length ≤ 100000) (q : Bool) (hq : q = true ↔ l1 = l2) :
    Calls Try.prog 51 #[v1, v2] w fun e w' => e = .returned (.bool q) ∧ ∃ n, w' = w.drewN n := by
  obtain ⟨A1, cap1, rfl, hA1⟩ := h1
  obtain ⟨A2, cap2, rfl, hA2⟩ := h2
  have H0 : Hid (∃ n, w = w.drewN n) := ⟨0, rfl⟩
  by_cases hlen : l1.length = l2.length
  · obtain ⟨n, hn⟩ : ∃ n, l1.length = n := ⟨_, rfl⟩
    have hn2 : l2.length = n := by omega
    have HN1 := Lib.hid hn
    have HN2 := Lib.hid hn2
    have HA1 := Lib.hid hA1
    have HA2 := Lib.hid hA2
    have HQ := Lib.hid hq
    rw [hn, hn2]
    have d0 : ((n : Int) != (n : Int)) = false := by simp
    have hnn : (n : Int) ≤ 100000 := by omega
    clear hn hn2 hA1 hA2 hq hlen hl1 hl2
    go_enter Try.func51, Try.ntmps51
    go_wp2_with fail
    go_loopw [13] (fun i wr => ∃ k m : Nat, k ≤ n ∧ i = .int .i64 k ∧ Hid (l1.take k = l2.take k) ∧ wr = w.drewN m) (fun i _ => n - (intOf i).toNat)
    case atStart => exact ⟨0, 0, Nat.zero_le _, rfl, (by simp : l1.take 0 = l2.take 0), rfl⟩
    case round =>
      obtain ⟨k, m, hk, rfl, htk, rfl⟩ := hrel
      have hk0 : (0 : Int) ≤ (k : Int) := by omega
      by_cases hlt : k < n
      · have hki : (k : Int) < (n : Int) := by omega
        have hk1 : k < l1.length := by rw [HN1.out]; exact hlt
        have hk2 : k < l2.length := by rw [HN2.out]; exact hlt
        obtain ⟨g1, rfl, s1⟩ := HA1.out (by have := HN1.out; omega)
        obtain ⟨g2, rfl, s2⟩ := HA2.out (by have := HN2.out; omega)
        have x0 := s1 _ _ (intL_at hk1)
        have y0 := s2 _ _ (intL_at hk2)
        have HT : l1[k] = l2[k] → l1.take (k + 1) = l2.take (k + 1) := fun e => take_eq_succ htk.out hk1 hk2 e
        have hxy : l1[k] = l2[k] ∨ l1[k] ≠ l2[k] := Classical.em _
        have HNE0 : l1[k] ≠ l2[k] → l1 ≠ l2 := fun e => take_ne hk1 hk2 e
        obtain ⟨x, hx⟩ : ∃ x, l1[k] = x := ⟨_, rfl⟩
        obtain ⟨y, hy⟩ : ∃ y, l2[k] = y := ⟨_, rfl⟩
        rw [hx] at x0
        rw [hy] at y0
        rw [hx, hy] at hxy HT HNE0
        clear hx hy s1 s2 hk1 hk2
        rcases hxy with hxy | hxy
        · subst hxy
          have HT2 := Lib.hid (HT rfl)
          clear HT HNE0
          have hz : (x != x) = false := by simp
          go_wp2_with fail
          go_quiet (fail)
          go_wp2_with fail
          go_roundw
          case rel => exact ⟨k + 1, _, by omega, by go_num, HT2, rfl⟩
          case measure => simp [intOf]; omega
        · have hqf : q = false := by
            cases q
            · rfl
            · exact absurd (HQ.out.1 rfl) (HNE0 hxy)
          subst hqf
          clear HT HNE0
          have hz : (x != y) = true := by simpa using hxy
          clear hxy
          go_wp2_with fail
          go_quiet (fail)
          go_wp2_with fail
          go_ret
          exact ⟨rfl, _, drew_add _ _ _⟩
      · obtain rfl : k = n := by omega
        have hqt : q = true := HQ.out.2 (by
          have := htk.out
          rw [List.take_of_length_le (by rw [HN1.out]; omega), List.take_of_length_le (by rw [HN2.out]; omega)] at this
          exact this)
        subst hqt
        have hki : ¬ ((k : Int) < (k : Int)) := by omega
        go_wp2_with fail
        go_ret
        exact ⟨rfl, _, rfl⟩
  · have hqf : q = false := by
      cases q
      · rfl
      · exact absurd (congrArg List.length (hq.1 rfl)) hlen
    subst hqf
    have d0 : ((l1.length : Int) != (l2.length : Int)) = true := by simp; omega
    clear hA1 hA2 hq hlen
    go_enter Try.func51, Try.ntmps51
    go_wp2_with fail
    go_ret
    exact ⟨rfl, H0.out⟩

end Go.Proofs.Ytimmmbjdaibplaa
