/-
  The walk of (*engine.World).count: its contract CountAt. (MAPT KEYT INTT WORLDT FIELDK: this seat's numbers, filled by wip/scripts/count.sh.)
-/
import Derived.Test.YtacjgphfcailmaaGreatDoorEvZ
import Derived.Test.YtacjgphfcailmaaGreatDoorW12
namespace Go.Proofs.YtacjgphfcailmaaGreatDoor
open Go.RowKit
set_option linter.unusedVariables false
set_option linter.unusedSimpArgs false
namespace Ev
set_option maxHeartbeats 16000000 in
set_option maxRecDepth 100000 in
theorem count_same (p : Value) (s : ByteArray) (x : Int) (w : World) : Calls Tryz.prog 184 #[p, .string s, .int .i64 x, .int .i64 x] w fun e w' => e = .returned (.tuple #[]) ∧ EqW w w' := by
  go_enter Tryz.func184, Tryz.ntmps184
  go_wp2_with fail
  exact bodyPost_end (v := .tuple #[]) (by simp [results, go_sem]) rfl ⟨rfl, rfl, rfl, rfl, rfl⟩
theorem ckey : CKeyT Tryz.prog 61 32 3 ((Tryz.prog.fieldsOf 32)) where
  map := by kernel_rfl
  key := by kernel_rfl
  zero := fun w => by kernel_rfl
  held := by kernel_rfl
  same := fun x y n v x' y' n' v' => by kernel_rfl
  chk := fun em x y s w => by cases em <;> kernel_rfl
set_option maxHeartbeats 16000000 in
set_option maxRecDepth 100000 in
theorem region_any {v8 born : Int} {W1 W2 : World} (blk off : Nat) (s : ByteArray) (x y : Int) (m : Nat) (w : World) (hcell : w.cell? ⟨blk, off + 15, none⟩ = some (.map (some m))) 
   (k8 : (Instr.lookup 61 (.map (some m)) (cKey x y s) false).run Tryz.prog w.drew = .ok (.int .i64 v8) w.drew)
   (k8' : (Instr.lookup 61 (.map (some m)) (cKey x y s) false).run Tryz.prog W1 = .ok (.int .i64 v8) W1)
   (k10 : (Instr.mapEntry 61 (.map (some m)) (cKey x y s)).run Tryz.prog w.drew = .ok (.tuple #[.int .i64 v8, .int .i64 born]) W1)
   (k12 : (Instr.entryStore 61 (.map (some m)) (.int .i64 born) (.int .i64 (IntKind.i64.wrap (v8 + 1)))).run Tryz.prog W1 = .ok () W2) (hxy : x ≠ y) :
    Calls Tryz.prog 184 #[.pointer (some ⟨blk, off, none⟩), .string s, .int .i64 x, .int .i64 y] w fun e w' => e = .returned (.tuple #[]) ∧ EqW W2 w' := by
  go_enter Tryz.func184, Tryz.ntmps184
  go_wp2_with fail
  let val : Nat → Value := fun i => match i with
    | 0 => .pointer (some ⟨blk, off, none⟩) | 1 => .pointer (some ⟨blk, off, none⟩) | 2 => .pointer (some ⟨blk, off + 15, none⟩) | 3 => .map (some m) | 4 => .int .i64 x | 5 => .int .i64 y | 6 => .string s
    | 7 => cKey x y s | 8 => .int .i64 v8 | 9 => .int .i64 (IntKind.i64.wrap (v8 + 1)) | 10 => .tuple #[.int .i64 v8, .int .i64 born] | 11 => .int .i64 born | _ => undef
  refine draws_fixed val (fun L => if L 12 = true then W2 else if L 10 = true then W1 else w.drew) _ (by kernel_rfl) (by kernel_rfl) (by kernel_rfl) (by kernel_rfl) (fun L L' h => ?_) (fun L i o a ho hL hb hc hv hr => ?_) rfl (fun a hr => ?_)
  · have e1 := h 12 (by decide)
    have e2 := h 10 (by decide)
    simp only [e1, e2]
  · have p0 : a.eval (.tmp 0) = .pointer (some ⟨blk, off, none⟩) := hr 0 (by kernel_rfl)
    have p1 : a.eval (.tmp 1) = .string s := hr 1 (by kernel_rfl)
    have p2 : a.eval (.tmp 2) = .int .i64 x := hr 2 (by kernel_rfl)
    have p3 : a.eval (.tmp 3) = .int .i64 y := hr 3 (by kernel_rfl)
    have f12 : ∀ j, j < 12 → L j = false → L 12 = false := fun j hj h => by
      cases h12 : L 12 with
      | false => rfl
      | true =>
        have := hc 12 j (List.all_eq_true.1 (show ((List.range 12).all fun j => edgeB _ 12 j) = true by kernel_rfl) j (List.mem_range.2 hj)) h12
        rw [h] at this
        cases this
    have f10 : ∀ j, j < 8 → L j = false → L 10 = false := fun j hj h => by
      cases h10 : L 10 with
      | false => rfl
      | true =>
        have := hc 10 j (List.all_eq_true.1 (show ((List.range 8).all fun j => edgeB _ 10 j) = true by kernel_rfl) j (List.mem_range.2 hj)) h10
        rw [h] at this
        cases this
    have T := fun (j t : Nat) h1 h2 => show a.eval (.tmp t) = val j from hv j t h2 (hb j h1)
    rcases i with _ | _ | _ | _ | _ | _ | _ | _ | _ | _ | _ | _ | _ | i
    all_goals simp only [List.getElem?_toArray, List.getElem?_cons_succ, List.getElem?_cons_zero, Option.some.injEq, List.getElem?_nil, reduceCtorEq] at ho
    all_goals subst ho
    · have g12 := f12 0 (by decide) hL
      have g10 := f10 0 (by decide) hL
      left
      simp only [g12, g10, Bool.false_or, Nat.reduceBEq, Bool.false_eq_true, if_false]
      clear hv hb hc f12 f10 T
      simp [execOp, p0, val]
    · have g12 := f12 1 (by decide) hL
      have g10 := f10 1 (by decide) hL
      have t := T 0 11 (by kernel_rfl) (by kernel_rfl)
      left
      simp only [g12, g10, Bool.false_or, Nat.reduceBEq, Bool.false_eq_true, if_false]
      clear hv hb hc f12 f10 T
      simp [execOp, t, val]
    · have g12 := f12 2 (by decide) hL
      have g10 := f10 2 (by decide) hL
      have t := T 1 12 (by kernel_rfl) (by kernel_rfl)
      left
      simp only [g12, g10, Bool.false_or, Nat.reduceBEq, Bool.false_eq_true, if_false]
      clear hv hb hc f12 f10 T
      have hf : (Instr.fieldAt 93 (.pointer (some ⟨blk, off, none⟩)) 15).run Tryz.prog w.drew = .ok (.pointer (some ⟨blk, off + 15, none⟩)) w.drew := by kernel_rfl
      simp [execOp, t, val, hf]
    · have g12 := f12 3 (by decide) hL
      have g10 := f10 3 (by decide) hL
      have t := T 2 13 (by kernel_rfl) (by kernel_rfl)
      left
      simp only [g12, g10, Bool.false_or, Nat.reduceBEq, Bool.false_eq_true, if_false]
      clear hv hb hc f12 f10 T
      have hd : w.drew.cell? ⟨blk, off + 15, none⟩ = some (.map (some m)) := hcell
      have hu : Tryz.prog.underlying 61 = some (.map 32 3) := by kernel_rfl
      have ha : aggT (.map 32 3) = false := rfl
      simp [execOp, t, val, Instr.loadAt, Instr.sureAddr, loadVar, run_agg hu, ha, run_load, hd]
    · have g12 := f12 4 (by decide) hL
      have g10 := f10 4 (by decide) hL
      left
      simp only [g12, g10, Bool.false_or, Nat.reduceBEq, Bool.false_eq_true, if_false]
      clear hv hb hc f12 f10 T
      simp [execOp, p2, val]
    · have g12 := f12 5 (by decide) hL
      have g10 := f10 5 (by decide) hL
      left
      simp only [g12, g10, Bool.false_or, Nat.reduceBEq, Bool.false_eq_true, if_false]
      clear hv hb hc f12 f10 T
      simp [execOp, p3, val]
    · have g12 := f12 6 (by decide) hL
      have g10 := f10 6 (by decide) hL
      left
      simp only [g12, g10, Bool.false_or, Nat.reduceBEq, Bool.false_eq_true, if_false]
      clear hv hb hc f12 f10 T
      simp [execOp, p1, val]
    · have g12 := f12 7 (by decide) hL
      have g10 := f10 7 (by decide) hL
      have t1 := T 4 15 (by kernel_rfl) (by kernel_rfl)
      have t2 := T 5 16 (by kernel_rfl) (by kernel_rfl)
      have t3 := T 6 17 (by kernel_rfl) (by kernel_rfl)
      left
      simp only [g12, g10, Bool.false_or, Nat.reduceBEq, Bool.false_eq_true, if_false]
      clear hv hb hc f12 f10 T
      have hf : (Instr.build 32 #[(0, .int .i64 x), (1, .int .i64 y), (2, .string s)]).run Tryz.prog w.drew = .ok (cKey x y s) w.drew := by kernel_rfl
      simp [execOp, t1, t2, t3, val, hf]
    · have g12 := f12 8 (by decide) hL
      have t1 := T 3 14 (by kernel_rfl) (by kernel_rfl)
      have t2 := T 7 18 (by kernel_rfl) (by kernel_rfl)
      left
      simp only [g12, Bool.false_or, Nat.reduceBEq, Bool.false_eq_true, if_false, Bool.or_false]
      clear hv hb hc f12 f10 T
      by_cases h10 : L 10 = true
      · simp [execOp, t1, t2, val, h10, k8']
      · simp [execOp, t1, t2, val, h10, k8]
    · have g12 := f12 9 (by decide) hL
      have t1 := T 8 19 (by kernel_rfl) (by kernel_rfl)
      left
      simp only [g12, Bool.false_or, Nat.reduceBEq, Bool.false_eq_true, if_false, Bool.or_false]
      clear hv hb hc f12 f10 T
      have hk : a.eval (.const (.int .i64 1)) = .int .i64 1 := rfl
      have hg : ∀ w, (eqGuard .add 3 (.tmp 19) (.const (.int .i64 1)) (.int .i64 v8) (.int .i64 1)).run Tryz.prog w = .ok () w := fun w => by kernel_rfl
      have hb : ∀ w, (binOp .add 3 (.int .i64 v8) (.int .i64 1)).run Tryz.prog w = .ok (.int .i64 (IntKind.i64.wrap (v8 + 1))) w := fun w => by kernel_rfl
      simp [execOp, t1, val, hk, hg, hb]
    · have g12 := f12 10 (by decide) hL
      have t1 := T 3 14 (by kernel_rfl) (by kernel_rfl)
      have t2 := T 7 18 (by kernel_rfl) (by kernel_rfl)
      left
      simp only [g12, hL, Bool.false_or, Nat.reduceBEq, Bool.false_eq_true, if_false, Bool.or_false]
      clear hv hb hc f12 f10 T
      simp [execOp, t1, t2, val, k10]
    · have g12 := f12 11 (by decide) hL
      have g10 := hb 10 (by kernel_rfl)
      have t1 := T 10 21 (by kernel_rfl) (by kernel_rfl)
      left
      simp only [g12, g10, Bool.false_or, Nat.reduceBEq, Bool.false_eq_true, if_false, Bool.or_false, if_true]
      clear hv hb hc f12 f10 T
      simp [execOp, t1, val, Instr.extract]
    · have g10 := hb 10 (by kernel_rfl)
      have t1 := T 3 14 (by kernel_rfl) (by kernel_rfl)
      have t2 := T 11 22 (by kernel_rfl) (by kernel_rfl)
      have t3 := T 9 20 (by kernel_rfl) (by kernel_rfl)
      right
      refine ⟨rfl, ?_⟩
      simp only [hL, g10, Bool.false_or, Nat.reduceBEq, Bool.false_eq_true, if_false, Bool.or_false, if_true]
      clear hv hb hc f12 f10 T
      simp [execOp, t1, t2, t3, val, k12]
  · refine bodyPost_end (v := .tuple #[]) (by simp [results, go_sem]) hr.2.1 ⟨rfl, rfl, rfl, rfl, rfl⟩
theorem eqW_trans {a b c : World} (h : EqW a b) (k : EqW b c) : EqW a c := ⟨k.1.trans h.1, k.2.1.trans h.2.1, k.2.2.1.trans h.2.2.1, k.2.2.2.trans h.2.2.2⟩
theorem set_at {w : World} {m c c' : Nat} {E E' : Array MapEntry} (hm : w.heap[m]? = some (.map E c)) : ({ w with heap := w.heap.setIfInBounds m (.map E' c') } : World).heap[m]? = some (.map E' c') := by
  have := (Array.getElem?_eq_some_iff.1 hm).1
  simp [Array.getElem?_setIfInBounds, this]
theorem count_at : CountAt Tryz.prog 184 15 where
  same := count_same
  new := by
    intro blk off s x y m c E w hxy hcell hm ho hn
    have hm' : w.drew.heap[m]? = some (.map E c) := hm
    have e1 := entry_new ckey (x := x) (y := y) (s := s) hm' ho
    have hm1 := set_at (E' := E.push ⟨cKey x y s, .int .i64 0, c⟩) (c' := c + 1) hm'
    have e2 := lookup_old ckey (x := x) (y := y) (s := s) hm1 (j := E.size) (by rw [push_take]; exact ho) (push_at _) rfl
    have e3 := store_at (P := Tryz.prog) (t := 61) (val := .int .i64 (IntKind.i64.wrap (0 + 1))) hm1 (j := E.size) (push_at _) (by rw [push_take]; exact hn)
    refine (region_any blk off s x y m w hcell (lookup_new ckey hm' ho) e2 e1 e3 hxy).mono ?_
    rintro e w' ⟨h1, h2⟩
    refine ⟨h1, eqW_trans ?_ h2⟩
    refine ⟨?_, rfl, rfl, rfl⟩
    rw [push_modify]
    have hw : IntKind.i64.wrap (0 + 1) = 1 := by decide
    rw [hw]
    simp only [Array.setIfInBounds_setIfInBounds]
    rfl
  old := by
    intro blk off s x y q m c j e0 E w hxy hcell hm ho h0 hk hv hn
    have hm' : w.drew.heap[m]? = some (.map E c) := hm
    have e0' := lookup_old ckey (x := x) (y := y) (s := s) hm' ho h0 hk
    have e1 := entry_old ckey (x := x) (y := y) (s := s) hm' ho h0 hk
    rw [hv] at e0' e1
    have hm1 := set_at (E' := E.modify j fun e => { e with key := cKey x y s }) (c' := c) hm'
    have h1 := modify_at (fun e => { e with key := cKey x y s }) h0
    have e2 := lookup_old ckey (x := x) (y := y) (s := s) hm1 (j := j) (by rw [modify_take]; exact ho) h1 rfl
    have e3 := store_at (P := Tryz.prog) (t := 61) (val := .int .i64 (IntKind.i64.wrap (q + 1))) hm1 (j := j) h1 (by rw [modify_take]; exact hn)
    simp only [hv] at e2
    refine (region_any blk off s x y m w hcell e0' e2 e1 e3 hxy).mono ?_
    rintro e w' ⟨h1, h2⟩
    refine ⟨h1, eqW_trans ?_ h2⟩
    refine ⟨?_, rfl, rfl, rfl⟩
    rw [modify_twice]
    simp only [Array.setIfInBounds_setIfInBounds]
    rfl
theorem cnt : CntOK Tab Tryz.prog := cnt_of (by kernel_rfl) (by kernel_rfl) count_at
end Ev
end Go.Proofs.YtacjgphfcailmaaGreatDoor
