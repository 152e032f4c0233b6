/-
  The walks of layer 9: are all of a list actuals, are all of a list signatures; of the program and of the document's answer.
-/
import Derived.Test.YtdmdfokkibijjaaDoorSW4
namespace Go.Proofs.YtdmdfokkibijjaaDoor
open Go.RowKit
open Sgn
set_option linter.unusedVariables false
set_option linter.unusedSimpArgs false

theorem notActual_any (k : ByteArray) (n : Int) (w : World) :
    Calls Tryd.prog 60 #[.agg #[.string k, .int .i64 n]] w fun e w' => e = .returned (.bool (!isActual k n)) ∧ Below w.heap.size w w' := by
  have HT := fun u => hide' (isActual_any k n u)
  go_enter Tryd.func60, Tryd.ntmps60
  go_wp2_with fail
  refine (HT _).out.mono ?_
  rintro e w1 ⟨rfl, hb⟩
  have hbw := box_below hb
  clear hb
  go_wp2_with fail
  go_ret
  exact ⟨rfl, hbw⟩

theorem notSign_any (g : G) (v : Value) (w : World) (hT : Tab w) (hv : GV w v g) (hs : g.name.size ≤ 4611686018427387904) :
    Calls Tryd.prog 58 #[v] w fun e w' => e = .returned (.bool (!validG g)) ∧ Below w.heap.size w w' := by
  obtain ⟨x, rfl, hx⟩ := hv
  have HT := fun o => hide' (Valid_any g _ (w.alloc o) (hT.alloc o) ⟨x, rfl, hx.on ((Below.refl _ _).alloc (Nat.le_refl _) _)⟩ hs)
  clear hT hx
  go_enter Tryd.func58, Tryd.ntmps58
  go_wp2_with fail
  refine (HT _).out.mono ?_
  rintro e w1 ⟨rfl, hb⟩
  have hbw := box_below hb
  clear hb
  go_wp2_with fail
  go_ret
  exact ⟨rfl, hbw⟩

/-- where the first is that is none; -1: nowhere -/
def NoneAt {α : Type} (p : α → Bool) (l : List α) (e : Ending) : Prop := ∃ q : Int, e = .returned (.int .i64 q) ∧ decide (0 ≤ q) = !(l.all p)
theorem noneAt_end {α : Type} (p : α → Bool) (l : List α) (h : ∀ x ∈ l.take l.length, p x = true) : NoneAt p l (.returned (.int .i64 (-1))) :=
  ⟨-1, rfl, by rw [all_done p l l.length (Nat.le_refl _) h]; rfl⟩
theorem noneAt_hit {α : Type} (p : α → Bool) (l : List α) (k : Nat) (hk : k < l.length) (h : p l[k] = false) : NoneAt p l (.returned (.int .i64 k)) :=
  ⟨k, rfl, by rw [all_fail p l k hk h]; simp⟩

set_option maxHeartbeats 4000000 in
set_option maxRecDepth 100000 in
theorem indexActual (l : List F) (v : Value) (w : World) (hv : FSl w v l) :
    Calls Tryd.prog 69 #[v, .func (.func 60) #[] #[]] w fun e w' => NoneAt (fun f : F => isActual f.k f.n) l e ∧ Below w.heap.size w w' := by
  have HE := hide' (noneAt_end (fun f : F => isActual f.k f.n) l)
  have HH := fun k hk h => hide' (noneAt_hit (fun f : F => isActual f.k f.n) l k hk h)
  obtain ⟨A, cap, rfl, hca, hma, hA⟩ := hv
  have HA : Hid (0 < l.length → ∃ b off, A = some ⟨b, off, none⟩ ∧ FCells w b off l) := hA
  have hmax : maxLen = 9223372036854775807 := rfl
  rw [hmax] at hma
  clear hA hmax
  go_enter Tryd.func69, Tryd.ntmps69
  go_wp2_with fail
  go_loopw [8] (fun i wr => ∃ (k : Nat), k ≤ l.length ∧ i = .int .i64 k ∧ Below w.heap.size w wr ∧ Hid (∀ x ∈ l.take k, (fun f : F => isActual f.k f.n) x = true)) (fun i _ => l.length - (intOf i).toNat)
  case atStart => exact ⟨0, Nat.zero_le _, rfl, Below.refl _ _, (fun f hf => by simp at hf)⟩
  case round =>
    obtain ⟨k, hk, rfl, hnx, hd⟩ := hrel
    by_cases hlt : k < l.length
    · obtain ⟨b, off, rfl, hCA⟩ := HA.out (by omega)
      obtain ⟨x1, x2⟩ := (hCA.on hnx) k hlt
      have HC := hide' (notActual_any l[k].k l[k].n wr)
      cases hq : (fun f : F => isActual f.k f.n) l[k]
      · have hfin := hide' (HH k hlt hq).out
        have hq' : isActual l[k].k l[k].n = false := hq
        rw [hq'] at HC
        clear HE HH hCA HA hq hq'
        go_wp2_with fail
        refine (HC).out.mono ?_
        rintro e w1 ⟨rfl, hb⟩
        have hb1 : Below w.heap.size w w1 := hnx.trans (hb.mono hnx.size)
        clear hb hnx HC
        go_wp2_with fail
        go_ret
        exact ⟨hfin.out, hb1⟩
      · have hd' := hide' (all_upto (fun f : F => isActual f.k f.n) l k hlt hd.out hq)
        have hq' : isActual l[k].k l[k].n = true := hq
        rw [hq'] at HC
        clear HE HH hCA hq hd hq'
        go_wp2_with fail
        refine (HC).out.mono ?_
        rintro e w1 ⟨rfl, hb⟩
        have hb1 : Below w.heap.size w w1 := hnx.trans (hb.mono hnx.size)
        clear hb hnx HC
        go_wp2_with fail
        go_roundw
        case rel => exact ⟨k + 1, by omega, by go_num, hb1, hd'⟩
        case measure => simp [intOf]; omega
    · have hke : k = l.length := by omega
      have hfin := hide' (HE.out (by rw [← hke]; exact hd.out))
      clear HE HH HA hd
      go_wp2_with fail
      go_ret
      exact ⟨hfin.out, hnx⟩

set_option maxHeartbeats 4000000 in
set_option maxRecDepth 100000 in
theorem indexSign (l : List G) (v : Value) (w : World) (HT : Hid (Tab w)) (HS : Hid (∀ g ∈ l, g.name.size ≤ 4611686018427387904)) (hv : GSl w v l) :
    Calls Tryd.prog 68 #[v, .func (.func 58) #[] #[]] w fun e w' => NoneAt (fun g : G => validG g) l e ∧ Below w.heap.size w w' := by
  have HE := hide' (noneAt_end (fun g : G => validG g) l)
  have HH := fun k hk h => hide' (noneAt_hit (fun g : G => validG g) l k hk h)
  obtain ⟨A, cap, rfl, hca, hma, hA⟩ := hv
  have HA : Hid (0 < l.length → ∃ b off, A = some ⟨b, off, none⟩ ∧ GCells w b off l) := hA
  have hmax : maxLen = 9223372036854775807 := rfl
  rw [hmax] at hma
  clear hA hmax
  go_enter Tryd.func68, Tryd.ntmps68
  go_wp2_with fail
  go_loopw [8] (fun i wr => ∃ (k : Nat), k ≤ l.length ∧ i = .int .i64 k ∧ Below w.heap.size w wr ∧ Hid (∀ x ∈ l.take k, (fun g : G => validG g) x = true)) (fun i _ => l.length - (intOf i).toNat)
  case atStart => exact ⟨0, Nat.zero_le _, rfl, Below.refl _ _, (fun f hf => by simp at hf)⟩
  case round =>
    obtain ⟨k, hk, rfl, hnx, hd⟩ := hrel
    by_cases hlt : k < l.length
    · obtain ⟨b, off, rfl, hCA⟩ := HA.out (by omega)
      obtain ⟨x, x1, x2, x3, x4⟩ := (hCA.on hnx) k hlt
      have HC := hide' (notSign_any l[k] _ wr (HT.out.on hnx) ⟨x, rfl, x4⟩ (HS.out _ (List.getElem_mem hlt)))
      cases hq : (fun g : G => validG g) l[k]
      · have hfin := hide' (HH k hlt hq).out
        have hq' : validG l[k] = false := hq
        rw [hq'] at HC
        clear HE HH hCA HA hq hq'
        go_wp2_with fail
        refine (HC).out.mono ?_
        rintro e w1 ⟨rfl, hb⟩
        have hb1 : Below w.heap.size w w1 := hnx.trans (hb.mono hnx.size)
        clear hb hnx HC
        go_wp2_with fail
        go_ret
        exact ⟨hfin.out, hb1⟩
      · have hd' := hide' (all_upto (fun g : G => validG g) l k hlt hd.out hq)
        have hq' : validG l[k] = true := hq
        rw [hq'] at HC
        clear HE HH hCA hq hd hq'
        go_wp2_with fail
        refine (HC).out.mono ?_
        rintro e w1 ⟨rfl, hb⟩
        have hb1 : Below w.heap.size w w1 := hnx.trans (hb.mono hnx.size)
        clear hb hnx HC
        go_wp2_with fail
        go_roundw
        case rel => exact ⟨k + 1, by omega, by go_num, hb1, hd'⟩
        case measure => simp [intOf]; omega
    · have hke : k = l.length := by omega
      have hfin := hide' (HE.out (by rw [← hke]; exact hd.out))
      clear HE HH HA hd
      go_wp2_with fail
      go_ret
      exact ⟨hfin.out, hnx⟩

theorem not_not_ge {α : Type} {p : α → Bool} {l : List α} {q : Int} (h : decide (0 ≤ q) = !(l.all p)) : Ending.returned (.bool (decide (0 ≤ q))) = Ending.returned (.bool (!(l.all p))) := by rw [h]
theorem containsActual (l : List F) (v : Value) (w : World) (hv : FSl w v l) :
    Calls Tryd.prog 59 #[v, .func (.func 60) #[] #[]] w fun e w' => e = .returned (.bool (!(l.all (fun f : F => isActual f.k f.n)))) ∧ Below w.heap.size w w' := by
  have HC := hide' (indexActual l v w hv)
  go_enter Tryd.func59, Tryd.ntmps59
  go_wp2_with fail
  refine HC.out.mono ?_
  rintro e w1 ⟨⟨q, rfl, hq⟩, hb⟩
  have HQ := hide' (not_not_ge hq)
  clear hq
  go_wp2_with fail
  go_ret
  exact ⟨HQ.out, hb⟩

theorem containsSign (l : List G) (v : Value) (w : World) (HT : Hid (Tab w)) (HS : Hid (∀ g ∈ l, g.name.size ≤ 4611686018427387904)) (hv : GSl w v l) :
    Calls Tryd.prog 57 #[v, .func (.func 58) #[] #[]] w fun e w' => e = .returned (.bool (!(l.all (fun g : G => validG g)))) ∧ Below w.heap.size w w' := by
  have HC := hide' (indexSign l v w HT HS hv)
  go_enter Tryd.func57, Tryd.ntmps57
  go_wp2_with fail
  refine HC.out.mono ?_
  rintro e w1 ⟨⟨q, rfl, hq⟩, hb⟩
  have HQ := hide' (not_not_ge hq)
  clear hq
  go_wp2_with fail
  go_ret
  exact ⟨HQ.out, hb⟩

theorem areActuals_any (l : List F) (v : Value) (w : World) (hv : FSl w v l) :
    Calls Tryd.prog 36 #[v] w fun e w' => e = .returned (.bool (l.all (fun f : F => isActual f.k f.n))) ∧ Below w.heap.size w w' := by
  have HC := hide' (containsActual l v w hv)
  obtain ⟨q, hq⟩ : ∃ q, l.all (fun f : F => isActual f.k f.n) = q := ⟨_, rfl⟩
  rw [hq] at HC ⊢
  clear hq
  go_enter Tryd.func36, Tryd.ntmps36
  go_wp2_with fail
  refine HC.out.mono ?_
  rintro e w1 ⟨rfl, hb⟩
  clear HC
  go_wp2_with fail
  go_ret
  exact ⟨by simp, hb⟩

theorem areSigns_any (l : List G) (v : Value) (w : World) (HT : Hid (Tab w)) (HS : Hid (∀ g ∈ l, g.name.size ≤ 4611686018427387904)) (hv : GSl w v l) :
    Calls Tryd.prog 35 #[v] w fun e w' => e = .returned (.bool (l.all (fun g : G => validG g))) ∧ Below w.heap.size w w' := by
  have HC := hide' (containsSign l v w HT HS hv)
  obtain ⟨q, hq⟩ : ∃ q, l.all (fun g : G => validG g) = q := ⟨_, rfl⟩
  rw [hq] at HC ⊢
  clear hq
  go_enter Tryd.func35, Tryd.ntmps35
  go_wp2_with fail
  refine HC.out.mono ?_
  rintro e w1 ⟨rfl, hb⟩
  clear HC
  go_wp2_with fail
  go_ret
  exact ⟨by simp, hb⟩

end Go.Proofs.YtdmdfokkibijjaaDoor
