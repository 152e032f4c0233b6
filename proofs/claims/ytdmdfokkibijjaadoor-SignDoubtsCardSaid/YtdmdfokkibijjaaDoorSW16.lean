/-
  The walks of the small functions of the statements of layer 9: Long.
-/
import Derived.Test.YtdmdfokkibijjaaDoorSW14
namespace Go.Proofs.YtdmdfokkibijjaaDoor
open Go.RowKit
open Sgn
set_option linter.unusedVariables false
set_option linter.unusedSimpArgs false

theorem Long_any (g : G) (v : Value) (w : World) (hv : GV w v g) :
    Calls Tryd.prog 18 #[v] w fun e w' => e = .returned (.bool (decide (50 < g.fs.length))) ∧ Below w.heap.size w w' := by
  obtain ⟨x, rfl, A, cap, rfl, hca, hma, hA⟩ := hv
  obtain ⟨name, fs, res⟩ := g
  simp only at hca hma ⊢
  have hmax : maxLen = 9223372036854775807 := rfl
  rw [hmax] at hma
  clear hA hmax
  go_enter Tryd.func18, Tryd.ntmps18
  go_wp2_with fail
  go_ret
  refine ⟨?_, (Below.refl _ _).alloc (Nat.le_refl _) _⟩
  show Ending.returned (.bool (decide (50 < (fs.length : Int)))) = _
  congr 2
  rw [decide_eq_decide]
  omega

def manyG (l : List G) : Bool := !(l.all fun g => !(decide (50 < g.fs.length))) || decide (40 < l.length)

set_option maxHeartbeats 4000000 in
set_option maxRecDepth 100000 in
theorem Many_any (l : List G) (v : Value) (w : World) (hv : GSl w v l) :
    Calls Tryd.prog 10 #[v] w fun e w' => e = .returned (.bool (manyG l)) ∧ Below w.heap.size w w' := by
  have HE := fun h => hide' (all_done (fun g : G => !(decide (50 < g.fs.length))) l l.length (Nat.le_refl _) h)
  have HH := fun k hk h => hide' (all_fail (fun g : G => !(decide (50 < g.fs.length))) l k hk h)
  obtain ⟨V, hV⟩ : ∃ V, manyG l = V := ⟨_, rfl⟩
  have HV := hide' hV
  rw [hV]
  unfold manyG at HV
  obtain ⟨A, cap, rfl, hca, hma, hA⟩ := hv
  have HA : Hid (0 < l.length → ∃ b off, A = some ⟨b, off, none⟩ ∧ GCells w b off l) := hA
  have hmax : maxLen = 9223372036854775807 := rfl
  rw [hmax] at hma
  clear hA hmax hV
  go_enter Tryd.func10, Tryd.ntmps10
  go_wp2_with fail
  go_loopw [3] (fun i wr => ∃ (k : Nat), k ≤ l.length ∧ i = .int .i64 k ∧ Below w.heap.size w wr ∧ Hid (∀ x ∈ l.take k, (fun g : G => !(decide (50 < g.fs.length))) x = true)) (fun i _ => l.length - (intOf i).toNat)
  case atStart => exact ⟨0, Nat.zero_le _, rfl, Below.refl _ _, (fun f hf => by simp at hf)⟩
  case round =>
    obtain ⟨k, hk, rfl, hnx, hd⟩ := hrel
    by_cases hlt : k < l.length
    · obtain ⟨b, off, rfl, hCA⟩ := HA.out (by omega)
      obtain ⟨x, x1, x2, x3, x4⟩ := (hCA.on hnx) k hlt
      have HC := hide' (Long_any l[k] _ wr ⟨x, rfl, x4⟩)
      have hki : (0 : Int) ≤ (k : Int) := by omega
      have hk1 : (k : Int) < (l.length : Int) := by omega
      cases hq : decide (50 < l[k].fs.length)
      · have hd' := hide' (all_upto (fun g : G => !(decide (50 < g.fs.length))) l k hlt hd.out (by simp only [hq]; rfl))
        rw [hq] at HC
        clear HE HH hCA hq hd
        go_wp2_with fail
        refine (HC).out.mono ?_
        rintro e w1 ⟨rfl, hb⟩
        have hb1 : Below w.heap.size w w1 := hnx.trans (hb.mono hnx.size)
        clear hb hnx HC
        go_wp2_with fail
        go_roundw
        case rel => exact ⟨k + 1, by omega, by go_num, hb1, hd'⟩
        case measure => simp [intOf]; omega
      · have hfin := hide' (show true = V by have v := HV.out; rw [(HH k hlt (by simp only [hq]; rfl)).out] at v; simpa using v)
        rw [hq] at HC
        clear HE HH hCA HA hq HV
        go_wp2_with fail
        refine (HC).out.mono ?_
        rintro e w1 ⟨rfl, hb⟩
        have hb1 : Below w.heap.size w w1 := hnx.trans (hb.mono hnx.size)
        clear hb hnx HC
        go_wp2_with fail
        go_ret
        exact ⟨by have e := hfin.out; subst e; rfl, hb1⟩
    · have hke : k = l.length := by omega
      have hall := (HE (by rw [← hke]; exact hd.out)).out
      have hfin := hide' (show decide (40 < l.length) = V by have v := HV.out; rw [hall] at v; simpa using v)
      clear HE HH HA hd hall HV
      go_wp2_with fail
      go_ret
      refine ⟨?_, hnx⟩
      rw [← hfin.out]
      show Ending.returned (.bool (decide (40 < (l.length : Int)))) = _
      congr 2
      rw [decide_eq_decide]
      omega

end Go.Proofs.YtdmdfokkibijjaaDoor
