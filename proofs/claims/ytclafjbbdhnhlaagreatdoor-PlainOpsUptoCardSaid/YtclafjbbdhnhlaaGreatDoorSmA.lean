/-
  Lists of texts in memory, and whether two are the same: the program's slices.Equal and the document's.
-/
import Derived.Test.YtclafjbbdhnhlaaGreatDoorProg
import Derived.WalkKit
import Derived.Lib.Hide
import Derived.Below
import Derived.BigQuiet
import Derived.BigRegion
import Derived.Deep.RegionHeld3
namespace Go.Proofs.YtclafjbbdhnhlaaGreatDoor
open Go.RowKit
set_option linter.unusedVariables false
set_option linter.unusedSimpArgs false

namespace Sm
theorem hide' {p : Prop} (h : p) : Hid p := h
theorem below_draws {B : Nat} {a w : World} (h : Below B a w) (n : Nat) : Below B a (w.drewN n) := ⟨h.os, h.tape, h.output, h.size, h.block⟩
theorem cell_lt {w : World} {a : Addr} {u : Value} (h : w.cell? a = some u) : a.block < w.heap.size := by
  unfold World.cell? at h
  split at h
  · rename_i hb
    exact (Array.getElem?_eq_some_iff.1 hb).1
  · cases h

theorem cells_new' (w : World) (cs : Array Value) (t : TypeId) (j : Nat) (u : Value) (h : cs.toList[j]? = some u) {b : Nat} (hb : w.heap.size = b) : (w.alloc (.cells cs t)).cell? ((⟨b, 0, none⟩ : Addr).add j) = some u := by
  subst hb
  have e : (w.alloc (.cells cs t)).heap[w.heap.size]? = some (.cells cs t) := by
    show (w.heap.push (.cells cs t))[w.heap.size]? = _
    simp
  have hj : cs[j]? = some u := by simpa using h
  have ea : (⟨w.heap.size, 0, none⟩ : Addr).add j = ⟨w.heap.size, j, none⟩ := by
    unfold Addr.add
    by_cases h0 : j = 0
    · rw [if_pos h0, h0]
    · rw [if_neg h0]; simp
  rw [ea]
  unfold World.cell?
  simp only [e]
  simpa using hj

/-- a list of texts -/
def SSl (w : World) (v : Value) (l : List ByteArray) : Prop :=
  ∃ A cap, v = .slice A l.length cap ∧ l.length ≤ cap ∧ cap ≤ maxLen ∧ (0 < l.length → ∃ b off, A = some ⟨b, off, none⟩ ∧ ∀ i (h : i < l.length), w.cell? ⟨b, off + i, none⟩ = some (.string l[i]))
theorem SSl.under {w w' : World} {v : Value} {l : List ByteArray} (h : SSl w v l) (hb : Below w.heap.size w w') : SSl w' v l := by
  obtain ⟨A, cap, h1, h2, h3, h4⟩ := h
  refine ⟨A, cap, h1, h2, h3, fun hp => ?_⟩
  obtain ⟨b, off, h5, h6⟩ := h4 hp
  exact ⟨b, off, h5, fun i hi => (hb.cell (cell_lt (h6 i hi))).trans (h6 i hi)⟩
/-- the first of them -/
theorem SSl.first {w : World} {A : Option Addr} {cap : Nat} {l : List ByteArray} (h : SSl w (.slice A l.length cap) l) {n : Nat} (hn : n ≤ l.length) : SSl w (.slice A n cap) (l.take n) := by
  obtain ⟨A', cap', h1, h2, h3, h4⟩ := h
  simp only [Value.slice.injEq] at h1
  obtain ⟨rfl, -, rfl⟩ := h1
  have hl : (l.take n).length = n := by simp; omega
  refine ⟨A, cap, by rw [hl], by omega, h3, fun hp => ?_⟩
  obtain ⟨b, off, h5, h6⟩ := h4 (by omega)
  refine ⟨b, off, h5, fun i hi => ?_⟩
  rw [h6 i (by omega)]
  simp

def sameS (l m : List ByteArray) : Bool := decide (l = m)
theorem sameS_len {l m : List ByteArray} (h : l.length ≠ m.length) : sameS l m = false := by
  unfold sameS
  rw [decide_eq_false_iff_not]
  rintro rfl
  exact h rfl
/-- the first k are the same -/
def Upto (l m : List ByteArray) (k : Nat) : Prop := ∀ i (h : i < k) (h1 : i < l.length) (h2 : i < m.length), l[i] = m[i]
theorem sameS_of {l m : List ByteArray} (h : l.length = m.length) (k : Upto l m l.length) : sameS l m = true := by
  unfold sameS
  rw [decide_eq_true_eq]
  exact List.ext_getElem h fun i h1 h2 => k i h1 h1 h2
theorem sameS_not {l m : List ByteArray} {i : Nat} (h1 : i < l.length) (h2 : i < m.length) (h : l[i] ≠ m[i]) : sameS l m = false := by
  unfold sameS
  rw [decide_eq_false_iff_not]
  rintro rfl
  exact h rfl
theorem str_eq (a b : ByteArray) : (a.toList == b.toList) = decide (a = b) := by
  rw [Bool.eq_iff_iff, beq_iff_eq, decide_eq_true_eq]
  constructor
  · intro h
    rw [ByteArray.toList_eq, ByteArray.toList_eq] at h
    exact ByteArray.ext (Array.ext' h)
  · rintro rfl; rfl

set_option maxHeartbeats 4000000 in
set_option maxRecDepth 100000 in
theorem equal_at (l m : List ByteArray) (v u : Value) (w : World) (hv : SSl w v l) (hu : SSl w u m) :
    Calls Tryz.prog 15 #[v, u] w fun e w' => e = .returned (.bool (sameS l m)) ∧ Below w.heap.size w w' := by
  obtain ⟨A, cap, rfl, hca, hma, hA⟩ := hv
  obtain ⟨B, cap2, rfl, hcb, hmb, hB⟩ := hu
  have HA : Hid (0 < l.length → ∃ b off, A = some ⟨b, off, none⟩ ∧ ∀ i (h : i < l.length), w.cell? ⟨b, off + i, none⟩ = some (.string l[i])) := hA
  have HB : Hid (0 < m.length → ∃ b off, B = some ⟨b, off, none⟩ ∧ ∀ i (h : i < m.length), w.cell? ⟨b, off + i, none⟩ = some (.string m[i])) := hB
  have hmax : maxLen = 9223372036854775807 := rfl
  rw [hmax] at hma hmb
  clear hA hB hmax
  go_enter Tryz.func15, Tryz.ntmps15
  by_cases hlen : l.length = m.length
  · have hle : ((l.length : Int) = (m.length : Int)) := by omega
    go_wp2_with fail
    go_loopw [13, 5] (fun i j wr => ∃ (k : Nat), k ≤ l.length ∧ i = .int .i64 k ∧ Upto l m k ∧ Below w.heap.size w wr) (fun i _ _ => l.length - (intOf i).toNat)
    case atStart => exact ⟨0, Nat.zero_le _, rfl, fun i h => by omega, Below.refl _ _⟩
    case round =>
      obtain ⟨k, hk, rfl, hup, hnx⟩ := hrel
      by_cases hlt : k < l.length
      · obtain ⟨b, off, rfl, hCA⟩ := HA.out (by omega)
        obtain ⟨b2, off2, rfl, hCB⟩ := HB.out (by omega)
        have x1 : wr.cell? ⟨b, off + k, none⟩ = some (.string l[k]) := (hnx.cell (cell_lt (hCA k hlt))).trans (hCA k hlt)
        have y1 : wr.cell? ⟨b2, off2 + k, none⟩ = some (.string (m[k]'(by omega))) := (hnx.cell (cell_lt (hCB k (by omega)))).trans (hCB k (by omega))
        have hdec : Hid (∀ x y, l[k] = x → m[k]'(by omega) = y → (x.toList == y.toList) = true → Upto l m (k + 1)) := fun x y h1 h2 h3 => by
          rw [str_eq, decide_eq_true_eq] at h3
          intro i hi h4 h5
          by_cases e : i = k
          · subst e; rw [h1, h2, h3]
          · exact hup i (by omega) h4 h5
        have hno : Hid (∀ x y, l[k] = x → m[k]'(by omega) = y → (x.toList == y.toList) = false → sameS l m = false) := fun x y h1 h2 h3 => by
          rw [str_eq, decide_eq_false_iff_not] at h3
          exact sameS_not (i := k) hlt (by omega) (by rw [h1, h2]; exact h3)
        obtain ⟨x, hx⟩ : ∃ x, l[k] = x := ⟨_, rfl⟩
        obtain ⟨y, hy⟩ : ∃ y, m[k]'(by omega) = y := ⟨_, rfl⟩
        have HX := hide' hx
        have HY := hide' hy
        rw [hx] at x1
        rw [hy] at y1
        have hki : (0 : Int) ≤ (k : Int) := by omega
        have hk1 : (k : Int) < (l.length : Int) := by omega
        have hk2 : (k : Int) < (m.length : Int) := by omega
        clear hx hy hCA hCB HA HB hup
        cases hxy : (x.toList == y.toList)
        · have hs := hno.out x y HX.out HY.out hxy
          clear hdec hno HX HY
          go_wp2_with fail
          go_quiet (fail)
          go_wp2_with fail
          go_ret
          exact ⟨by rw [hs]; rfl, below_draws hnx _⟩
        · have hs := hide' (hdec.out x y HX.out HY.out hxy)
          clear hdec hno HX HY
          go_wp2_with fail
          go_quiet (fail)
          go_wp2_with fail
          go_roundw
          case rel => exact ⟨k + 1, by omega, by go_num, hs.out, below_draws hnx _⟩
          case measure => simp [intOf]; omega
      · have hs : sameS l m = true := sameS_of hlen (by
          have : k = l.length := by omega
          rw [← this]; exact hup)
        clear HA HB hup
        go_wp2_with fail
        go_ret
        exact ⟨by rw [hs]; rfl, hnx⟩
  · have hs := sameS_len hlen
    have hle : ¬ ((l.length : Int) = (m.length : Int)) := by omega
    clear HA HB
    go_wp2_with fail
    go_ret
    exact ⟨by rw [hs]; rfl, Below.refl _ _⟩

set_option maxHeartbeats 4000000 in
set_option maxRecDepth 100000 in
theorem texts_at (l m : List ByteArray) (v u : Value) (w : World) (hv : SSl w v l) (hu : SSl w u m) :
    Calls Tryz.prog 16 #[v, u] w fun e w' => e = .returned (.bool (sameS l m)) ∧ Below w.heap.size w w' := by
  obtain ⟨A, cap, rfl, hca, hma, hA⟩ := hv
  obtain ⟨B, cap2, rfl, hcb, hmb, hB⟩ := hu
  have HA : Hid (0 < l.length → ∃ b off, A = some ⟨b, off, none⟩ ∧ ∀ i (h : i < l.length), w.cell? ⟨b, off + i, none⟩ = some (.string l[i])) := hA
  have HB : Hid (0 < m.length → ∃ b off, B = some ⟨b, off, none⟩ ∧ ∀ i (h : i < m.length), w.cell? ⟨b, off + i, none⟩ = some (.string m[i])) := hB
  have hmax : maxLen = 9223372036854775807 := rfl
  rw [hmax] at hma hmb
  clear hA hB hmax
  go_enter Tryz.func16, Tryz.ntmps16
  by_cases hlen : l.length = m.length
  · have hle : ((l.length : Int) = (m.length : Int)) := by omega
    go_wp2_with fail
    go_loopw [5] (fun i wr => ∃ (k : Nat), k ≤ l.length ∧ i = .int .i64 k ∧ Upto l m k ∧ Below w.heap.size w wr) (fun i _ => l.length - (intOf i).toNat)
    case atStart => exact ⟨0, Nat.zero_le _, rfl, fun i h => by omega, Below.refl _ _⟩
    case round =>
      obtain ⟨k, hk, rfl, hup, hnx⟩ := hrel
      by_cases hlt : k < l.length
      · obtain ⟨b, off, rfl, hCA⟩ := HA.out (by omega)
        obtain ⟨b2, off2, rfl, hCB⟩ := HB.out (by omega)
        have x1 : wr.cell? ⟨b, off + k, none⟩ = some (.string l[k]) := (hnx.cell (cell_lt (hCA k hlt))).trans (hCA k hlt)
        have y1 : wr.cell? ⟨b2, off2 + k, none⟩ = some (.string (m[k]'(by omega))) := (hnx.cell (cell_lt (hCB k (by omega)))).trans (hCB k (by omega))
        have hdec : Hid (∀ x y, l[k] = x → m[k]'(by omega) = y → (x.toList == y.toList) = true → Upto l m (k + 1)) := fun x y h1 h2 h3 => by
          rw [str_eq, decide_eq_true_eq] at h3
          intro i hi h4 h5
          by_cases e : i = k
          · subst e; rw [h1, h2, h3]
          · exact hup i (by omega) h4 h5
        have hno : Hid (∀ x y, l[k] = x → m[k]'(by omega) = y → (x.toList == y.toList) = false → sameS l m = false) := fun x y h1 h2 h3 => by
          rw [str_eq, decide_eq_false_iff_not] at h3
          exact sameS_not (i := k) hlt (by omega) (by rw [h1, h2]; exact h3)
        obtain ⟨x, hx⟩ : ∃ x, l[k] = x := ⟨_, rfl⟩
        obtain ⟨y, hy⟩ : ∃ y, m[k]'(by omega) = y := ⟨_, rfl⟩
        have HX := hide' hx
        have HY := hide' hy
        rw [hx] at x1
        rw [hy] at y1
        have hki : (0 : Int) ≤ (k : Int) := by omega
        have hk1 : (k : Int) < (l.length : Int) := by omega
        have hk2 : (k : Int) < (m.length : Int) := by omega
        clear hx hy hCA hCB HA HB hup
        cases hxy : (x.toList == y.toList)
        · have hs := hno.out x y HX.out HY.out hxy
          clear hdec hno HX HY
          go_wp2_with fail
          go_quiet (fail)
          go_wp2_with fail
          go_ret
          exact ⟨by rw [hs]; rfl, below_draws hnx _⟩
        · have hs := hide' (hdec.out x y HX.out HY.out hxy)
          clear hdec hno HX HY
          go_wp2_with fail
          go_quiet (fail)
          go_wp2_with fail
          go_roundw
          case rel => exact ⟨k + 1, by omega, by go_num, hs.out, below_draws hnx _⟩
          case measure => simp [intOf]; omega
      · have hs : sameS l m = true := sameS_of hlen (by
          have : k = l.length := by omega
          rw [← this]; exact hup)
        clear HA HB hup
        go_wp2_with fail
        go_ret
        exact ⟨by rw [hs]; rfl, hnx⟩
  · have hs := sameS_len hlen
    have hle : ¬ ((l.length : Int) = (m.length : Int)) := by omega
    clear HA HB
    go_wp2_with fail
    go_ret
    exact ⟨by rw [hs]; rfl, Below.refl _ _⟩
end Sm
end Go.Proofs.YtclafjbbdhnhlaaGreatDoor
