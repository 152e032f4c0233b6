/-
  The walks of layer 9: the ways in which actuals fit a signature; of the program and of the document's answer.
-/
import Derived.Test.YtdmdfokkibijjaaGreatDoorSW4
import Derived.Laws.OwnMore
namespace Go.Proofs.YtdmdfokkibijjaaGreatDoor
open Go.RowKit
open Sgn
set_option linter.unusedVariables false
set_option linter.unusedSimpArgs false

theorem notActual_any (k : ByteArray) (n : Int) (w : World) :
    Calls Tryz.prog 70 #[.agg #[.string k, .int .i64 n]] w fun e w' => e = .returned (.bool (!isActual k n)) ∧ Below w.heap.size w w' := by
  have HT := fun u => hide' (isActual_any k n u)
  go_enter Tryz.func70, Tryz.ntmps70
  go_wp2_with fail
  refine (HT _).out.mono ?_
  rintro e w1 ⟨rfl, hb⟩
  have hbw := box_below hb
  clear hb
  go_wp2_with fail
  go_ret
  exact ⟨rfl, hbw⟩

theorem notSign_any (g : G) (v : Value) (w : World) (hT : Tab w) (hv : GV w v g) (hs : g.name.size ≤ 4611686018427387904) :
    Calls Tryz.prog 68 #[v] w fun e w' => e = .returned (.bool (!validG g)) ∧ Below w.heap.size w w' := by
  obtain ⟨x, rfl, hx⟩ := hv
  have HT := fun o => hide' (Valid_any g _ (w.alloc o) (hT.alloc o) ⟨x, rfl, hx.on ((Below.refl _ _).alloc (Nat.le_refl _) _)⟩ hs)
  clear hT hx
  go_enter Tryz.func68, Tryz.ntmps68
  go_wp2_with fail
  refine (HT _).out.mono ?_
  rintro e w1 ⟨rfl, hb⟩
  have hbw := box_below hb
  clear hb
  go_wp2_with fail
  go_ret
  exact ⟨rfl, hbw⟩

/-- where the first is that is none; -1: nowhere -/
def NoneAt {α : Type} (p : α → Bool) (l : List α) (e : Ending) : Prop := ∃ q : Int, e = .returned (.int .i64 q) ∧ decide (0 ≤ q) = !(l.all p)
theorem noneAt_end {α : Type} (p : α → Bool) (l : List α) (h : ∀ x ∈ l.take l.length, p x = true) : NoneAt p l (.returned (.int .i64 (-1))) :=
  ⟨-1, rfl, by rw [all_done p l l.length (Nat.le_refl _) h]; rfl⟩
theorem noneAt_hit {α : Type} (p : α → Bool) (l : List α) (k : Nat) (hk : k < l.length) (h : p l[k] = false) : NoneAt p l (.returned (.int .i64 k)) :=
  ⟨k, rfl, by rw [all_fail p l k hk h]; simp⟩

set_option maxHeartbeats 4000000 in
set_option maxRecDepth 100000 in
theorem indexActual (l : List F) (v : Value) (w : World) (hv : FSl w v l) :
    Calls Tryz.prog 90 #[v, .func (.func 70) #[] #[]] w fun e w' => NoneAt (fun f : F => isActual f.k f.n) l e ∧ Below w.heap.size w w' := by
  have HE := hide' (noneAt_end (fun f : F => isActual f.k f.n) l)
  have HH := fun k hk h => hide' (noneAt_hit (fun f : F => isActual f.k f.n) l k hk h)
  obtain ⟨A, cap, rfl, hca, hma, hA⟩ := hv
  have HA : Hid (0 < l.length → ∃ b off, A = some ⟨b, off, none⟩ ∧ FCells w b off l) := hA
  have hmax : maxLen = 9223372036854775807 := rfl
  rw [hmax] at hma
  clear hA hmax
  go_enter Tryz.func90, Tryz.ntmps90
  go_wp2_with fail
  go_loopw [8] (fun i wr => ∃ (k : Nat), k ≤ l.length ∧ i = .int .i64 k ∧ Below w.heap.size w wr ∧ Hid (∀ x ∈ l.take k, (fun f : F => isActual f.k f.n) x = true)) (fun i _ => l.length - (intOf i).toNat)
  case atStart => exact ⟨0, Nat.zero_le _, rfl, Below.refl _ _, (fun f hf => by simp at hf)⟩
  case round =>
    obtain ⟨k, hk, rfl, hnx, hd⟩ := hrel
    by_cases hlt : k < l.length
    · obtain ⟨b, off, rfl, hCA⟩ := HA.out (by omega)
      obtain ⟨x1, x2⟩ := (hCA.on hnx) k hlt
      have HC := hide' (notActual_any l[k].k l[k].n wr)
      cases hq : (fun f : F => isActual f.k f.n) l[k]
      · have hfin := hide' (HH k hlt hq).out
        have hq' : isActual l[k].k l[k].n = false := hq
        rw [hq'] at HC
        clear HE HH hCA HA hq hq'
        go_wp2_with fail
        refine (HC).out.mono ?_
        rintro e w1 ⟨rfl, hb⟩
        have hb1 : Below w.heap.size w w1 := hnx.trans (hb.mono hnx.size)
        clear hb hnx HC
        go_wp2_with fail
        go_ret
        exact ⟨hfin.out, hb1⟩
      · have hd' := hide' (all_upto (fun f : F => isActual f.k f.n) l k hlt hd.out hq)
        have hq' : isActual l[k].k l[k].n = true := hq
        rw [hq'] at HC
        clear HE HH hCA hq hd hq'
        go_wp2_with fail
        refine (HC).out.mono ?_
        rintro e w1 ⟨rfl, hb⟩
        have hb1 : Below w.heap.size w w1 := hnx.trans (hb.mono hnx.size)
        clear hb hnx HC
        go_wp2_with fail
        go_roundw
        case rel => exact ⟨k + 1, by omega, by go_num, hb1, hd'⟩
        case measure => simp [intOf]; omega
    · have hke : k = l.length := by omega
      have hfin := hide' (HE.out (by rw [← hke]; exact hd.out))
      clear HE HH HA hd
      go_wp2_with fail
      go_ret
      exact ⟨hfin.out, hnx⟩

set_option maxHeartbeats 4000000 in
set_option maxRecDepth 100000 in
theorem indexSign (l : List G) (v : Value) (w : World) (HT : Hid (Tab w)) (HS : Hid (∀ g ∈ l, g.name.size ≤ 4611686018427387904)) (hv : GSl w v l) :
    Calls Tryz.prog 89 #[v, .func (.func 68) #[] #[]] w fun e w' => NoneAt (fun g : G => validG g) l e ∧ Below w.heap.size w w' := by
  have HE := hide' (noneAt_end (fun g : G => validG g) l)
  have HH := fun k hk h => hide' (noneAt_hit (fun g : G => validG g) l k hk h)
  obtain ⟨A, cap, rfl, hca, hma, hA⟩ := hv
  have HA : Hid (0 < l.length → ∃ b off, A = some ⟨b, off, none⟩ ∧ GCells w b off l) := hA
  have hmax : maxLen = 9223372036854775807 := rfl
  rw [hmax] at hma
  clear hA hmax
  go_enter Tryz.func89, Tryz.ntmps89
  go_wp2_with fail
  go_loopw [8] (fun i wr => ∃ (k : Nat), k ≤ l.length ∧ i = .int .i64 k ∧ Below w.heap.size w wr ∧ Hid (∀ x ∈ l.take k, (fun g : G => validG g) x = true)) (fun i _ => l.length - (intOf i).toNat)
  case atStart => exact ⟨0, Nat.zero_le _, rfl, Below.refl _ _, (fun f hf => by simp at hf)⟩
  case round =>
    obtain ⟨k, hk, rfl, hnx, hd⟩ := hrel
    by_cases hlt : k < l.length
    · obtain ⟨b, off, rfl, hCA⟩ := HA.out (by omega)
      obtain ⟨x, x1, x2, x3, x4⟩ := (hCA.on hnx) k hlt
      have HC := hide' (notSign_any l[k] _ wr (HT.out.on hnx) ⟨x, rfl, x4⟩ (HS.out _ (List.getElem_mem hlt)))
      cases hq : (fun g : G => validG g) l[k]
      · have hfin := hide' (HH k hlt hq).out
        have hq' : validG l[k] = false := hq
        rw [hq'] at HC
        clear HE HH hCA HA hq hq'
        go_wp2_with fail
        refine (HC).out.mono ?_
        rintro e w1 ⟨rfl, hb⟩
        have hb1 : Below w.heap.size w w1 := hnx.trans (hb.mono hnx.size)
        clear hb hnx HC
        go_wp2_with fail
        go_ret
        exact ⟨hfin.out, hb1⟩
      · have hd' := hide' (all_upto (fun g : G => validG g) l k hlt hd.out hq)
        have hq' : validG l[k] = true := hq
        rw [hq'] at HC
        clear HE HH hCA hq hd hq'
        go_wp2_with fail
        refine (HC).out.mono ?_
        rintro e w1 ⟨rfl, hb⟩
        have hb1 : Below w.heap.size w w1 := hnx.trans (hb.mono hnx.size)
        clear hb hnx HC
        go_wp2_with fail
        go_roundw
        case rel => exact ⟨k + 1, by omega, by go_num, hb1, hd'⟩
        case measure => simp [intOf]; omega
    · have hke : k = l.length := by omega
      have hfin := hide' (HE.out (by rw [← hke]; exact hd.out))
      clear HE HH HA hd
      go_wp2_with fail
      go_ret
      exact ⟨hfin.out, hnx⟩

theorem not_not_ge {α : Type} {p : α → Bool} {l : List α} {q : Int} (h : decide (0 ≤ q) = !(l.all p)) : Ending.returned (.bool (decide (0 ≤ q))) = Ending.returned (.bool (!(l.all p))) := by rw [h]
theorem containsActual (l : List F) (v : Value) (w : World) (hv : FSl w v l) :
    Calls Tryz.prog 69 #[v, .func (.func 70) #[] #[]] w fun e w' => e = .returned (.bool (!(l.all (fun f : F => isActual f.k f.n)))) ∧ Below w.heap.size w w' := by
  have HC := hide' (indexActual l v w hv)
  go_enter Tryz.func69, Tryz.ntmps69
  go_wp2_with fail
  refine HC.out.mono ?_
  rintro e w1 ⟨⟨q, rfl, hq⟩, hb⟩
  have HQ := hide' (not_not_ge hq)
  clear hq
  go_wp2_with fail
  go_ret
  exact ⟨HQ.out, hb⟩

theorem containsSign (l : List G) (v : Value) (w : World) (HT : Hid (Tab w)) (HS : Hid (∀ g ∈ l, g.name.size ≤ 4611686018427387904)) (hv : GSl w v l) :
    Calls Tryz.prog 67 #[v, .func (.func 68) #[] #[]] w fun e w' => e = .returned (.bool (!(l.all (fun g : G => validG g)))) ∧ Below w.heap.size w w' := by
  have HC := hide' (indexSign l v w HT HS hv)
  go_enter Tryz.func67, Tryz.ntmps67
  go_wp2_with fail
  refine HC.out.mono ?_
  rintro e w1 ⟨⟨q, rfl, hq⟩, hb⟩
  have HQ := hide' (not_not_ge hq)
  clear hq
  go_wp2_with fail
  go_ret
  exact ⟨HQ.out, hb⟩

theorem areActuals_any (l : List F) (v : Value) (w : World) (hv : FSl w v l) :
    Calls Tryz.prog 45 #[v] w fun e w' => e = .returned (.bool (l.all (fun f : F => isActual f.k f.n))) ∧ Below w.heap.size w w' := by
  have HC := hide' (containsActual l v w hv)
  obtain ⟨q, hq⟩ : ∃ q, l.all (fun f : F => isActual f.k f.n) = q := ⟨_, rfl⟩
  rw [hq] at HC ⊢
  clear hq
  go_enter Tryz.func45, Tryz.ntmps45
  go_wp2_with fail
  refine HC.out.mono ?_
  rintro e w1 ⟨rfl, hb⟩
  clear HC
  go_wp2_with fail
  go_ret
  exact ⟨by simp, hb⟩

theorem areSigns_any (l : List G) (v : Value) (w : World) (HT : Hid (Tab w)) (HS : Hid (∀ g ∈ l, g.name.size ≤ 4611686018427387904)) (hv : GSl w v l) :
    Calls Tryz.prog 44 #[v] w fun e w' => e = .returned (.bool (l.all (fun g : G => validG g))) ∧ Below w.heap.size w w' := by
  have HC := hide' (containsSign l v w HT HS hv)
  obtain ⟨q, hq⟩ : ∃ q, l.all (fun g : G => validG g) = q := ⟨_, rfl⟩
  rw [hq] at HC ⊢
  clear hq
  go_enter Tryz.func44, Tryz.ntmps44
  go_wp2_with fail
  refine HC.out.mono ?_
  rintro e w1 ⟨rfl, hb⟩
  clear HC
  go_wp2_with fail
  go_ret
  exact ⟨by simp, hb⟩

end Go.Proofs.YtdmdfokkibijjaaGreatDoor

namespace Go.Proofs.YtdmdfokkibijjaaGreatDoor
open Go.RowKit
open Sgn
set_option linter.unusedVariables false
set_option linter.unusedSimpArgs false

theorem grown_of_below {w w' : World} (h : Below w.heap.size w w') (row : Option Nat) : w.grownBy w' row := ⟨h.os, h.tape, h.output, h.size, fun i hi _ => h.block i hi⟩
theorem ownsRow_below {w w' : World} {base : Nat} {e : TypeId} {size : Nat} {v : Value} {n : Nat} {xs : List Value} (h : w.ownsRow base e size v n xs) (hb : Below w.heap.size w w') : w'.ownsRow base e size v n xs :=
  h.kept (grown_of_below hb none) (by cases v.ownBlock <;> simp)
theorem intInfo : (Tryz.prog.info? 3).map (fun i => (i.zero, i.size, i.bytes)) = some (some (.int .i64 0), 1, 8) := by kernel_rfl
def ints (zs : List Int) : List Value := zs.map fun z => Value.int .i64 z
theorem ints_snoc (zs : List Int) (z : Int) : ints (zs ++ [z]) = ints zs ++ [Value.int .i64 z] := by simp [ints]
theorem ISl.own {w : World} {base : Nat} {v : Value} {zs : List Int} (h : w.ownsRow base 3 1 v zs.length (ints zs)) : ISl w v zs := by
  rcases h.2 with ⟨rfl, h0⟩ | ⟨g, cap, cur, rfl, _, hh, hnc, hm, hsz, htk⟩
  · have : zs = [] := List.eq_nil_of_length_eq_zero h0
    subst this
    exact ⟨none, 0, rfl, Nat.le_refl _, Nat.zero_le _, fun h => by cases h⟩
  · refine ⟨_, cap, rfl, hnc, hm, fun _ => ⟨g, 0, rfl, fun i hi => ?_⟩⟩
    rw [Nat.zero_add, h.cellAt i (by omega)]
    simp [ints, List.getElem?_eq_getElem hi]

/-- way after way -/
def wl (φ : F → F → Int) (fs ac : List F) : List Int := List.zipWith φ fs ac
def waysOk (φ : F → F → Int) (fs ac : List F) : Bool := decide (fs.length = ac.length) && (wl φ fs ac).all fun z => decide (0 ≤ z)
def WaysEnd (φ : F → F → Int) (fs ac : List F) (w w' : World) (e : Ending) : Prop :=
  (waysOk φ fs ac = false ∧ e = .returned (.tuple #[.slice none 0 0, .bool false])) ∨
  (waysOk φ fs ac = true ∧ ∃ v, e = .returned (.tuple #[v, .bool true]) ∧ ISl w' v (wl φ fs ac))
theorem wl_length {φ : F → F → Int} {fs ac : List F} (h : fs.length = ac.length) : (wl φ fs ac).length = fs.length := by
  unfold wl; rw [List.length_zipWith]; omega
theorem wl_at {φ : F → F → Int} {fs ac : List F} (k : Nat) (h1 : k < fs.length) (h2 : k < ac.length) (h : k < (wl φ fs ac).length) : (wl φ fs ac)[k] = φ fs[k] ac[k] := by
  show (List.zipWith φ fs ac)[k]'(h) = _
  exact List.getElem_zipWith
theorem waysOk_fail {φ : F → F → Int} {fs ac : List F} (k : Nat) (h1 : k < fs.length) (h2 : k < ac.length) (h : φ fs[k] ac[k] < 0) : waysOk φ fs ac = false := by
  unfold waysOk
  by_cases he : fs.length = ac.length
  · have hk : k < (wl φ fs ac).length := by rw [wl_length he]; exact h1
    rw [all_fail (fun z => decide (0 ≤ z)) (wl φ fs ac) k hk (by rw [wl_at k h1 h2 hk]; simp; omega), Bool.and_false]
  · simp [he]
theorem waysOk_len {φ : F → F → Int} {fs ac : List F} (h : ¬ fs.length = ac.length) : waysOk φ fs ac = false := by
  unfold waysOk; simp [h]
theorem waysOk_done {φ : F → F → Int} {fs ac : List F} (he : fs.length = ac.length) (h : ∀ z ∈ (wl φ fs ac).take fs.length, decide (0 ≤ z) = true) : waysOk φ fs ac = true := by
  unfold waysOk
  rw [all_done (fun z => decide (0 ≤ z)) (wl φ fs ac) fs.length (by rw [wl_length he]; exact Nat.le_refl _) h]
  simp [he]

def φF (f a : F) : Int := fitsOf f.k.toList f.n a.k.toList a.n
def φW (f a : F) : Int := wayOf f.k.toList f.n a.k.toList a.n

theorem held4 {wr wc w2 : World} {a1 a2 a3 a4 : Addr} {v1 v2 v3 v4 : Value} (h : wc.cell? a1 = some v1 ∧ wc.cell? a2 = some v2 ∧ wc.cell? a3 = some v3 ∧ wc.cell? a4 = some v4 ∧ Below wr.heap.size wr wc) (hb : Below wc.heap.size wc w2) :
    w2.cell? a1 = some v1 ∧ w2.cell? a2 = some v2 ∧ w2.cell? a3 = some v3 ∧ w2.cell? a4 = some v4 ∧ Below wr.heap.size wr w2 :=
  ⟨(hb.cell (cell_lt h.1)).trans h.1, (hb.cell (cell_lt h.2.1)).trans h.2.1, (hb.cell (cell_lt h.2.2.1)).trans h.2.2.1, (hb.cell (cell_lt h.2.2.2.1)).trans h.2.2.2.1, h.2.2.2.2.trans (hb.mono h.2.2.2.2.size)⟩

theorem held_end4 {S1 S2 S3 S4 : Prop} {w wr w2 : World} (h : S1 ∧ S2 ∧ S3 ∧ S4 ∧ Below wr.heap.size wr w2) (h0 : Below w.heap.size w wr) : Below w.heap.size w w2 := h0.trans (h.2.2.2.2.mono h0.size)
theorem held_last {S1 S2 S3 S4 : Prop} {wr w2 : World} (h : S1 ∧ S2 ∧ S3 ∧ S4 ∧ Below wr.heap.size wr w2) : Below wr.heap.size wr w2 := h.2.2.2.2

set_option maxHeartbeats 4000000 in
set_option maxRecDepth 100000 in
theorem waysOf_any (g : G) (ac : List F) (v u : Value) (w : World) (hv : GV w v g) (hu : FSl w u ac) (h50 : g.fs.length ≤ 1000) :
    Calls Tryz.prog 27 #[v, u] w fun e w' => WaysEnd φF g.fs ac w w' e ∧ Below w.heap.size w w' := by
  obtain ⟨x, rfl, A, cap, rfl, hca, hma, hA⟩ := hv
  obtain ⟨B, cap2, rfl, hcb, hmb, hB⟩ := hu
  obtain ⟨name, fs, res⟩ := g
  simp only at hca hma hA h50 ⊢
  have HA : Hid (0 < fs.length → ∃ b off, A = some ⟨b, off, none⟩ ∧ FCells w b off fs) := hA
  have HB : Hid (0 < ac.length → ∃ b off, B = some ⟨b, off, none⟩ ∧ FCells w b off ac) := hB
  have hmax : maxLen = 9223372036854775807 := rfl
  rw [hmax] at hma hmb
  clear hA hB hmax
  obtain ⟨i0, hi, hz0, hz1, hz2⟩ := info_parts intInfo
  have c1 : ∀ w1, Below (w.alloc (.cells #[.string name, .slice A fs.length cap, .string res] 25)).heap.size (w.alloc (.cells #[.string name, .slice A fs.length cap, .string res] 25)) w1 → w1.cell? ⟨w.heap.size, 1, none⟩ = some (.slice A fs.length cap) := fun w1 hb => (hb.cell (by simp)).trans (cells_new' w #[.string name, .slice A fs.length cap, .string res] 25 1 _ rfl rfl)
  by_cases hle : fs.length = ac.length
  · have hle' : ((ac.length : Int) != (fs.length : Int)) = false := by rw [hle]; simp
    have HLE := hide' hle
    clear hle
    go_enter Tryz.func27, Tryz.ntmps27
    have d10 := c1 _ (Below.refl _ _)
    go_wp2_with fail
    go_loopw [6, 20] (fun v i wr => ∃ (k : Nat), k ≤ fs.length ∧ i = .int .i64 k ∧ wr.ownsRow (w.heap.size + 1) 3 1 v k (ints ((wl φF fs ac).take k)) ∧ Below (w.alloc (.cells #[.string name, .slice A fs.length cap, .string res] 25)).heap.size (w.alloc (.cells #[.string name, .slice A fs.length cap, .string res] 25)) wr ∧ Hid (∀ z ∈ (wl φF fs ac).take k, decide (0 ≤ z) = true)) (fun _ i _ => fs.length - (intOf i).toNat)
    case atStart => exact ⟨0, Nat.zero_le _, rfl, World.ownsRow_nil _ _ _ _, Below.refl _ _, (fun f hf => by simp at hf)⟩
    case round =>
      obtain ⟨k, hk, rfl, hown, hnx, hd⟩ := hrel
      clear d10
      have d1 := c1 _ hnx
      by_cases hlt : k < fs.length
      · obtain ⟨b, off, rfl, hCA⟩ := HA.out (by omega)
        obtain ⟨b2, off2, rfl, hCB⟩ := HB.out (by have := HLE.out; omega)
        obtain ⟨x1, x2⟩ := (hCA.on (box_below hnx)) k hlt
        have hk2 : k < ac.length := by have := HLE.out; omega
        have hk2' : (k : Int) < (ac.length : Int) := by omega
        have hk0' : (0 : Int) ≤ (k : Int) := by omega
        obtain ⟨y1, y2⟩ := (hCB.on (box_below hnx)) k hk2
        obtain ⟨z, hz⟩ : ∃ z, φF fs[k] ac[k] = z := ⟨_, rfl⟩
        have HF := fun u => hide' (fits_any fs[k].k ac[k].k fs[k].n ac[k].n u)
        unfold FitsEnd at HF
        have hz' : fitsOf fs[k].k.toList fs[k].n ac[k].k.toList ac[k].n = z := hz
        rw [hz'] at HF
        obtain ⟨fk, hfk⟩ : ∃ t, fs[k].k = t := ⟨_, rfl⟩
        obtain ⟨fn, hfn⟩ : ∃ t, fs[k].n = t := ⟨_, rfl⟩
        obtain ⟨gk, hgk⟩ : ∃ t, ac[k].k = t := ⟨_, rfl⟩
        obtain ⟨gn, hgn⟩ : ∃ t, ac[k].n = t := ⟨_, rfl⟩
        rw [hfk] at HF x1
        rw [hfn] at HF x2
        rw [hgk] at HF y1
        rw [hgn] at HF y2
        have hfail := fun h => hide' (waysOk_fail (φ := φF) k hlt hk2 (by rw [hz]; exact h))
        have hnext := fun h => hide' (all_upto (fun z => decide (0 ≤ z)) (wl φF fs ac) k (by rw [wl_length HLE.out]; exact hlt) hd.out (by rw [wl_at k hlt hk2]; rw [hz]; simpa using h))
        have htake : Hid (ints ((wl φF fs ac).take (k + 1)) = ints ((wl φF fs ac).take k) ++ [.int .i64 z]) := by
          show _ = _
          rw [List.take_succ_eq_append_getElem (by rw [wl_length HLE.out]; exact hlt), ints_snoc, wl_at k hlt hk2, hz]
        clear hz hz' hfk hfn hgk hgn hCA hCB HA HB hd
        have Z0 := hide' (cells_new' wr #[.string fk, .int .i64 fn] 35 0 _ rfl rfl)
        have Z1 := hide' (cells_new' wr #[.string fk, .int .i64 fn] 35 1 _ rfl rfl)
        have Y0 := hide' ((World.cell?_alloc_lt wr (.cells #[.string fk, .int .i64 fn] 35) _ (cell_lt y1)).trans y1)
        have Y1 := hide' ((World.cell?_alloc_lt wr (.cells #[.string fk, .int .i64 fn] 35) _ (cell_lt y2)).trans y2)
        have LY := hide' (cell_lt y1)
        by_cases hzp : 0 ≤ z
        · have hn1 := hnext hzp
          rw [if_neg (by omega), decide_eq_true hzp] at HF
          have HZ := hide' hzp
          clear hnext hfail hzp
          go_wp2_with fail
          go_region_held3 (fun w' => w'.cell? ⟨wr.heap.size, 0, none⟩ = some (.string fk) ∧ w'.cell? ⟨wr.heap.size, 1, none⟩ = some (.int .i64 fn) ∧ w'.cell? ⟨b2, off2 + k * 2, none⟩ = some (.string gk) ∧ w'.cell? ⟨b2, off2 + k * 2 + 1, none⟩ = some (.int .i64 gn) ∧ Below wr.heap.size wr w') (first | exact ⟨Z0.out, Z1.out, Y0.out, Y1.out, (Below.refl _ _).alloc (Nat.le_refl _) _⟩ | exact ⟨Z0.out, Z1.out, Y0.out, Y1.out, ((Below.refl _ _).alloc (Nat.le_refl _) _).drew⟩ | exact hS) (first | (go_at_call 46; refine (HF _).out.mono ?_; rintro e2 w2 ⟨rfl, hb2⟩; have hS := held4 (by assumption) hb2))
          rename_i w2 hS2
          have hbr := held_last hS2
          have hown1 := ownsRow_below hown hbr
          have hnx1 : Below w.heap.size w w2 := (box_below hnx).trans (hbr.mono (box_below hnx).size)
          have hnx2 := hnx.trans (hbr.mono hnx.size)
          clear hS2 hown hbr hnx Z0 Z1 Y0 Y1 LY x1 x2 y1 y2 HF
          go_wp2_with (at_builtin; go_must (refine wpList_append_own _ rfl _ _ 54 rfl (w.heap.size + 1) 3 i0 _ 1 8 Tryz.underlying54 hi hz0 hz1 hz2 rfl (by decide) _ _ _ rfl (hown1.alloc _) ⟨w2.heap.size, 0, none⟩ 1 1 [.int .i64 z] rfl rfl ?c1 ?c2 ?c3 ?c4 ?c5 ?_))
          case c1 => intro j u hu; exact cells_new' w2 _ _ j u hu rfl
          case c2 => intro u hu; simp at hu; subst hu; rfl
          case c3 => unfold maxLen; omega
          case c4 => omega
          case c5 => have := hnx2.size; simp at this ⊢; omega
          intro v' w3 hown2 hg2 _
          have hb2 := (hnx2.alloc hnx2.size (.cells #[.int .i64 z] 3)).grown hg2 (by have := hnx2.size; simp at this ⊢; omega) (fun k hk => by have := (hown1.lt k hk).1; simpa using this)
          go_wp2_with fail
          go_roundw
          case rel => exact ⟨k + 1, by omega, by go_num, by rw [htake.out]; exact hown2, hb2, hn1⟩
          case measure => simp [intOf]; omega
        · have hf1 := hfail (by omega)
          rw [if_pos (by omega), decide_eq_false hzp] at HF
          clear hnext hfail hzp
          go_wp2_with fail
          go_region_held3 (fun w' => w'.cell? ⟨wr.heap.size, 0, none⟩ = some (.string fk) ∧ w'.cell? ⟨wr.heap.size, 1, none⟩ = some (.int .i64 fn) ∧ w'.cell? ⟨b2, off2 + k * 2, none⟩ = some (.string gk) ∧ w'.cell? ⟨b2, off2 + k * 2 + 1, none⟩ = some (.int .i64 gn) ∧ Below wr.heap.size wr w') (first | exact ⟨Z0.out, Z1.out, Y0.out, Y1.out, (Below.refl _ _).alloc (Nat.le_refl _) _⟩ | exact ⟨Z0.out, Z1.out, Y0.out, Y1.out, ((Below.refl _ _).alloc (Nat.le_refl _) _).drew⟩ | exact hS) (first | (go_at_call 46; refine (HF _).out.mono ?_; rintro e2 w2 ⟨rfl, hb2⟩; have hS := held4 (by assumption) hb2))
          go_wp2_with fail
          go_ret2
          exact ⟨.inl ⟨hf1.out, rfl⟩, held_end4 (by assumption) (box_below hnx)⟩
      · have hke : k = fs.length := by omega
        subst hke
        have hok := hide' (waysOk_done (φ := φF) HLE.out hd.out)
        have hIS : ISl wr u6 (wl φF fs ac) := by
          have e : (wl φF fs ac).take fs.length = wl φF fs ac := List.take_of_length_le (by rw [wl_length HLE.out]; exact Nat.le_refl _)
          rw [e] at hown
          exact ISl.own (by rw [wl_length HLE.out]; exact hown)
        clear HA HB hd hown
        go_wp2_with fail
        go_ret2
        exact ⟨.inr ⟨hok.out, _, rfl, hIS⟩, box_below hnx⟩
  · have hok := hide' (waysOk_len (φ := φF) hle)
    have hle' : ((ac.length : Int) != (fs.length : Int)) = true := by rw [bne_iff_ne]; omega
    clear HA HB
    go_enter Tryz.func27, Tryz.ntmps27
    have d10 := c1 _ (Below.refl _ _)
    go_wp2_with fail
    go_ret2
    exact ⟨.inl ⟨hok.out, rfl⟩, (Below.refl _ _).alloc (Nat.le_refl _) _⟩

end Go.Proofs.YtdmdfokkibijjaaGreatDoor
