/-
  The walks of layer 9: the ways in which actuals fit a signature; of the program and of the document's answer.
-/
import Derived.Test.YtdmdfokkibijjaaDoorSW5
import Derived.Laws.OwnMore
namespace Go.Proofs.YtdmdfokkibijjaaDoor
open Go.RowKit
open Sgn
set_option linter.unusedVariables false
set_option linter.unusedSimpArgs false

theorem grown_of_below {w w' : World} (h : Below w.heap.size w w') (row : Option Nat) : w.grownBy w' row := ⟨h.os, h.tape, h.output, h.size, fun i hi _ => h.block i hi⟩
theorem ownsRow_below {w w' : World} {base : Nat} {e : TypeId} {size : Nat} {v : Value} {n : Nat} {xs : List Value} (h : w.ownsRow base e size v n xs) (hb : Below w.heap.size w w') : w'.ownsRow base e size v n xs :=
  h.kept (grown_of_below hb none) (by cases v.ownBlock <;> simp)
theorem intInfo : (Tryd.prog.info? 3).map (fun i => (i.zero, i.size, i.bytes)) = some (some (.int .i64 0), 1, 8) := by kernel_rfl
def ints (zs : List Int) : List Value := zs.map fun z => Value.int .i64 z
theorem ints_snoc (zs : List Int) (z : Int) : ints (zs ++ [z]) = ints zs ++ [Value.int .i64 z] := by simp [ints]
theorem ISl.own {w : World} {base : Nat} {v : Value} {zs : List Int} (h : w.ownsRow base 3 1 v zs.length (ints zs)) : ISl w v zs := by
  rcases h.2 with ⟨rfl, h0⟩ | ⟨g, cap, cur, rfl, _, hh, hnc, hm, hsz, htk⟩
  · have : zs = [] := List.eq_nil_of_length_eq_zero h0
    subst this
    exact ⟨none, 0, rfl, Nat.le_refl _, Nat.zero_le _, fun h => by cases h⟩
  · refine ⟨_, cap, rfl, hnc, hm, fun _ => ⟨g, 0, rfl, fun i hi => ?_⟩⟩
    rw [Nat.zero_add, h.cellAt i (by omega)]
    simp [ints, List.getElem?_eq_getElem hi]

/-- way after way -/
def wl (φ : F → F → Int) (fs ac : List F) : List Int := List.zipWith φ fs ac
def waysOk (φ : F → F → Int) (fs ac : List F) : Bool := decide (fs.length = ac.length) && (wl φ fs ac).all fun z => decide (0 ≤ z)
def WaysEnd (φ : F → F → Int) (fs ac : List F) (w w' : World) (e : Ending) : Prop :=
  (waysOk φ fs ac = false ∧ e = .returned (.tuple #[.slice none 0 0, .bool false])) ∨
  (waysOk φ fs ac = true ∧ ∃ v, e = .returned (.tuple #[v, .bool true]) ∧ ISl w' v (wl φ fs ac))
theorem wl_length {φ : F → F → Int} {fs ac : List F} (h : fs.length = ac.length) : (wl φ fs ac).length = fs.length := by
  unfold wl; rw [List.length_zipWith]; omega
theorem wl_at {φ : F → F → Int} {fs ac : List F} (k : Nat) (h1 : k < fs.length) (h2 : k < ac.length) (h : k < (wl φ fs ac).length) : (wl φ fs ac)[k] = φ fs[k] ac[k] := by
  show (List.zipWith φ fs ac)[k]'(h) = _
  exact List.getElem_zipWith
theorem waysOk_fail {φ : F → F → Int} {fs ac : List F} (k : Nat) (h1 : k < fs.length) (h2 : k < ac.length) (h : φ fs[k] ac[k] < 0) : waysOk φ fs ac = false := by
  unfold waysOk
  by_cases he : fs.length = ac.length
  · have hk : k < (wl φ fs ac).length := by rw [wl_length he]; exact h1
    rw [all_fail (fun z => decide (0 ≤ z)) (wl φ fs ac) k hk (by rw [wl_at k h1 h2 hk]; simp; omega), Bool.and_false]
  · simp [he]
theorem waysOk_len {φ : F → F → Int} {fs ac : List F} (h : ¬ fs.length = ac.length) : waysOk φ fs ac = false := by
  unfold waysOk; simp [h]
theorem waysOk_done {φ : F → F → Int} {fs ac : List F} (he : fs.length = ac.length) (h : ∀ z ∈ (wl φ fs ac).take fs.length, decide (0 ≤ z) = true) : waysOk φ fs ac = true := by
  unfold waysOk
  rw [all_done (fun z => decide (0 ≤ z)) (wl φ fs ac) fs.length (by rw [wl_length he]; exact Nat.le_refl _) h]
  simp [he]

def φF (f a : F) : Int := fitsOf f.k.toList f.n a.k.toList a.n
def φW (f a : F) : Int := wayOf f.k.toList f.n a.k.toList a.n

theorem held4 {wr wc w2 : World} {a1 a2 a3 a4 : Addr} {v1 v2 v3 v4 : Value} (h : wc.cell? a1 = some v1 ∧ wc.cell? a2 = some v2 ∧ wc.cell? a3 = some v3 ∧ wc.cell? a4 = some v4 ∧ Below wr.heap.size wr wc) (hb : Below wc.heap.size wc w2) :
    w2.cell? a1 = some v1 ∧ w2.cell? a2 = some v2 ∧ w2.cell? a3 = some v3 ∧ w2.cell? a4 = some v4 ∧ Below wr.heap.size wr w2 :=
  ⟨(hb.cell (cell_lt h.1)).trans h.1, (hb.cell (cell_lt h.2.1)).trans h.2.1, (hb.cell (cell_lt h.2.2.1)).trans h.2.2.1, (hb.cell (cell_lt h.2.2.2.1)).trans h.2.2.2.1, h.2.2.2.2.trans (hb.mono h.2.2.2.2.size)⟩

theorem held_end4 {S1 S2 S3 S4 : Prop} {w wr w2 : World} (h : S1 ∧ S2 ∧ S3 ∧ S4 ∧ Below wr.heap.size wr w2) (h0 : Below w.heap.size w wr) : Below w.heap.size w w2 := h0.trans (h.2.2.2.2.mono h0.size)
theorem held_last {S1 S2 S3 S4 : Prop} {wr w2 : World} (h : S1 ∧ S2 ∧ S3 ∧ S4 ∧ Below wr.heap.size wr w2) : Below wr.heap.size wr w2 := h.2.2.2.2

set_option maxHeartbeats 4000000 in
set_option maxRecDepth 100000 in
theorem waysOf_any (g : G) (ac : List F) (v u : Value) (w : World) (hv : GV w v g) (hu : FSl w u ac) (h50 : g.fs.length ≤ 1000) :
    Calls Tryd.prog 37 #[v, u] w fun e w' => WaysEnd φF g.fs ac w w' e ∧ Below w.heap.size w w' := by
  obtain ⟨x, rfl, A, cap, rfl, hca, hma, hA⟩ := hv
  obtain ⟨B, cap2, rfl, hcb, hmb, hB⟩ := hu
  obtain ⟨name, fs, res⟩ := g
  simp only at hca hma hA h50 ⊢
  have HA : Hid (0 < fs.length → ∃ b off, A = some ⟨b, off, none⟩ ∧ FCells w b off fs) := hA
  have HB : Hid (0 < ac.length → ∃ b off, B = some ⟨b, off, none⟩ ∧ FCells w b off ac) := hB
  have hmax : maxLen = 9223372036854775807 := rfl
  rw [hmax] at hma hmb
  clear hA hB hmax
  obtain ⟨i0, hi, hz0, hz1, hz2⟩ := info_parts intInfo
  have c1 : ∀ w1, Below (w.alloc (.cells #[.string name, .slice A fs.length cap, .string res] 37)).heap.size (w.alloc (.cells #[.string name, .slice A fs.length cap, .string res] 37)) w1 → w1.cell? ⟨w.heap.size, 1, none⟩ = some (.slice A fs.length cap) := fun w1 hb => (hb.cell (by simp)).trans (cells_new' w #[.string name, .slice A fs.length cap, .string res] 37 1 _ rfl rfl)
  by_cases hle : fs.length = ac.length
  · have hle' : ((ac.length : Int) != (fs.length : Int)) = false := by rw [hle]; simp
    have HLE := hide' hle
    clear hle
    go_enter Tryd.func37, Tryd.ntmps37
    have d10 := c1 _ (Below.refl _ _)
    go_wp2_with fail
    go_loopw [6, 20] (fun v i wr => ∃ (k : Nat), k ≤ fs.length ∧ i = .int .i64 k ∧ wr.ownsRow (w.heap.size + 1) 3 1 v k (ints ((wl φF fs ac).take k)) ∧ Below (w.alloc (.cells #[.string name, .slice A fs.length cap, .string res] 37)).heap.size (w.alloc (.cells #[.string name, .slice A fs.length cap, .string res] 37)) wr ∧ Hid (∀ z ∈ (wl φF fs ac).take k, decide (0 ≤ z) = true)) (fun _ i _ => fs.length - (intOf i).toNat)
    case atStart => exact ⟨0, Nat.zero_le _, rfl, World.ownsRow_nil _ _ _ _, Below.refl _ _, (fun f hf => by simp at hf)⟩
    case round =>
      obtain ⟨k, hk, rfl, hown, hnx, hd⟩ := hrel
      clear d10
      have d1 := c1 _ hnx
      by_cases hlt : k < fs.length
      · obtain ⟨b, off, rfl, hCA⟩ := HA.out (by omega)
        obtain ⟨b2, off2, rfl, hCB⟩ := HB.out (by have := HLE.out; omega)
        obtain ⟨x1, x2⟩ := (hCA.on (box_below hnx)) k hlt
        have hk2 : k < ac.length := by have := HLE.out; omega
        have hk2' : (k : Int) < (ac.length : Int) := by omega
        have hk0' : (0 : Int) ≤ (k : Int) := by omega
        obtain ⟨y1, y2⟩ := (hCB.on (box_below hnx)) k hk2
        obtain ⟨z, hz⟩ : ∃ z, φF fs[k] ac[k] = z := ⟨_, rfl⟩
        have HF := fun u => hide' (fits_any fs[k].k ac[k].k fs[k].n ac[k].n u)
        unfold FitsEnd at HF
        have hz' : fitsOf fs[k].k.toList fs[k].n ac[k].k.toList ac[k].n = z := hz
        rw [hz'] at HF
        obtain ⟨fk, hfk⟩ : ∃ t, fs[k].k = t := ⟨_, rfl⟩
        obtain ⟨fn, hfn⟩ : ∃ t, fs[k].n = t := ⟨_, rfl⟩
        obtain ⟨gk, hgk⟩ : ∃ t, ac[k].k = t := ⟨_, rfl⟩
        obtain ⟨gn, hgn⟩ : ∃ t, ac[k].n = t := ⟨_, rfl⟩
        rw [hfk] at HF x1
        rw [hfn] at HF x2
        rw [hgk] at HF y1
        rw [hgn] at HF y2
        have hfail := fun h => hide' (waysOk_fail (φ := φF) k hlt hk2 (by rw [hz]; exact h))
        have hnext := fun h => hide' (all_upto (fun z => decide (0 ≤ z)) (wl φF fs ac) k (by rw [wl_length HLE.out]; exact hlt) hd.out (by rw [wl_at k hlt hk2]; rw [hz]; simpa using h))
        have htake : Hid (ints ((wl φF fs ac).take (k + 1)) = ints ((wl φF fs ac).take k) ++ [.int .i64 z]) := by
          show _ = _
          rw [List.take_succ_eq_append_getElem (by rw [wl_length HLE.out]; exact hlt), ints_snoc, wl_at k hlt hk2, hz]
        clear hz hz' hfk hfn hgk hgn hCA hCB HA HB hd
        have Z0 := hide' (cells_new' wr #[.string fk, .int .i64 fn] 43 0 _ rfl rfl)
        have Z1 := hide' (cells_new' wr #[.string fk, .int .i64 fn] 43 1 _ rfl rfl)
        have Y0 := hide' ((World.cell?_alloc_lt wr (.cells #[.string fk, .int .i64 fn] 43) _ (cell_lt y1)).trans y1)
        have Y1 := hide' ((World.cell?_alloc_lt wr (.cells #[.string fk, .int .i64 fn] 43) _ (cell_lt y2)).trans y2)
        have LY := hide' (cell_lt y1)
        by_cases hzp : 0 ≤ z
        · have hn1 := hnext hzp
          rw [if_neg (by omega), decide_eq_true hzp] at HF
          have HZ := hide' hzp
          clear hnext hfail hzp
          go_wp2_with fail
          go_region_held3 (fun w' => w'.cell? ⟨wr.heap.size, 0, none⟩ = some (.string fk) ∧ w'.cell? ⟨wr.heap.size, 1, none⟩ = some (.int .i64 fn) ∧ w'.cell? ⟨b2, off2 + k * 2, none⟩ = some (.string gk) ∧ w'.cell? ⟨b2, off2 + k * 2 + 1, none⟩ = some (.int .i64 gn) ∧ Below wr.heap.size wr w') (first | exact ⟨Z0.out, Z1.out, Y0.out, Y1.out, (Below.refl _ _).alloc (Nat.le_refl _) _⟩ | exact ⟨Z0.out, Z1.out, Y0.out, Y1.out, ((Below.refl _ _).alloc (Nat.le_refl _) _).drew⟩ | exact hS) (first | (go_at_call 48; refine (HF _).out.mono ?_; rintro e2 w2 ⟨rfl, hb2⟩; have hS := held4 (by assumption) hb2))
          rename_i w2 hS2
          have hbr := held_last hS2
          have hown1 := ownsRow_below hown hbr
          have hnx1 : Below w.heap.size w w2 := (box_below hnx).trans (hbr.mono (box_below hnx).size)
          have hnx2 := hnx.trans (hbr.mono hnx.size)
          clear hS2 hown hbr hnx Z0 Z1 Y0 Y1 LY x1 x2 y1 y2 HF
          go_wp2_with (at_builtin; go_must (refine wpList_append_own _ rfl _ _ 26 rfl (w.heap.size + 1) 3 i0 _ 1 8 Tryd.underlying26 hi hz0 hz1 hz2 rfl (by decide) _ _ _ rfl (hown1.alloc _) ⟨w2.heap.size, 0, none⟩ 1 1 [.int .i64 z] rfl rfl ?c1 ?c2 ?c3 ?c4 ?c5 ?_))
          case c1 => intro j u hu; exact cells_new' w2 _ _ j u hu rfl
          case c2 => intro u hu; simp at hu; subst hu; rfl
          case c3 => unfold maxLen; omega
          case c4 => omega
          case c5 => have := hnx2.size; simp at this ⊢; omega
          intro v' w3 hown2 hg2 _
          have hb2 := (hnx2.alloc hnx2.size (.cells #[.int .i64 z] 3)).grown hg2 (by have := hnx2.size; simp at this ⊢; omega) (fun k hk => by have := (hown1.lt k hk).1; simpa using this)
          go_wp2_with fail
          go_roundw
          case rel => exact ⟨k + 1, by omega, by go_num, by rw [htake.out]; exact hown2, hb2, hn1⟩
          case measure => simp [intOf]; omega
        · have hf1 := hfail (by omega)
          rw [if_pos (by omega), decide_eq_false hzp] at HF
          clear hnext hfail hzp
          go_wp2_with fail
          go_region_held3 (fun w' => w'.cell? ⟨wr.heap.size, 0, none⟩ = some (.string fk) ∧ w'.cell? ⟨wr.heap.size, 1, none⟩ = some (.int .i64 fn) ∧ w'.cell? ⟨b2, off2 + k * 2, none⟩ = some (.string gk) ∧ w'.cell? ⟨b2, off2 + k * 2 + 1, none⟩ = some (.int .i64 gn) ∧ Below wr.heap.size wr w') (first | exact ⟨Z0.out, Z1.out, Y0.out, Y1.out, (Below.refl _ _).alloc (Nat.le_refl _) _⟩ | exact ⟨Z0.out, Z1.out, Y0.out, Y1.out, ((Below.refl _ _).alloc (Nat.le_refl _) _).drew⟩ | exact hS) (first | (go_at_call 48; refine (HF _).out.mono ?_; rintro e2 w2 ⟨rfl, hb2⟩; have hS := held4 (by assumption) hb2))
          go_wp2_with fail
          go_ret2
          exact ⟨.inl ⟨hf1.out, rfl⟩, held_end4 (by assumption) (box_below hnx)⟩
      · have hke : k = fs.length := by omega
        subst hke
        have hok := hide' (waysOk_done (φ := φF) HLE.out hd.out)
        have hIS : ISl wr u6 (wl φF fs ac) := by
          have e : (wl φF fs ac).take fs.length = wl φF fs ac := List.take_of_length_le (by rw [wl_length HLE.out]; exact Nat.le_refl _)
          rw [e] at hown
          exact ISl.own (by rw [wl_length HLE.out]; exact hown)
        clear HA HB hd hown
        go_wp2_with fail
        go_ret2
        exact ⟨.inr ⟨hok.out, _, rfl, hIS⟩, box_below hnx⟩
  · have hok := hide' (waysOk_len (φ := φF) hle)
    have hle' : ((ac.length : Int) != (fs.length : Int)) = true := by rw [bne_iff_ne]; omega
    clear HA HB
    go_enter Tryd.func37, Tryd.ntmps37
    have d10 := c1 _ (Below.refl _ _)
    go_wp2_with fail
    go_ret2
    exact ⟨.inl ⟨hok.out, rfl⟩, (Below.refl _ _).alloc (Nat.le_refl _) _⟩

end Go.Proofs.YtdmdfokkibijjaaDoor
