/-
  The walks of layer 9: the ways in which actuals fit a signature, of the document's answer.
-/
import Derived.Test.YtdmdfokkibijjaaDoorSW6
namespace Go.Proofs.YtdmdfokkibijjaaDoor
open Go.RowKit
open Sgn
set_option linter.unusedVariables false
set_option linter.unusedSimpArgs false

theorem held5 {wr wc w2 : World} {a1 a2 a3 a4 a5 : Addr} {v1 v2 v3 v4 v5 : Value} (h : wc.cell? a1 = some v1 ∧ wc.cell? a2 = some v2 ∧ wc.cell? a3 = some v3 ∧ wc.cell? a4 = some v4 ∧ wc.cell? a5 = some v5 ∧ Below wr.heap.size wr wc) (hb : Below wc.heap.size wc w2) :
    w2.cell? a1 = some v1 ∧ w2.cell? a2 = some v2 ∧ w2.cell? a3 = some v3 ∧ w2.cell? a4 = some v4 ∧ w2.cell? a5 = some v5 ∧ Below wr.heap.size wr w2 :=
  ⟨(hb.cell (cell_lt h.1)).trans h.1, (hb.cell (cell_lt h.2.1)).trans h.2.1, (hb.cell (cell_lt h.2.2.1)).trans h.2.2.1, (hb.cell (cell_lt h.2.2.2.1)).trans h.2.2.2.1, (hb.cell (cell_lt h.2.2.2.2.1)).trans h.2.2.2.2.1, h.2.2.2.2.2.trans (hb.mono h.2.2.2.2.2.size)⟩
theorem held_end5 {S1 S2 S3 S4 S5 : Prop} {w wr w2 : World} (h : S1 ∧ S2 ∧ S3 ∧ S4 ∧ S5 ∧ Below wr.heap.size wr w2) (h0 : Below w.heap.size w wr) : Below w.heap.size w w2 := h0.trans (h.2.2.2.2.2.mono h0.size)
theorem held_last5 {S1 S2 S3 S4 S5 : Prop} {wr w2 : World} (h : S1 ∧ S2 ∧ S3 ∧ S4 ∧ S5 ∧ Below wr.heap.size wr w2) : Below wr.heap.size wr w2 := h.2.2.2.2.2

set_option maxHeartbeats 4000000 in
set_option maxRecDepth 100000 in
theorem rWays_any (g : G) (ac : List F) (v u : Value) (w : World) (hv : GV w v g) (hu : FSl w u ac) (h50 : g.fs.length ≤ 1000) :
    Calls Tryd.prog 39 #[v, u] w fun e w' => WaysEnd φW g.fs ac w w' e ∧ Below w.heap.size w w' := by
  obtain ⟨x, rfl, A, cap, rfl, hca, hma, hA⟩ := hv
  obtain ⟨B, cap2, rfl, hcb, hmb, hB⟩ := hu
  obtain ⟨name, fs, res⟩ := g
  simp only at hca hma hA h50 ⊢
  have HA : Hid (0 < fs.length → ∃ b off, A = some ⟨b, off, none⟩ ∧ FCells w b off fs) := hA
  have HB : Hid (0 < ac.length → ∃ b off, B = some ⟨b, off, none⟩ ∧ FCells w b off ac) := hB
  have hmax : maxLen = 9223372036854775807 := rfl
  rw [hmax] at hma hmb
  clear hA hB hmax
  obtain ⟨i0, hi, hz0, hz1, hz2⟩ := info_parts intInfo
  have c1 : ∀ w1, Below (w.alloc (.cells #[.string name, .slice A fs.length cap, .string res] 37)).heap.size (w.alloc (.cells #[.string name, .slice A fs.length cap, .string res] 37)) w1 → w1.cell? ⟨w.heap.size, 1, none⟩ = some (.slice A fs.length cap) := fun w1 hb => (hb.cell (by simp)).trans (cells_new' w #[.string name, .slice A fs.length cap, .string res] 37 1 _ rfl rfl)
  by_cases hle : fs.length = ac.length
  · have hle' : ((fs.length : Int) != (ac.length : Int)) = false := by rw [hle]; simp
    have HLE := hide' hle
    clear hle
    go_enter Tryd.func39, Tryd.ntmps39
    have d10 := c1 _ (Below.refl _ _)
    go_wp2_with fail
    go_loopw [6, 7] (fun v i wr => ∃ (k : Nat), k ≤ fs.length ∧ i = .int .i64 k ∧ wr.ownsRow (w.heap.size + 1) 3 1 v k (ints ((wl φW fs ac).take k)) ∧ Below (w.alloc (.cells #[.string name, .slice A fs.length cap, .string res] 37)).heap.size (w.alloc (.cells #[.string name, .slice A fs.length cap, .string res] 37)) wr ∧ Hid (∀ z ∈ (wl φW fs ac).take k, decide (0 ≤ z) = true)) (fun _ i _ => fs.length - (intOf i).toNat)
    case atStart => exact ⟨0, Nat.zero_le _, rfl, World.ownsRow_nil _ _ _ _, Below.refl _ _, (fun f hf => by simp at hf)⟩
    case round =>
      obtain ⟨k, hk, rfl, hown, hnx, hd⟩ := hrel
      clear d10
      have d1 := c1 _ hnx
      by_cases hlt : k < fs.length
      · obtain ⟨b, off, rfl, hCA⟩ := HA.out (by omega)
        obtain ⟨b2, off2, rfl, hCB⟩ := HB.out (by have := HLE.out; omega)
        obtain ⟨x1, x2⟩ := (hCA.on (box_below hnx)) k hlt
        have hk2 : k < ac.length := by have := HLE.out; omega
        have hk2' : (k : Int) < (ac.length : Int) := by omega
        have hk0' : (0 : Int) ≤ (k : Int) := by omega
        obtain ⟨y1, y2⟩ := (hCB.on (box_below hnx)) k hk2
        obtain ⟨z, hz⟩ : ∃ z, φW fs[k] ac[k] = z := ⟨_, rfl⟩
        have HF := fun u => hide' (way_any fs[k].k ac[k].k fs[k].n ac[k].n u)
        unfold WayEnd at HF
        have hz' : wayOf fs[k].k.toList fs[k].n ac[k].k.toList ac[k].n = z := hz
        rw [hz'] at HF
        obtain ⟨fk, hfk⟩ : ∃ t, fs[k].k = t := ⟨_, rfl⟩
        obtain ⟨fn, hfn⟩ : ∃ t, fs[k].n = t := ⟨_, rfl⟩
        obtain ⟨gk, hgk⟩ : ∃ t, ac[k].k = t := ⟨_, rfl⟩
        obtain ⟨gn, hgn⟩ : ∃ t, ac[k].n = t := ⟨_, rfl⟩
        rw [hfk] at HF x1
        rw [hfn] at HF x2
        rw [hgk] at HF y1
        rw [hgn] at HF y2
        have hfail := fun h => hide' (waysOk_fail (φ := φW) k hlt hk2 (by rw [hz]; exact h))
        have hnext := fun h => hide' (all_upto (fun z => decide (0 ≤ z)) (wl φW fs ac) k (by rw [wl_length HLE.out]; exact hlt) hd.out (by rw [wl_at k hlt hk2]; rw [hz]; simpa using h))
        have htake : Hid (ints ((wl φW fs ac).take (k + 1)) = ints ((wl φW fs ac).take k) ++ [.int .i64 z]) := by
          show _ = _
          rw [List.take_succ_eq_append_getElem (by rw [wl_length HLE.out]; exact hlt), ints_snoc, wl_at k hlt hk2, hz]
        clear hz hz' hfk hfn hgk hgn hCA hCB HA HB hd
        have Z0 := hide' x1
        have Z1 := hide' x2
        have Y0 := hide' y1
        have Y1 := hide' y2
        have D1 := hide' d1
        have hk1' : (k : Int) < (fs.length : Int) := by omega
        by_cases hzp : 0 ≤ z
        · have hn1 := hnext hzp
          have hzn : decide (z < 0) = false := by simp; omega
          have HZ := hide' hzp
          clear hnext hfail hzp
          go_wp2_with fail
          go_region_held3 (fun w' => w'.cell? ⟨b, off + k * 2, none⟩ = some (.string fk) ∧ w'.cell? ⟨b, off + k * 2 + 1, none⟩ = some (.int .i64 fn) ∧ w'.cell? ⟨b2, off2 + k * 2, none⟩ = some (.string gk) ∧ w'.cell? ⟨b2, off2 + k * 2 + 1, none⟩ = some (.int .i64 gn) ∧ w'.cell? ⟨w.heap.size, 1, none⟩ = some (.slice (some ⟨b, off, none⟩) fs.length cap) ∧ Below wr.heap.size wr w') (first | exact ⟨Z0.out, Z1.out, Y0.out, Y1.out, D1.out, Below.refl _ _⟩ | exact ⟨Z0.out, Z1.out, Y0.out, Y1.out, D1.out, (Below.refl _ _).drew⟩ | exact hS) (first | (go_at_call 50; refine (HF _).out.mono ?_; rintro e2 w2 ⟨rfl, hb2⟩; have hS := held5 (by assumption) hb2))
          rename_i w2 hS2
          have hbr := held_last5 hS2
          have hown1 := ownsRow_below hown hbr
          have hnx1 : Below w.heap.size w w2 := (box_below hnx).trans (hbr.mono (box_below hnx).size)
          have hnx2 := hnx.trans (hbr.mono hnx.size)
          clear hS2 hown hbr hnx Z0 Z1 Y0 Y1 D1 x1 x2 y1 y2 HF
          go_wp2_with (at_builtin; go_must (refine wpList_append_own _ rfl _ _ 26 rfl (w.heap.size + 1) 3 i0 _ 1 8 Tryd.underlying26 hi hz0 hz1 hz2 rfl (by decide) _ _ _ rfl (hown1.alloc _) ⟨w2.heap.size, 0, none⟩ 1 1 [.int .i64 z] rfl rfl ?c1 ?c2 ?c3 ?c4 ?c5 ?_))
          case c1 => intro j u hu; exact cells_new' w2 _ _ j u hu rfl
          case c2 => intro u hu; simp at hu; subst hu; rfl
          case c3 => unfold maxLen; omega
          case c4 => omega
          case c5 => have := hnx2.size; simp at this ⊢; omega
          intro v' w3 hown2 hg2 _
          have hb2 := (hnx2.alloc hnx2.size (.cells #[.int .i64 z] 3)).grown hg2 (by have := hnx2.size; simp at this ⊢; omega) (fun k hk => by have := (hown1.lt k hk).1; simpa using this)
          go_wp2_with fail
          go_roundw
          case rel => exact ⟨k + 1, by omega, by go_num, by rw [htake.out]; exact hown2, hb2, hn1⟩
          case measure => simp [intOf]; omega
        · have hf1 := hfail (by omega)
          have hzn : decide (z < 0) = true := by simp; omega
          clear hnext hfail hzp
          go_wp2_with fail
          go_region_held3 (fun w' => w'.cell? ⟨b, off + k * 2, none⟩ = some (.string fk) ∧ w'.cell? ⟨b, off + k * 2 + 1, none⟩ = some (.int .i64 fn) ∧ w'.cell? ⟨b2, off2 + k * 2, none⟩ = some (.string gk) ∧ w'.cell? ⟨b2, off2 + k * 2 + 1, none⟩ = some (.int .i64 gn) ∧ w'.cell? ⟨w.heap.size, 1, none⟩ = some (.slice (some ⟨b, off, none⟩) fs.length cap) ∧ Below wr.heap.size wr w') (first | exact ⟨Z0.out, Z1.out, Y0.out, Y1.out, D1.out, Below.refl _ _⟩ | exact ⟨Z0.out, Z1.out, Y0.out, Y1.out, D1.out, (Below.refl _ _).drew⟩ | exact hS) (first | (go_at_call 50; refine (HF _).out.mono ?_; rintro e2 w2 ⟨rfl, hb2⟩; have hS := held5 (by assumption) hb2))
          go_wp2_with fail
          go_ret2
          exact ⟨.inl ⟨hf1.out, rfl⟩, held_end5 (by assumption) (box_below hnx)⟩
      · have hke : k = fs.length := by omega
        subst hke
        have hok := hide' (waysOk_done (φ := φW) HLE.out hd.out)
        have hIS : ISl wr u6 (wl φW fs ac) := by
          have e : (wl φW fs ac).take fs.length = wl φW fs ac := List.take_of_length_le (by rw [wl_length HLE.out]; exact Nat.le_refl _)
          rw [e] at hown
          exact ISl.own (by rw [wl_length HLE.out]; exact hown)
        have hnl : ac.length ≤ fs.length := by have := HLE.out; omega
        clear HA HB hd hown
        go_wp2_with fail
        go_ret2
        exact ⟨.inr ⟨hok.out, _, rfl, hIS⟩, box_below hnx⟩
  · have hok := hide' (waysOk_len (φ := φW) hle)
    have hle' : ((fs.length : Int) != (ac.length : Int)) = true := by rw [bne_iff_ne]; omega
    clear HA HB
    go_enter Tryd.func39, Tryd.ntmps39
    have d10 := c1 _ (Below.refl _ _)
    go_wp2_with fail
    go_ret2
    exact ⟨.inl ⟨hok.out, rfl⟩, (Below.refl _ _).alloc (Nat.le_refl _) _⟩

end Go.Proofs.YtdmdfokkibijjaaDoor
