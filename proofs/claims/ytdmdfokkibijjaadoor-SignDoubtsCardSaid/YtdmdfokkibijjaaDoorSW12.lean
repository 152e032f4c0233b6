/-
  The walk of Candidates of the document's answer of layer 9.
-/
import Derived.Test.YtdmdfokkibijjaaDoorSW11
namespace Go.Proofs.YtdmdfokkibijjaaDoor
open Go.RowKit
open Sgn
set_option linter.unusedVariables false
set_option linter.unusedSimpArgs false

set_option maxHeartbeats 4000000 in
set_option maxRecDepth 100000 in
theorem rCandidates_any (l : List G) (nm : ByteArray) (ac : List F) (v u : Value) (w : World) (HT : Hid (Tab w)) (HS : Hid (∀ g ∈ l, g.name.size ≤ 4611686018427387904)) (hv : GSl w v l) (hu : FSl w u ac) (hl : l.length ≤ 1000) :
    Calls Tryd.prog 13 #[v, .string nm, u] w fun e w' => CandEnd φW l nm ac w' e ∧ Below w.heap.size w w' := by
  have HC1 := hide' (rValids_any l ac v u nm w HT HS hv (hide' hu))
  cases hSA : (l.all (fun g => validG g) && ac.all (fun f => isActual f.k f.n)) <;> rw [hSA] at HC1
  · have hok := hide' (show callOk l ac = false from hSA)
    clear hSA HS HT hu hv
    go_enter Tryd.func13, Tryd.ntmps13
    go_wp2_with fail
    refine HC1.out.mono ?_
    rintro e w1 ⟨rfl, hb1⟩
    go_wp2_with fail
    go_ret2
    exact ⟨.inl ⟨hok.out, rfl⟩, hb1⟩
  · have hS : l.all (fun g => validG g) = true := by rw [Bool.and_eq_true] at hSA; exact hSA.1
    have hok := hide' (show callOk l ac = true from hSA)
    have HLEN := fun k hk => hide' (valid_len hS k hk)
    have HU := hide' hu
    obtain ⟨A, cap, rfl, hca, hma, hA⟩ := hv
    have HA : Hid (0 < l.length → ∃ b off, A = some ⟨b, off, none⟩ ∧ GCells w b off l) := hA
    have hmax : maxLen = 9223372036854775807 := rfl
    rw [hmax] at hma
    obtain ⟨i0, hi, hz0, hz1, hz2⟩ := info_parts intInfo
    clear hA hmax hS hSA hu
    go_enter Tryd.func13, Tryd.ntmps13
    go_wp2_with fail
    refine HC1.out.mono ?_
    rintro e w1 ⟨rfl, hb1⟩
    go_wp2_with fail
    have hb0 := hb1
    clear hb1 HC1
    go_loopw [8, 9] (fun s i wr => ∃ (k : Nat), k ≤ l.length ∧ i = .int .i64 k ∧ wr.ownsRow w.heap.size 3 1 s (cands φW l nm ac k).length (ints (cands φW l nm ac k)) ∧ Below w.heap.size w wr) (fun _ i _ => l.length - (intOf i).toNat)
    case atStart => exact ⟨0, Nat.zero_le _, rfl, World.ownsRow_nil _ _ _ _, hb0⟩
    case round =>
      obtain ⟨k, hk, rfl, hown, hnx⟩ := hrel
      have hcl := cands_le φW l nm ac k
      by_cases hlt : k < l.length
      · obtain ⟨b, off, rfl, hCA⟩ := HA.out (by omega)
        obtain ⟨x, x1, x2, x3, x4⟩ := (hCA.on hnx) k hlt
        obtain ⟨A', cap', rfl, r1, r2, r3⟩ := x4
        have X4 : FSl wr (.slice A' l[k].fs.length cap') l[k].fs := ⟨A', cap', rfl, r1, r2, r3⟩
        have HW := hide' (rWays_any l[k] ac (.agg #[.string l[k].name, .slice A' l[k].fs.length cap', .string l[k].res]) u wr ⟨_, rfl, X4⟩ (HU.out.on hnx) (HLEN k hlt).out)
        have HY := fun h => hide' (cands_yes (φ := φW) (l := l) (nm := nm) (ac := ac) (k := k) h)
        have HN := fun h => hide' (cands_no (φ := φW) (l := l) (nm := nm) (ac := ac) (k := k) h)
        rw [candAt_of hlt] at HY HN
        have hki : (0 : Int) ≤ (k : Int) := by omega
        have hk1 : (k : Int) < (l.length : Int) := by omega
        obtain ⟨fs, hfs⟩ : ∃ t, l[k].fs = t := ⟨_, rfl⟩
        obtain ⟨name, hname⟩ : ∃ t, l[k].name = t := ⟨_, rfl⟩
        obtain ⟨res, hres⟩ : ∃ t, l[k].res = t := ⟨_, rfl⟩
        simp only [hfs, hname, hres] at x1 x2 x3 r1 r2 HW HY HN
        clear hfs hname hres X4 r3 hCA HA
        go_wp2_with fail
        refine HW.out.mono ?_
        rintro e w3 ⟨hWE, hb3⟩
        have d0 := (hb3.cell (cell_lt x1)).trans x1
        have hb4 : Below w.heap.size w w3 := hnx.trans (hb3.mono hnx.size)
        have hown3 := ownsRow_below hown hb3
        rcases hWE with ⟨hwok, rfl⟩ | ⟨hwok, v', rfl, _⟩
        · have hn := HN (by rw [hwok, Bool.false_and])
          clear HN HY hwok HW hb3 hown hnx
          go_wp2_with fail
          go_roundw
          case rel => exact ⟨k + 1, by omega, by go_num, by rw [hn.out]; exact hown3, hb4⟩
          case measure => simp [intOf]; omega
        · cases hnm : (name.toList == nm.toList)
          · have hn := HN (by rw [hnm, Bool.and_false])
            clear HN HY hwok HW hb3 hown hnx
            go_wp2_with fail
            go_roundw
            case rel => exact ⟨k + 1, by omega, by go_num, by rw [hn.out]; exact hown3, hb4⟩
            case measure => simp [intOf]; omega
          · have hy := HY (by rw [hwok, hnm]; rfl)
            clear HN HY hwok HW hb3 hown hnx
            go_wp2_with (at_builtin; go_must (refine wpList_append_own _ rfl _ _ 26 rfl w.heap.size 3 i0 _ 1 8 Tryd.underlying26 hi hz0 hz1 hz2 rfl (by decide) _ _ _ rfl (hown3.alloc _) ⟨w3.heap.size, 0, none⟩ 1 1 [.int .i64 k] rfl rfl ?c1 ?c2 ?c3 ?c4 ?c5 ?_))
            case c1 => intro j u hu; exact cells_new' w3 _ _ j u hu rfl
            case c2 => intro u hu; simp at hu; subst hu; rfl
            case c3 => unfold maxLen; omega
            case c4 => omega
            case c5 => have := hb4.size; simp; omega
            intro v'' w5 hown5 hg5 _
            have hb5 := (hb4.alloc hb4.size (.cells #[.int .i64 k] 3)).grown hg5 (by have := hb4.size; simp; omega) (fun k hk => (hown3.lt k hk).1)
            go_wp2_with fail
            go_roundw
            case rel => exact ⟨k + 1, by omega, by go_num, by rw [hy.out, ints_snoc, List.length_append]; exact hown5, hb5⟩
            case measure => simp [intOf]; omega
      · have hke : k = l.length := by omega
        subst hke
        have hIS := ISl.own hown
        clear HA hown
        go_wp2_with fail
        go_ret2
        exact ⟨.inr ⟨hok.out, _, rfl, hIS⟩, hnx⟩

end Go.Proofs.YtdmdfokkibijjaaDoor
