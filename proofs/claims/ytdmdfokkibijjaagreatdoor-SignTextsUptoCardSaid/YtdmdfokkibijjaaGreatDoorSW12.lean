/-
  The walk of Candidates of the document's answer of layer 9.
-/
import Derived.Test.YtdmdfokkibijjaaGreatDoorSW9
namespace Go.Proofs.YtdmdfokkibijjaaGreatDoor
open Go.RowKit
open Sgn
set_option linter.unusedVariables false
set_option linter.unusedSimpArgs false

/-- is the i-th signature a candidate -/
def candAt (φ : F → F → Int) (l : List G) (nm : ByteArray) (ac : List F) (i : Nat) : Bool :=
  match l[i]? with
  | some g => waysOk φ g.fs ac && (g.name.toList == nm.toList)
  | none => false
/-- the candidates among the first k -/
def cands (φ : F → F → Int) (l : List G) (nm : ByteArray) (ac : List F) (k : Nat) : List Int := ((List.range k).filter (candAt φ l nm ac)).map fun i : Nat => (i : Int)
theorem cands_yes {φ : F → F → Int} {l : List G} {nm : ByteArray} {ac : List F} {k : Nat} (h : candAt φ l nm ac k = true) : cands φ l nm ac (k + 1) = cands φ l nm ac k ++ [(k : Int)] := by
  unfold cands; rw [List.range_succ, List.filter_append]; simp [h]
theorem cands_no {φ : F → F → Int} {l : List G} {nm : ByteArray} {ac : List F} {k : Nat} (h : candAt φ l nm ac k = false) : cands φ l nm ac (k + 1) = cands φ l nm ac k := by
  unfold cands; rw [List.range_succ, List.filter_append]; simp [h]
theorem cands_le (φ : F → F → Int) (l : List G) (nm : ByteArray) (ac : List F) (k : Nat) : (cands φ l nm ac k).length ≤ k := by
  unfold cands
  rw [List.length_map]
  exact Nat.le_trans (List.length_filter_le _ _) (by rw [List.length_range]; exact Nat.le_refl _)
theorem candAt_of {φ : F → F → Int} {l : List G} {nm : ByteArray} {ac : List F} {k : Nat} (h : k < l.length) : candAt φ l nm ac k = (waysOk φ l[k].fs ac && (l[k].name.toList == nm.toList)) := by
  unfold candAt; rw [List.getElem?_eq_getElem h]
def callOk (l : List G) (ac : List F) : Bool := l.all (fun g => validG g) && ac.all (fun f => isActual f.k f.n)
/-- what Candidates hands back -/
def CandEnd (φ : F → F → Int) (l : List G) (nm : ByteArray) (ac : List F) (w' : World) (e : Ending) : Prop :=
  (callOk l ac = false ∧ e = .returned (.tuple #[.slice none 0 0, .int .i64 2])) ∨
  (callOk l ac = true ∧ ∃ v, e = .returned (.tuple #[v, .int .i64 0]) ∧ ISl w' v (cands φ l nm ac l.length))
theorem valid_len {l : List G} (h : l.all (fun g => validG g) = true) (k : Nat) (hk : k < l.length) : l[k].fs.length ≤ 1000 := by
  rw [List.all_eq_true] at h
  have := h _ (List.getElem_mem hk)
  unfold validG at this
  simp only [Bool.and_eq_true, decide_eq_true_eq] at this
  omega

set_option maxHeartbeats 4000000 in
set_option maxRecDepth 100000 in
theorem Candidates_any (l : List G) (nm : ByteArray) (ac : List F) (v u : Value) (w : World) (HT : Hid (Tab w)) (HS : Hid (∀ g ∈ l, g.name.size ≤ 4611686018427387904)) (hv : GSl w v l) (hu : FSl w u ac) (hl : l.length ≤ 1000) :
    Calls Tryz.prog 26 #[v, .string nm, u] w fun e w' => CandEnd φF l nm ac w' e ∧ Below w.heap.size w w' := by
  have HC1 := hide' (areSigns_any l v w HT HS hv)
  have HC2 := fun w1 (hb : Below w.heap.size w w1) => hide' (areActuals_any ac u w1 (hu.on hb))
  cases hS : l.all (fun g => validG g) <;> rw [hS] at HC1
  · have hok := hide' (show callOk l ac = false by unfold callOk; rw [hS, Bool.false_and])
    clear hS HS HT HC2 hu hv
    go_enter Tryz.func26, Tryz.ntmps26
    go_wp2_with fail
    refine HC1.out.mono ?_
    rintro e w1 ⟨rfl, hb1⟩
    go_wp2_with fail
    go_ret2
    exact ⟨.inl ⟨hok.out, rfl⟩, hb1⟩
  · cases hA2 : ac.all (fun f => isActual f.k f.n) <;> simp only [hA2] at HC2
    · have hok := hide' (show callOk l ac = false by unfold callOk; rw [hA2, Bool.and_false])
      clear hS HS HT hu hv hA2
      go_enter Tryz.func26, Tryz.ntmps26
      go_wp2_with fail
      refine HC1.out.mono ?_
      rintro e w1 ⟨rfl, hb1⟩
      go_wp2_with fail
      refine (HC2 _ hb1).out.mono ?_
      rintro e w2 ⟨rfl, hb2⟩
      go_wp2_with fail
      go_ret2
      exact ⟨.inl ⟨hok.out, rfl⟩, hb1.trans (hb2.mono hb1.size)⟩
    · have hok := hide' (show callOk l ac = true by unfold callOk; rw [hS, hA2]; rfl)
      have HLEN := fun k hk => hide' (valid_len hS k hk)
      have HU := hide' hu
      obtain ⟨A, cap, rfl, hca, hma, hA⟩ := hv
      have HA : Hid (0 < l.length → ∃ b off, A = some ⟨b, off, none⟩ ∧ GCells w b off l) := hA
      have hmax : maxLen = 9223372036854775807 := rfl
      rw [hmax] at hma
      obtain ⟨i0, hi, hz0, hz1, hz2⟩ := info_parts intInfo
      clear hA hmax hS hA2 hu
      go_enter Tryz.func26, Tryz.ntmps26
      go_wp2_with fail
      refine HC1.out.mono ?_
      rintro e w1 ⟨rfl, hb1⟩
      go_wp2_with fail
      refine (HC2 _ hb1).out.mono ?_
      rintro e w2 ⟨rfl, hb2⟩
      have hb0 := hb1.trans (hb2.mono hb1.size)
      clear hb1 hb2 HC1 HC2
      go_wp2_with fail
      go_loopw [8, 23] (fun s i wr => ∃ (k : Nat), k ≤ l.length ∧ i = .int .i64 k ∧ wr.ownsRow w.heap.size 3 1 s (cands φF l nm ac k).length (ints (cands φF l nm ac k)) ∧ Below w.heap.size w wr) (fun _ i _ => l.length - (intOf i).toNat)
      case atStart => exact ⟨0, Nat.zero_le _, rfl, World.ownsRow_nil _ _ _ _, hb0⟩
      case round =>
        obtain ⟨k, hk, rfl, hown, hnx⟩ := hrel
        have hcl := cands_le φF l nm ac k
        by_cases hlt : k < l.length
        · obtain ⟨b, off, rfl, hCA⟩ := HA.out (by omega)
          obtain ⟨x, x1, x2, x3, x4⟩ := (hCA.on hnx) k hlt
          obtain ⟨A', cap', rfl, r1, r2, r3⟩ := x4
          have X4 : FSl wr (.slice A' l[k].fs.length cap') l[k].fs := ⟨A', cap', rfl, r1, r2, r3⟩
          have HW := fun o => hide' (waysOf_any l[k] ac (.agg #[.string l[k].name, .slice A' l[k].fs.length cap', .string l[k].res]) u (wr.alloc o) ⟨_, rfl, X4.on ((Below.refl _ _).alloc (Nat.le_refl _) _)⟩ ((HU.out.on hnx).on ((Below.refl _ _).alloc (Nat.le_refl _) _)) (HLEN k hlt).out)
          have HY := fun h => hide' (cands_yes (φ := φF) (l := l) (nm := nm) (ac := ac) (k := k) h)
          have HN := fun h => hide' (cands_no (φ := φF) (l := l) (nm := nm) (ac := ac) (k := k) h)
          rw [candAt_of hlt] at HY HN
          have c0 : ∀ w1, Below (wr.alloc (.cells #[.string l[k].name, .slice A' l[k].fs.length cap', .string l[k].res] 25)).heap.size (wr.alloc (.cells #[.string l[k].name, .slice A' l[k].fs.length cap', .string l[k].res] 25)) w1 → w1.cell? ⟨wr.heap.size, 0, none⟩ = some (.string l[k].name) := fun w1 hb => (hb.cell (by simp)).trans (cells_new' wr #[.string l[k].name, .slice A' l[k].fs.length cap', .string l[k].res] 25 0 _ rfl rfl)
          obtain ⟨fs, hfs⟩ : ∃ t, l[k].fs = t := ⟨_, rfl⟩
          obtain ⟨name, hname⟩ : ∃ t, l[k].name = t := ⟨_, rfl⟩
          obtain ⟨res, hres⟩ : ∃ t, l[k].res = t := ⟨_, rfl⟩
          simp only [hfs, hname, hres] at x1 x2 x3 r1 r2 HW HY HN c0
          clear hfs hname hres X4 r3 hCA HA
          go_wp2_with fail
          refine (HW _).out.mono ?_
          rintro e w3 ⟨hWE, hb3⟩
          have d0 := c0 _ hb3
          have hb4 : Below w.heap.size w w3 := hnx.trans ((box_below hb3).mono hnx.size)
          have hown3 := ownsRow_below hown (box_below hb3)
          rcases hWE with ⟨hwok, rfl⟩ | ⟨hwok, v', rfl, _⟩
          · have hn := HN (by rw [hwok, Bool.false_and])
            clear HN HY hwok HW c0 hb3 hown hnx
            go_wp2_with fail
            go_roundw
            case rel => exact ⟨k + 1, by omega, by go_num, by rw [hn.out]; exact hown3, hb4⟩
            case measure => simp [intOf]; omega
          · cases hnm : (name.toList == nm.toList)
            · have hn := HN (by rw [hnm, Bool.and_false])
              clear HN HY hwok HW c0 hb3 hown hnx
              go_wp2_with fail
              go_roundw
              case rel => exact ⟨k + 1, by omega, by go_num, by rw [hn.out]; exact hown3, hb4⟩
              case measure => simp [intOf]; omega
            · have hy := HY (by rw [hwok, hnm]; rfl)
              clear HN HY hwok HW c0 hb3 hown hnx
              go_wp2_with (at_builtin; go_must (refine wpList_append_own _ rfl _ _ 54 rfl w.heap.size 3 i0 _ 1 8 Tryz.underlying54 hi hz0 hz1 hz2 rfl (by decide) _ _ _ rfl (hown3.alloc _) ⟨w3.heap.size, 0, none⟩ 1 1 [.int .i64 k] rfl rfl ?c1 ?c2 ?c3 ?c4 ?c5 ?_))
              case c1 => intro j u hu; exact cells_new' w3 _ _ j u hu rfl
              case c2 => intro u hu; simp at hu; subst hu; rfl
              case c3 => unfold maxLen; omega
              case c4 => omega
              case c5 => have := hb4.size; simp; omega
              intro v'' w5 hown5 hg5 _
              have hb5 := (hb4.alloc hb4.size (.cells #[.int .i64 k] 3)).grown hg5 (by have := hb4.size; simp; omega) (fun k hk => (hown3.lt k hk).1)
              go_wp2_with fail
              go_roundw
              case rel => exact ⟨k + 1, by omega, by go_num, by rw [hy.out, ints_snoc, List.length_append]; exact hown5, hb5⟩
              case measure => simp [intOf]; omega
        · have hke : k = l.length := by omega
          subst hke
          have hIS := ISl.own hown
          clear HA hown
          go_wp2_with fail
          go_ret2
          exact ⟨.inr ⟨hok.out, _, rfl, hIS⟩, hnx⟩

end Go.Proofs.YtdmdfokkibijjaaGreatDoor

namespace Go.Proofs.YtdmdfokkibijjaaGreatDoor
open Go.RowKit
open Sgn
set_option linter.unusedVariables false
set_option linter.unusedSimpArgs false

end Go.Proofs.YtdmdfokkibijjaaGreatDoor
