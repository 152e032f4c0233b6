/-
  The walks of Better of layer 9, of the program and of the document's answer.
-/
import Derived.Test.YtdmdfokkibijjaaDoorSW14
namespace Go.Proofs.YtdmdfokkibijjaaDoor
open Go.RowKit
open Sgn
set_option linter.unusedVariables false
set_option linter.unusedSimpArgs false

def betterOk (s t : G) (ac : List F) : Bool := validG s && (validG t && ac.all fun f => isActual f.k f.n)
def betterV (φ : F → F → Int) (s t : G) (ac : List F) : Bool := waysOk φ s.fs ac && (waysOk φ t.fs ac && betterL (wl φ s.fs ac) (wl φ t.fs ac))
/-- what Better hands back -/
def BetterE (φ : F → F → Int) (s t : G) (ac : List F) (e : Ending) : Prop :=
  (betterOk s t ac = false ∧ e = .returned (.tuple #[.bool false, .int .i64 2])) ∨
  (betterOk s t ac = true ∧ e = .returned (.tuple #[.bool (betterV φ s t ac), .int .i64 0]))
theorem betterE_no {φ : F → F → Int} {s t : G} {ac : List F} (h : betterOk s t ac = false) : BetterE φ s t ac (.returned (.tuple #[.bool false, .int .i64 2])) := .inl ⟨h, rfl⟩
theorem betterE_at {φ : F → F → Int} {s t : G} {ac : List F} {q : Bool} (h : betterOk s t ac = true) (hq : betterV φ s t ac = q) : BetterE φ s t ac (.returned (.tuple #[.bool q, .int .i64 0])) := .inr ⟨h, by rw [hq]⟩
theorem wl_lens {φ : F → F → Int} {fs fs' ac : List F} (h : waysOk φ fs ac = true) (h' : waysOk φ fs' ac = true) : (wl φ fs ac).length = (wl φ fs' ac).length := by
  unfold waysOk at h h'
  simp only [Bool.and_eq_true, decide_eq_true_eq] at h h'
  rw [wl_length h.1, wl_length h'.1]
  omega

set_option maxHeartbeats 4000000 in
set_option maxRecDepth 100000 in
theorem Better_any (s t : G) (ac : List F) (v v' u : Value) (w : World) (hT : Tab w) (hv : GV w v s) (hv' : GV w v' t) (hu : FSl w u ac) (hs : s.name.size ≤ 4611686018427387904) (ht : t.name.size ≤ 4611686018427387904) :
    Calls Tryd.prog 29 #[v, v', u] w fun e w' => BetterE φF s t ac e ∧ Below w.heap.size w w' := by
  obtain ⟨x, rfl, A, cap, rfl, hca, hma, hA⟩ := hv
  obtain ⟨x', rfl, A', cap', rfl, hca', hma', hA'⟩ := hv'
  have HNo := fun h => hide' (betterE_no (φ := φF) (s := s) (t := t) (ac := ac) h)
  have HAt := fun q h hq => hide' (betterE_at (φ := φF) (s := s) (t := t) (ac := ac) (q := q) h hq)
  have HVs := fun w1 (hb : Below w.heap.size w w1) => hide' (Valid_any s (.agg #[.string s.name, .slice A s.fs.length cap, .string s.res]) w1 (hT.on hb) ⟨_, rfl, FSl.on ⟨A, cap, rfl, hca, hma, hA⟩ hb⟩ hs)
  have HVt := fun w1 (hb : Below w.heap.size w w1) => hide' (Valid_any t (.agg #[.string t.name, .slice A' t.fs.length cap', .string t.res]) w1 (hT.on hb) ⟨_, rfl, FSl.on ⟨A', cap', rfl, hca', hma', hA'⟩ hb⟩ ht)
  have HA := fun w1 (hb : Below w.heap.size w w1) => hide' (areActuals_any ac u w1 (hu.on hb))
  have HWs := fun (h : s.fs.length ≤ 1000) w1 (hb : Below w.heap.size w w1) => hide' (waysOf_any s ac (.agg #[.string s.name, .slice A s.fs.length cap, .string s.res]) u w1 ⟨_, rfl, FSl.on ⟨A, cap, rfl, hca, hma, hA⟩ hb⟩ (hu.on hb) h)
  have HWt := fun (h : t.fs.length ≤ 1000) w1 (hb : Below w.heap.size w w1) => hide' (waysOf_any t ac (.agg #[.string t.name, .slice A' t.fs.length cap', .string t.res]) u w1 ⟨_, rfl, FSl.on ⟨A', cap', rfl, hca', hma', hA'⟩ hb⟩ (hu.on hb) h)
  have HL := fun h h' => wl_lens (φ := φF) (fs := s.fs) (fs' := t.fs) (ac := ac) h h'
  have hmax : maxLen = 9223372036854775807 := rfl
  rw [hmax] at hma hma'
  unfold betterOk at HNo HAt
  unfold betterV at HAt
  have lens := fun (h : validG s = true) => validG_len h
  have lent := fun (h : validG t = true) => validG_len h
  cases hgs : validG s <;> rw [hgs] at HNo HAt lens <;> simp only [hgs] at HVs
  all_goals cases hgt : validG t <;> rw [hgt] at HNo HAt lent <;> simp only [hgt] at HVt
  all_goals cases hac : ac.all (fun f => isActual f.k f.n) <;> rw [hac] at HNo HAt <;> simp only [hac] at HA
  all_goals clear hgs hgt hac hT hu hA hA' hmax
  all_goals obtain ⟨name, fs, res⟩ := s
  all_goals obtain ⟨name', fs', res'⟩ := t
  all_goals simp only at hca hma hca' hma' HVs HVt HWs HWt HL lens lent HNo HAt ⊢

  · have hN := HNo rfl
    clear HNo HAt HL lens lent
    have c0 : ∀ w1, Below ((w.alloc (.cells #[.string name, .slice A fs.length cap, .string res] 37)).alloc (.cells #[.string name', .slice A' fs'.length cap', .string res'] 37)).heap.size ((w.alloc (.cells #[.string name, .slice A fs.length cap, .string res] 37)).alloc (.cells #[.string name', .slice A' fs'.length cap', .string res'] 37)) w1 → w1.cell? ⟨w.heap.size, 0, none⟩ = some (.string name) := fun w1 hb => (hb.cell (by simp; omega)).trans ((World.cell?_alloc_lt _ _ _ (show w.heap.size < (w.alloc (.cells #[.string name, .slice A fs.length cap, .string res] 37)).heap.size by simp)).trans (cells_new' w #[.string name, .slice A fs.length cap, .string res] 37 0 _ rfl rfl))
    have c1 : ∀ w1, Below ((w.alloc (.cells #[.string name, .slice A fs.length cap, .string res] 37)).alloc (.cells #[.string name', .slice A' fs'.length cap', .string res'] 37)).heap.size ((w.alloc (.cells #[.string name, .slice A fs.length cap, .string res] 37)).alloc (.cells #[.string name', .slice A' fs'.length cap', .string res'] 37)) w1 → w1.cell? ⟨w.heap.size, 1, none⟩ = some (.slice A fs.length cap) := fun w1 hb => (hb.cell (by simp; omega)).trans ((World.cell?_alloc_lt _ _ _ (show w.heap.size < (w.alloc (.cells #[.string name, .slice A fs.length cap, .string res] 37)).heap.size by simp)).trans (cells_new' w #[.string name, .slice A fs.length cap, .string res] 37 1 _ rfl rfl))
    have c2 : ∀ w1, Below ((w.alloc (.cells #[.string name, .slice A fs.length cap, .string res] 37)).alloc (.cells #[.string name', .slice A' fs'.length cap', .string res'] 37)).heap.size ((w.alloc (.cells #[.string name, .slice A fs.length cap, .string res] 37)).alloc (.cells #[.string name', .slice A' fs'.length cap', .string res'] 37)) w1 → w1.cell? ⟨w.heap.size, 2, none⟩ = some (.string res) := fun w1 hb => (hb.cell (by simp; omega)).trans ((World.cell?_alloc_lt _ _ _ (show w.heap.size < (w.alloc (.cells #[.string name, .slice A fs.length cap, .string res] 37)).heap.size by simp)).trans (cells_new' w #[.string name, .slice A fs.length cap, .string res] 37 2 _ rfl rfl))
    have e0 : ∀ w1, Below ((w.alloc (.cells #[.string name, .slice A fs.length cap, .string res] 37)).alloc (.cells #[.string name', .slice A' fs'.length cap', .string res'] 37)).heap.size ((w.alloc (.cells #[.string name, .slice A fs.length cap, .string res] 37)).alloc (.cells #[.string name', .slice A' fs'.length cap', .string res'] 37)) w1 → w1.cell? ⟨w.heap.size + 1, 0, none⟩ = some (.string name') := fun w1 hb => (hb.cell (by simp)).trans (cells_new' (w.alloc (.cells #[.string name, .slice A fs.length cap, .string res] 37)) #[.string name', .slice A' fs'.length cap', .string res'] 37 0 _ rfl (by simp))
    have e1 : ∀ w1, Below ((w.alloc (.cells #[.string name, .slice A fs.length cap, .string res] 37)).alloc (.cells #[.string name', .slice A' fs'.length cap', .string res'] 37)).heap.size ((w.alloc (.cells #[.string name, .slice A fs.length cap, .string res] 37)).alloc (.cells #[.string name', .slice A' fs'.length cap', .string res'] 37)) w1 → w1.cell? ⟨w.heap.size + 1, 1, none⟩ = some (.slice A' fs'.length cap') := fun w1 hb => (hb.cell (by simp)).trans (cells_new' (w.alloc (.cells #[.string name, .slice A fs.length cap, .string res] 37)) #[.string name', .slice A' fs'.length cap', .string res'] 37 1 _ rfl (by simp))
    have e2 : ∀ w1, Below ((w.alloc (.cells #[.string name, .slice A fs.length cap, .string res] 37)).alloc (.cells #[.string name', .slice A' fs'.length cap', .string res'] 37)).heap.size ((w.alloc (.cells #[.string name, .slice A fs.length cap, .string res] 37)).alloc (.cells #[.string name', .slice A' fs'.length cap', .string res'] 37)) w1 → w1.cell? ⟨w.heap.size + 1, 2, none⟩ = some (.string res') := fun w1 hb => (hb.cell (by simp)).trans (cells_new' (w.alloc (.cells #[.string name, .slice A fs.length cap, .string res] 37)) #[.string name', .slice A' fs'.length cap', .string res'] 37 2 _ rfl (by simp))
    go_enter Tryd.func29, Tryd.ntmps29
    go_wp2_with fail
    refine (HVs _ (box2_below (Below.refl _ _))).out.mono ?_
    rintro e g1 ⟨rfl, q1⟩
    have hb1 := q1
    have x1 := box2_below hb1
    have c01 := c0 _ hb1
    have c11 := c1 _ hb1
    have c21 := c2 _ hb1
    have e01 := e0 _ hb1
    have e11 := e1 _ hb1
    have e21 := e2 _ hb1
    clear q1
    go_wp2_with fail
    go_ret2
    exact ⟨hN.out, x1⟩
  · have hN := HNo rfl
    clear HNo HAt HL lens lent
    have c0 : ∀ w1, Below ((w.alloc (.cells #[.string name, .slice A fs.length cap, .string res] 37)).alloc (.cells #[.string name', .slice A' fs'.length cap', .string res'] 37)).heap.size ((w.alloc (.cells #[.string name, .slice A fs.length cap, .string res] 37)).alloc (.cells #[.string name', .slice A' fs'.length cap', .string res'] 37)) w1 → w1.cell? ⟨w.heap.size, 0, none⟩ = some (.string name) := fun w1 hb => (hb.cell (by simp; omega)).trans ((World.cell?_alloc_lt _ _ _ (show w.heap.size < (w.alloc (.cells #[.string name, .slice A fs.length cap, .string res] 37)).heap.size by simp)).trans (cells_new' w #[.string name, .slice A fs.length cap, .string res] 37 0 _ rfl rfl))
    have c1 : ∀ w1, Below ((w.alloc (.cells #[.string name, .slice A fs.length cap, .string res] 37)).alloc (.cells #[.string name', .slice A' fs'.length cap', .string res'] 37)).heap.size ((w.alloc (.cells #[.string name, .slice A fs.length cap, .string res] 37)).alloc (.cells #[.string name', .slice A' fs'.length cap', .string res'] 37)) w1 → w1.cell? ⟨w.heap.size, 1, none⟩ = some (.slice A fs.length cap) := fun w1 hb => (hb.cell (by simp; omega)).trans ((World.cell?_alloc_lt _ _ _ (show w.heap.size < (w.alloc (.cells #[.string name, .slice A fs.length cap, .string res] 37)).heap.size by simp)).trans (cells_new' w #[.string name, .slice A fs.length cap, .string res] 37 1 _ rfl rfl))
    have c2 : ∀ w1, Below ((w.alloc (.cells #[.string name, .slice A fs.length cap, .string res] 37)).alloc (.cells #[.string name', .slice A' fs'.length cap', .string res'] 37)).heap.size ((w.alloc (.cells #[.string name, .slice A fs.length cap, .string res] 37)).alloc (.cells #[.string name', .slice A' fs'.length cap', .string res'] 37)) w1 → w1.cell? ⟨w.heap.size, 2, none⟩ = some (.string res) := fun w1 hb => (hb.cell (by simp; omega)).trans ((World.cell?_alloc_lt _ _ _ (show w.heap.size < (w.alloc (.cells #[.string name, .slice A fs.length cap, .string res] 37)).heap.size by simp)).trans (cells_new' w #[.string name, .slice A fs.length cap, .string res] 37 2 _ rfl rfl))
    have e0 : ∀ w1, Below ((w.alloc (.cells #[.string name, .slice A fs.length cap, .string res] 37)).alloc (.cells #[.string name', .slice A' fs'.length cap', .string res'] 37)).heap.size ((w.alloc (.cells #[.string name, .slice A fs.length cap, .string res] 37)).alloc (.cells #[.string name', .slice A' fs'.length cap', .string res'] 37)) w1 → w1.cell? ⟨w.heap.size + 1, 0, none⟩ = some (.string name') := fun w1 hb => (hb.cell (by simp)).trans (cells_new' (w.alloc (.cells #[.string name, .slice A fs.length cap, .string res] 37)) #[.string name', .slice A' fs'.length cap', .string res'] 37 0 _ rfl (by simp))
    have e1 : ∀ w1, Below ((w.alloc (.cells #[.string name, .slice A fs.length cap, .string res] 37)).alloc (.cells #[.string name', .slice A' fs'.length cap', .string res'] 37)).heap.size ((w.alloc (.cells #[.string name, .slice A fs.length cap, .string res] 37)).alloc (.cells #[.string name', .slice A' fs'.length cap', .string res'] 37)) w1 → w1.cell? ⟨w.heap.size + 1, 1, none⟩ = some (.slice A' fs'.length cap') := fun w1 hb => (hb.cell (by simp)).trans (cells_new' (w.alloc (.cells #[.string name, .slice A fs.length cap, .string res] 37)) #[.string name', .slice A' fs'.length cap', .string res'] 37 1 _ rfl (by simp))
    have e2 : ∀ w1, Below ((w.alloc (.cells #[.string name, .slice A fs.length cap, .string res] 37)).alloc (.cells #[.string name', .slice A' fs'.length cap', .string res'] 37)).heap.size ((w.alloc (.cells #[.string name, .slice A fs.length cap, .string res] 37)).alloc (.cells #[.string name', .slice A' fs'.length cap', .string res'] 37)) w1 → w1.cell? ⟨w.heap.size + 1, 2, none⟩ = some (.string res') := fun w1 hb => (hb.cell (by simp)).trans (cells_new' (w.alloc (.cells #[.string name, .slice A fs.length cap, .string res] 37)) #[.string name', .slice A' fs'.length cap', .string res'] 37 2 _ rfl (by simp))
    go_enter Tryd.func29, Tryd.ntmps29
    go_wp2_with fail
    refine (HVs _ (box2_below (Below.refl _ _))).out.mono ?_
    rintro e g1 ⟨rfl, q1⟩
    have hb1 := q1
    have x1 := box2_below hb1
    have c01 := c0 _ hb1
    have c11 := c1 _ hb1
    have c21 := c2 _ hb1
    have e01 := e0 _ hb1
    have e11 := e1 _ hb1
    have e21 := e2 _ hb1
    clear q1
    go_wp2_with fail
    go_ret2
    exact ⟨hN.out, x1⟩
  · have hN := HNo rfl
    clear HNo HAt HL lens lent
    have c0 : ∀ w1, Below ((w.alloc (.cells #[.string name, .slice A fs.length cap, .string res] 37)).alloc (.cells #[.string name', .slice A' fs'.length cap', .string res'] 37)).heap.size ((w.alloc (.cells #[.string name, .slice A fs.length cap, .string res] 37)).alloc (.cells #[.string name', .slice A' fs'.length cap', .string res'] 37)) w1 → w1.cell? ⟨w.heap.size, 0, none⟩ = some (.string name) := fun w1 hb => (hb.cell (by simp; omega)).trans ((World.cell?_alloc_lt _ _ _ (show w.heap.size < (w.alloc (.cells #[.string name, .slice A fs.length cap, .string res] 37)).heap.size by simp)).trans (cells_new' w #[.string name, .slice A fs.length cap, .string res] 37 0 _ rfl rfl))
    have c1 : ∀ w1, Below ((w.alloc (.cells #[.string name, .slice A fs.length cap, .string res] 37)).alloc (.cells #[.string name', .slice A' fs'.length cap', .string res'] 37)).heap.size ((w.alloc (.cells #[.string name, .slice A fs.length cap, .string res] 37)).alloc (.cells #[.string name', .slice A' fs'.length cap', .string res'] 37)) w1 → w1.cell? ⟨w.heap.size, 1, none⟩ = some (.slice A fs.length cap) := fun w1 hb => (hb.cell (by simp; omega)).trans ((World.cell?_alloc_lt _ _ _ (show w.heap.size < (w.alloc (.cells #[.string name, .slice A fs.length cap, .string res] 37)).heap.size by simp)).trans (cells_new' w #[.string name, .slice A fs.length cap, .string res] 37 1 _ rfl rfl))
    have c2 : ∀ w1, Below ((w.alloc (.cells #[.string name, .slice A fs.length cap, .string res] 37)).alloc (.cells #[.string name', .slice A' fs'.length cap', .string res'] 37)).heap.size ((w.alloc (.cells #[.string name, .slice A fs.length cap, .string res] 37)).alloc (.cells #[.string name', .slice A' fs'.length cap', .string res'] 37)) w1 → w1.cell? ⟨w.heap.size, 2, none⟩ = some (.string res) := fun w1 hb => (hb.cell (by simp; omega)).trans ((World.cell?_alloc_lt _ _ _ (show w.heap.size < (w.alloc (.cells #[.string name, .slice A fs.length cap, .string res] 37)).heap.size by simp)).trans (cells_new' w #[.string name, .slice A fs.length cap, .string res] 37 2 _ rfl rfl))
    have e0 : ∀ w1, Below ((w.alloc (.cells #[.string name, .slice A fs.length cap, .string res] 37)).alloc (.cells #[.string name', .slice A' fs'.length cap', .string res'] 37)).heap.size ((w.alloc (.cells #[.string name, .slice A fs.length cap, .string res] 37)).alloc (.cells #[.string name', .slice A' fs'.length cap', .string res'] 37)) w1 → w1.cell? ⟨w.heap.size + 1, 0, none⟩ = some (.string name') := fun w1 hb => (hb.cell (by simp)).trans (cells_new' (w.alloc (.cells #[.string name, .slice A fs.length cap, .string res] 37)) #[.string name', .slice A' fs'.length cap', .string res'] 37 0 _ rfl (by simp))
    have e1 : ∀ w1, Below ((w.alloc (.cells #[.string name, .slice A fs.length cap, .string res] 37)).alloc (.cells #[.string name', .slice A' fs'.length cap', .string res'] 37)).heap.size ((w.alloc (.cells #[.string name, .slice A fs.length cap, .string res] 37)).alloc (.cells #[.string name', .slice A' fs'.length cap', .string res'] 37)) w1 → w1.cell? ⟨w.heap.size + 1, 1, none⟩ = some (.slice A' fs'.length cap') := fun w1 hb => (hb.cell (by simp)).trans (cells_new' (w.alloc (.cells #[.string name, .slice A fs.length cap, .string res] 37)) #[.string name', .slice A' fs'.length cap', .string res'] 37 1 _ rfl (by simp))
    have e2 : ∀ w1, Below ((w.alloc (.cells #[.string name, .slice A fs.length cap, .string res] 37)).alloc (.cells #[.string name', .slice A' fs'.length cap', .string res'] 37)).heap.size ((w.alloc (.cells #[.string name, .slice A fs.length cap, .string res] 37)).alloc (.cells #[.string name', .slice A' fs'.length cap', .string res'] 37)) w1 → w1.cell? ⟨w.heap.size + 1, 2, none⟩ = some (.string res') := fun w1 hb => (hb.cell (by simp)).trans (cells_new' (w.alloc (.cells #[.string name, .slice A fs.length cap, .string res] 37)) #[.string name', .slice A' fs'.length cap', .string res'] 37 2 _ rfl (by simp))
    go_enter Tryd.func29, Tryd.ntmps29
    go_wp2_with fail
    refine (HVs _ (box2_below (Below.refl _ _))).out.mono ?_
    rintro e g1 ⟨rfl, q1⟩
    have hb1 := q1
    have x1 := box2_below hb1
    have c01 := c0 _ hb1
    have c11 := c1 _ hb1
    have c21 := c2 _ hb1
    have e01 := e0 _ hb1
    have e11 := e1 _ hb1
    have e21 := e2 _ hb1
    clear q1
    go_wp2_with fail
    go_ret2
    exact ⟨hN.out, x1⟩
  · have hN := HNo rfl
    clear HNo HAt HL lens lent
    have c0 : ∀ w1, Below ((w.alloc (.cells #[.string name, .slice A fs.length cap, .string res] 37)).alloc (.cells #[.string name', .slice A' fs'.length cap', .string res'] 37)).heap.size ((w.alloc (.cells #[.string name, .slice A fs.length cap, .string res] 37)).alloc (.cells #[.string name', .slice A' fs'.length cap', .string res'] 37)) w1 → w1.cell? ⟨w.heap.size, 0, none⟩ = some (.string name) := fun w1 hb => (hb.cell (by simp; omega)).trans ((World.cell?_alloc_lt _ _ _ (show w.heap.size < (w.alloc (.cells #[.string name, .slice A fs.length cap, .string res] 37)).heap.size by simp)).trans (cells_new' w #[.string name, .slice A fs.length cap, .string res] 37 0 _ rfl rfl))
    have c1 : ∀ w1, Below ((w.alloc (.cells #[.string name, .slice A fs.length cap, .string res] 37)).alloc (.cells #[.string name', .slice A' fs'.length cap', .string res'] 37)).heap.size ((w.alloc (.cells #[.string name, .slice A fs.length cap, .string res] 37)).alloc (.cells #[.string name', .slice A' fs'.length cap', .string res'] 37)) w1 → w1.cell? ⟨w.heap.size, 1, none⟩ = some (.slice A fs.length cap) := fun w1 hb => (hb.cell (by simp; omega)).trans ((World.cell?_alloc_lt _ _ _ (show w.heap.size < (w.alloc (.cells #[.string name, .slice A fs.length cap, .string res] 37)).heap.size by simp)).trans (cells_new' w #[.string name, .slice A fs.length cap, .string res] 37 1 _ rfl rfl))
    have c2 : ∀ w1, Below ((w.alloc (.cells #[.string name, .slice A fs.length cap, .string res] 37)).alloc (.cells #[.string name', .slice A' fs'.length cap', .string res'] 37)).heap.size ((w.alloc (.cells #[.string name, .slice A fs.length cap, .string res] 37)).alloc (.cells #[.string name', .slice A' fs'.length cap', .string res'] 37)) w1 → w1.cell? ⟨w.heap.size, 2, none⟩ = some (.string res) := fun w1 hb => (hb.cell (by simp; omega)).trans ((World.cell?_alloc_lt _ _ _ (show w.heap.size < (w.alloc (.cells #[.string name, .slice A fs.length cap, .string res] 37)).heap.size by simp)).trans (cells_new' w #[.string name, .slice A fs.length cap, .string res] 37 2 _ rfl rfl))
    have e0 : ∀ w1, Below ((w.alloc (.cells #[.string name, .slice A fs.length cap, .string res] 37)).alloc (.cells #[.string name', .slice A' fs'.length cap', .string res'] 37)).heap.size ((w.alloc (.cells #[.string name, .slice A fs.length cap, .string res] 37)).alloc (.cells #[.string name', .slice A' fs'.length cap', .string res'] 37)) w1 → w1.cell? ⟨w.heap.size + 1, 0, none⟩ = some (.string name') := fun w1 hb => (hb.cell (by simp)).trans (cells_new' (w.alloc (.cells #[.string name, .slice A fs.length cap, .string res] 37)) #[.string name', .slice A' fs'.length cap', .string res'] 37 0 _ rfl (by simp))
    have e1 : ∀ w1, Below ((w.alloc (.cells #[.string name, .slice A fs.length cap, .string res] 37)).alloc (.cells #[.string name', .slice A' fs'.length cap', .string res'] 37)).heap.size ((w.alloc (.cells #[.string name, .slice A fs.length cap, .string res] 37)).alloc (.cells #[.string name', .slice A' fs'.length cap', .string res'] 37)) w1 → w1.cell? ⟨w.heap.size + 1, 1, none⟩ = some (.slice A' fs'.length cap') := fun w1 hb => (hb.cell (by simp)).trans (cells_new' (w.alloc (.cells #[.string name, .slice A fs.length cap, .string res] 37)) #[.string name', .slice A' fs'.length cap', .string res'] 37 1 _ rfl (by simp))
    have e2 : ∀ w1, Below ((w.alloc (.cells #[.string name, .slice A fs.length cap, .string res] 37)).alloc (.cells #[.string name', .slice A' fs'.length cap', .string res'] 37)).heap.size ((w.alloc (.cells #[.string name, .slice A fs.length cap, .string res] 37)).alloc (.cells #[.string name', .slice A' fs'.length cap', .string res'] 37)) w1 → w1.cell? ⟨w.heap.size + 1, 2, none⟩ = some (.string res') := fun w1 hb => (hb.cell (by simp)).trans (cells_new' (w.alloc (.cells #[.string name, .slice A fs.length cap, .string res] 37)) #[.string name', .slice A' fs'.length cap', .string res'] 37 2 _ rfl (by simp))
    go_enter Tryd.func29, Tryd.ntmps29
    go_wp2_with fail
    refine (HVs _ (box2_below (Below.refl _ _))).out.mono ?_
    rintro e g1 ⟨rfl, q1⟩
    have hb1 := q1
    have x1 := box2_below hb1
    have c01 := c0 _ hb1
    have c11 := c1 _ hb1
    have c21 := c2 _ hb1
    have e01 := e0 _ hb1
    have e11 := e1 _ hb1
    have e21 := e2 _ hb1
    clear q1
    go_wp2_with fail
    go_ret2
    exact ⟨hN.out, x1⟩
  · have hN := HNo rfl
    clear HNo HAt HL lens lent
    have c0 : ∀ w1, Below ((w.alloc (.cells #[.string name, .slice A fs.length cap, .string res] 37)).alloc (.cells #[.string name', .slice A' fs'.length cap', .string res'] 37)).heap.size ((w.alloc (.cells #[.string name, .slice A fs.length cap, .string res] 37)).alloc (.cells #[.string name', .slice A' fs'.length cap', .string res'] 37)) w1 → w1.cell? ⟨w.heap.size, 0, none⟩ = some (.string name) := fun w1 hb => (hb.cell (by simp; omega)).trans ((World.cell?_alloc_lt _ _ _ (show w.heap.size < (w.alloc (.cells #[.string name, .slice A fs.length cap, .string res] 37)).heap.size by simp)).trans (cells_new' w #[.string name, .slice A fs.length cap, .string res] 37 0 _ rfl rfl))
    have c1 : ∀ w1, Below ((w.alloc (.cells #[.string name, .slice A fs.length cap, .string res] 37)).alloc (.cells #[.string name', .slice A' fs'.length cap', .string res'] 37)).heap.size ((w.alloc (.cells #[.string name, .slice A fs.length cap, .string res] 37)).alloc (.cells #[.string name', .slice A' fs'.length cap', .string res'] 37)) w1 → w1.cell? ⟨w.heap.size, 1, none⟩ = some (.slice A fs.length cap) := fun w1 hb => (hb.cell (by simp; omega)).trans ((World.cell?_alloc_lt _ _ _ (show w.heap.size < (w.alloc (.cells #[.string name, .slice A fs.length cap, .string res] 37)).heap.size by simp)).trans (cells_new' w #[.string name, .slice A fs.length cap, .string res] 37 1 _ rfl rfl))
    have c2 : ∀ w1, Below ((w.alloc (.cells #[.string name, .slice A fs.length cap, .string res] 37)).alloc (.cells #[.string name', .slice A' fs'.length cap', .string res'] 37)).heap.size ((w.alloc (.cells #[.string name, .slice A fs.length cap, .string res] 37)).alloc (.cells #[.string name', .slice A' fs'.length cap', .string res'] 37)) w1 → w1.cell? ⟨w.heap.size, 2, none⟩ = some (.string res) := fun w1 hb => (hb.cell (by simp; omega)).trans ((World.cell?_alloc_lt _ _ _ (show w.heap.size < (w.alloc (.cells #[.string name, .slice A fs.length cap, .string res] 37)).heap.size by simp)).trans (cells_new' w #[.string name, .slice A fs.length cap, .string res] 37 2 _ rfl rfl))
    have e0 : ∀ w1, Below ((w.alloc (.cells #[.string name, .slice A fs.length cap, .string res] 37)).alloc (.cells #[.string name', .slice A' fs'.length cap', .string res'] 37)).heap.size ((w.alloc (.cells #[.string name, .slice A fs.length cap, .string res] 37)).alloc (.cells #[.string name', .slice A' fs'.length cap', .string res'] 37)) w1 → w1.cell? ⟨w.heap.size + 1, 0, none⟩ = some (.string name') := fun w1 hb => (hb.cell (by simp)).trans (cells_new' (w.alloc (.cells #[.string name, .slice A fs.length cap, .string res] 37)) #[.string name', .slice A' fs'.length cap', .string res'] 37 0 _ rfl (by simp))
    have e1 : ∀ w1, Below ((w.alloc (.cells #[.string name, .slice A fs.length cap, .string res] 37)).alloc (.cells #[.string name', .slice A' fs'.length cap', .string res'] 37)).heap.size ((w.alloc (.cells #[.string name, .slice A fs.length cap, .string res] 37)).alloc (.cells #[.string name', .slice A' fs'.length cap', .string res'] 37)) w1 → w1.cell? ⟨w.heap.size + 1, 1, none⟩ = some (.slice A' fs'.length cap') := fun w1 hb => (hb.cell (by simp)).trans (cells_new' (w.alloc (.cells #[.string name, .slice A fs.length cap, .string res] 37)) #[.string name', .slice A' fs'.length cap', .string res'] 37 1 _ rfl (by simp))
    have e2 : ∀ w1, Below ((w.alloc (.cells #[.string name, .slice A fs.length cap, .string res] 37)).alloc (.cells #[.string name', .slice A' fs'.length cap', .string res'] 37)).heap.size ((w.alloc (.cells #[.string name, .slice A fs.length cap, .string res] 37)).alloc (.cells #[.string name', .slice A' fs'.length cap', .string res'] 37)) w1 → w1.cell? ⟨w.heap.size + 1, 2, none⟩ = some (.string res') := fun w1 hb => (hb.cell (by simp)).trans (cells_new' (w.alloc (.cells #[.string name, .slice A fs.length cap, .string res] 37)) #[.string name', .slice A' fs'.length cap', .string res'] 37 2 _ rfl (by simp))
    go_enter Tryd.func29, Tryd.ntmps29
    go_wp2_with fail
    refine (HVs _ (box2_below (Below.refl _ _))).out.mono ?_
    rintro e g1 ⟨rfl, q1⟩
    have hb1 := q1
    have x1 := box2_below hb1
    have c01 := c0 _ hb1
    have c11 := c1 _ hb1
    have c21 := c2 _ hb1
    have e01 := e0 _ hb1
    have e11 := e1 _ hb1
    have e21 := e2 _ hb1
    clear q1
    go_wp2_with fail
    refine (HVt _ x1).out.mono ?_
    rintro e g2 ⟨rfl, q2⟩
    have hb2 := hb1.trans (q2.mono hb1.size)
    have x2 := box2_below hb2
    have c02 := c0 _ hb2
    have c12 := c1 _ hb2
    have c22 := c2 _ hb2
    have e02 := e0 _ hb2
    have e12 := e1 _ hb2
    have e22 := e2 _ hb2
    clear q2
    go_wp2_with fail
    go_ret2
    exact ⟨hN.out, x2⟩
  · have hN := HNo rfl
    clear HNo HAt HL lens lent
    have c0 : ∀ w1, Below ((w.alloc (.cells #[.string name, .slice A fs.length cap, .string res] 37)).alloc (.cells #[.string name', .slice A' fs'.length cap', .string res'] 37)).heap.size ((w.alloc (.cells #[.string name, .slice A fs.length cap, .string res] 37)).alloc (.cells #[.string name', .slice A' fs'.length cap', .string res'] 37)) w1 → w1.cell? ⟨w.heap.size, 0, none⟩ = some (.string name) := fun w1 hb => (hb.cell (by simp; omega)).trans ((World.cell?_alloc_lt _ _ _ (show w.heap.size < (w.alloc (.cells #[.string name, .slice A fs.length cap, .string res] 37)).heap.size by simp)).trans (cells_new' w #[.string name, .slice A fs.length cap, .string res] 37 0 _ rfl rfl))
    have c1 : ∀ w1, Below ((w.alloc (.cells #[.string name, .slice A fs.length cap, .string res] 37)).alloc (.cells #[.string name', .slice A' fs'.length cap', .string res'] 37)).heap.size ((w.alloc (.cells #[.string name, .slice A fs.length cap, .string res] 37)).alloc (.cells #[.string name', .slice A' fs'.length cap', .string res'] 37)) w1 → w1.cell? ⟨w.heap.size, 1, none⟩ = some (.slice A fs.length cap) := fun w1 hb => (hb.cell (by simp; omega)).trans ((World.cell?_alloc_lt _ _ _ (show w.heap.size < (w.alloc (.cells #[.string name, .slice A fs.length cap, .string res] 37)).heap.size by simp)).trans (cells_new' w #[.string name, .slice A fs.length cap, .string res] 37 1 _ rfl rfl))
    have c2 : ∀ w1, Below ((w.alloc (.cells #[.string name, .slice A fs.length cap, .string res] 37)).alloc (.cells #[.string name', .slice A' fs'.length cap', .string res'] 37)).heap.size ((w.alloc (.cells #[.string name, .slice A fs.length cap, .string res] 37)).alloc (.cells #[.string name', .slice A' fs'.length cap', .string res'] 37)) w1 → w1.cell? ⟨w.heap.size, 2, none⟩ = some (.string res) := fun w1 hb => (hb.cell (by simp; omega)).trans ((World.cell?_alloc_lt _ _ _ (show w.heap.size < (w.alloc (.cells #[.string name, .slice A fs.length cap, .string res] 37)).heap.size by simp)).trans (cells_new' w #[.string name, .slice A fs.length cap, .string res] 37 2 _ rfl rfl))
    have e0 : ∀ w1, Below ((w.alloc (.cells #[.string name, .slice A fs.length cap, .string res] 37)).alloc (.cells #[.string name', .slice A' fs'.length cap', .string res'] 37)).heap.size ((w.alloc (.cells #[.string name, .slice A fs.length cap, .string res] 37)).alloc (.cells #[.string name', .slice A' fs'.length cap', .string res'] 37)) w1 → w1.cell? ⟨w.heap.size + 1, 0, none⟩ = some (.string name') := fun w1 hb => (hb.cell (by simp)).trans (cells_new' (w.alloc (.cells #[.string name, .slice A fs.length cap, .string res] 37)) #[.string name', .slice A' fs'.length cap', .string res'] 37 0 _ rfl (by simp))
    have e1 : ∀ w1, Below ((w.alloc (.cells #[.string name, .slice A fs.length cap, .string res] 37)).alloc (.cells #[.string name', .slice A' fs'.length cap', .string res'] 37)).heap.size ((w.alloc (.cells #[.string name, .slice A fs.length cap, .string res] 37)).alloc (.cells #[.string name', .slice A' fs'.length cap', .string res'] 37)) w1 → w1.cell? ⟨w.heap.size + 1, 1, none⟩ = some (.slice A' fs'.length cap') := fun w1 hb => (hb.cell (by simp)).trans (cells_new' (w.alloc (.cells #[.string name, .slice A fs.length cap, .string res] 37)) #[.string name', .slice A' fs'.length cap', .string res'] 37 1 _ rfl (by simp))
    have e2 : ∀ w1, Below ((w.alloc (.cells #[.string name, .slice A fs.length cap, .string res] 37)).alloc (.cells #[.string name', .slice A' fs'.length cap', .string res'] 37)).heap.size ((w.alloc (.cells #[.string name, .slice A fs.length cap, .string res] 37)).alloc (.cells #[.string name', .slice A' fs'.length cap', .string res'] 37)) w1 → w1.cell? ⟨w.heap.size + 1, 2, none⟩ = some (.string res') := fun w1 hb => (hb.cell (by simp)).trans (cells_new' (w.alloc (.cells #[.string name, .slice A fs.length cap, .string res] 37)) #[.string name', .slice A' fs'.length cap', .string res'] 37 2 _ rfl (by simp))
    go_enter Tryd.func29, Tryd.ntmps29
    go_wp2_with fail
    refine (HVs _ (box2_below (Below.refl _ _))).out.mono ?_
    rintro e g1 ⟨rfl, q1⟩
    have hb1 := q1
    have x1 := box2_below hb1
    have c01 := c0 _ hb1
    have c11 := c1 _ hb1
    have c21 := c2 _ hb1
    have e01 := e0 _ hb1
    have e11 := e1 _ hb1
    have e21 := e2 _ hb1
    clear q1
    go_wp2_with fail
    refine (HVt _ x1).out.mono ?_
    rintro e g2 ⟨rfl, q2⟩
    have hb2 := hb1.trans (q2.mono hb1.size)
    have x2 := box2_below hb2
    have c02 := c0 _ hb2
    have c12 := c1 _ hb2
    have c22 := c2 _ hb2
    have e02 := e0 _ hb2
    have e12 := e1 _ hb2
    have e22 := e2 _ hb2
    clear q2
    go_wp2_with fail
    go_ret2
    exact ⟨hN.out, x2⟩
  · have hN := HNo rfl
    clear HNo HAt HL lens lent
    have c0 : ∀ w1, Below ((w.alloc (.cells #[.string name, .slice A fs.length cap, .string res] 37)).alloc (.cells #[.string name', .slice A' fs'.length cap', .string res'] 37)).heap.size ((w.alloc (.cells #[.string name, .slice A fs.length cap, .string res] 37)).alloc (.cells #[.string name', .slice A' fs'.length cap', .string res'] 37)) w1 → w1.cell? ⟨w.heap.size, 0, none⟩ = some (.string name) := fun w1 hb => (hb.cell (by simp; omega)).trans ((World.cell?_alloc_lt _ _ _ (show w.heap.size < (w.alloc (.cells #[.string name, .slice A fs.length cap, .string res] 37)).heap.size by simp)).trans (cells_new' w #[.string name, .slice A fs.length cap, .string res] 37 0 _ rfl rfl))
    have c1 : ∀ w1, Below ((w.alloc (.cells #[.string name, .slice A fs.length cap, .string res] 37)).alloc (.cells #[.string name', .slice A' fs'.length cap', .string res'] 37)).heap.size ((w.alloc (.cells #[.string name, .slice A fs.length cap, .string res] 37)).alloc (.cells #[.string name', .slice A' fs'.length cap', .string res'] 37)) w1 → w1.cell? ⟨w.heap.size, 1, none⟩ = some (.slice A fs.length cap) := fun w1 hb => (hb.cell (by simp; omega)).trans ((World.cell?_alloc_lt _ _ _ (show w.heap.size < (w.alloc (.cells #[.string name, .slice A fs.length cap, .string res] 37)).heap.size by simp)).trans (cells_new' w #[.string name, .slice A fs.length cap, .string res] 37 1 _ rfl rfl))
    have c2 : ∀ w1, Below ((w.alloc (.cells #[.string name, .slice A fs.length cap, .string res] 37)).alloc (.cells #[.string name', .slice A' fs'.length cap', .string res'] 37)).heap.size ((w.alloc (.cells #[.string name, .slice A fs.length cap, .string res] 37)).alloc (.cells #[.string name', .slice A' fs'.length cap', .string res'] 37)) w1 → w1.cell? ⟨w.heap.size, 2, none⟩ = some (.string res) := fun w1 hb => (hb.cell (by simp; omega)).trans ((World.cell?_alloc_lt _ _ _ (show w.heap.size < (w.alloc (.cells #[.string name, .slice A fs.length cap, .string res] 37)).heap.size by simp)).trans (cells_new' w #[.string name, .slice A fs.length cap, .string res] 37 2 _ rfl rfl))
    have e0 : ∀ w1, Below ((w.alloc (.cells #[.string name, .slice A fs.length cap, .string res] 37)).alloc (.cells #[.string name', .slice A' fs'.length cap', .string res'] 37)).heap.size ((w.alloc (.cells #[.string name, .slice A fs.length cap, .string res] 37)).alloc (.cells #[.string name', .slice A' fs'.length cap', .string res'] 37)) w1 → w1.cell? ⟨w.heap.size + 1, 0, none⟩ = some (.string name') := fun w1 hb => (hb.cell (by simp)).trans (cells_new' (w.alloc (.cells #[.string name, .slice A fs.length cap, .string res] 37)) #[.string name', .slice A' fs'.length cap', .string res'] 37 0 _ rfl (by simp))
    have e1 : ∀ w1, Below ((w.alloc (.cells #[.string name, .slice A fs.length cap, .string res] 37)).alloc (.cells #[.string name', .slice A' fs'.length cap', .string res'] 37)).heap.size ((w.alloc (.cells #[.string name, .slice A fs.length cap, .string res] 37)).alloc (.cells #[.string name', .slice A' fs'.length cap', .string res'] 37)) w1 → w1.cell? ⟨w.heap.size + 1, 1, none⟩ = some (.slice A' fs'.length cap') := fun w1 hb => (hb.cell (by simp)).trans (cells_new' (w.alloc (.cells #[.string name, .slice A fs.length cap, .string res] 37)) #[.string name', .slice A' fs'.length cap', .string res'] 37 1 _ rfl (by simp))
    have e2 : ∀ w1, Below ((w.alloc (.cells #[.string name, .slice A fs.length cap, .string res] 37)).alloc (.cells #[.string name', .slice A' fs'.length cap', .string res'] 37)).heap.size ((w.alloc (.cells #[.string name, .slice A fs.length cap, .string res] 37)).alloc (.cells #[.string name', .slice A' fs'.length cap', .string res'] 37)) w1 → w1.cell? ⟨w.heap.size + 1, 2, none⟩ = some (.string res') := fun w1 hb => (hb.cell (by simp)).trans (cells_new' (w.alloc (.cells #[.string name, .slice A fs.length cap, .string res] 37)) #[.string name', .slice A' fs'.length cap', .string res'] 37 2 _ rfl (by simp))
    go_enter Tryd.func29, Tryd.ntmps29
    go_wp2_with fail
    refine (HVs _ (box2_below (Below.refl _ _))).out.mono ?_
    rintro e g1 ⟨rfl, q1⟩
    have hb1 := q1
    have x1 := box2_below hb1
    have c01 := c0 _ hb1
    have c11 := c1 _ hb1
    have c21 := c2 _ hb1
    have e01 := e0 _ hb1
    have e11 := e1 _ hb1
    have e21 := e2 _ hb1
    clear q1
    go_wp2_with fail
    refine (HVt _ x1).out.mono ?_
    rintro e g2 ⟨rfl, q2⟩
    have hb2 := hb1.trans (q2.mono hb1.size)
    have x2 := box2_below hb2
    have c02 := c0 _ hb2
    have c12 := c1 _ hb2
    have c22 := c2 _ hb2
    have e02 := e0 _ hb2
    have e12 := e1 _ hb2
    have e22 := e2 _ hb2
    clear q2
    go_wp2_with fail
    refine (HA _ x2).out.mono ?_
    rintro e g3 ⟨rfl, q3⟩
    have hb3 := hb2.trans (q3.mono hb2.size)
    have x3 := box2_below hb3
    have c03 := c0 _ hb3
    have c13 := c1 _ hb3
    have c23 := c2 _ hb3
    have e03 := e0 _ hb3
    have e13 := e1 _ hb3
    have e23 := e2 _ hb3
    clear q3
    go_wp2_with fail
    go_ret2
    exact ⟨hN.out, x3⟩
  · have l1 := lens trivial
    have l2 := lent trivial
    clear HNo lens lent
    have c0 : ∀ w1, Below ((w.alloc (.cells #[.string name, .slice A fs.length cap, .string res] 37)).alloc (.cells #[.string name', .slice A' fs'.length cap', .string res'] 37)).heap.size ((w.alloc (.cells #[.string name, .slice A fs.length cap, .string res] 37)).alloc (.cells #[.string name', .slice A' fs'.length cap', .string res'] 37)) w1 → w1.cell? ⟨w.heap.size, 0, none⟩ = some (.string name) := fun w1 hb => (hb.cell (by simp; omega)).trans ((World.cell?_alloc_lt _ _ _ (show w.heap.size < (w.alloc (.cells #[.string name, .slice A fs.length cap, .string res] 37)).heap.size by simp)).trans (cells_new' w #[.string name, .slice A fs.length cap, .string res] 37 0 _ rfl rfl))
    have c1 : ∀ w1, Below ((w.alloc (.cells #[.string name, .slice A fs.length cap, .string res] 37)).alloc (.cells #[.string name', .slice A' fs'.length cap', .string res'] 37)).heap.size ((w.alloc (.cells #[.string name, .slice A fs.length cap, .string res] 37)).alloc (.cells #[.string name', .slice A' fs'.length cap', .string res'] 37)) w1 → w1.cell? ⟨w.heap.size, 1, none⟩ = some (.slice A fs.length cap) := fun w1 hb => (hb.cell (by simp; omega)).trans ((World.cell?_alloc_lt _ _ _ (show w.heap.size < (w.alloc (.cells #[.string name, .slice A fs.length cap, .string res] 37)).heap.size by simp)).trans (cells_new' w #[.string name, .slice A fs.length cap, .string res] 37 1 _ rfl rfl))
    have c2 : ∀ w1, Below ((w.alloc (.cells #[.string name, .slice A fs.length cap, .string res] 37)).alloc (.cells #[.string name', .slice A' fs'.length cap', .string res'] 37)).heap.size ((w.alloc (.cells #[.string name, .slice A fs.length cap, .string res] 37)).alloc (.cells #[.string name', .slice A' fs'.length cap', .string res'] 37)) w1 → w1.cell? ⟨w.heap.size, 2, none⟩ = some (.string res) := fun w1 hb => (hb.cell (by simp; omega)).trans ((World.cell?_alloc_lt _ _ _ (show w.heap.size < (w.alloc (.cells #[.string name, .slice A fs.length cap, .string res] 37)).heap.size by simp)).trans (cells_new' w #[.string name, .slice A fs.length cap, .string res] 37 2 _ rfl rfl))
    have e0 : ∀ w1, Below ((w.alloc (.cells #[.string name, .slice A fs.length cap, .string res] 37)).alloc (.cells #[.string name', .slice A' fs'.length cap', .string res'] 37)).heap.size ((w.alloc (.cells #[.string name, .slice A fs.length cap, .string res] 37)).alloc (.cells #[.string name', .slice A' fs'.length cap', .string res'] 37)) w1 → w1.cell? ⟨w.heap.size + 1, 0, none⟩ = some (.string name') := fun w1 hb => (hb.cell (by simp)).trans (cells_new' (w.alloc (.cells #[.string name, .slice A fs.length cap, .string res] 37)) #[.string name', .slice A' fs'.length cap', .string res'] 37 0 _ rfl (by simp))
    have e1 : ∀ w1, Below ((w.alloc (.cells #[.string name, .slice A fs.length cap, .string res] 37)).alloc (.cells #[.string name', .slice A' fs'.length cap', .string res'] 37)).heap.size ((w.alloc (.cells #[.string name, .slice A fs.length cap, .string res] 37)).alloc (.cells #[.string name', .slice A' fs'.length cap', .string res'] 37)) w1 → w1.cell? ⟨w.heap.size + 1, 1, none⟩ = some (.slice A' fs'.length cap') := fun w1 hb => (hb.cell (by simp)).trans (cells_new' (w.alloc (.cells #[.string name, .slice A fs.length cap, .string res] 37)) #[.string name', .slice A' fs'.length cap', .string res'] 37 1 _ rfl (by simp))
    have e2 : ∀ w1, Below ((w.alloc (.cells #[.string name, .slice A fs.length cap, .string res] 37)).alloc (.cells #[.string name', .slice A' fs'.length cap', .string res'] 37)).heap.size ((w.alloc (.cells #[.string name, .slice A fs.length cap, .string res] 37)).alloc (.cells #[.string name', .slice A' fs'.length cap', .string res'] 37)) w1 → w1.cell? ⟨w.heap.size + 1, 2, none⟩ = some (.string res') := fun w1 hb => (hb.cell (by simp)).trans (cells_new' (w.alloc (.cells #[.string name, .slice A fs.length cap, .string res] 37)) #[.string name', .slice A' fs'.length cap', .string res'] 37 2 _ rfl (by simp))
    go_enter Tryd.func29, Tryd.ntmps29
    go_wp2_with fail
    refine (HVs _ (box2_below (Below.refl _ _))).out.mono ?_
    rintro e g1 ⟨rfl, q1⟩
    have hb1 := q1
    have x1 := box2_below hb1
    have c01 := c0 _ hb1
    have c11 := c1 _ hb1
    have c21 := c2 _ hb1
    have e01 := e0 _ hb1
    have e11 := e1 _ hb1
    have e21 := e2 _ hb1
    clear q1
    go_wp2_with fail
    refine (HVt _ x1).out.mono ?_
    rintro e g2 ⟨rfl, q2⟩
    have hb2 := hb1.trans (q2.mono hb1.size)
    have x2 := box2_below hb2
    have c02 := c0 _ hb2
    have c12 := c1 _ hb2
    have c22 := c2 _ hb2
    have e02 := e0 _ hb2
    have e12 := e1 _ hb2
    have e22 := e2 _ hb2
    clear q2
    go_wp2_with fail
    refine (HA _ x2).out.mono ?_
    rintro e g3 ⟨rfl, q3⟩
    have hb3 := hb2.trans (q3.mono hb2.size)
    have x3 := box2_below hb3
    have c03 := c0 _ hb3
    have c13 := c1 _ hb3
    have c23 := c2 _ hb3
    have e03 := e0 _ hb3
    have e13 := e1 _ hb3
    have e23 := e2 _ hb3
    clear q3
    go_wp2_with fail
    refine (HWs l1 _ x3).out.mono ?_
    rintro e g4 ⟨hW1, q4⟩
    have hb4 := hb3.trans (q4.mono hb3.size)
    have x4 := box2_below hb4
    have c04 := c0 _ hb4
    have c14 := c1 _ hb4
    have c24 := c2 _ hb4
    have e04 := e0 _ hb4
    have e14 := e1 _ hb4
    have e24 := e2 _ hb4
    clear q4
    rcases hW1 with ⟨h1, rfl⟩ | ⟨h1, v1, rfl, hI1⟩
    · have hN := HAt false rfl (by rw [h1]; rfl)
      clear h1 HAt HL
      go_wp2_with fail
      refine (HWt l2 _ x4).out.mono ?_
      rintro e g5 ⟨hW2, q5⟩
      have hb5 := hb4.trans (q5.mono hb4.size)
      have x5 := box2_below hb5
      have c05 := c0 _ hb5
      have c15 := c1 _ hb5
      have c25 := c2 _ hb5
      have e05 := e0 _ hb5
      have e15 := e1 _ hb5
      have e25 := e2 _ hb5
      rcases hW2 with ⟨h2, rfl⟩ | ⟨h2, v2, rfl, hI2⟩
      all_goals
        clear h2
        go_wp2_with fail
        go_ret2
        exact ⟨hN.out, x5⟩
    · have H1 := hide' h1
      have HI1 := hide' hI1
      clear h1 hI1
      go_wp2_with fail
      refine (HWt l2 _ x4).out.mono ?_
      rintro e g5 ⟨hW2, q5⟩
      have hb5 := hb4.trans (q5.mono hb4.size)
      have x5 := box2_below hb5
      have c05 := c0 _ hb5
      have c15 := c1 _ hb5
      have c25 := c2 _ hb5
      have e05 := e0 _ hb5
      have e15 := e1 _ hb5
      have e25 := e2 _ hb5
      rcases hW2 with ⟨h2, rfl⟩ | ⟨h2, v2, rfl, hI2⟩
      · have hN := HAt false rfl (by rw [H1.out, h2]; rfl)
        clear h2 HAt HL
        go_wp2_with fail
        go_ret2
        exact ⟨hN.out, x5⟩
      · have hN := fun q hq => HAt q rfl (show _ = q by rw [H1.out, h2]; exact hq)
        have HB := hide' (better_any _ _ v1 v2 g5 (HI1.out.on q5) hI2 (HL H1.out h2))
        obtain ⟨q, hq⟩ : ∃ q, betterL (wl φF fs ac) (wl φF fs' ac) = q := ⟨_, rfl⟩
        rw [hq] at HB
        have hN' := hN q hq
        clear hN hq h2 hI2 HAt HL H1 HI1
        go_wp2_with fail
        refine HB.out.mono ?_
        rintro e g6 ⟨rfl, q6⟩
        go_wp2_with fail
        go_ret2
        exact ⟨hN'.out, x5.trans (q6.mono x5.size)⟩

set_option maxHeartbeats 4000000 in
set_option maxRecDepth 100000 in
theorem rBetterT_any (s t : G) (ac : List F) (v v' u : Value) (w : World) (hT : Tab w) (hv : GV w v s) (hv' : GV w v' t) (hu : FSl w u ac) (hs : s.name.size ≤ 4611686018427387904) (ht : t.name.size ≤ 4611686018427387904) :
    Calls Tryd.prog 30 #[v, v', u] w fun e w' => BetterE φW s t ac e ∧ Below w.heap.size w w' := by
  obtain ⟨x, rfl, A, cap, rfl, hca, hma, hA⟩ := hv
  obtain ⟨x', rfl, A', cap', rfl, hca', hma', hA'⟩ := hv'
  have HNo := fun h => hide' (betterE_no (φ := φW) (s := s) (t := t) (ac := ac) h)
  have HAt := fun q h hq => hide' (betterE_at (φ := φW) (s := s) (t := t) (ac := ac) (q := q) h hq)
  have HVs := fun w1 (hb : Below w.heap.size w w1) => hide' (rValid9_any s (.agg #[.string s.name, .slice A s.fs.length cap, .string s.res]) w1 (hT.on hb) ⟨_, rfl, FSl.on ⟨A, cap, rfl, hca, hma, hA⟩ hb⟩ hs)
  have HVt := fun w1 (hb : Below w.heap.size w w1) => hide' (rValid9_any t (.agg #[.string t.name, .slice A' t.fs.length cap', .string t.res]) w1 (hT.on hb) ⟨_, rfl, FSl.on ⟨A', cap', rfl, hca', hma', hA'⟩ hb⟩ ht)
  have HA := fun w1 (hb : Below w.heap.size w w1) => hide' (rActuals_any ac u w1 (hu.on hb))
  have HWs := fun (h : s.fs.length ≤ 1000) w1 (hb : Below w.heap.size w w1) => hide' (rWays_any s ac (.agg #[.string s.name, .slice A s.fs.length cap, .string s.res]) u w1 ⟨_, rfl, FSl.on ⟨A, cap, rfl, hca, hma, hA⟩ hb⟩ (hu.on hb) h)
  have HWt := fun (h : t.fs.length ≤ 1000) w1 (hb : Below w.heap.size w w1) => hide' (rWays_any t ac (.agg #[.string t.name, .slice A' t.fs.length cap', .string t.res]) u w1 ⟨_, rfl, FSl.on ⟨A', cap', rfl, hca', hma', hA'⟩ hb⟩ (hu.on hb) h)
  have HL := fun h h' => wl_lens (φ := φW) (fs := s.fs) (fs' := t.fs) (ac := ac) h h'
  have hmax : maxLen = 9223372036854775807 := rfl
  rw [hmax] at hma hma'
  unfold betterOk at HNo HAt
  unfold betterV at HAt
  have lens := fun (h : validG s = true) => validG_len h
  have lent := fun (h : validG t = true) => validG_len h
  cases hgs : validG s <;> rw [hgs] at HNo HAt lens <;> simp only [hgs] at HVs
  all_goals cases hgt : validG t <;> rw [hgt] at HNo HAt lent <;> simp only [hgt] at HVt
  all_goals cases hac : ac.all (fun f => isActual f.k f.n) <;> rw [hac] at HNo HAt <;> simp only [hac] at HA
  all_goals clear hgs hgt hac hT hu hA hA' hmax
  all_goals obtain ⟨name, fs, res⟩ := s
  all_goals obtain ⟨name', fs', res'⟩ := t
  all_goals simp only at hca hma hca' hma' HVs HVt HWs HWt HL lens lent HNo HAt ⊢

  · have hN := HNo rfl
    clear HNo HAt HL lens lent
    have c0 : ∀ w1, Below ((w.alloc (.cells #[.string name, .slice A fs.length cap, .string res] 37)).alloc (.cells #[.string name', .slice A' fs'.length cap', .string res'] 37)).heap.size ((w.alloc (.cells #[.string name, .slice A fs.length cap, .string res] 37)).alloc (.cells #[.string name', .slice A' fs'.length cap', .string res'] 37)) w1 → w1.cell? ⟨w.heap.size, 0, none⟩ = some (.string name) := fun w1 hb => (hb.cell (by simp; omega)).trans ((World.cell?_alloc_lt _ _ _ (show w.heap.size < (w.alloc (.cells #[.string name, .slice A fs.length cap, .string res] 37)).heap.size by simp)).trans (cells_new' w #[.string name, .slice A fs.length cap, .string res] 37 0 _ rfl rfl))
    have c1 : ∀ w1, Below ((w.alloc (.cells #[.string name, .slice A fs.length cap, .string res] 37)).alloc (.cells #[.string name', .slice A' fs'.length cap', .string res'] 37)).heap.size ((w.alloc (.cells #[.string name, .slice A fs.length cap, .string res] 37)).alloc (.cells #[.string name', .slice A' fs'.length cap', .string res'] 37)) w1 → w1.cell? ⟨w.heap.size, 1, none⟩ = some (.slice A fs.length cap) := fun w1 hb => (hb.cell (by simp; omega)).trans ((World.cell?_alloc_lt _ _ _ (show w.heap.size < (w.alloc (.cells #[.string name, .slice A fs.length cap, .string res] 37)).heap.size by simp)).trans (cells_new' w #[.string name, .slice A fs.length cap, .string res] 37 1 _ rfl rfl))
    have c2 : ∀ w1, Below ((w.alloc (.cells #[.string name, .slice A fs.length cap, .string res] 37)).alloc (.cells #[.string name', .slice A' fs'.length cap', .string res'] 37)).heap.size ((w.alloc (.cells #[.string name, .slice A fs.length cap, .string res] 37)).alloc (.cells #[.string name', .slice A' fs'.length cap', .string res'] 37)) w1 → w1.cell? ⟨w.heap.size, 2, none⟩ = some (.string res) := fun w1 hb => (hb.cell (by simp; omega)).trans ((World.cell?_alloc_lt _ _ _ (show w.heap.size < (w.alloc (.cells #[.string name, .slice A fs.length cap, .string res] 37)).heap.size by simp)).trans (cells_new' w #[.string name, .slice A fs.length cap, .string res] 37 2 _ rfl rfl))
    have e0 : ∀ w1, Below ((w.alloc (.cells #[.string name, .slice A fs.length cap, .string res] 37)).alloc (.cells #[.string name', .slice A' fs'.length cap', .string res'] 37)).heap.size ((w.alloc (.cells #[.string name, .slice A fs.length cap, .string res] 37)).alloc (.cells #[.string name', .slice A' fs'.length cap', .string res'] 37)) w1 → w1.cell? ⟨w.heap.size + 1, 0, none⟩ = some (.string name') := fun w1 hb => (hb.cell (by simp)).trans (cells_new' (w.alloc (.cells #[.string name, .slice A fs.length cap, .string res] 37)) #[.string name', .slice A' fs'.length cap', .string res'] 37 0 _ rfl (by simp))
    have e1 : ∀ w1, Below ((w.alloc (.cells #[.string name, .slice A fs.length cap, .string res] 37)).alloc (.cells #[.string name', .slice A' fs'.length cap', .string res'] 37)).heap.size ((w.alloc (.cells #[.string name, .slice A fs.length cap, .string res] 37)).alloc (.cells #[.string name', .slice A' fs'.length cap', .string res'] 37)) w1 → w1.cell? ⟨w.heap.size + 1, 1, none⟩ = some (.slice A' fs'.length cap') := fun w1 hb => (hb.cell (by simp)).trans (cells_new' (w.alloc (.cells #[.string name, .slice A fs.length cap, .string res] 37)) #[.string name', .slice A' fs'.length cap', .string res'] 37 1 _ rfl (by simp))
    have e2 : ∀ w1, Below ((w.alloc (.cells #[.string name, .slice A fs.length cap, .string res] 37)).alloc (.cells #[.string name', .slice A' fs'.length cap', .string res'] 37)).heap.size ((w.alloc (.cells #[.string name, .slice A fs.length cap, .string res] 37)).alloc (.cells #[.string name', .slice A' fs'.length cap', .string res'] 37)) w1 → w1.cell? ⟨w.heap.size + 1, 2, none⟩ = some (.string res') := fun w1 hb => (hb.cell (by simp)).trans (cells_new' (w.alloc (.cells #[.string name, .slice A fs.length cap, .string res] 37)) #[.string name', .slice A' fs'.length cap', .string res'] 37 2 _ rfl (by simp))
    go_enter Tryd.func30, Tryd.ntmps30
    go_wp2_with fail
    refine (HVs _ (box2_below (Below.refl _ _))).out.mono ?_
    rintro e g1 ⟨rfl, q1⟩
    have hb1 := q1
    have x1 := box2_below hb1
    have c01 := c0 _ hb1
    have c11 := c1 _ hb1
    have c21 := c2 _ hb1
    have e01 := e0 _ hb1
    have e11 := e1 _ hb1
    have e21 := e2 _ hb1
    clear q1
    go_wp2_with fail
    go_ret2
    exact ⟨hN.out, x1⟩
  · have hN := HNo rfl
    clear HNo HAt HL lens lent
    have c0 : ∀ w1, Below ((w.alloc (.cells #[.string name, .slice A fs.length cap, .string res] 37)).alloc (.cells #[.string name', .slice A' fs'.length cap', .string res'] 37)).heap.size ((w.alloc (.cells #[.string name, .slice A fs.length cap, .string res] 37)).alloc (.cells #[.string name', .slice A' fs'.length cap', .string res'] 37)) w1 → w1.cell? ⟨w.heap.size, 0, none⟩ = some (.string name) := fun w1 hb => (hb.cell (by simp; omega)).trans ((World.cell?_alloc_lt _ _ _ (show w.heap.size < (w.alloc (.cells #[.string name, .slice A fs.length cap, .string res] 37)).heap.size by simp)).trans (cells_new' w #[.string name, .slice A fs.length cap, .string res] 37 0 _ rfl rfl))
    have c1 : ∀ w1, Below ((w.alloc (.cells #[.string name, .slice A fs.length cap, .string res] 37)).alloc (.cells #[.string name', .slice A' fs'.length cap', .string res'] 37)).heap.size ((w.alloc (.cells #[.string name, .slice A fs.length cap, .string res] 37)).alloc (.cells #[.string name', .slice A' fs'.length cap', .string res'] 37)) w1 → w1.cell? ⟨w.heap.size, 1, none⟩ = some (.slice A fs.length cap) := fun w1 hb => (hb.cell (by simp; omega)).trans ((World.cell?_alloc_lt _ _ _ (show w.heap.size < (w.alloc (.cells #[.string name, .slice A fs.length cap, .string res] 37)).heap.size by simp)).trans (cells_new' w #[.string name, .slice A fs.length cap, .string res] 37 1 _ rfl rfl))
    have c2 : ∀ w1, Below ((w.alloc (.cells #[.string name, .slice A fs.length cap, .string res] 37)).alloc (.cells #[.string name', .slice A' fs'.length cap', .string res'] 37)).heap.size ((w.alloc (.cells #[.string name, .slice A fs.length cap, .string res] 37)).alloc (.cells #[.string name', .slice A' fs'.length cap', .string res'] 37)) w1 → w1.cell? ⟨w.heap.size, 2, none⟩ = some (.string res) := fun w1 hb => (hb.cell (by simp; omega)).trans ((World.cell?_alloc_lt _ _ _ (show w.heap.size < (w.alloc (.cells #[.string name, .slice A fs.length cap, .string res] 37)).heap.size by simp)).trans (cells_new' w #[.string name, .slice A fs.length cap, .string res] 37 2 _ rfl rfl))
    have e0 : ∀ w1, Below ((w.alloc (.cells #[.string name, .slice A fs.length cap, .string res] 37)).alloc (.cells #[.string name', .slice A' fs'.length cap', .string res'] 37)).heap.size ((w.alloc (.cells #[.string name, .slice A fs.length cap, .string res] 37)).alloc (.cells #[.string name', .slice A' fs'.length cap', .string res'] 37)) w1 → w1.cell? ⟨w.heap.size + 1, 0, none⟩ = some (.string name') := fun w1 hb => (hb.cell (by simp)).trans (cells_new' (w.alloc (.cells #[.string name, .slice A fs.length cap, .string res] 37)) #[.string name', .slice A' fs'.length cap', .string res'] 37 0 _ rfl (by simp))
    have e1 : ∀ w1, Below ((w.alloc (.cells #[.string name, .slice A fs.length cap, .string res] 37)).alloc (.cells #[.string name', .slice A' fs'.length cap', .string res'] 37)).heap.size ((w.alloc (.cells #[.string name, .slice A fs.length cap, .string res] 37)).alloc (.cells #[.string name', .slice A' fs'.length cap', .string res'] 37)) w1 → w1.cell? ⟨w.heap.size + 1, 1, none⟩ = some (.slice A' fs'.length cap') := fun w1 hb => (hb.cell (by simp)).trans (cells_new' (w.alloc (.cells #[.string name, .slice A fs.length cap, .string res] 37)) #[.string name', .slice A' fs'.length cap', .string res'] 37 1 _ rfl (by simp))
    have e2 : ∀ w1, Below ((w.alloc (.cells #[.string name, .slice A fs.length cap, .string res] 37)).alloc (.cells #[.string name', .slice A' fs'.length cap', .string res'] 37)).heap.size ((w.alloc (.cells #[.string name, .slice A fs.length cap, .string res] 37)).alloc (.cells #[.string name', .slice A' fs'.length cap', .string res'] 37)) w1 → w1.cell? ⟨w.heap.size + 1, 2, none⟩ = some (.string res') := fun w1 hb => (hb.cell (by simp)).trans (cells_new' (w.alloc (.cells #[.string name, .slice A fs.length cap, .string res] 37)) #[.string name', .slice A' fs'.length cap', .string res'] 37 2 _ rfl (by simp))
    go_enter Tryd.func30, Tryd.ntmps30
    go_wp2_with fail
    refine (HVs _ (box2_below (Below.refl _ _))).out.mono ?_
    rintro e g1 ⟨rfl, q1⟩
    have hb1 := q1
    have x1 := box2_below hb1
    have c01 := c0 _ hb1
    have c11 := c1 _ hb1
    have c21 := c2 _ hb1
    have e01 := e0 _ hb1
    have e11 := e1 _ hb1
    have e21 := e2 _ hb1
    clear q1
    go_wp2_with fail
    go_ret2
    exact ⟨hN.out, x1⟩
  · have hN := HNo rfl
    clear HNo HAt HL lens lent
    have c0 : ∀ w1, Below ((w.alloc (.cells #[.string name, .slice A fs.length cap, .string res] 37)).alloc (.cells #[.string name', .slice A' fs'.length cap', .string res'] 37)).heap.size ((w.alloc (.cells #[.string name, .slice A fs.length cap, .string res] 37)).alloc (.cells #[.string name', .slice A' fs'.length cap', .string res'] 37)) w1 → w1.cell? ⟨w.heap.size, 0, none⟩ = some (.string name) := fun w1 hb => (hb.cell (by simp; omega)).trans ((World.cell?_alloc_lt _ _ _ (show w.heap.size < (w.alloc (.cells #[.string name, .slice A fs.length cap, .string res] 37)).heap.size by simp)).trans (cells_new' w #[.string name, .slice A fs.length cap, .string res] 37 0 _ rfl rfl))
    have c1 : ∀ w1, Below ((w.alloc (.cells #[.string name, .slice A fs.length cap, .string res] 37)).alloc (.cells #[.string name', .slice A' fs'.length cap', .string res'] 37)).heap.size ((w.alloc (.cells #[.string name, .slice A fs.length cap, .string res] 37)).alloc (.cells #[.string name', .slice A' fs'.length cap', .string res'] 37)) w1 → w1.cell? ⟨w.heap.size, 1, none⟩ = some (.slice A fs.length cap) := fun w1 hb => (hb.cell (by simp; omega)).trans ((World.cell?_alloc_lt _ _ _ (show w.heap.size < (w.alloc (.cells #[.string name, .slice A fs.length cap, .string res] 37)).heap.size by simp)).trans (cells_new' w #[.string name, .slice A fs.length cap, .string res] 37 1 _ rfl rfl))
    have c2 : ∀ w1, Below ((w.alloc (.cells #[.string name, .slice A fs.length cap, .string res] 37)).alloc (.cells #[.string name', .slice A' fs'.length cap', .string res'] 37)).heap.size ((w.alloc (.cells #[.string name, .slice A fs.length cap, .string res] 37)).alloc (.cells #[.string name', .slice A' fs'.length cap', .string res'] 37)) w1 → w1.cell? ⟨w.heap.size, 2, none⟩ = some (.string res) := fun w1 hb => (hb.cell (by simp; omega)).trans ((World.cell?_alloc_lt _ _ _ (show w.heap.size < (w.alloc (.cells #[.string name, .slice A fs.length cap, .string res] 37)).heap.size by simp)).trans (cells_new' w #[.string name, .slice A fs.length cap, .string res] 37 2 _ rfl rfl))
    have e0 : ∀ w1, Below ((w.alloc (.cells #[.string name, .slice A fs.length cap, .string res] 37)).alloc (.cells #[.string name', .slice A' fs'.length cap', .string res'] 37)).heap.size ((w.alloc (.cells #[.string name, .slice A fs.length cap, .string res] 37)).alloc (.cells #[.string name', .slice A' fs'.length cap', .string res'] 37)) w1 → w1.cell? ⟨w.heap.size + 1, 0, none⟩ = some (.string name') := fun w1 hb => (hb.cell (by simp)).trans (cells_new' (w.alloc (.cells #[.string name, .slice A fs.length cap, .string res] 37)) #[.string name', .slice A' fs'.length cap', .string res'] 37 0 _ rfl (by simp))
    have e1 : ∀ w1, Below ((w.alloc (.cells #[.string name, .slice A fs.length cap, .string res] 37)).alloc (.cells #[.string name', .slice A' fs'.length cap', .string res'] 37)).heap.size ((w.alloc (.cells #[.string name, .slice A fs.length cap, .string res] 37)).alloc (.cells #[.string name', .slice A' fs'.length cap', .string res'] 37)) w1 → w1.cell? ⟨w.heap.size + 1, 1, none⟩ = some (.slice A' fs'.length cap') := fun w1 hb => (hb.cell (by simp)).trans (cells_new' (w.alloc (.cells #[.string name, .slice A fs.length cap, .string res] 37)) #[.string name', .slice A' fs'.length cap', .string res'] 37 1 _ rfl (by simp))
    have e2 : ∀ w1, Below ((w.alloc (.cells #[.string name, .slice A fs.length cap, .string res] 37)).alloc (.cells #[.string name', .slice A' fs'.length cap', .string res'] 37)).heap.size ((w.alloc (.cells #[.string name, .slice A fs.length cap, .string res] 37)).alloc (.cells #[.string name', .slice A' fs'.length cap', .string res'] 37)) w1 → w1.cell? ⟨w.heap.size + 1, 2, none⟩ = some (.string res') := fun w1 hb => (hb.cell (by simp)).trans (cells_new' (w.alloc (.cells #[.string name, .slice A fs.length cap, .string res] 37)) #[.string name', .slice A' fs'.length cap', .string res'] 37 2 _ rfl (by simp))
    go_enter Tryd.func30, Tryd.ntmps30
    go_wp2_with fail
    refine (HVs _ (box2_below (Below.refl _ _))).out.mono ?_
    rintro e g1 ⟨rfl, q1⟩
    have hb1 := q1
    have x1 := box2_below hb1
    have c01 := c0 _ hb1
    have c11 := c1 _ hb1
    have c21 := c2 _ hb1
    have e01 := e0 _ hb1
    have e11 := e1 _ hb1
    have e21 := e2 _ hb1
    clear q1
    go_wp2_with fail
    go_ret2
    exact ⟨hN.out, x1⟩
  · have hN := HNo rfl
    clear HNo HAt HL lens lent
    have c0 : ∀ w1, Below ((w.alloc (.cells #[.string name, .slice A fs.length cap, .string res] 37)).alloc (.cells #[.string name', .slice A' fs'.length cap', .string res'] 37)).heap.size ((w.alloc (.cells #[.string name, .slice A fs.length cap, .string res] 37)).alloc (.cells #[.string name', .slice A' fs'.length cap', .string res'] 37)) w1 → w1.cell? ⟨w.heap.size, 0, none⟩ = some (.string name) := fun w1 hb => (hb.cell (by simp; omega)).trans ((World.cell?_alloc_lt _ _ _ (show w.heap.size < (w.alloc (.cells #[.string name, .slice A fs.length cap, .string res] 37)).heap.size by simp)).trans (cells_new' w #[.string name, .slice A fs.length cap, .string res] 37 0 _ rfl rfl))
    have c1 : ∀ w1, Below ((w.alloc (.cells #[.string name, .slice A fs.length cap, .string res] 37)).alloc (.cells #[.string name', .slice A' fs'.length cap', .string res'] 37)).heap.size ((w.alloc (.cells #[.string name, .slice A fs.length cap, .string res] 37)).alloc (.cells #[.string name', .slice A' fs'.length cap', .string res'] 37)) w1 → w1.cell? ⟨w.heap.size, 1, none⟩ = some (.slice A fs.length cap) := fun w1 hb => (hb.cell (by simp; omega)).trans ((World.cell?_alloc_lt _ _ _ (show w.heap.size < (w.alloc (.cells #[.string name, .slice A fs.length cap, .string res] 37)).heap.size by simp)).trans (cells_new' w #[.string name, .slice A fs.length cap, .string res] 37 1 _ rfl rfl))
    have c2 : ∀ w1, Below ((w.alloc (.cells #[.string name, .slice A fs.length cap, .string res] 37)).alloc (.cells #[.string name', .slice A' fs'.length cap', .string res'] 37)).heap.size ((w.alloc (.cells #[.string name, .slice A fs.length cap, .string res] 37)).alloc (.cells #[.string name', .slice A' fs'.length cap', .string res'] 37)) w1 → w1.cell? ⟨w.heap.size, 2, none⟩ = some (.string res) := fun w1 hb => (hb.cell (by simp; omega)).trans ((World.cell?_alloc_lt _ _ _ (show w.heap.size < (w.alloc (.cells #[.string name, .slice A fs.length cap, .string res] 37)).heap.size by simp)).trans (cells_new' w #[.string name, .slice A fs.length cap, .string res] 37 2 _ rfl rfl))
    have e0 : ∀ w1, Below ((w.alloc (.cells #[.string name, .slice A fs.length cap, .string res] 37)).alloc (.cells #[.string name', .slice A' fs'.length cap', .string res'] 37)).heap.size ((w.alloc (.cells #[.string name, .slice A fs.length cap, .string res] 37)).alloc (.cells #[.string name', .slice A' fs'.length cap', .string res'] 37)) w1 → w1.cell? ⟨w.heap.size + 1, 0, none⟩ = some (.string name') := fun w1 hb => (hb.cell (by simp)).trans (cells_new' (w.alloc (.cells #[.string name, .slice A fs.length cap, .string res] 37)) #[.string name', .slice A' fs'.length cap', .string res'] 37 0 _ rfl (by simp))
    have e1 : ∀ w1, Below ((w.alloc (.cells #[.string name, .slice A fs.length cap, .string res] 37)).alloc (.cells #[.string name', .slice A' fs'.length cap', .string res'] 37)).heap.size ((w.alloc (.cells #[.string name, .slice A fs.length cap, .string res] 37)).alloc (.cells #[.string name', .slice A' fs'.length cap', .string res'] 37)) w1 → w1.cell? ⟨w.heap.size + 1, 1, none⟩ = some (.slice A' fs'.length cap') := fun w1 hb => (hb.cell (by simp)).trans (cells_new' (w.alloc (.cells #[.string name, .slice A fs.length cap, .string res] 37)) #[.string name', .slice A' fs'.length cap', .string res'] 37 1 _ rfl (by simp))
    have e2 : ∀ w1, Below ((w.alloc (.cells #[.string name, .slice A fs.length cap, .string res] 37)).alloc (.cells #[.string name', .slice A' fs'.length cap', .string res'] 37)).heap.size ((w.alloc (.cells #[.string name, .slice A fs.length cap, .string res] 37)).alloc (.cells #[.string name', .slice A' fs'.length cap', .string res'] 37)) w1 → w1.cell? ⟨w.heap.size + 1, 2, none⟩ = some (.string res') := fun w1 hb => (hb.cell (by simp)).trans (cells_new' (w.alloc (.cells #[.string name, .slice A fs.length cap, .string res] 37)) #[.string name', .slice A' fs'.length cap', .string res'] 37 2 _ rfl (by simp))
    go_enter Tryd.func30, Tryd.ntmps30
    go_wp2_with fail
    refine (HVs _ (box2_below (Below.refl _ _))).out.mono ?_
    rintro e g1 ⟨rfl, q1⟩
    have hb1 := q1
    have x1 := box2_below hb1
    have c01 := c0 _ hb1
    have c11 := c1 _ hb1
    have c21 := c2 _ hb1
    have e01 := e0 _ hb1
    have e11 := e1 _ hb1
    have e21 := e2 _ hb1
    clear q1
    go_wp2_with fail
    go_ret2
    exact ⟨hN.out, x1⟩
  · have hN := HNo rfl
    clear HNo HAt HL lens lent
    have c0 : ∀ w1, Below ((w.alloc (.cells #[.string name, .slice A fs.length cap, .string res] 37)).alloc (.cells #[.string name', .slice A' fs'.length cap', .string res'] 37)).heap.size ((w.alloc (.cells #[.string name, .slice A fs.length cap, .string res] 37)).alloc (.cells #[.string name', .slice A' fs'.length cap', .string res'] 37)) w1 → w1.cell? ⟨w.heap.size, 0, none⟩ = some (.string name) := fun w1 hb => (hb.cell (by simp; omega)).trans ((World.cell?_alloc_lt _ _ _ (show w.heap.size < (w.alloc (.cells #[.string name, .slice A fs.length cap, .string res] 37)).heap.size by simp)).trans (cells_new' w #[.string name, .slice A fs.length cap, .string res] 37 0 _ rfl rfl))
    have c1 : ∀ w1, Below ((w.alloc (.cells #[.string name, .slice A fs.length cap, .string res] 37)).alloc (.cells #[.string name', .slice A' fs'.length cap', .string res'] 37)).heap.size ((w.alloc (.cells #[.string name, .slice A fs.length cap, .string res] 37)).alloc (.cells #[.string name', .slice A' fs'.length cap', .string res'] 37)) w1 → w1.cell? ⟨w.heap.size, 1, none⟩ = some (.slice A fs.length cap) := fun w1 hb => (hb.cell (by simp; omega)).trans ((World.cell?_alloc_lt _ _ _ (show w.heap.size < (w.alloc (.cells #[.string name, .slice A fs.length cap, .string res] 37)).heap.size by simp)).trans (cells_new' w #[.string name, .slice A fs.length cap, .string res] 37 1 _ rfl rfl))
    have c2 : ∀ w1, Below ((w.alloc (.cells #[.string name, .slice A fs.length cap, .string res] 37)).alloc (.cells #[.string name', .slice A' fs'.length cap', .string res'] 37)).heap.size ((w.alloc (.cells #[.string name, .slice A fs.length cap, .string res] 37)).alloc (.cells #[.string name', .slice A' fs'.length cap', .string res'] 37)) w1 → w1.cell? ⟨w.heap.size, 2, none⟩ = some (.string res) := fun w1 hb => (hb.cell (by simp; omega)).trans ((World.cell?_alloc_lt _ _ _ (show w.heap.size < (w.alloc (.cells #[.string name, .slice A fs.length cap, .string res] 37)).heap.size by simp)).trans (cells_new' w #[.string name, .slice A fs.length cap, .string res] 37 2 _ rfl rfl))
    have e0 : ∀ w1, Below ((w.alloc (.cells #[.string name, .slice A fs.length cap, .string res] 37)).alloc (.cells #[.string name', .slice A' fs'.length cap', .string res'] 37)).heap.size ((w.alloc (.cells #[.string name, .slice A fs.length cap, .string res] 37)).alloc (.cells #[.string name', .slice A' fs'.length cap', .string res'] 37)) w1 → w1.cell? ⟨w.heap.size + 1, 0, none⟩ = some (.string name') := fun w1 hb => (hb.cell (by simp)).trans (cells_new' (w.alloc (.cells #[.string name, .slice A fs.length cap, .string res] 37)) #[.string name', .slice A' fs'.length cap', .string res'] 37 0 _ rfl (by simp))
    have e1 : ∀ w1, Below ((w.alloc (.cells #[.string name, .slice A fs.length cap, .string res] 37)).alloc (.cells #[.string name', .slice A' fs'.length cap', .string res'] 37)).heap.size ((w.alloc (.cells #[.string name, .slice A fs.length cap, .string res] 37)).alloc (.cells #[.string name', .slice A' fs'.length cap', .string res'] 37)) w1 → w1.cell? ⟨w.heap.size + 1, 1, none⟩ = some (.slice A' fs'.length cap') := fun w1 hb => (hb.cell (by simp)).trans (cells_new' (w.alloc (.cells #[.string name, .slice A fs.length cap, .string res] 37)) #[.string name', .slice A' fs'.length cap', .string res'] 37 1 _ rfl (by simp))
    have e2 : ∀ w1, Below ((w.alloc (.cells #[.string name, .slice A fs.length cap, .string res] 37)).alloc (.cells #[.string name', .slice A' fs'.length cap', .string res'] 37)).heap.size ((w.alloc (.cells #[.string name, .slice A fs.length cap, .string res] 37)).alloc (.cells #[.string name', .slice A' fs'.length cap', .string res'] 37)) w1 → w1.cell? ⟨w.heap.size + 1, 2, none⟩ = some (.string res') := fun w1 hb => (hb.cell (by simp)).trans (cells_new' (w.alloc (.cells #[.string name, .slice A fs.length cap, .string res] 37)) #[.string name', .slice A' fs'.length cap', .string res'] 37 2 _ rfl (by simp))
    go_enter Tryd.func30, Tryd.ntmps30
    go_wp2_with fail
    refine (HVs _ (box2_below (Below.refl _ _))).out.mono ?_
    rintro e g1 ⟨rfl, q1⟩
    have hb1 := q1
    have x1 := box2_below hb1
    have c01 := c0 _ hb1
    have c11 := c1 _ hb1
    have c21 := c2 _ hb1
    have e01 := e0 _ hb1
    have e11 := e1 _ hb1
    have e21 := e2 _ hb1
    clear q1
    go_wp2_with fail
    refine (HVt _ x1).out.mono ?_
    rintro e g2 ⟨rfl, q2⟩
    have hb2 := hb1.trans (q2.mono hb1.size)
    have x2 := box2_below hb2
    have c02 := c0 _ hb2
    have c12 := c1 _ hb2
    have c22 := c2 _ hb2
    have e02 := e0 _ hb2
    have e12 := e1 _ hb2
    have e22 := e2 _ hb2
    clear q2
    go_wp2_with fail
    go_ret2
    exact ⟨hN.out, x2⟩
  · have hN := HNo rfl
    clear HNo HAt HL lens lent
    have c0 : ∀ w1, Below ((w.alloc (.cells #[.string name, .slice A fs.length cap, .string res] 37)).alloc (.cells #[.string name', .slice A' fs'.length cap', .string res'] 37)).heap.size ((w.alloc (.cells #[.string name, .slice A fs.length cap, .string res] 37)).alloc (.cells #[.string name', .slice A' fs'.length cap', .string res'] 37)) w1 → w1.cell? ⟨w.heap.size, 0, none⟩ = some (.string name) := fun w1 hb => (hb.cell (by simp; omega)).trans ((World.cell?_alloc_lt _ _ _ (show w.heap.size < (w.alloc (.cells #[.string name, .slice A fs.length cap, .string res] 37)).heap.size by simp)).trans (cells_new' w #[.string name, .slice A fs.length cap, .string res] 37 0 _ rfl rfl))
    have c1 : ∀ w1, Below ((w.alloc (.cells #[.string name, .slice A fs.length cap, .string res] 37)).alloc (.cells #[.string name', .slice A' fs'.length cap', .string res'] 37)).heap.size ((w.alloc (.cells #[.string name, .slice A fs.length cap, .string res] 37)).alloc (.cells #[.string name', .slice A' fs'.length cap', .string res'] 37)) w1 → w1.cell? ⟨w.heap.size, 1, none⟩ = some (.slice A fs.length cap) := fun w1 hb => (hb.cell (by simp; omega)).trans ((World.cell?_alloc_lt _ _ _ (show w.heap.size < (w.alloc (.cells #[.string name, .slice A fs.length cap, .string res] 37)).heap.size by simp)).trans (cells_new' w #[.string name, .slice A fs.length cap, .string res] 37 1 _ rfl rfl))
    have c2 : ∀ w1, Below ((w.alloc (.cells #[.string name, .slice A fs.length cap, .string res] 37)).alloc (.cells #[.string name', .slice A' fs'.length cap', .string res'] 37)).heap.size ((w.alloc (.cells #[.string name, .slice A fs.length cap, .string res] 37)).alloc (.cells #[.string name', .slice A' fs'.length cap', .string res'] 37)) w1 → w1.cell? ⟨w.heap.size, 2, none⟩ = some (.string res) := fun w1 hb => (hb.cell (by simp; omega)).trans ((World.cell?_alloc_lt _ _ _ (show w.heap.size < (w.alloc (.cells #[.string name, .slice A fs.length cap, .string res] 37)).heap.size by simp)).trans (cells_new' w #[.string name, .slice A fs.length cap, .string res] 37 2 _ rfl rfl))
    have e0 : ∀ w1, Below ((w.alloc (.cells #[.string name, .slice A fs.length cap, .string res] 37)).alloc (.cells #[.string name', .slice A' fs'.length cap', .string res'] 37)).heap.size ((w.alloc (.cells #[.string name, .slice A fs.length cap, .string res] 37)).alloc (.cells #[.string name', .slice A' fs'.length cap', .string res'] 37)) w1 → w1.cell? ⟨w.heap.size + 1, 0, none⟩ = some (.string name') := fun w1 hb => (hb.cell (by simp)).trans (cells_new' (w.alloc (.cells #[.string name, .slice A fs.length cap, .string res] 37)) #[.string name', .slice A' fs'.length cap', .string res'] 37 0 _ rfl (by simp))
    have e1 : ∀ w1, Below ((w.alloc (.cells #[.string name, .slice A fs.length cap, .string res] 37)).alloc (.cells #[.string name', .slice A' fs'.length cap', .string res'] 37)).heap.size ((w.alloc (.cells #[.string name, .slice A fs.length cap, .string res] 37)).alloc (.cells #[.string name', .slice A' fs'.length cap', .string res'] 37)) w1 → w1.cell? ⟨w.heap.size + 1, 1, none⟩ = some (.slice A' fs'.length cap') := fun w1 hb => (hb.cell (by simp)).trans (cells_new' (w.alloc (.cells #[.string name, .slice A fs.length cap, .string res] 37)) #[.string name', .slice A' fs'.length cap', .string res'] 37 1 _ rfl (by simp))
    have e2 : ∀ w1, Below ((w.alloc (.cells #[.string name, .slice A fs.length cap, .string res] 37)).alloc (.cells #[.string name', .slice A' fs'.length cap', .string res'] 37)).heap.size ((w.alloc (.cells #[.string name, .slice A fs.length cap, .string res] 37)).alloc (.cells #[.string name', .slice A' fs'.length cap', .string res'] 37)) w1 → w1.cell? ⟨w.heap.size + 1, 2, none⟩ = some (.string res') := fun w1 hb => (hb.cell (by simp)).trans (cells_new' (w.alloc (.cells #[.string name, .slice A fs.length cap, .string res] 37)) #[.string name', .slice A' fs'.length cap', .string res'] 37 2 _ rfl (by simp))
    go_enter Tryd.func30, Tryd.ntmps30
    go_wp2_with fail
    refine (HVs _ (box2_below (Below.refl _ _))).out.mono ?_
    rintro e g1 ⟨rfl, q1⟩
    have hb1 := q1
    have x1 := box2_below hb1
    have c01 := c0 _ hb1
    have c11 := c1 _ hb1
    have c21 := c2 _ hb1
    have e01 := e0 _ hb1
    have e11 := e1 _ hb1
    have e21 := e2 _ hb1
    clear q1
    go_wp2_with fail
    refine (HVt _ x1).out.mono ?_
    rintro e g2 ⟨rfl, q2⟩
    have hb2 := hb1.trans (q2.mono hb1.size)
    have x2 := box2_below hb2
    have c02 := c0 _ hb2
    have c12 := c1 _ hb2
    have c22 := c2 _ hb2
    have e02 := e0 _ hb2
    have e12 := e1 _ hb2
    have e22 := e2 _ hb2
    clear q2
    go_wp2_with fail
    go_ret2
    exact ⟨hN.out, x2⟩
  · have hN := HNo rfl
    clear HNo HAt HL lens lent
    have c0 : ∀ w1, Below ((w.alloc (.cells #[.string name, .slice A fs.length cap, .string res] 37)).alloc (.cells #[.string name', .slice A' fs'.length cap', .string res'] 37)).heap.size ((w.alloc (.cells #[.string name, .slice A fs.length cap, .string res] 37)).alloc (.cells #[.string name', .slice A' fs'.length cap', .string res'] 37)) w1 → w1.cell? ⟨w.heap.size, 0, none⟩ = some (.string name) := fun w1 hb => (hb.cell (by simp; omega)).trans ((World.cell?_alloc_lt _ _ _ (show w.heap.size < (w.alloc (.cells #[.string name, .slice A fs.length cap, .string res] 37)).heap.size by simp)).trans (cells_new' w #[.string name, .slice A fs.length cap, .string res] 37 0 _ rfl rfl))
    have c1 : ∀ w1, Below ((w.alloc (.cells #[.string name, .slice A fs.length cap, .string res] 37)).alloc (.cells #[.string name', .slice A' fs'.length cap', .string res'] 37)).heap.size ((w.alloc (.cells #[.string name, .slice A fs.length cap, .string res] 37)).alloc (.cells #[.string name', .slice A' fs'.length cap', .string res'] 37)) w1 → w1.cell? ⟨w.heap.size, 1, none⟩ = some (.slice A fs.length cap) := fun w1 hb => (hb.cell (by simp; omega)).trans ((World.cell?_alloc_lt _ _ _ (show w.heap.size < (w.alloc (.cells #[.string name, .slice A fs.length cap, .string res] 37)).heap.size by simp)).trans (cells_new' w #[.string name, .slice A fs.length cap, .string res] 37 1 _ rfl rfl))
    have c2 : ∀ w1, Below ((w.alloc (.cells #[.string name, .slice A fs.length cap, .string res] 37)).alloc (.cells #[.string name', .slice A' fs'.length cap', .string res'] 37)).heap.size ((w.alloc (.cells #[.string name, .slice A fs.length cap, .string res] 37)).alloc (.cells #[.string name', .slice A' fs'.length cap', .string res'] 37)) w1 → w1.cell? ⟨w.heap.size, 2, none⟩ = some (.string res) := fun w1 hb => (hb.cell (by simp; omega)).trans ((World.cell?_alloc_lt _ _ _ (show w.heap.size < (w.alloc (.cells #[.string name, .slice A fs.length cap, .string res] 37)).heap.size by simp)).trans (cells_new' w #[.string name, .slice A fs.length cap, .string res] 37 2 _ rfl rfl))
    have e0 : ∀ w1, Below ((w.alloc (.cells #[.string name, .slice A fs.length cap, .string res] 37)).alloc (.cells #[.string name', .slice A' fs'.length cap', .string res'] 37)).heap.size ((w.alloc (.cells #[.string name, .slice A fs.length cap, .string res] 37)).alloc (.cells #[.string name', .slice A' fs'.length cap', .string res'] 37)) w1 → w1.cell? ⟨w.heap.size + 1, 0, none⟩ = some (.string name') := fun w1 hb => (hb.cell (by simp)).trans (cells_new' (w.alloc (.cells #[.string name, .slice A fs.length cap, .string res] 37)) #[.string name', .slice A' fs'.length cap', .string res'] 37 0 _ rfl (by simp))
    have e1 : ∀ w1, Below ((w.alloc (.cells #[.string name, .slice A fs.length cap, .string res] 37)).alloc (.cells #[.string name', .slice A' fs'.length cap', .string res'] 37)).heap.size ((w.alloc (.cells #[.string name, .slice A fs.length cap, .string res] 37)).alloc (.cells #[.string name', .slice A' fs'.length cap', .string res'] 37)) w1 → w1.cell? ⟨w.heap.size + 1, 1, none⟩ = some (.slice A' fs'.length cap') := fun w1 hb => (hb.cell (by simp)).trans (cells_new' (w.alloc (.cells #[.string name, .slice A fs.length cap, .string res] 37)) #[.string name', .slice A' fs'.length cap', .string res'] 37 1 _ rfl (by simp))
    have e2 : ∀ w1, Below ((w.alloc (.cells #[.string name, .slice A fs.length cap, .string res] 37)).alloc (.cells #[.string name', .slice A' fs'.length cap', .string res'] 37)).heap.size ((w.alloc (.cells #[.string name, .slice A fs.length cap, .string res] 37)).alloc (.cells #[.string name', .slice A' fs'.length cap', .string res'] 37)) w1 → w1.cell? ⟨w.heap.size + 1, 2, none⟩ = some (.string res') := fun w1 hb => (hb.cell (by simp)).trans (cells_new' (w.alloc (.cells #[.string name, .slice A fs.length cap, .string res] 37)) #[.string name', .slice A' fs'.length cap', .string res'] 37 2 _ rfl (by simp))
    go_enter Tryd.func30, Tryd.ntmps30
    go_wp2_with fail
    refine (HVs _ (box2_below (Below.refl _ _))).out.mono ?_
    rintro e g1 ⟨rfl, q1⟩
    have hb1 := q1
    have x1 := box2_below hb1
    have c01 := c0 _ hb1
    have c11 := c1 _ hb1
    have c21 := c2 _ hb1
    have e01 := e0 _ hb1
    have e11 := e1 _ hb1
    have e21 := e2 _ hb1
    clear q1
    go_wp2_with fail
    refine (HVt _ x1).out.mono ?_
    rintro e g2 ⟨rfl, q2⟩
    have hb2 := hb1.trans (q2.mono hb1.size)
    have x2 := box2_below hb2
    have c02 := c0 _ hb2
    have c12 := c1 _ hb2
    have c22 := c2 _ hb2
    have e02 := e0 _ hb2
    have e12 := e1 _ hb2
    have e22 := e2 _ hb2
    clear q2
    go_wp2_with fail
    refine (HA _ x2).out.mono ?_
    rintro e g3 ⟨rfl, q3⟩
    have hb3 := hb2.trans (q3.mono hb2.size)
    have x3 := box2_below hb3
    have c03 := c0 _ hb3
    have c13 := c1 _ hb3
    have c23 := c2 _ hb3
    have e03 := e0 _ hb3
    have e13 := e1 _ hb3
    have e23 := e2 _ hb3
    clear q3
    go_wp2_with fail
    go_ret2
    exact ⟨hN.out, x3⟩
  · have l1 := lens trivial
    have l2 := lent trivial
    clear HNo lens lent
    have c0 : ∀ w1, Below ((w.alloc (.cells #[.string name, .slice A fs.length cap, .string res] 37)).alloc (.cells #[.string name', .slice A' fs'.length cap', .string res'] 37)).heap.size ((w.alloc (.cells #[.string name, .slice A fs.length cap, .string res] 37)).alloc (.cells #[.string name', .slice A' fs'.length cap', .string res'] 37)) w1 → w1.cell? ⟨w.heap.size, 0, none⟩ = some (.string name) := fun w1 hb => (hb.cell (by simp; omega)).trans ((World.cell?_alloc_lt _ _ _ (show w.heap.size < (w.alloc (.cells #[.string name, .slice A fs.length cap, .string res] 37)).heap.size by simp)).trans (cells_new' w #[.string name, .slice A fs.length cap, .string res] 37 0 _ rfl rfl))
    have c1 : ∀ w1, Below ((w.alloc (.cells #[.string name, .slice A fs.length cap, .string res] 37)).alloc (.cells #[.string name', .slice A' fs'.length cap', .string res'] 37)).heap.size ((w.alloc (.cells #[.string name, .slice A fs.length cap, .string res] 37)).alloc (.cells #[.string name', .slice A' fs'.length cap', .string res'] 37)) w1 → w1.cell? ⟨w.heap.size, 1, none⟩ = some (.slice A fs.length cap) := fun w1 hb => (hb.cell (by simp; omega)).trans ((World.cell?_alloc_lt _ _ _ (show w.heap.size < (w.alloc (.cells #[.string name, .slice A fs.length cap, .string res] 37)).heap.size by simp)).trans (cells_new' w #[.string name, .slice A fs.length cap, .string res] 37 1 _ rfl rfl))
    have c2 : ∀ w1, Below ((w.alloc (.cells #[.string name, .slice A fs.length cap, .string res] 37)).alloc (.cells #[.string name', .slice A' fs'.length cap', .string res'] 37)).heap.size ((w.alloc (.cells #[.string name, .slice A fs.length cap, .string res] 37)).alloc (.cells #[.string name', .slice A' fs'.length cap', .string res'] 37)) w1 → w1.cell? ⟨w.heap.size, 2, none⟩ = some (.string res) := fun w1 hb => (hb.cell (by simp; omega)).trans ((World.cell?_alloc_lt _ _ _ (show w.heap.size < (w.alloc (.cells #[.string name, .slice A fs.length cap, .string res] 37)).heap.size by simp)).trans (cells_new' w #[.string name, .slice A fs.length cap, .string res] 37 2 _ rfl rfl))
    have e0 : ∀ w1, Below ((w.alloc (.cells #[.string name, .slice A fs.length cap, .string res] 37)).alloc (.cells #[.string name', .slice A' fs'.length cap', .string res'] 37)).heap.size ((w.alloc (.cells #[.string name, .slice A fs.length cap, .string res] 37)).alloc (.cells #[.string name', .slice A' fs'.length cap', .string res'] 37)) w1 → w1.cell? ⟨w.heap.size + 1, 0, none⟩ = some (.string name') := fun w1 hb => (hb.cell (by simp)).trans (cells_new' (w.alloc (.cells #[.string name, .slice A fs.length cap, .string res] 37)) #[.string name', .slice A' fs'.length cap', .string res'] 37 0 _ rfl (by simp))
    have e1 : ∀ w1, Below ((w.alloc (.cells #[.string name, .slice A fs.length cap, .string res] 37)).alloc (.cells #[.string name', .slice A' fs'.length cap', .string res'] 37)).heap.size ((w.alloc (.cells #[.string name, .slice A fs.length cap, .string res] 37)).alloc (.cells #[.string name', .slice A' fs'.length cap', .string res'] 37)) w1 → w1.cell? ⟨w.heap.size + 1, 1, none⟩ = some (.slice A' fs'.length cap') := fun w1 hb => (hb.cell (by simp)).trans (cells_new' (w.alloc (.cells #[.string name, .slice A fs.length cap, .string res] 37)) #[.string name', .slice A' fs'.length cap', .string res'] 37 1 _ rfl (by simp))
    have e2 : ∀ w1, Below ((w.alloc (.cells #[.string name, .slice A fs.length cap, .string res] 37)).alloc (.cells #[.string name', .slice A' fs'.length cap', .string res'] 37)).heap.size ((w.alloc (.cells #[.string name, .slice A fs.length cap, .string res] 37)).alloc (.cells #[.string name', .slice A' fs'.length cap', .string res'] 37)) w1 → w1.cell? ⟨w.heap.size + 1, 2, none⟩ = some (.string res') := fun w1 hb => (hb.cell (by simp)).trans (cells_new' (w.alloc (.cells #[.string name, .slice A fs.length cap, .string res] 37)) #[.string name', .slice A' fs'.length cap', .string res'] 37 2 _ rfl (by simp))
    go_enter Tryd.func30, Tryd.ntmps30
    go_wp2_with fail
    refine (HVs _ (box2_below (Below.refl _ _))).out.mono ?_
    rintro e g1 ⟨rfl, q1⟩
    have hb1 := q1
    have x1 := box2_below hb1
    have c01 := c0 _ hb1
    have c11 := c1 _ hb1
    have c21 := c2 _ hb1
    have e01 := e0 _ hb1
    have e11 := e1 _ hb1
    have e21 := e2 _ hb1
    clear q1
    go_wp2_with fail
    refine (HVt _ x1).out.mono ?_
    rintro e g2 ⟨rfl, q2⟩
    have hb2 := hb1.trans (q2.mono hb1.size)
    have x2 := box2_below hb2
    have c02 := c0 _ hb2
    have c12 := c1 _ hb2
    have c22 := c2 _ hb2
    have e02 := e0 _ hb2
    have e12 := e1 _ hb2
    have e22 := e2 _ hb2
    clear q2
    go_wp2_with fail
    refine (HA _ x2).out.mono ?_
    rintro e g3 ⟨rfl, q3⟩
    have hb3 := hb2.trans (q3.mono hb2.size)
    have x3 := box2_below hb3
    have c03 := c0 _ hb3
    have c13 := c1 _ hb3
    have c23 := c2 _ hb3
    have e03 := e0 _ hb3
    have e13 := e1 _ hb3
    have e23 := e2 _ hb3
    clear q3
    go_wp2_with fail
    refine (HWs l1 _ x3).out.mono ?_
    rintro e g4 ⟨hW1, q4⟩
    have hb4 := hb3.trans (q4.mono hb3.size)
    have x4 := box2_below hb4
    have c04 := c0 _ hb4
    have c14 := c1 _ hb4
    have c24 := c2 _ hb4
    have e04 := e0 _ hb4
    have e14 := e1 _ hb4
    have e24 := e2 _ hb4
    clear q4
    rcases hW1 with ⟨h1, rfl⟩ | ⟨h1, v1, rfl, hI1⟩
    · have hN := HAt false rfl (by rw [h1]; rfl)
      clear h1 HAt HL
      go_wp2_with fail
      refine (HWt l2 _ x4).out.mono ?_
      rintro e g5 ⟨hW2, q5⟩
      have hb5 := hb4.trans (q5.mono hb4.size)
      have x5 := box2_below hb5
      have c05 := c0 _ hb5
      have c15 := c1 _ hb5
      have c25 := c2 _ hb5
      have e05 := e0 _ hb5
      have e15 := e1 _ hb5
      have e25 := e2 _ hb5
      rcases hW2 with ⟨h2, rfl⟩ | ⟨h2, v2, rfl, hI2⟩
      all_goals
        clear h2
        go_wp2_with fail
        go_ret2
        exact ⟨hN.out, x5⟩
    · have H1 := hide' h1
      have HI1 := hide' hI1
      clear h1 hI1
      go_wp2_with fail
      refine (HWt l2 _ x4).out.mono ?_
      rintro e g5 ⟨hW2, q5⟩
      have hb5 := hb4.trans (q5.mono hb4.size)
      have x5 := box2_below hb5
      have c05 := c0 _ hb5
      have c15 := c1 _ hb5
      have c25 := c2 _ hb5
      have e05 := e0 _ hb5
      have e15 := e1 _ hb5
      have e25 := e2 _ hb5
      rcases hW2 with ⟨h2, rfl⟩ | ⟨h2, v2, rfl, hI2⟩
      · have hN := HAt false rfl (by rw [H1.out, h2]; rfl)
        clear h2 HAt HL
        go_wp2_with fail
        go_ret2
        exact ⟨hN.out, x5⟩
      · have hN := fun q hq => HAt q rfl (show _ = q by rw [H1.out, h2]; exact hq)
        have HB := hide' (rBetter_any _ _ v1 v2 g5 (HI1.out.on q5) hI2 (HL H1.out h2))
        obtain ⟨q, hq⟩ : ∃ q, betterL (wl φW fs ac) (wl φW fs' ac) = q := ⟨_, rfl⟩
        rw [hq] at HB
        have hN' := hN q hq
        clear hN hq h2 hI2 HAt HL H1 HI1
        go_wp2_with fail
        refine HB.out.mono ?_
        rintro e g6 ⟨rfl, q6⟩
        go_wp2_with fail
        go_ret2
        exact ⟨hN'.out, x5.trans (q6.mono x5.size)⟩

end Go.Proofs.YtdmdfokkibijjaaDoor
