/-
  The walks of Ways of layer 9, of the program and of the document's answer; the plain law that the ways of both are the same.
-/
import Derived.Test.YtdmdfokkibijjaaDoorSW10
import Derived.Test.YtdmdfokkibijjaaDoorSW13
namespace Go.Proofs.YtdmdfokkibijjaaDoor
open Go.RowKit
open Sgn
set_option linter.unusedVariables false
set_option linter.unusedSimpArgs false

theorem wl_same : ∀ (fs ac : List F), (∀ f ∈ fs, isFormal f.k f.n = true) → (∀ a ∈ ac, isActual a.k a.n = true) → wl φF fs ac = wl φW fs ac
  | [], _, _, _ => by simp [wl]
  | _ :: _, [], _, _ => by simp [wl]
  | f :: fs, a :: ac, hf, ha => by
    have h1 := fits_way f a (hf f (by simp)) (ha a (by simp))
    have h2 := wl_same fs ac (fun x hx => hf x (by simp [hx])) (fun x hx => ha x (by simp [hx]))
    unfold wl at h2 ⊢
    rw [List.zipWith_cons_cons, List.zipWith_cons_cons, h1, h2]
theorem waysOk_same (fs ac : List F) (hf : ∀ f ∈ fs, isFormal f.k f.n = true) (ha : ∀ a ∈ ac, isActual a.k a.n = true) : waysOk φF fs ac = waysOk φW fs ac := by
  unfold waysOk; rw [wl_same fs ac hf ha]
theorem validG_formals {g : G} (h : validG g = true) : ∀ f ∈ g.fs, isFormal f.k f.n = true := by
  unfold validG at h
  rw [Bool.and_eq_true, List.all_eq_true] at h
  exact h.1
theorem validG_len {g : G} (h : validG g = true) : g.fs.length ≤ 1000 := by
  unfold validG at h
  simp only [Bool.and_eq_true, decide_eq_true_eq] at h
  omega

/-- what Ways hands back -/
def WaysE (φ : F → F → Int) (g : G) (ac : List F) (w' : World) (e : Ending) : Prop :=
  ((validG g && ac.all fun f => isActual f.k f.n) = false ∧ e = .returned (.tuple #[.slice none 0 0, .bool false, .int .i64 2])) ∨
  ((validG g && ac.all fun f => isActual f.k f.n) = true ∧ waysOk φ g.fs ac = false ∧ e = .returned (.tuple #[.slice none 0 0, .bool false, .int .i64 0])) ∨
  ((validG g && ac.all fun f => isActual f.k f.n) = true ∧ waysOk φ g.fs ac = true ∧ ∃ v, e = .returned (.tuple #[v, .bool true, .int .i64 0]) ∧ ISl w' v (wl φ g.fs ac))

set_option maxHeartbeats 4000000 in
set_option maxRecDepth 100000 in
theorem Ways_any (g : G) (ac : List F) (v u : Value) (w : World) (hT : Tab w) (hv : GV w v g) (hu : FSl w u ac) (hs : g.name.size ≤ 4611686018427387904) :
    Calls Tryd.prog 19 #[v, u] w fun e w' => WaysE φF g ac w' e ∧ Below w.heap.size w w' := by
  obtain ⟨x, rfl, A, cap, rfl, hca, hma, hA⟩ := hv
  obtain ⟨name, fs, res⟩ := g
  simp only at hca hma hA hs ⊢
  have HF : Hid (FSl w (.slice A fs.length cap) fs) := ⟨A, cap, rfl, hca, hma, hA⟩
  have HU := hide' hu
  have HT := hide' hT
  have hmax : maxLen = 9223372036854775807 := rfl
  rw [hmax] at hma
  have HV := fun w1 (hb : Below w.heap.size w w1) => hide' (Valid_any ⟨name, fs, res⟩ (.agg #[.string name, .slice A fs.length cap, .string res]) w1 (HT.out.on hb) ⟨_, rfl, HF.out.on hb⟩ hs)
  have HA := fun w1 (hb : Below w.heap.size w w1) => hide' (areActuals_any ac u w1 (HU.out.on hb))
  have HW := fun w1 (hb : Below w.heap.size w w1) (h : fs.length ≤ 1000) => hide' (waysOf_any ⟨name, fs, res⟩ ac (.agg #[.string name, .slice A fs.length cap, .string res]) u w1 ⟨_, rfl, HF.out.on hb⟩ (HU.out.on hb) h)
  have c0 : ∀ w1, Below (w.alloc (.cells #[.string name, .slice A fs.length cap, .string res] 37)).heap.size (w.alloc (.cells #[.string name, .slice A fs.length cap, .string res] 37)) w1 → w1.cell? ⟨w.heap.size, 0, none⟩ = some (.string name) := fun w1 hb => (hb.cell (by simp)).trans (cells_new' w #[.string name, .slice A fs.length cap, .string res] 37 0 _ rfl rfl)
  have c1 : ∀ w1, Below (w.alloc (.cells #[.string name, .slice A fs.length cap, .string res] 37)).heap.size (w.alloc (.cells #[.string name, .slice A fs.length cap, .string res] 37)) w1 → w1.cell? ⟨w.heap.size, 1, none⟩ = some (.slice A fs.length cap) := fun w1 hb => (hb.cell (by simp)).trans (cells_new' w #[.string name, .slice A fs.length cap, .string res] 37 1 _ rfl rfl)
  have c2 : ∀ w1, Below (w.alloc (.cells #[.string name, .slice A fs.length cap, .string res] 37)).heap.size (w.alloc (.cells #[.string name, .slice A fs.length cap, .string res] 37)) w1 → w1.cell? ⟨w.heap.size, 2, none⟩ = some (.string res) := fun w1 hb => (hb.cell (by simp)).trans (cells_new' w #[.string name, .slice A fs.length cap, .string res] 37 2 _ rfl rfl)
  clear hA hmax hT hu
  cases hg : validG ⟨name, fs, res⟩ <;> simp only [hg] at HV
  · have hok := hide' (show (validG ⟨name, fs, res⟩ && ac.all fun f => isActual f.k f.n) = false by rw [hg, Bool.false_and])
    clear hg HA HW
    go_enter Tryd.func19, Tryd.ntmps19
    have p0 := c0 _ (Below.refl _ _)
    go_wp2_with fail
    refine (HV _ (box_below (Below.refl _ _))).out.mono ?_
    rintro e w1 ⟨rfl, hb1⟩
    have hb2 := box_below hb1
    clear hb1
    go_wp2_with fail
    go_ret3
    exact ⟨.inl ⟨hok.out, rfl⟩, hb2⟩
  · have hlen := validG_len hg
    simp only at hlen
    cases ha : ac.all (fun f => isActual f.k f.n) <;> simp only [ha] at HA
    · have hok := hide' (show (validG ⟨name, fs, res⟩ && ac.all fun f => isActual f.k f.n) = false by rw [ha, Bool.and_false])
      clear hg ha HW
      go_enter Tryd.func19, Tryd.ntmps19
      go_wp2_with fail
      refine (HV _ (box_below (Below.refl _ _))).out.mono ?_
      rintro e w1 ⟨rfl, hb1⟩
      have hb2 := box_below hb1
      clear hb1
      go_wp2_with fail
      refine (HA _ hb2).out.mono ?_
      rintro e w3 ⟨rfl, hb3⟩
      go_wp2_with fail
      go_ret3
      exact ⟨.inl ⟨hok.out, rfl⟩, hb2.trans (hb3.mono hb2.size)⟩
    · have hok := hide' (show (validG ⟨name, fs, res⟩ && ac.all fun f => isActual f.k f.n) = true by rw [hg, ha]; rfl)
      clear hg ha
      go_enter Tryd.func19, Tryd.ntmps19
      go_wp2_with fail
      refine (HV _ (box_below (Below.refl _ _))).out.mono ?_
      rintro e w1 ⟨rfl, hb1⟩
      have hb2 := box_below hb1
      go_wp2_with fail
      refine (HA _ hb2).out.mono ?_
      rintro e w3 ⟨rfl, hb3⟩
      have hb4 := hb1.trans (hb3.mono hb1.size)
      have p0 := c0 _ hb4
      have p1 := c1 _ hb4
      have p2 := c2 _ hb4
      have hb5 := box_below hb4
      clear hb1 hb2 hb3 hb4
      go_wp2_with fail
      refine (HW _ hb5 hlen).out.mono ?_
      rintro e w6 ⟨hWE, hb6⟩
      have hb7 := hb5.trans (hb6.mono hb5.size)
      clear hb5 hb6 HV HA HW
      rcases hWE with ⟨hwok, rfl⟩ | ⟨hwok, v', rfl, hI⟩
      · have h1 := hide' hwok
        clear hwok
        go_wp2_with fail
        go_ret3
        exact ⟨.inr (.inl ⟨hok.out, h1.out, rfl⟩), hb7⟩
      · have h1 := hide' hwok
        have h2 := hide' hI
        clear hwok hI
        go_wp2_with fail
        go_ret3
        exact ⟨.inr (.inr ⟨hok.out, h1.out, v', rfl, h2.out⟩), hb7⟩

set_option maxHeartbeats 4000000 in
set_option maxRecDepth 100000 in
theorem rWaysT_any (g : G) (ac : List F) (v u : Value) (w : World) (hT : Tab w) (hv : GV w v g) (hu : FSl w u ac) (hs : g.name.size ≤ 4611686018427387904) :
    Calls Tryd.prog 20 #[v, u] w fun e w' => WaysE φW g ac w' e ∧ Below w.heap.size w w' := by
  obtain ⟨x, rfl, A, cap, rfl, hca, hma, hA⟩ := hv
  obtain ⟨name, fs, res⟩ := g
  simp only at hca hma hA hs ⊢
  have HF : Hid (FSl w (.slice A fs.length cap) fs) := ⟨A, cap, rfl, hca, hma, hA⟩
  have HU := hide' hu
  have HT := hide' hT
  have hmax : maxLen = 9223372036854775807 := rfl
  rw [hmax] at hma
  have HV := fun w1 (hb : Below w.heap.size w w1) => hide' (rValid9_any ⟨name, fs, res⟩ (.agg #[.string name, .slice A fs.length cap, .string res]) w1 (HT.out.on hb) ⟨_, rfl, HF.out.on hb⟩ hs)
  have HA := fun w1 (hb : Below w.heap.size w w1) => hide' (rActuals_any ac u w1 (HU.out.on hb))
  have HW := fun w1 (hb : Below w.heap.size w w1) (h : fs.length ≤ 1000) => hide' (rWays_any ⟨name, fs, res⟩ ac (.agg #[.string name, .slice A fs.length cap, .string res]) u w1 ⟨_, rfl, HF.out.on hb⟩ (HU.out.on hb) h)
  have c0 : ∀ w1, Below (w.alloc (.cells #[.string name, .slice A fs.length cap, .string res] 37)).heap.size (w.alloc (.cells #[.string name, .slice A fs.length cap, .string res] 37)) w1 → w1.cell? ⟨w.heap.size, 0, none⟩ = some (.string name) := fun w1 hb => (hb.cell (by simp)).trans (cells_new' w #[.string name, .slice A fs.length cap, .string res] 37 0 _ rfl rfl)
  have c1 : ∀ w1, Below (w.alloc (.cells #[.string name, .slice A fs.length cap, .string res] 37)).heap.size (w.alloc (.cells #[.string name, .slice A fs.length cap, .string res] 37)) w1 → w1.cell? ⟨w.heap.size, 1, none⟩ = some (.slice A fs.length cap) := fun w1 hb => (hb.cell (by simp)).trans (cells_new' w #[.string name, .slice A fs.length cap, .string res] 37 1 _ rfl rfl)
  have c2 : ∀ w1, Below (w.alloc (.cells #[.string name, .slice A fs.length cap, .string res] 37)).heap.size (w.alloc (.cells #[.string name, .slice A fs.length cap, .string res] 37)) w1 → w1.cell? ⟨w.heap.size, 2, none⟩ = some (.string res) := fun w1 hb => (hb.cell (by simp)).trans (cells_new' w #[.string name, .slice A fs.length cap, .string res] 37 2 _ rfl rfl)
  clear hA hmax hT hu
  cases hg : validG ⟨name, fs, res⟩ <;> simp only [hg] at HV
  · have hok := hide' (show (validG ⟨name, fs, res⟩ && ac.all fun f => isActual f.k f.n) = false by rw [hg, Bool.false_and])
    clear hg HA HW
    go_enter Tryd.func20, Tryd.ntmps20
    have p0 := c0 _ (Below.refl _ _)
    go_wp2_with fail
    refine (HV _ (box_below (Below.refl _ _))).out.mono ?_
    rintro e w1 ⟨rfl, hb1⟩
    have hb2 := box_below hb1
    clear hb1
    go_wp2_with fail
    go_ret3
    exact ⟨.inl ⟨hok.out, rfl⟩, hb2⟩
  · have hlen := validG_len hg
    simp only at hlen
    cases ha : ac.all (fun f => isActual f.k f.n) <;> simp only [ha] at HA
    · have hok := hide' (show (validG ⟨name, fs, res⟩ && ac.all fun f => isActual f.k f.n) = false by rw [ha, Bool.and_false])
      clear hg ha HW
      go_enter Tryd.func20, Tryd.ntmps20
      go_wp2_with fail
      refine (HV _ (box_below (Below.refl _ _))).out.mono ?_
      rintro e w1 ⟨rfl, hb1⟩
      have hb2 := box_below hb1
      clear hb1
      go_wp2_with fail
      refine (HA _ hb2).out.mono ?_
      rintro e w3 ⟨rfl, hb3⟩
      go_wp2_with fail
      go_ret3
      exact ⟨.inl ⟨hok.out, rfl⟩, hb2.trans (hb3.mono hb2.size)⟩
    · have hok := hide' (show (validG ⟨name, fs, res⟩ && ac.all fun f => isActual f.k f.n) = true by rw [hg, ha]; rfl)
      clear hg ha
      go_enter Tryd.func20, Tryd.ntmps20
      go_wp2_with fail
      refine (HV _ (box_below (Below.refl _ _))).out.mono ?_
      rintro e w1 ⟨rfl, hb1⟩
      have hb2 := box_below hb1
      go_wp2_with fail
      refine (HA _ hb2).out.mono ?_
      rintro e w3 ⟨rfl, hb3⟩
      have hb4 := hb1.trans (hb3.mono hb1.size)
      have p0 := c0 _ hb4
      have p1 := c1 _ hb4
      have p2 := c2 _ hb4
      have hb5 := box_below hb4
      clear hb1 hb2 hb3 hb4
      go_wp2_with fail
      refine (HW _ hb5 hlen).out.mono ?_
      rintro e w6 ⟨hWE, hb6⟩
      have hb7 := hb5.trans (hb6.mono hb5.size)
      clear hb5 hb6 HV HA HW
      rcases hWE with ⟨hwok, rfl⟩ | ⟨hwok, v', rfl, hI⟩
      · have h1 := hide' hwok
        clear hwok
        go_wp2_with fail
        go_ret3
        exact ⟨.inr (.inl ⟨hok.out, h1.out, rfl⟩), hb7⟩
      · have h1 := hide' hwok
        have h2 := hide' hI
        clear hwok hI
        go_wp2_with fail
        go_ret3
        exact ⟨.inr (.inr ⟨hok.out, h1.out, v', rfl, h2.out⟩), hb7⟩

end Go.Proofs.YtdmdfokkibijjaaDoor
