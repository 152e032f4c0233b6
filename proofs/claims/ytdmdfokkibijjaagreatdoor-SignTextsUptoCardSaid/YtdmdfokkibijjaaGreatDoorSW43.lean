/-
  Layer 9: the walk of SignParses.
-/
import Derived.Test.YtdmdfokkibijjaaGreatDoorSW42
import Derived.Test.YtdmdfokkibijjaaGreatDoorSW31
namespace Go.Proofs.YtdmdfokkibijjaaGreatDoor
open Go.RowKit
open Sgn
set_option linter.unusedVariables false
set_option linter.unusedSimpArgs false

theorem sameFs_self (l : List F) : sameFs l l = true := by
  have h : ∀ l : List F, (List.zip l l).all eqF = true := by
    intro l
    induction l with
    | nil => rfl
    | cons a r ih =>
      rw [List.zip_cons_cons, List.all_cons, ih]
      simp [eqF]
  unfold sameFs
  rw [h]
  simp
theorem sameG_self (g : G) : sameG g g = true := by
  unfold sameG
  rw [sameFs_self]
  simp
theorem same_self (g : G) (v u : Value) (w : World) (hv : GV w v g) (hu : GV w u g) :
    Calls Tryz.prog 8 #[v, u] w fun e w' => e = .returned (.bool true) ∧ Below w.heap.size w w' := by
  have := rSame9_any g g v u w hv hu
  rw [sameG_self] at this
  exact this

set_option maxHeartbeats 32000000 in
set_option maxRecDepth 100000 in
theorem parses_walk (s : ByteArray) (w : World) (HT : Hid (Tab w)) (HE : Hid (Env w)) :
    Calls Tryz.prog 3 #[.string s] w fun e w' => e = .returned (.bool true) ∧ Below w.heap.size w w' := by
  have HF := fun u (hb : Below w.heap.size w u) => hide' (First_any u (hide' (HT.out.on hb)))
  by_cases hlen : s.size ≤ 2000
  · have hd : decide ((s.size : Int) > 2000) = false := decide_eq_false (by omega)
    have hd' : decide ((2000 : Int) < (s.size : Int)) = false := decide_eq_false (by omega)
    obtain ⟨o, ho⟩ : ∃ o, parseR (progS s.data.toList) s.data.toList = o := ⟨_, rfl⟩
    have H1 := fun u (hb : Below w.heap.size w u) => hide' (ho ▸ Parse9_any s u (HT.out.on hb) (HE.out.on hb) (by omega))
    have H2 := fun u (hb : Below w.heap.size w u) => hide' (((parse_same s.data.toList).symm.trans ho) ▸ rParse9_any s u (HT.out.on hb) (by omega))
    unfold ParseE at H1 H2
    obtain ⟨g, hg⟩ : ∃ g, (pV o).1 = g := ⟨_, rfl⟩
    obtain ⟨z, hz⟩ : ∃ z, (pV o).2 = z := ⟨_, rfl⟩
    simp only [hg, hz] at H1 H2
    clear ho hg hz
    go_enter Tryz.func3, Tryz.ntmps3
    go_wp2_with fail
    refine (H1 _ (Below.refl _ _)).out.mono ?_
    rintro e w1 ⟨x, rfl, hx, hb1⟩
    obtain ⟨X, rfl, A, cap, rfl, hca, hma, hA⟩ := id hx
    have HX := hide' hx
    have HB1 := hide' hb1
    have HB2 := hide' (hb1.alloc hb1.size (.cells #[.string g.name, .slice A g.fs.length cap, .string g.res] 25))
    clear H1 hx hA hb1
    go_wp2_with fail
    refine (H2 _ HB2.out).out.mono ?_
    rintro e w2 ⟨y, rfl, hy, hb2⟩
    obtain ⟨Y, rfl, A2, cap2, rfl, hcb, hmb, hB⟩ := id hy
    have x0 := (hb2.cell (p := ⟨w1.heap.size, 0, none⟩) (by simp)).trans (cells_new' w1 #[.string g.name, .slice A g.fs.length cap, .string g.res] 25 0 _ rfl rfl)
    have x1 := (hb2.cell (p := ⟨w1.heap.size, 1, none⟩) (by simp)).trans (cells_new' w1 #[.string g.name, .slice A g.fs.length cap, .string g.res] 25 1 _ rfl rfl)
    have x2 := (hb2.cell (p := ⟨w1.heap.size, 2, none⟩) (by simp)).trans (cells_new' w1 #[.string g.name, .slice A g.fs.length cap, .string g.res] 25 2 _ rfl rfl)
    have y0 := cells_new' w2 #[.string g.name, .slice A2 g.fs.length cap2, .string g.res] 25 0 _ rfl rfl
    have y1 := cells_new' w2 #[.string g.name, .slice A2 g.fs.length cap2, .string g.res] 25 1 _ rfl rfl
    have y2 := cells_new' w2 #[.string g.name, .slice A2 g.fs.length cap2, .string g.res] 25 2 _ rfl rfl
    have z0 := cell_alloc (o := .cells #[.string g.name, .slice A2 g.fs.length cap2, .string g.res] 25) x0
    have z1 := cell_alloc (o := .cells #[.string g.name, .slice A2 g.fs.length cap2, .string g.res] 25) x1
    have z2 := cell_alloc (o := .cells #[.string g.name, .slice A2 g.fs.length cap2, .string g.res] 25) x2
    have hx' := ((HX.out.on ((Below.refl _ _).alloc (Nat.le_refl _) (.cells #[.string g.name, .slice A g.fs.length cap, .string g.res] 25))).on hb2).on ((Below.refl _ _).alloc (Nat.le_refl _) (.cells #[.string g.name, .slice A2 g.fs.length cap2, .string g.res] 25))
    have hy' := hy.on ((Below.refl _ _).alloc (Nat.le_refl _) (.cells #[.string g.name, .slice A2 g.fs.length cap2, .string g.res] 25))
    have hb3 : Below w.heap.size w (w2.alloc (.cells #[.string g.name, .slice A2 g.fs.length cap2, .string g.res] 25)) := (HB2.out.trans (hb2.mono HB2.out.size)).alloc (HB2.out.trans (hb2.mono HB2.out.size)).size _
    have K2 := hide' (same_self g _ _ _ hx' hy')
    have KF := fun u (hb : Below (w2.alloc (.cells #[.string g.name, .slice A2 g.fs.length cap2, .string g.res] 25)).heap.size (w2.alloc (.cells #[.string g.name, .slice A2 g.fs.length cap2, .string g.res] 25)) u) => HF u (hb3.trans (hb.mono hb3.size))
    have HB7 := hide' hb3
    clear x0 x1 x2 hx' hy' hb3 hb2 hB hy HX HF H2 HT HE HB1 HB2
    go_wp2_with fail
    refine K2.out.mono ?_
    rintro e w4 ⟨rfl, hb4⟩
    have KF4 := KF _ hb4
    have HB8 := hide' (HB7.out.trans (hb4.mono HB7.out.size))
    have HB4 := hide' hb4
    clear hb4 K2 KF y0 y1 y2 z0 z1 z2
    go_wp2_with fail
    refine KF4.out.mono ?_
    rintro e w5 ⟨rfl, hb5⟩
    have hend := HB8.out.trans (hb5.mono HB8.out.size)
    clear hb5 KF4
    go_wp2_with fail
    go_ret
    exact ⟨rfl, hend⟩
  · have hd : decide ((s.size : Int) > 2000) = true := decide_eq_true (by omega)
    have hd' : decide ((2000 : Int) < (s.size : Int)) = true := decide_eq_true (by omega)
    go_enter Tryz.func3, Tryz.ntmps3
    go_wp2_with fail
    refine (HF _ (Below.refl _ _)).out.mono ?_
    rintro e w1 ⟨rfl, hb1⟩
    go_wp2_with fail
    go_ret
    exact ⟨rfl, hb1⟩

end Go.Proofs.YtdmdfokkibijjaaGreatDoor
