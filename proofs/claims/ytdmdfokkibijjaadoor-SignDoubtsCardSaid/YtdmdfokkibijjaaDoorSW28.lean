/-
  Layer 9: the walk of SignFits.
-/
import Derived.Test.YtdmdfokkibijjaaDoorSW27
namespace Go.Proofs.YtdmdfokkibijjaaDoor
open Go.RowKit
open Sgn
set_option linter.unusedVariables false
set_option linter.unusedSimpArgs false

def fV (f a : F) : Int × Bool × Int := if (isFormal f.k f.n && isActual a.k a.n) = true then (if φF f a < 0 then 0 else φF f a, decide (0 ≤ φF f a), 0) else (0, false, 2)
theorem fV_of {f a : F} {e : Ending} (h : FitE f.k f.n a.k a.n (φF f a) e) : e = .returned (.tuple #[.int .i64 (fV f a).1, .bool (fV f a).2.1, .int .i64 (fV f a).2.2]) := by
  unfold fV
  rcases h with ⟨h, rfl⟩ | ⟨h, rfl⟩
  · rw [h]; rfl
  · rw [h]; rfl
theorem fitE_same {f a : F} {e : Ending} (h : FitE f.k f.n a.k a.n (φW f a) e) : FitE f.k f.n a.k a.n (φF f a) e := by
  rcases h with h | ⟨h, he⟩
  · exact .inl h
  · have h1 := h
    rw [Bool.and_eq_true] at h1
    exact .inr ⟨h, by rw [fits_way f a h1.1 h1.2]; exact he⟩
theorem box22 {w w1 : World} {a b a' b' : Value} {T : TypeId} (hb : Below ((w.alloc (.cells #[a, b] T)).alloc (.cells #[a', b'] T)).heap.size ((w.alloc (.cells #[a, b] T)).alloc (.cells #[a', b'] T)) w1) :
    w1.cell? ⟨w.heap.size, 0, none⟩ = some a ∧ w1.cell? ⟨w.heap.size, 1, none⟩ = some b ∧ w1.cell? ⟨w.heap.size + 1, 0, none⟩ = some a' ∧ w1.cell? ⟨w.heap.size + 1, 1, none⟩ = some b' := by
  have hb0 : Below (w.alloc (.cells #[a, b] T)).heap.size (w.alloc (.cells #[a, b] T)) w1 := box_below hb
  exact ⟨(hb0.cell (by simp)).trans (cells_new' w #[a, b] T 0 _ rfl rfl), (hb0.cell (by simp)).trans (cells_new' w #[a, b] T 1 _ rfl rfl),
    (hb.cell (by simp)).trans (cells_new' _ #[a', b'] T 0 _ rfl (by simp)), (hb.cell (by simp)).trans (cells_new' _ #[a', b'] T 1 _ rfl (by simp))⟩

set_option maxHeartbeats 16000000 in
set_option maxRecDepth 100000 in
theorem fits_walk (f a : F) (w : World) (HT : Hid (Tab w)) :
    Calls Tryd.prog 6 #[.agg #[.string f.k, .int .i64 f.n], .agg #[.string a.k, .int .i64 a.n]] w fun e w' => e = .returned (.bool true) ∧ Below w.heap.size w w' := by
  have HF := fun w1 (hb : Below w.heap.size w w1) => hide' (First_any w1 (hide' (HT.out.on hb)))
  have H1 := fun w1 => hide' ((Fits_any f.k a.k f.n a.n w1).mono fun e w' ⟨h, hb⟩ => And.intro (fV_of h) hb)
  have H2 := fun w1 => hide' ((rFits_any f.k a.k f.n a.n w1).mono fun e w' ⟨h, hb⟩ => And.intro (fV_of (fitE_same h)) hb)
  have K1 := fun w1 => hide' (IsType_any a.k a.n w1)
  have K2 := fun w1 => hide' (rIsType_any a.k a.n w1)
  have K3 := fun w1 => hide' (IsFormal_any f.k f.n w1)
  have K4 := fun w1 => hide' (rIsFormal_any f.k f.n w1)
  have CB : Hid (∀ w1, Below ((w.alloc (.cells #[.string f.k, .int .i64 f.n] 43)).alloc (.cells #[.string a.k, .int .i64 a.n] 43)).heap.size ((w.alloc (.cells #[.string f.k, .int .i64 f.n] 43)).alloc (.cells #[.string a.k, .int .i64 a.n] 43)) w1 → _) := fun w1 hb => box22 hb
  obtain ⟨x, hx⟩ : ∃ q, (fV f a).1 = q := ⟨_, rfl⟩
  obtain ⟨y, hy⟩ : ∃ q, (fV f a).2.1 = q := ⟨_, rfl⟩
  obtain ⟨z, hz⟩ : ∃ q, (fV f a).2.2 = q := ⟨_, rfl⟩
  obtain ⟨q1, hq1⟩ : ∃ q, isType a.k a.n = q := ⟨_, rfl⟩
  obtain ⟨q2, hq2⟩ : ∃ q, isFormal f.k f.n = q := ⟨_, rfl⟩
  rw [hx, hy, hz] at H1 H2
  rw [hq1] at K1 K2
  rw [hq2] at K3 K4
  obtain ⟨fk, fn⟩ := f
  obtain ⟨ak, an⟩ := a
  simp only at H1 H2 K1 K2 K3 K4 CB
  clear hx hy hz hq1 hq2 HT
  go_enter Tryd.func6, Tryd.ntmps6
  obtain ⟨d1, d2, d3, d4⟩ := CB.out _ (Below.refl _ _)
  go_wp2_with fail
  refine (H1 _).out.mono ?_
  rintro e w1 ⟨rfl, hb1⟩
  clear d1 d2 d3 d4 H1
  obtain ⟨d1, d2, d3, d4⟩ := CB.out _ hb1
  have HB1 := hide' hb1
  clear hb1
  go_wp2_with fail
  refine (H2 _).out.mono ?_
  rintro e w3 ⟨rfl, hb3⟩
  have hb5 := HB1.out.trans (hb3.mono HB1.out.size)
  have HSX : Hid (∀ w', Below w3.heap.size w3 w' → w'.cell? ⟨w.heap.size, 0, none⟩ = some (.string fk) ∧ w'.cell? ⟨w.heap.size, 1, none⟩ = some (.int .i64 fn) ∧ w'.cell? ⟨w.heap.size + 1, 0, none⟩ = some (.string ak) ∧ w'.cell? ⟨w.heap.size + 1, 1, none⟩ = some (.int .i64 an) ∧ Below w3.heap.size w3 w') := fun w' hb => by
    obtain ⟨a, b, c, d⟩ := CB.out w' (hb5.trans (hb.mono hb5.size))
    exact ⟨a, b, c, d, hb⟩
  have KF := fun w' (hb : Below w3.heap.size w3 w') => HF w' ((box2_below hb5).trans (hb.mono (box2_below hb5).size))
  have HB5 := hide' (box2_below hb5)
  clear d1 d2 d3 d4 H2 hb3 hb5 HF CB HB1
  go_wp2_with fail
  cases q1 <;> cases q2
  all_goals
    go_region_held3 (fun w' => w'.cell? ⟨w.heap.size, 0, none⟩ = some (.string fk) ∧ w'.cell? ⟨w.heap.size, 1, none⟩ = some (.int .i64 fn) ∧ w'.cell? ⟨w.heap.size + 1, 0, none⟩ = some (.string ak) ∧ w'.cell? ⟨w.heap.size + 1, 1, none⟩ = some (.int .i64 an) ∧ Below w3.heap.size w3 w')
      (first | assumption | exact HSX.out _ (Below.refl _ _) | exact HSX.out _ (Below.refl _ _).drew | exact HSX.out _ (held_last (by assumption)).drew | exact hS)
      (first
        | (go_at_call 25; refine (K1 _).out.mono ?_; rintro e5 w5 ⟨rfl, hb5⟩; have hS := HSX.out _ ((held_last (by assumption)).trans (hb5.mono (held_last (by assumption)).size)))
        | (go_at_call 26; refine (K2 _).out.mono ?_; rintro e5 w5 ⟨rfl, hb5⟩; have hS := HSX.out _ ((held_last (by assumption)).trans (hb5.mono (held_last (by assumption)).size)))
        | (go_at_call 27; refine (K3 _).out.mono ?_; rintro e5 w5 ⟨rfl, hb5⟩; have hS := HSX.out _ ((held_last (by assumption)).trans (hb5.mono (held_last (by assumption)).size)))
        | (go_at_call 28; refine (K4 _).out.mono ?_; rintro e5 w5 ⟨rfl, hb5⟩; have hS := HSX.out _ ((held_last (by assumption)).trans (hb5.mono (held_last (by assumption)).size)))
        | (go_at_call 11; refine (KF _ (held_last (by assumption))).out.mono ?_; rintro e5 w5 ⟨rfl, hb5⟩; have hS := HSX.out _ ((held_last (by assumption)).trans (hb5.mono (held_last (by assumption)).size))))
    go_wp2_with fail
    go_ret
    exact ⟨rfl, HB5.out.trans ((held_last (by assumption)).mono HB5.out.size)⟩

end Go.Proofs.YtdmdfokkibijjaaDoor
