/-
  Layer 9: the walk of signs: in which ways actuals for two formals may be compared.
-/
import Derived.Test.YtdmdfokkibijjaaDoorSW29
namespace Go.Proofs.YtdmdfokkibijjaaDoor
open Go.RowKit
open Sgn
set_option linter.unusedVariables false
set_option linter.unusedSimpArgs false

def bothOk (φ : F → F → Int) (f g t : F) : Bool := decide (0 ≤ φ f t) && decide (0 ≤ φ g t)
def likeT (φ : F → F → Int) (f g t : F) : Bool := bothOk φ f g t && decide (φ f t = φ g t)
def lessT (φ : F → F → Int) (f g t : F) : Bool := bothOk φ f g t && decide (φ f t < φ g t)
def moreT (φ : F → F → Int) (f g t : F) : Bool := bothOk φ f g t && decide (φ g t < φ f t)
theorem any_step {α : Type} (p : α → Bool) (l : List α) (k : Nat) (hk : k < l.length) : (l.take (k + 1)).any p = ((l.take k).any p || p l[k]) := by
  rw [List.take_succ_eq_append_getElem hk, List.any_append]
  simp
theorem any_done {α : Type} (p : α → Bool) (l : List α) (k : Nat) (hk : l.length ≤ k) : (l.take k).any p = l.any p := by
  rw [List.take_of_length_le hk]
/-- what one actual says -/
theorem way_cases (φ : F → F → Int) (f g t : F) :
    (decide (0 ≤ φ f t) = false ∧ likeT φ f g t = false ∧ lessT φ f g t = false ∧ moreT φ f g t = false) ∨
    (decide (0 ≤ φ f t) = true ∧ decide (0 ≤ φ g t) = false ∧ likeT φ f g t = false ∧ lessT φ f g t = false ∧ moreT φ f g t = false) ∨
    (decide (0 ≤ φ f t) = true ∧ decide (0 ≤ φ g t) = true ∧ φ f t = φ g t ∧ likeT φ f g t = true ∧ lessT φ f g t = false ∧ moreT φ f g t = false) ∨
    (decide (0 ≤ φ f t) = true ∧ decide (0 ≤ φ g t) = true ∧ φ f t < φ g t ∧ likeT φ f g t = false ∧ lessT φ f g t = true ∧ moreT φ f g t = false) ∨
    (decide (0 ≤ φ f t) = true ∧ decide (0 ≤ φ g t) = true ∧ φ g t < φ f t ∧ likeT φ f g t = false ∧ lessT φ f g t = false ∧ moreT φ f g t = true) := by
  unfold likeT lessT moreT bothOk
  by_cases h1 : 0 ≤ φ f t
  · by_cases h2 : 0 ≤ φ g t
    · have d1 : decide (0 ≤ φ f t) = true := decide_eq_true h1
      have d2 : decide (0 ≤ φ g t) = true := decide_eq_true h2
      rw [d1, d2]
      by_cases h3 : φ f t = φ g t
      · exact .inr (.inr (.inl ⟨rfl, rfl, h3, by simp [h3], by simp [h3], by simp [h3]⟩))
      · by_cases h4 : φ f t < φ g t
        · exact .inr (.inr (.inr (.inl ⟨rfl, rfl, h4, by simp [h3], by simp [h4], by simp; omega⟩)))
        · exact .inr (.inr (.inr (.inr ⟨rfl, rfl, by omega, by simp [h3], by simp; omega, by simp; omega⟩)))
    · have d1 : decide (0 ≤ φ f t) = true := decide_eq_true h1
      have d2 : decide (0 ≤ φ g t) = false := decide_eq_false h2
      rw [d1, d2]
      exact .inr (.inl ⟨rfl, rfl, rfl, rfl, rfl⟩)
  · have d1 : decide (0 ≤ φ f t) = false := decide_eq_false h1
    rw [d1]
    exact .inl ⟨rfl, rfl, rfl, rfl⟩
theorem cmp_eq {x y : Int} (h : x = y) : Lib.compareInt x y = 0 := by
  subst h; unfold Lib.compareInt; simp
theorem cmp_lt {x y : Int} (h : x < y) : Lib.compareInt x y = -1 := by
  unfold Lib.compareInt; simp [h]
theorem cmp_gt {x y : Int} (h : y < x) : Lib.compareInt x y = 1 := by
  unfold Lib.compareInt
  have h1 : ¬ x < y := by omega
  have h2 : ¬ x = y := by omega
  simp [h1, h]
def SignsEnd (f g : F) (e : Ending) : Prop := e = .returned (.tuple #[.bool (allT.any (likeT φF f g)), .bool (allT.any (lessT φF f g)), .bool (allT.any (moreT φF f g))])

set_option maxHeartbeats 8000000 in
set_option maxRecDepth 100000 in
theorem signs9_any (f g : F) (w : World) :
    Calls Tryd.prog 54 #[.agg #[.string f.k, .int .i64 f.n], .agg #[.string g.k, .int .i64 g.n]] w fun e w' => SignsEnd f g e ∧ Below w.heap.size w w' := by
  have CB : Hid (∀ w1, Below ((w.alloc (.cells #[.string f.k, .int .i64 f.n] 43)).alloc (.cells #[.string g.k, .int .i64 g.n] 43)).heap.size ((w.alloc (.cells #[.string f.k, .int .i64 f.n] 43)).alloc (.cells #[.string g.k, .int .i64 g.n] 43)) w1 → _) := fun w1 hb => box22 hb
  have HFf := fun (t : F) u => hide' (fits_any f.k t.k f.n t.n u)
  have HFg := fun (t : F) u => hide' (fits_any g.k t.k g.n t.n u)
  unfold FitsEnd at HFf HFg
  have HWC := hide' (way_cases φF f g)
  have HEND : Hid (∀ x y z e, x = allT.any (likeT φF f g) → y = allT.any (lessT φF f g) → z = allT.any (moreT φF f g) → e = .returned (.tuple #[.bool x, .bool y, .bool z]) → SignsEnd f g e) := fun x y z e h1 h2 h3 he => by unfold SignsEnd; rw [← h1, ← h2, ← h3]; exact he
  obtain ⟨L1, hL1⟩ : ∃ q, likeT φF f g = q := ⟨_, rfl⟩
  obtain ⟨L2, hL2⟩ : ∃ q, lessT φF f g = q := ⟨_, rfl⟩
  obtain ⟨L3, hL3⟩ : ∃ q, moreT φF f g = q := ⟨_, rfl⟩
  rw [hL1, hL2, hL3] at HEND
  have HWC' := HWC.out
  rw [hL1, hL2, hL3] at HWC'
  have HWD := hide' HWC'
  have HP1 := fun (t : F) => hide' (show fitsOf f.k.toList f.n t.k.toList t.n = φF f t from rfl)
  have HP2 := fun (t : F) => hide' (show fitsOf g.k.toList g.n t.k.toList t.n = φF g t from rfl)
  obtain ⟨fk, fn⟩ := f
  obtain ⟨gk, gn⟩ := g
  simp only at HFf HFg CB
  clear hL1 hL2 hL3 HWC HWC'
  go_enter Tryd.func54, Tryd.ntmps54
  go_wp2_with fail
  refine (types_any _).mono ?_
  rintro e w1 ⟨b, off, cap, rfl, hc9, hm9, _, hCA, hb1⟩
  have HC := hide' hCA
  have HB1 := hide' hb1
  rw [show maxLen = 9223372036854775807 from rfl] at hm9
  clear hCA hb1
  go_wp2_with fail
  go_loopw [4, 5, 6, 15] (fun x y z i wr => ∃ (k : Nat) (q1 q2 q3 : Bool), k ≤ 8 ∧ i = .int .i64 k ∧ x = .bool q1 ∧ y = .bool q2 ∧ z = .bool q3 ∧ Below w1.heap.size w1 wr ∧ Hid (q1 = (allT.take k).any L1) ∧ Hid (q2 = (allT.take k).any L2) ∧ Hid (q3 = (allT.take k).any L3)) (fun _ _ _ i _ => 8 - (intOf i).toNat)
  case atStart => exact ⟨0, false, false, false, by omega, rfl, rfl, rfl, rfl, Below.refl _ _, rfl, rfl, rfl⟩
  case round =>
    obtain ⟨k, q1, q2, q3, hk, rfl, rfl, rfl, rfl, hnx, hQ1, hQ2, hQ3⟩ := hrel
    have HNX := hide' hnx
    by_cases hlt : k < 8
    · have hlt' : k < allT.length := hlt
      obtain ⟨x1, x2⟩ := (HC.out.on hnx) k hlt'
      have n1 := any_step L1 allT k hlt'
      have n2 := any_step L2 allT k hlt'
      have n3 := any_step L3 allT k hlt'
      rw [← hQ1.out] at n1
      rw [← hQ2.out] at n2
      rw [← hQ3.out] at n3
      obtain ⟨t, ht⟩ : ∃ t, allT[k] = t := ⟨_, rfl⟩
      rw [ht] at n1 n2 n3 x1 x2
      have hw := HWD.out t
      have h1 := HFf t
      have h2 := HFg t
      rw [(HP1 t).out] at h1
      rw [(HP2 t).out] at h2
      obtain ⟨v1, hv1⟩ : ∃ z, φF ⟨fk, fn⟩ t = z := ⟨_, rfl⟩
      obtain ⟨v2, hv2⟩ : ∃ z, φF ⟨gk, gn⟩ t = z := ⟨_, rfl⟩
      rw [hv1, hv2] at hw
      rw [hv1] at h1
      rw [hv2] at h2
      obtain ⟨tk, tn⟩ := t
      simp only at x1 x2 h1 h2
      have hbx : ∀ o w2, Below (wr.alloc o).heap.size (wr.alloc o) w2 → Below w1.heap.size w1 w2 := fun o w2 hb => HNX.out.trans ((box_below hb).mono HNX.out.size)
      have HBX := hide' hbx
      have hk0 : (0 : Int) ≤ (k : Int) := by omega
      have hk1 : (k : Int) < 8 := by omega
      clear ht hv1 hv2 HFf HFg HP1 HP2 HWD hQ1 hQ2 hQ3 hnx hbx HC
      have N1 := hide' n1
      have N2 := hide' n2
      have N3 := hide' n3
      clear n1 n2 n3
      have D0 : Hid (∀ w2, Below (wr.alloc (.cells #[.string tk, .int .i64 tn] 43)).heap.size (wr.alloc (.cells #[.string tk, .int .i64 tn] 43)) w2 → w2.cell? ⟨wr.heap.size, 0, none⟩ = some (.string tk) ∧ w2.cell? ⟨wr.heap.size, 1, none⟩ = some (.int .i64 tn)) := fun w2 hb => ⟨(hb.cell (by simp)).trans (cells_new' wr #[.string tk, .int .i64 tn] 43 0 _ rfl rfl), (hb.cell (by simp)).trans (cells_new' wr #[.string tk, .int .i64 tn] 43 1 _ rfl rfl)⟩
      have D1 := hide' (fun w2 (hb : Below (wr.alloc (.cells #[.string tk, .int .i64 tn] 43)).heap.size (wr.alloc (.cells #[.string tk, .int .i64 tn] 43)) w2) => CB.out w2 (HB1.out.trans ((HBX.out _ _ hb).mono HB1.out.size)))
      have hin : ∀ v : Int, decide (0 ≤ v) = true → (if v < 0 then 0 else v) = v := fun v h => by
        have := of_decide_eq_true h
        rw [if_neg (by omega)]
      rcases hw with ⟨e1, l1, l2, l3⟩ | ⟨e1, e2, l1, l2, l3⟩ | ⟨e1, e2, hc, l1, l2, l3⟩ | ⟨e1, e2, hc, l1, l2, l3⟩ | ⟨e1, e2, hc, l1, l2, l3⟩
      · rw [e1] at h1
        obtain ⟨y1, hy1⟩ : ∃ y, (if v1 < 0 then 0 else v1) = y := ⟨_, rfl⟩
        obtain ⟨y2, hy2⟩ : ∃ y, (if v2 < 0 then 0 else v2) = y := ⟨_, rfl⟩
        obtain ⟨o2, ho2⟩ : ∃ y, decide (0 ≤ v2) = y := ⟨_, rfl⟩
        rw [hy1] at h1
        rw [hy2, ho2] at h2
        clear e1 hy1 hy2 ho2 hin
        obtain ⟨c1, c2, c3, c4⟩ := D1.out _ (Below.refl _ _)
        obtain ⟨c5, c6⟩ := D0.out _ (Below.refl _ _)
        go_wp2_with fail
        refine (h1 _).out.mono ?_
        rintro e w2 ⟨rfl, hb2⟩
        clear c1 c2 c3 c4 c5 c6
        obtain ⟨c1, c2, c3, c4⟩ := D1.out _ hb2
        obtain ⟨c5, c6⟩ := D0.out _ hb2
        have HB2 := hide' hb2
        clear hb2
        go_wp2_with fail
        refine (h2 _).out.mono ?_
        rintro e w3 ⟨rfl, hb3⟩
        have hend := HBX.out _ _ (HB2.out.trans (hb3.mono HB2.out.size))
        clear c1 c2 c3 c4 c5 c6 hb3
        go_wp2_with fail
        go_roundw
        case rel => exact ⟨k + 1, q1, q2, q3, by omega, by go_num, rfl, rfl, rfl, hend, (by show _ = _; rw [N1.out, l1, Bool.or_false]), (by show _ = _; rw [N2.out, l2, Bool.or_false]), (by show _ = _; rw [N3.out, l3, Bool.or_false])⟩
        case measure => simp [intOf]; omega
      · rw [e1, hin v1 e1] at h1
        obtain ⟨y2, hy2⟩ : ∃ y, (if v2 < 0 then 0 else v2) = y := ⟨_, rfl⟩
        rw [hy2, e2] at h2
        clear e1 e2 hy2 hin
        obtain ⟨c1, c2, c3, c4⟩ := D1.out _ (Below.refl _ _)
        obtain ⟨c5, c6⟩ := D0.out _ (Below.refl _ _)
        go_wp2_with fail
        refine (h1 _).out.mono ?_
        rintro e w2 ⟨rfl, hb2⟩
        clear c1 c2 c3 c4 c5 c6
        obtain ⟨c1, c2, c3, c4⟩ := D1.out _ hb2
        obtain ⟨c5, c6⟩ := D0.out _ hb2
        have HB2 := hide' hb2
        clear hb2
        go_wp2_with fail
        refine (h2 _).out.mono ?_
        rintro e w3 ⟨rfl, hb3⟩
        have hend := HBX.out _ _ (HB2.out.trans (hb3.mono HB2.out.size))
        clear c1 c2 c3 c4 c5 c6 hb3
        go_wp2_with fail
        go_roundw
        case rel => exact ⟨k + 1, q1, q2, q3, by omega, by go_num, rfl, rfl, rfl, hend, (by show _ = _; rw [N1.out, l1, Bool.or_false]), (by show _ = _; rw [N2.out, l2, Bool.or_false]), (by show _ = _; rw [N3.out, l3, Bool.or_false])⟩
        case measure => simp [intOf]; omega
      · rw [e1, hin v1 e1] at h1
        rw [e2, hin v2 e2] at h2
        have HCm := fun u => hide' (Tryd.cmp_Compare_int v1 v2 u)
        rw [cmp_eq hc] at HCm
        clear e1 e2 hc hin
        obtain ⟨c1, c2, c3, c4⟩ := D1.out _ (Below.refl _ _)
        obtain ⟨c5, c6⟩ := D0.out _ (Below.refl _ _)
        go_wp2_with fail
        refine (h1 _).out.mono ?_
        rintro e w2 ⟨rfl, hb2⟩
        clear c1 c2 c3 c4 c5 c6
        obtain ⟨c1, c2, c3, c4⟩ := D1.out _ hb2
        obtain ⟨c5, c6⟩ := D0.out _ hb2
        have HB2 := hide' hb2
        clear hb2
        go_wp2_with fail
        refine (h2 _).out.mono ?_
        rintro e w3 ⟨rfl, hb3⟩
        have hend := HBX.out _ _ (HB2.out.trans (hb3.mono HB2.out.size))
        clear c1 c2 c3 c4 c5 c6 hb3
        go_wp2_with fail
        refine (HCm _).out.mono ?_
        rintro e w4 ⟨rfl, rfl⟩
        go_wp2_with fail
        go_roundw
        case rel => exact ⟨k + 1, true, q2, q3, by omega, by go_num, rfl, rfl, rfl, hend, (by show _ = _; rw [N1.out, l1, Bool.or_true]), (by show _ = _; rw [N2.out, l2, Bool.or_false]), (by show _ = _; rw [N3.out, l3, Bool.or_false])⟩
        case measure => simp [intOf]; omega
      · rw [e1, hin v1 e1] at h1
        rw [e2, hin v2 e2] at h2
        have HCm := fun u => hide' (Tryd.cmp_Compare_int v1 v2 u)
        rw [cmp_lt hc] at HCm
        clear e1 e2 hc hin
        obtain ⟨c1, c2, c3, c4⟩ := D1.out _ (Below.refl _ _)
        obtain ⟨c5, c6⟩ := D0.out _ (Below.refl _ _)
        go_wp2_with fail
        refine (h1 _).out.mono ?_
        rintro e w2 ⟨rfl, hb2⟩
        clear c1 c2 c3 c4 c5 c6
        obtain ⟨c1, c2, c3, c4⟩ := D1.out _ hb2
        obtain ⟨c5, c6⟩ := D0.out _ hb2
        have HB2 := hide' hb2
        clear hb2
        go_wp2_with fail
        refine (h2 _).out.mono ?_
        rintro e w3 ⟨rfl, hb3⟩
        have hend := HBX.out _ _ (HB2.out.trans (hb3.mono HB2.out.size))
        clear c1 c2 c3 c4 c5 c6 hb3
        go_wp2_with fail
        refine (HCm _).out.mono ?_
        rintro e w4 ⟨rfl, rfl⟩
        go_wp2_with fail
        go_roundw
        case rel => exact ⟨k + 1, q1, true, q3, by omega, by go_num, rfl, rfl, rfl, hend, (by show _ = _; rw [N1.out, l1, Bool.or_false]), (by show _ = _; rw [N2.out, l2, Bool.or_true]), (by show _ = _; rw [N3.out, l3, Bool.or_false])⟩
        case measure => simp [intOf]; omega
      · rw [e1, hin v1 e1] at h1
        rw [e2, hin v2 e2] at h2
        have HCm := fun u => hide' (Tryd.cmp_Compare_int v1 v2 u)
        rw [cmp_gt hc] at HCm
        clear e1 e2 hc hin
        obtain ⟨c1, c2, c3, c4⟩ := D1.out _ (Below.refl _ _)
        obtain ⟨c5, c6⟩ := D0.out _ (Below.refl _ _)
        go_wp2_with fail
        refine (h1 _).out.mono ?_
        rintro e w2 ⟨rfl, hb2⟩
        clear c1 c2 c3 c4 c5 c6
        obtain ⟨c1, c2, c3, c4⟩ := D1.out _ hb2
        obtain ⟨c5, c6⟩ := D0.out _ hb2
        have HB2 := hide' hb2
        clear hb2
        go_wp2_with fail
        refine (h2 _).out.mono ?_
        rintro e w3 ⟨rfl, hb3⟩
        have hend := HBX.out _ _ (HB2.out.trans (hb3.mono HB2.out.size))
        clear c1 c2 c3 c4 c5 c6 hb3
        go_wp2_with fail
        refine (HCm _).out.mono ?_
        rintro e w4 ⟨rfl, rfl⟩
        go_wp2_with fail
        go_roundw
        case rel => exact ⟨k + 1, q1, q2, true, by omega, by go_num, rfl, rfl, rfl, hend, (by show _ = _; rw [N1.out, l1, Bool.or_false]), (by show _ = _; rw [N2.out, l2, Bool.or_false]), (by show _ = _; rw [N3.out, l3, Bool.or_true])⟩
        case measure => simp [intOf]; omega
    · have hk8 : k = 8 := by omega
      subst hk8
      have r1 := hide' (hQ1.out.trans (any_done L1 allT 8 (by decide)))
      have r2 := hide' (hQ2.out.trans (any_done L2 allT 8 (by decide)))
      have r3 := hide' (hQ3.out.trans (any_done L3 allT 8 (by decide)))
      have hend := hide' ((box2_below HB1.out).trans (hnx.mono (box2_below HB1.out).size))
      clear hQ1 hQ2 hQ3 HFf HFg HP1 HP2 HWD hnx HNX
      go_wp2_with fail
      go_ret3
      exact ⟨HEND.out _ _ _ _ r1.out r2.out r3.out rfl, hend.out⟩

end Go.Proofs.YtdmdfokkibijjaaDoor
