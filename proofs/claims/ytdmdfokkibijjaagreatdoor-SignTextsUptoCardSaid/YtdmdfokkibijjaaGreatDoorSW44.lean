/-
  Layer 9: the walk of SignTexts.
-/
import Derived.Test.YtdmdfokkibijjaaGreatDoorSW43
namespace Go.Proofs.YtdmdfokkibijjaaGreatDoor
open Go.RowKit
open Sgn
set_option linter.unusedVariables false
set_option linter.unusedSimpArgs false

theorem textL_len (g : G) (h : validG g = true) : (textL g).length ≤ g.name.size + 100 := by
  have h' := h
  unfold validG at h'
  simp only [Bool.and_eq_true, List.all_eq_true, decide_eq_true_eq] at h'
  obtain ⟨hf, ⟨hr, hn⟩, hl⟩ := h'
  have hrs : g.res.size ≤ 4 := by rcases res_chars hr with e | e | e <;> rw [e] <;> decide
  have hj := join_len (g.fs.map wordL) (fun x hx => by obtain ⟨f, hfm, rfl⟩ := List.mem_map.1 hx; exact word_len f (hf f hfm))
  rw [List.length_map] at hj
  have hi : (innerL g.fs).length ≤ 67 := by
    unfold innerL
    split
    · simp
    · simp only [List.length_append, List.length_cons, List.length_nil]; omega
  have e1 : g.res.data.toList.length = g.res.size := by simp
  have e2 : g.name.data.toList.length = g.name.size := by simp
  unfold textL
  simp only [List.length_append, List.length_cons, List.length_nil]
  omega
theorem parse_text (g : G) (h : validG g = true) : parseR (progS (textL g)) (textL g) = some g := by
  unfold parseR
  rw [progS_text g h]
  simp only
  rw [if_pos (by simp [h])]
theorem sameP_self (g : G) (v u : Value) (w : World) (hv : GV w v g) (hu : GV w u g) :
    Calls Tryz.prog 12 #[v, u] w fun e w' => e = .returned (.bool true) ∧ Below w.heap.size w w' := by
  have := Same9_any g g v u w hv hu
  rw [sameG_self] at this
  exact this

set_option maxHeartbeats 32000000 in
set_option maxRecDepth 100000 in
theorem texts_walk (g : G) (v : Value) (w : World) (HT : Hid (Tab w)) (HE : Hid (Env w)) (hv : GV w v g) (hs : g.name.size ≤ 1048576) :
    Calls Tryz.prog 4 #[v] w fun e w' => e = .returned (.bool true) ∧ Below w.heap.size w w' := by
  have HF := fun u (hb : Below w.heap.size w u) => hide' (First_any u (hide' (HT.out.on hb)))
  have HL := fun u (hb : Below w.heap.size w u) => hide' (Long_any g v u (hv.on hb))
  have H1 := fun u (hb : Below w.heap.size w u) => hide' (Text9_any g v u (HT.out.on hb) (hv.on hb) (by omega))
  have H2 := fun u (hb : Below w.heap.size w u) => hide' (rText9_any g v u (HT.out.on hb) (hv.on hb) (by omega))
  have HP := fun (h : validG g = true) (b : ByteArray) (e : b.data.toList = textL g) u (hb : Below w.heap.size w u) => hide' ((show parseR (progS b.data.toList) b.data.toList = some g by rw [e]; exact parse_text g h) ▸ Parse9_any b u (HT.out.on hb) (HE.out.on hb) (by
    have h1 := textL_len g h
    have h2 : b.data.toList.length = b.size := by simp
    rw [← e, h2] at h1
    omega))
  unfold ParseE at HP
  simp only [pV] at HP
  obtain ⟨X, rfl, A, cap, rfl, hca, hma, hA⟩ := id hv
  have HV := hide' hv
  have CB : Hid (∀ w1, Below (w.alloc (.cells #[.string g.name, .slice A g.fs.length cap, .string g.res] 25)).heap.size (w.alloc (.cells #[.string g.name, .slice A g.fs.length cap, .string g.res] 25)) w1 → _) := fun w1 hb => box3 hb
  clear hv hA HT HE
  by_cases hlong : 50 < g.fs.length
  · simp only [decide_eq_true hlong] at HL
    go_enter Tryz.func4, Tryz.ntmps4
    obtain ⟨d1, d2, d3⟩ := CB.out _ (Below.refl _ _)
    go_wp2_with fail
    refine (HL _ (box_below (Below.refl _ _))).out.mono ?_
    rintro e w1 ⟨rfl, hb1⟩
    have KF := HF _ (box_below hb1)
    have HB1 := hide' (box_below hb1)
    clear d1 d2 d3 hb1 HF H1 H2 HP
    go_wp2_with fail
    refine KF.out.mono ?_
    rintro e w2 ⟨rfl, hb2⟩
    have hend := HB1.out.trans (hb2.mono HB1.out.size)
    clear hb2 KF
    go_wp2_with fail
    go_ret
    exact ⟨rfl, hend⟩
  · simp only [decide_eq_false hlong] at HL
    obtain ⟨q, hq⟩ : ∃ q, validG g = q := ⟨_, rfl⟩
    have HQ := hide' hq
    clear hq
    go_enter Tryz.func4, Tryz.ntmps4
    obtain ⟨d1, d2, d3⟩ := CB.out _ (Below.refl _ _)
    go_wp2_with fail
    refine (HL _ (box_below (Below.refl _ _))).out.mono ?_
    rintro e w1 ⟨rfl, hb1⟩
    clear d1 d2 d3 HL
    obtain ⟨d1, d2, d3⟩ := CB.out _ hb1
    have HB1 := hide' hb1
    clear hb1
    go_wp2_with fail
    refine (H1 _ (box_below HB1.out)).out.mono ?_
    rintro e w2 ⟨he, hb2⟩
    have HB2 := hide' (HB1.out.trans (hb2.mono HB1.out.size))
    clear d1 d2 d3 H1 hb2 HB1
    obtain ⟨d1, d2, d3⟩ := CB.out _ HB2.out
    cases q
    · obtain ⟨hv0, rfl⟩ : validG g = false ∧ e = .returned (.tuple #[.string ⟨#[]⟩, .int .i64 2]) := by
        rcases he with h | h
        · exact h
        · rw [HQ.out] at h; cases h.1
      clear hv0
      go_wp2_with fail
      refine (H2 _ (box_below HB2.out)).out.mono ?_
      rintro e w3 ⟨he, hb3⟩
      obtain ⟨hv0, rfl⟩ : validG g = false ∧ e = .returned (.tuple #[.string ⟨#[]⟩, .int .i64 2]) := by
        rcases he with h | h
        · exact h
        · rw [HQ.out] at h; cases h.1
      have HB3 := hide' (box_below (HB2.out.trans (hb3.mono HB2.out.size)))
      have KF := HF _ HB3.out
      clear hv0 hb3 HB2 H2 HF HP d1 d2 d3
      go_wp2_with fail
      refine KF.out.mono ?_
      rintro e w4 ⟨rfl, hb4⟩
      have hend := HB3.out.trans (hb4.mono HB3.out.size)
      clear hb4 KF
      go_wp2_with fail
      go_ret
      exact ⟨rfl, hend⟩
    · obtain ⟨b, hb⟩ : ∃ b : ByteArray, b = ⟨(textL g).toArray⟩ := ⟨_, rfl⟩
      have hb0 : b.data.toList = textL g := by rw [hb]
      obtain ⟨hv0, rfl⟩ : validG g = true ∧ e = .returned (.tuple #[.string b, .int .i64 0]) := by
        rcases he with h | h
        · rw [HQ.out] at h; cases h.1
        · rw [hb]; exact h
      have KP := HP hv0 b hb0
      have HBB := hide' hb
      clear hv0 hb hb0 HP
      go_wp2_with fail
      refine (H2 _ (box_below HB2.out)).out.mono ?_
      rintro e w3 ⟨he, hb3⟩
      obtain ⟨hv0, rfl⟩ : validG g = true ∧ e = .returned (.tuple #[.string b, .int .i64 0]) := by
        rcases he with h | h
        · rw [HQ.out] at h; cases h.1
        · rw [HBB.out]; exact h
      have HB3 := hide' (HB2.out.trans (hb3.mono HB2.out.size))
      clear hv0 hb3 HB2 H2 d1 d2 d3
      go_wp2_with fail
      refine (KP _ (box_below HB3.out)).out.mono ?_
      rintro e w4 ⟨y, rfl, hy, hb4⟩
      obtain ⟨Y, rfl, A2, cap2, rfl, hcb, hmb, hB⟩ := id hy
      have HB4 := hide' (HB3.out.trans (hb4.mono HB3.out.size))
      have HB5 := hide' (HB4.out.trans ((Below.refl _ w4).alloc (Nat.le_refl _) (.cells #[.string g.name, .slice A2 g.fs.length cap2, .string g.res] 25) |>.mono HB4.out.size))
      have hx := HV.out.on (box_below HB5.out)
      have hy' := hy.on ((Below.refl _ w4).alloc (Nat.le_refl _) (.cells #[.string g.name, .slice A2 g.fs.length cap2, .string g.res] 25))
      have DB : Hid (∀ w1, Below (w4.alloc (.cells #[.string g.name, .slice A2 g.fs.length cap2, .string g.res] 25)).heap.size (w4.alloc (.cells #[.string g.name, .slice A2 g.fs.length cap2, .string g.res] 25)) w1 → _) := fun w1 hb => box3 hb
      have KS := fun u (hb : Below (w4.alloc (.cells #[.string g.name, .slice A2 g.fs.length cap2, .string g.res] 25)).heap.size (w4.alloc (.cells #[.string g.name, .slice A2 g.fs.length cap2, .string g.res] 25)) u) => hide' (sameP_self g _ _ u (hy'.on hb) (hx.on hb))
      have KR := fun u (hb : Below (w4.alloc (.cells #[.string g.name, .slice A2 g.fs.length cap2, .string g.res] 25)).heap.size (w4.alloc (.cells #[.string g.name, .slice A2 g.fs.length cap2, .string g.res] 25)) u) => hide' (same_self g _ _ u (hy'.on hb) (hx.on hb))
      obtain ⟨d1, d2, d3⟩ := CB.out _ HB5.out
      obtain ⟨d4, d5, d6⟩ := DB.out _ (Below.refl _ _)
      clear hB hy hx hy' hb4 HB3 KP HV
      go_wp2_with fail
      refine (KS _ (Below.refl _ _)).out.mono ?_
      rintro e w5 ⟨rfl, hb5⟩
      clear d1 d2 d3 d4 d5 d6
      obtain ⟨d1, d2, d3⟩ := CB.out _ (HB5.out.trans (hb5.mono HB5.out.size))
      obtain ⟨d4, d5, d6⟩ := DB.out _ hb5
      have HB6 := hide' hb5
      clear hb5
      go_wp2_with fail
      refine (KR _ HB6.out).out.mono ?_
      rintro e w6 ⟨rfl, hb6⟩
      have HB7 := hide' (box_below (HB5.out.trans ((HB6.out.trans (hb6.mono HB6.out.size)).mono HB5.out.size)))
      have KF := HF _ HB7.out
      clear d1 d2 d3 d4 d5 d6 hb6 HF KS KR HB6 HB5 HB4
      go_wp2_with fail
      refine KF.out.mono ?_
      rintro e w7 ⟨rfl, hb7⟩
      have hend := HB7.out.trans (hb7.mono HB7.out.size)
      clear hb7 KF
      go_wp2_with fail
      go_ret
      exact ⟨rfl, hend⟩

end Go.Proofs.YtdmdfokkibijjaaGreatDoor
