/-
  Layer 9: the walks of Text of both.
-/
import Derived.Test.YtdmdfokkibijjaaGreatDoorSW36
namespace Go.Proofs.YtdmdfokkibijjaaGreatDoor
open Go.RowKit
open Sgn
set_option linter.unusedVariables false
set_option linter.unusedSimpArgs false

def TextE (g : G) (e : Ending) : Prop :=
  (validG g = false ∧ e = .returned (.tuple #[.string ⟨#[]⟩, .int .i64 2])) ∨ (validG g = true ∧ e = .returned (.tuple #[.string ⟨(textL g).toArray⟩, .int .i64 0]))
theorem textE_no {g : G} (h : validG g = false) : TextE g (.returned (.tuple #[.string ⟨#[]⟩, .int .i64 2])) := .inl ⟨h, rfl⟩
theorem textE_yes {g : G} {b : ByteArray} (h : validG g = true) (hb : b.data.toList = textL g) : TextE g (.returned (.tuple #[.string b, .int .i64 0])) := .inr ⟨h, by rw [← hb, bytes_back]⟩
theorem word_len (f : F) (h : isFormal f.k f.n = true) : (wordL f).length ≤ 8 := by
  obtain ⟨k, n⟩ := f
  rcases formal_cases h with ⟨rfl | rfl | rfl, rfl⟩ | ⟨rfl | rfl, rfl | rfl | rfl | rfl⟩
  all_goals
    unfold wordL isShaped
    simp only [Lib.toList_data]
    decide +kernel
theorem join_len : ∀ (ws : List (List UInt8)), (∀ w ∈ ws, w.length ≤ 8) → (Lib.join ws [32, 44, 32]).length ≤ 11 * ws.length
  | [], _ => by simp [Lib.join, List.intercalate]
  | [w], h => by
    have := h w (by simp)
    have e : Lib.join [w] [32, 44, 32] = w := by simp [Lib.join, List.intercalate]
    rw [e]; simp; omega
  | w :: w2 :: r, h => by
    have ih := join_len (w2 :: r) (fun x hx => h x (by simp [hx]))
    have hw := h w (by simp)
    have e : Lib.join (w :: w2 :: r) [32, 44, 32] = w ++ ([32, 44, 32] ++ Lib.join (w2 :: r) [32, 44, 32]) := by simp [Lib.join, List.intercalate]
    rw [e]
    simp only [List.length_append, List.length_cons, List.length_nil] at ih ⊢
    omega
theorem strs_at' (l : List (List UInt8)) (j : Nat) (h : j < l.length) : (strs l)[j]? = some (.string ⟨l[j].toArray⟩) := by
  unfold strs
  simp [h]
theorem strs_snoc' (l : List (List UInt8)) (x : List UInt8) : strs (l ++ [x]) = strs l ++ [.string ⟨x.toArray⟩] := by
  simp [strs]
theorem joinS (l : List (List UInt8)) (v : Value) (base : Nat) (w : World) (hown : w.ownsRow base 9 1 v l.length (strs l)) (hN : l.length ≤ 140737488355328) (hlen : (Lib.join l [32, 44, 32]).length ≤ 140737488355328) :
    Calls Tryz.prog 22 #[v, .string ⟨#[32, 44, 32]⟩] w fun e w' => e = .returned (.string ⟨(Lib.join l [32, 44, 32]).toArray⟩) ∧ Below w.heap.size w w' := by
  rcases Nat.eq_zero_or_pos l.length with h0 | h0
  · obtain rfl : l = [] := List.eq_nil_of_length_eq_zero h0
    have hv : ∃ A c, v = .slice A 0 c := by
      rcases hown.2 with ⟨rfl, _⟩ | ⟨g, cap, cur, rfl, _⟩
      · exact ⟨_, _, rfl⟩
      · exact ⟨_, _, rfl⟩
    obtain ⟨A, c, rfl⟩ := hv
    exact (Tryz.strings_Join_none A c ⟨#[32, 44, 32]⟩ w).mono fun e w' ⟨h1, h2⟩ => ⟨h1, h2 ▸ Below.refl _ _⟩
  · obtain ⟨g, cap, rfl, hnc, hm, hcell⟩ := own_cell hown h0
    have hxs : (l.map fun x => (⟨x.toArray⟩ : ByteArray)).map (·.data.toList) = l := by
      rw [List.map_map]
      conv => rhs; rw [← List.map_id l]
      congr 1
    have hlt : g < w.heap.size := cell_lt ((hcell 0 h0).trans (strs_at' l 0 h0))
    have := Tryz.strings_Join g 0 cap (l.map fun x => (⟨x.toArray⟩ : ByteArray)) ⟨#[32, 44, 32]⟩ w ?_ hlt (by rw [List.length_map]; exact hN) (by rw [List.length_map]; exact hnc) (by rw [hxs]; exact hlen)
    · rw [hxs, List.length_map] at this
      exact this
    · intro j x hx
      rw [List.getElem?_map, Option.map_eq_some_iff] at hx
      obtain ⟨y, hy, rfl⟩ := hx
      obtain ⟨hj, rfl⟩ := List.getElem?_eq_some_iff.1 hy
      rw [Nat.zero_add, hcell j hj, strs_at' l j hj]

set_option maxHeartbeats 8000000 in
set_option maxRecDepth 100000 in
theorem Text9_any (g : G) (v : Value) (w : World) (hT : Tab w) (hv : GV w v g) (hs : g.name.size ≤ 4611686018427387904) :
    Calls Tryz.prog 10 #[v] w fun e w' => TextE g e ∧ Below w.heap.size w w' := by
  have HV := fun u (hb : Below w.heap.size w u) => hide' (Valid_any g v u (hT.on hb) (hv.on hb) hs)
  have HNo := hide' (fun h => textE_no (g := g) h)
  have HYes := hide' (fun b h hb => textE_yes (g := g) (b := b) h hb)
  have hfm := @validG_formals g
  have hvl : validG g = true → g.fs.length ≤ 6 := fun h => by unfold validG at h; simp only [Bool.and_eq_true, decide_eq_true_eq] at h; exact h.2.2
  have hrs : validG g = true → g.res.size ≤ 4 := fun h => by
    unfold validG at h
    simp only [Bool.and_eq_true] at h
    rcases res_chars h.2.1.1 with e | e | e <;> rw [e] <;> decide
  obtain ⟨X, rfl, A, cap, rfl, hca, hma, hA⟩ := hv
  have CB : Hid (∀ w1, Below (w.alloc (.cells #[.string g.name, .slice A g.fs.length cap, .string g.res] 25)).heap.size (w.alloc (.cells #[.string g.name, .slice A g.fs.length cap, .string g.res] 25)) w1 → _) := fun w1 hb => box3 hb
  obtain ⟨q, hq⟩ : ∃ q, validG g = q := ⟨_, rfl⟩
  rw [hq] at HV hfm hvl hrs
  have HQ := hide' hq
  obtain ⟨name, fs, res⟩ := g
  simp only at hca hma hA hs HV CB hfm
  have HA : Hid (0 < fs.length → ∃ b off, A = some ⟨b, off, none⟩ ∧ FCells w b off fs) := hA
  rw [show maxLen = 9223372036854775807 from rfl] at hma
  have HFM := hide' hfm
  have HVL := hide' hvl
  have HRS := hide' hrs
  clear hA hq hfm hvl hrs
  obtain ⟨i0, hi, hz0, hz1, hz2⟩ := info_parts strInfo
  go_enter Tryz.func10, Tryz.ntmps10
  obtain ⟨d1, d2, d3⟩ := CB.out _ (Below.refl _ _)
  go_wp2_with fail
  refine (HV _ (box_below (Below.refl _ _))).out.mono ?_
  rintro e w1 ⟨rfl, hb1⟩
  clear d1 d2 d3 HV
  obtain ⟨d1, d2, d3⟩ := CB.out _ hb1
  have HB1 := hide' hb1
  clear hb1
  cases q
  · have h0 := hide' (HNo.out HQ.out)
    have hend := hide' (box_below HB1.out)
    clear HNo HYes HFM HVL HRS CB HA
    go_wp2_with fail
    go_ret2
    exact ⟨h0.out, hend.out⟩
  have hfl : fs.length ≤ 6 := HVL.out (by simp)
  have hrl : res.size ≤ 4 := HRS.out (by simp)
  have HFF : Hid (∀ f ∈ fs, isFormal f.k f.n = true) := HFM.out (by simp)
  have HY : Hid (∀ b : ByteArray, b.data.toList = textL ⟨name, fs, res⟩ → TextE ⟨name, fs, res⟩ (.returned (.tuple #[.string b, .int .i64 0]))) := fun b hb => HYes.out b HQ.out hb
  clear HNo HYes HFM HVL HRS
  go_wp2_with fail
  clear d1 d2 d3
  go_loopw [4, 14] (fun x i wr => ∃ (k : Nat), k ≤ fs.length ∧ i = .int .i64 k ∧ wr.ownsRow w1.heap.size 9 1 x k (strs ((fs.map wordL).take k)) ∧ Below w1.heap.size w1 wr) (fun _ i _ => fs.length - (intOf i).toNat)
  case atStart => exact ⟨0, Nat.zero_le _, rfl, World.ownsRow_nil _ _ _ _, Below.refl _ _⟩
  case round =>
    obtain ⟨k, hk, rfl, hown, hnx⟩ := hrel
    have hbx := HB1.out.trans (hnx.mono HB1.out.size)
    by_cases hlt : k < fs.length
    · obtain ⟨b, off, rfl, hCA⟩ := HA.out (by omega)
      obtain ⟨x1, x2⟩ := (hCA.on (box_below hbx)) k hlt
      have HW := fun u => hide' (word9_any fs[k] (HFF.out _ (List.getElem_mem hlt)) u)
      have htk : (fs.map wordL).take (k + 1) = (fs.map wordL).take k ++ [wordL fs[k]] := by
        rw [List.take_succ_eq_append_getElem (by simpa using hlt)]; simp
      obtain ⟨f, hf⟩ : ∃ f, fs[k] = f := ⟨_, rfl⟩
      rw [hf] at x1 x2 HW htk
      obtain ⟨wd, hwd⟩ : ∃ x, wordL f = x := ⟨_, rfl⟩
      rw [hwd] at HW htk
      obtain ⟨fk, fn⟩ := f
      simp only at x1 x2 HW
      have HTK := hide' htk
      have hk0 : (0 : Int) ≤ (k : Int) := by omega
      have hk1 : (k : Int) < (fs.length : Int) := by omega
      clear hf hwd htk hCA HA hbx CB
      obtain ⟨wb, hwb⟩ : ∃ x : ByteArray, x = ⟨wd.toArray⟩ := ⟨_, rfl⟩
      rw [← hwb] at HW
      have HWB := hide' hwb
      have D0 : Hid (∀ w2, Below (wr.alloc (.cells #[.string fk, .int .i64 fn] 35)).heap.size (wr.alloc (.cells #[.string fk, .int .i64 fn] 35)) w2 → w2.cell? ⟨wr.heap.size, 0, none⟩ = some (.string fk) ∧ w2.cell? ⟨wr.heap.size, 1, none⟩ = some (.int .i64 fn)) := fun w2 hb => ⟨(hb.cell (by simp)).trans (cells_new' wr #[.string fk, .int .i64 fn] 35 0 _ rfl rfl), (hb.cell (by simp)).trans (cells_new' wr #[.string fk, .int .i64 fn] 35 1 _ rfl rfl)⟩
      obtain ⟨c5, c6⟩ := D0.out _ (Below.refl _ _)
      clear hwb
      go_wp2_with fail
      refine (HW _).out.mono ?_
      rintro e w3 ⟨rfl, hb3⟩
      have hb4 := hnx.trans ((box_below hb3).mono hnx.size)
      have hown3 := ownsRow_below hown (box_below hb3)
      clear c5 c6 hb3 HW hown
      go_wp2_with (at_builtin; go_must (refine wpList_append_own _ rfl _ _ 42 rfl w1.heap.size 9 i0 _ 1 16 Tryz.underlying42 hi hz0 hz1 hz2 rfl (by decide) _ _ _ rfl (hown3.alloc _) ⟨w3.heap.size, 0, none⟩ 1 1 [.string wb] rfl rfl ?c1 ?c2 ?c3 ?c4 ?c5 ?_))
      case c1 => intro j u hu; exact cells_new' w3 _ _ j u hu rfl
      case c2 => intro u hu; simp at hu; subst hu; rfl
      case c3 => unfold maxLen; omega
      case c4 => omega
      case c5 => have := hb4.size; simp; omega
      intro v'' w5 hown5 hg5 _
      have hb5 := (hb4.alloc hb4.size (.cells #[.string wb] 9)).grown hg5 (by have := hb4.size; simp; omega) (fun k hk => (hown3.lt k hk).1)
      go_wp2_with fail
      go_roundw
      case rel => exact ⟨k + 1, by omega, by go_num, by rw [HTK.out, strs_snoc', ← HWB.out]; exact hown5, hb5⟩
      case measure => simp [intOf]; omega
    · have hke : k = fs.length := by omega
      subst hke
      have hwl : ∀ w ∈ fs.map wordL, w.length ≤ 8 := fun w hw => by
        obtain ⟨f, hf, rfl⟩ := List.mem_map.1 hw
        exact word_len f (HFF.out f hf)
      have HWN : Hid (∀ w ∈ fs.map wordL, w ≠ []) := fun w hw => by
        obtain ⟨f, hf, rfl⟩ := List.mem_map.1 hw
        exact (word_no_comma f (HFF.out f hf)).2.2
      have hjl := join_len _ hwl
      rw [List.length_map] at hjl
      have hown' : wr.ownsRow w1.heap.size 9 1 u4 (fs.map wordL).length (strs (fs.map wordL)) := by
        rw [List.take_of_length_le (by rw [List.length_map]; exact Nat.le_refl _)] at hown
        rw [List.length_map]; exact hown
      have HJ := hide' (joinS (fs.map wordL) u4 w1.heap.size wr hown' (by rw [List.length_map]; omega) (by omega))
      obtain ⟨jb, hjb⟩ : ∃ x : ByteArray, x = ⟨(Lib.join (fs.map wordL) [32, 44, 32]).toArray⟩ := ⟨_, rfl⟩
      rw [← hjb] at HJ
      have hjs : jb.size ≤ 66 := by rw [hjb]; show (Lib.join (fs.map wordL) [32, 44, 32]).toArray.size ≤ 66; simp only [List.size_toArray]; omega
      have HJB := hide' (show jb.data.toList = Lib.join (fs.map wordL) [32, 44, 32] by rw [hjb])
      have HBX := hide' hbx
      clear hwl hjl hown hown' hjb hnx hbx HA HFF
      go_wp2_with fail
      refine HJ.out.mono ?_
      rintro e w3 ⟨rfl, hb3⟩
      have hb4 := HBX.out.trans (hb3.mono HBX.out.size)
      obtain ⟨d1, d2, d3⟩ := CB.out _ hb4
      have hend := hide' (box_below hb4)
      clear HJ hb3 hb4 CB
      by_cases h0 : fs = []
      · have hj0 : jb = ⟨#[]⟩ := by
          have h := HJB.out
          rw [h0] at h
          have h2 : jb.data.toList = [] := h
          cases jb; simp_all
        subst hj0
        have ht := hide' (HY.out (name ++ ⟨#[32, 40, 32]⟩ ++ ⟨#[]⟩ ++ ⟨#[41, 32, 58, 32]⟩ ++ res) (by unfold textL innerL; rw [if_pos h0]; simp [ByteArray.data_append]))
        clear h0 HY HJB hjs
        go_wp2_with fail
        go_ret2
        exact ⟨ht.out, hend.out⟩
      · have hne : jb.data.toList ≠ [] := by
          rw [HJB.out]
          exact join_ne (by simpa using h0) HWN.out
        have hn1 : jb.toList.isEmpty = false := by rw [Lib.toList_data]; cases h : jb.data.toList with
          | nil => exact absurd h hne
          | cons a b => rfl
        have ht := hide' (HY.out (name ++ ⟨#[32, 40, 32]⟩ ++ (jb ++ ⟨#[32]⟩) ++ ⟨#[41, 32, 58, 32]⟩ ++ res) (by unfold textL innerL; rw [if_neg h0]; simp [ByteArray.data_append, HJB.out]))
        clear h0 HY HJB hne
        go_wp2_with fail
        go_ret2
        exact ⟨ht.out, hend.out⟩

end Go.Proofs.YtdmdfokkibijjaaGreatDoor
