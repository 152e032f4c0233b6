/-
  Layer 9: the walk of Text of the document's answer.
-/
import Derived.Test.YtdmdfokkibijjaaGreatDoorSW37
namespace Go.Proofs.YtdmdfokkibijjaaGreatDoor
open Go.RowKit
open Sgn
set_option linter.unusedVariables false
set_option linter.unusedSimpArgs false

theorem join_snoc : ∀ (xs : List (List UInt8)) (x : List UInt8), xs ≠ [] → Lib.join (xs ++ [x]) [32, 44, 32] = Lib.join xs [32, 44, 32] ++ ([32, 44, 32] ++ x)
  | [], _, h => absurd rfl h
  | [y], x, _ => by simp [Lib.join, List.intercalate]
  | y :: z :: r, x, _ => by
    have ih := join_snoc (z :: r) x (by simp)
    have e1 : Lib.join ((y :: z :: r) ++ [x]) [32, 44, 32] = y ++ ([32, 44, 32] ++ Lib.join ((z :: r) ++ [x]) [32, 44, 32]) := by simp [Lib.join, List.intercalate]
    have e2 : Lib.join (y :: z :: r) [32, 44, 32] = y ++ ([32, 44, 32] ++ Lib.join (z :: r) [32, 44, 32]) := by simp [Lib.join, List.intercalate]
    rw [e1, e2, ih]
    simp
/-- what stands behind the name and '(' -/
def preL (ws : List (List UInt8)) : List UInt8 := if ws = [] then [] else 32 :: Lib.join ws [32, 44, 32]
theorem preL_first (x : List UInt8) : preL [x] = 32 :: x := by
  unfold preL
  simp [Lib.join, List.intercalate]
theorem preL_snoc (ws : List (List UInt8)) (x : List UInt8) (h : ws ≠ []) : preL (ws ++ [x]) = preL ws ++ ([32, 44] ++ 32 :: x) := by
  unfold preL
  rw [if_neg (by simp), if_neg h, join_snoc ws x h]
  simp
theorem text_of_pre (g : G) : g.name.data.toList ++ [32, 40] ++ preL (g.fs.map wordL) ++ [32, 41, 32, 58, 32] ++ g.res.data.toList = textL g := by
  unfold textL innerL preL
  by_cases h : g.fs = []
  · rw [h]; simp
  · rw [if_neg h, if_neg (by simpa using h)]; simp

set_option maxHeartbeats 8000000 in
set_option maxRecDepth 100000 in
theorem rText9_any (g : G) (v : Value) (w : World) (hT : Tab w) (hv : GV w v g) (hs : g.name.size ≤ 4611686018427387904) :
    Calls Tryz.prog 11 #[v] w fun e w' => TextE g e ∧ Below w.heap.size w w' := by
  have HV := fun u (hb : Below w.heap.size w u) => hide' (rValid9_any g v u (hT.on hb) (hv.on hb) hs)
  have HNo := hide' (fun h => textE_no (g := g) h)
  have HYes := hide' (fun b h hb => textE_yes (g := g) (b := b) h hb)
  have HTP := hide' (text_of_pre g)
  have hfm := @validG_formals g
  have hvl : validG g = true → g.fs.length ≤ 6 := fun h => by unfold validG at h; simp only [Bool.and_eq_true, decide_eq_true_eq] at h; exact h.2.2
  have hrs : validG g = true → g.res.size ≤ 4 := fun h => by
    unfold validG at h
    simp only [Bool.and_eq_true] at h
    rcases res_chars h.2.1.1 with e | e | e <;> rw [e] <;> decide
  obtain ⟨X, rfl, A, cap, rfl, hca, hma, hA⟩ := hv
  have CB : Hid (∀ w1, Below (w.alloc (.cells #[.string g.name, .slice A g.fs.length cap, .string g.res] 25)).heap.size (w.alloc (.cells #[.string g.name, .slice A g.fs.length cap, .string g.res] 25)) w1 → _) := fun w1 hb => box3 hb
  obtain ⟨q, hq⟩ : ∃ q, validG g = q := ⟨_, rfl⟩
  rw [hq] at HV hfm hvl hrs
  have HQ := hide' hq
  obtain ⟨name, fs, res⟩ := g
  simp only at hca hma hA hs HV CB hfm HTP
  have HA : Hid (0 < fs.length → ∃ b off, A = some ⟨b, off, none⟩ ∧ FCells w b off fs) := hA
  rw [show maxLen = 9223372036854775807 from rfl] at hma
  have HFM := hide' hfm
  have HVL := hide' hvl
  have HRS := hide' hrs
  clear hA hq hfm hvl hrs
  go_enter Tryz.func11, Tryz.ntmps11
  obtain ⟨d1, d2, d3⟩ := CB.out _ (Below.refl _ _)
  go_wp2_with fail
  refine (HV _ (box_below (Below.refl _ _))).out.mono ?_
  rintro e w1 ⟨rfl, hb1⟩
  clear d1 d2 d3 HV
  obtain ⟨d1, d2, d3⟩ := CB.out _ hb1
  have HB1 := hide' hb1
  clear hb1
  cases q
  · have h0 := hide' (HNo.out HQ.out)
    have hend := hide' (box_below HB1.out)
    clear HNo HYes HFM HVL HRS CB HA
    go_wp2_with fail
    go_ret2
    exact ⟨h0.out, hend.out⟩
  have hfl : fs.length ≤ 6 := HVL.out (by simp)
  have hrl : res.size ≤ 4 := HRS.out (by simp)
  have HFF : Hid (∀ f ∈ fs, isFormal f.k f.n = true) := HFM.out (by simp)
  have HY : Hid (∀ b : ByteArray, b.data.toList = textL ⟨name, fs, res⟩ → TextE ⟨name, fs, res⟩ (.returned (.tuple #[.string b, .int .i64 0]))) := fun b hb => HYes.out b HQ.out hb
  clear HNo HYes HFM HVL HRS
  go_wp2_with fail
  clear d1 d2 d3
  go_loopw [4, 5] (fun x i wr => ∃ (k : Nat) (o : ByteArray), k ≤ fs.length ∧ i = .int .i64 k ∧ x = .string o ∧ o.size ≤ name.size + 2 + 12 * k ∧ Hid (o.data.toList = name.data.toList ++ [32, 40] ++ preL ((fs.map wordL).take k)) ∧ Below w1.heap.size w1 wr) (fun _ i _ => fs.length - (intOf i).toNat)
  case atStart => exact ⟨0, name ++ ⟨#[32, 40]⟩, Nat.zero_le _, rfl, rfl, by rw [ByteArray.size_append]; have : (ByteArray.mk #[32, 40]).size = 2 := rfl; omega, (by show _ = _; simp [preL, ByteArray.data_append]), Below.refl _ _⟩
  case round =>
    obtain ⟨k, o, hk, rfl, rfl, hos, hO, hnx⟩ := hrel
    have hbx := HB1.out.trans (hnx.mono HB1.out.size)
    obtain ⟨d1, d2, d3⟩ := CB.out _ hbx
    by_cases hlt : k < fs.length
    · obtain ⟨b, off, rfl, hCA⟩ := HA.out (by omega)
      obtain ⟨x1, x2⟩ := (hCA.on (box_below hbx)) k hlt
      have HW := fun u => hide' (formal9_any fs[k] (HFF.out _ (List.getElem_mem hlt)) u)
      have hwl := word_len fs[k] (HFF.out _ (List.getElem_mem hlt))
      have htk : (fs.map wordL).take (k + 1) = (fs.map wordL).take k ++ [wordL fs[k]] := by
        rw [List.take_succ_eq_append_getElem (by simpa using hlt)]; simp
      obtain ⟨f, hf⟩ : ∃ f, fs[k] = f := ⟨_, rfl⟩
      rw [hf] at x1 x2 HW htk hwl
      obtain ⟨wd, hwd⟩ : ∃ x, wordL f = x := ⟨_, rfl⟩
      rw [hwd] at HW htk hwl
      obtain ⟨fk, fn⟩ := f
      simp only at x1 x2 HW
      obtain ⟨wb, hwb⟩ : ∃ x : ByteArray, x = ⟨wd.toArray⟩ := ⟨_, rfl⟩
      rw [← hwb] at HW
      have hws : wb.size ≤ 8 := by rw [hwb]; show wd.toArray.size ≤ 8; simpa using hwl
      have HWB := hide' (show wb.data.toList = wd by rw [hwb])
      have HTK := hide' htk
      have hk0 : (0 : Int) ≤ (k : Int) := by omega
      have hk1 : (k : Int) < (fs.length : Int) := by omega
      have HNX := hide' hnx
      clear hf hwd htk hCA HA hbx CB hwb hnx
      by_cases hz : k = 0
      · have hst := hide' (show (o ++ (⟨#[32]⟩ ++ wb)).data.toList = name.data.toList ++ [32, 40] ++ preL ((fs.map wordL).take (k + 1)) by
          rw [HTK.out]
          subst hz
          have h := hO.out
          simp only [List.take_zero, List.nil_append] at h ⊢
          rw [preL_first]
          simp [ByteArray.data_append, h, HWB.out, preL])
        have hz' : decide ((0 : Int) < (k : Int)) = false := decide_eq_false (by omega)
        have hz2 : decide (0 < k) = false := decide_eq_false (by omega)
        clear hz
        go_wp2_with fail
        refine (HW _).out.mono ?_
        rintro e w3 ⟨rfl, hb3⟩
        have hb4 := HNX.out.trans (hb3.mono HNX.out.size)
        clear HW hb3
        go_wp2_with fail
        go_roundw
        case rel => exact ⟨k + 1, _, by omega, by go_num, rfl, by simp only [ByteArray.size_append]; have : (ByteArray.mk #[32]).size = 1 := rfl; omega, hst.out, hb4⟩
        case measure => simp [intOf]; omega
      · have hst := hide' (show (o ++ ⟨#[32, 44]⟩ ++ (⟨#[32]⟩ ++ wb)).data.toList = name.data.toList ++ [32, 40] ++ preL ((fs.map wordL).take (k + 1)) by
          rw [HTK.out, preL_snoc _ _ (by
            intro h
            have := congrArg List.length h
            rw [List.length_take, List.length_map] at this
            have h0 : ([] : List (List UInt8)).length = 0 := rfl
            omega)]
          simp [ByteArray.data_append, hO.out, HWB.out])
        have hz' : decide ((0 : Int) < (k : Int)) = true := decide_eq_true (by omega)
        have hz2 : decide (0 < k) = true := decide_eq_true (by omega)
        clear hz
        go_wp2_with fail
        refine (HW _).out.mono ?_
        rintro e w3 ⟨rfl, hb3⟩
        have hb4 := HNX.out.trans (hb3.mono HNX.out.size)
        clear HW hb3
        go_wp2_with fail
        go_roundw
        case rel => exact ⟨k + 1, _, by omega, by go_num, rfl, by simp only [ByteArray.size_append]; have : (ByteArray.mk #[32]).size = 1 := rfl; have : (ByteArray.mk #[32, 44]).size = 2 := rfl; omega, hst.out, hb4⟩
        case measure => simp [intOf]; omega
    · have hke : k = fs.length := by omega
      subst hke
      have ht := hide' (HY.out (o ++ ⟨#[32, 41, 32, 58, 32]⟩ ++ res) (by
        rw [← HTP.out]
        have h := hO.out
        rw [List.take_of_length_le (by rw [List.length_map]; exact Nat.le_refl _)] at h
        simp [ByteArray.data_append, h]))
      have hend := hide' (box_below hbx)
      clear hO HY HTP HA hbx hnx CB HFF
      go_wp2_with fail
      go_ret2
      exact ⟨ht.out, hend.out⟩

end Go.Proofs.YtdmdfokkibijjaaGreatDoor
