/-
  Layer 9: the walk of Parse of the document's answer.
-/
import Derived.Test.YtdmdfokkibijjaaGreatDoorSW38
import Derived.BigRegion
import Derived.IntWalk
import Derived.Test.YtdmdfokkibijjaaGreatDoorSW29
import Derived.Deep.DeepCutAuto
import Derived.Maps.AppendAt
namespace Go.Proofs.YtdmdfokkibijjaaGreatDoor
open Go.RowKit
open Sgn
set_option linter.unusedVariables false
set_option linter.unusedSimpArgs false

theorem take_snoc9 (s : ByteArray) (k : Nat) (h : k < s.size) : s.data.toList.take (k + 1) = s.data.toList.take k ++ [s[k]] := by
  rw [List.take_succ_eq_append_getElem (by simpa using h)]; rfl
theorem extract_one (s : ByteArray) (k : Nat) (h : k < s.size) : (s.extract k (k + 1)).data.toList = [s[k]] := by
  rw [Lib.extract_data]
  have e : k + 1 - k = 1 := by omega
  rw [e, List.drop_eq_getElem_cons (by simpa using h)]
  rfl
theorem strs_set (init : List (List UInt8)) (last : List UInt8) (b : ByteArray) : (strs (init ++ [last])).set init.length (.string b) = strs (init ++ [b.data.toList]) := by
  simp [strs]
theorem words9_le : ∀ (l : List UInt8), (words9 l).length ≤ l.length + 1
  | [] => by simp [words9]
  | c :: r => by
    have ih := words9_le r
    rw [words9_cons]
    split
    · simp; omega
    · split
      · rename_i w ws h
        rw [h] at ih
        simp at ih ⊢; omega
      · simp
theorem words9_mem_le : ∀ (l : List UInt8) (w : List UInt8), w ∈ words9 l → w.length ≤ l.length
  | [], w, h => by simp [words9] at h; subst h; simp
  | c :: r, w, h => by
    rw [words9_cons] at h
    by_cases hc : c = 32
    · rw [if_pos hc] at h
      rcases List.mem_cons.1 h with rfl | h
      · simp
      · have := words9_mem_le r w h
        simp; omega
    · rw [if_neg hc] at h
      cases hr : words9 r with
      | nil => exact absurd hr (words9_ne r)
      | cons a b =>
        rw [hr] at h
        rcases List.mem_cons.1 h with rfl | h
        · have := words9_mem_le r a (by rw [hr]; simp)
          simp; omega
        · have := words9_mem_le r w (by rw [hr]; simp [h])
          simp; omega
def WordsEnd (s : ByteArray) (w w' : World) (e : Ending) : Prop := ∃ v, e = .returned v ∧ w'.ownsRow w.heap.size 9 1 v (words9 s.data.toList).length (strs (words9 s.data.toList)) ∧ Below w.heap.size w w'

set_option maxHeartbeats 8000000 in
set_option maxRecDepth 100000 in
theorem words9_any (s : ByteArray) (w : World) (hs : s.size ≤ 100000) :
    Calls Tryz.prog 18 #[.string s] w fun e w' => WordsEnd s w w' e := by
  obtain ⟨i0, hi, hz0, hz1, hz2⟩ := info_parts strInfo
  go_enter Tryz.func18, Tryz.ntmps18
  go_wp2_with fail
  go_loopw [3, 4] (fun v i wr => ∃ (k : Nat) (ws : List (List UInt8)), k ≤ s.size ∧ i = .int .i64 k ∧ wr.ownsRow w.heap.size 9 1 v ws.length (strs ws) ∧ ws.length ≤ k + 1 ∧ Hid (ws = words9 (s.data.toList.take k)) ∧ Below w.heap.size w wr) (fun _ i _ => s.size - (intOf i).toNat)
  case atStart => exact ⟨0, [[]], Nat.zero_le _, rfl, World.ownsRow_lit _ _ 1 (Nat.le_refl _) (by unfold maxLen; omega) rfl, by simp, rfl, (Below.refl _ _).alloc (Nat.le_refl _) _⟩
  case round =>
    obtain ⟨k, ws, hk, rfl, hown, hwl, hW, hnx⟩ := hrel
    by_cases hlt : k < s.size
    · have hts := take_snoc9 s k hlt
      have HTS := hide' hts
      clear hts
      have hk0 : (0 : Int) ≤ (k : Int) := by omega
      have hk1 : (k : Int) < (s.size : Int) := by omega
      cases h32 : ((s[k].toNat : Int) == 32)
      · have hc : s[k] ≠ 32 := fun e => by rw [e] at h32; exact absurd h32 (by decide)
        obtain ⟨init, last, e1, e2⟩ := words9_char (s.data.toList.take k) s[k] hc
        rw [← HTS.out] at e2
        have hws := hW.out.trans e1
        subst hws
        have hlen : (init ++ [last]).length = init.length + 1 := by simp
        rw [hlen] at hown hwl
        obtain ⟨g, cap, rfl, hnc, hm, hcell⟩ := own_cell hown (by omega)
        rw [show maxLen = 9223372036854775807 from rfl] at hm
        have x1 := (hcell init.length (by omega)).trans (strs_at' (init ++ [last]) init.length (by omega))
        simp only [List.getElem_append_right (Nat.le_refl _), Nat.sub_self, List.getElem_cons_zero] at x1
        have hfr := hown.frozenAt init.length
        have E2 := hide' e2
        have hlast : last.length ≤ 100000 := by
          have h1 := words9_mem_le (s.data.toList.take k) last (by rw [e1]; simp)
          rw [List.length_take] at h1
          omega
        obtain ⟨lb, hlb⟩ : ∃ x : ByteArray, x = ⟨last.toArray⟩ := ⟨_, rfl⟩
        rw [← hlb] at x1
        have hls : lb.size ≤ 100000 := by rw [hlb]; show last.toArray.size ≤ 100000; simpa using hlast
        have hes : (s.extract k (k + 1)).size ≤ 1 := by rw [ByteArray.size_extract]; omega
        have hed := extract_one s k hlt
        have HLB := hide' (show (lb ++ s.extract k (k + 1)).data.toList = last ++ [s[k]] by rw [ByteArray.data_append, Array.toList_append, hed, hlb])
        have hadd := fun u : World => run_string_add_sum (P := Tryz.prog) u lb (s.extract k (k + 1)) (by omega)
        have w1 : IntKind.i64.wrap ((init.length : Int) + 1 - 1) = (init.length : Int) := (IntWalk.i64_in ((init.length : Int) + 1 - 1) ⟨by omega, by omega⟩).trans (by omega)
        have w2 : IntKind.i64.wrap ((k : Int) + 1) = (k : Int) + 1 := IntWalk.i64_in ((k : Int) + 1) ⟨by omega, by omega⟩
        have w3 : (0 : Int) ≤ (k : Int) + 1 := by omega
        have w4 : ((k : Int) + 1).toNat = k + 1 := by omega
        have w5 : (k : Int) + 1 ≤ (s.size : Int) := by omega
        have w6 : (k : Int) ≤ (k : Int) + 1 := by omega
        have w7 : (0 : Int) ≤ (init.length : Int) := by omega
        have w8 : (init.length : Int) < (init.length : Int) + 1 := by omega
        clear e1 e2 hW hcell hlb hed hes hlast
        go_wp2_with fail
        go_region
        obtain ⟨hst, hgr⟩ := hown.stored init.length (.string (lb ++ s.extract k (k + 1)))
        rw [strs_set, HLB.out] at hst
        have hlo := (hown.lt g rfl).1
        have hb := (hnx.grown hgr hnx.size (fun j hj => by cases hj; exact hlo)).drew
        have hlen2 : (init ++ [last ++ [s[k]]]).length = init.length + 1 := by simp
        have HLEN := hide' hlen2
        clear hgr hlen2 hown hnx
        go_wp2_with fail
        go_roundw
        case rel => exact ⟨k + 1, init ++ [last ++ [s[k]]], by omega, by go_num, by rw [HLEN.out]; exact hst.drew, by rw [HLEN.out]; omega, E2.out.symm, hb⟩
        case measure => simp [intOf]; omega
      · have hc : s[k] = 32 := by
          have h := beq_iff_eq.1 h32
          have h2 : s[k].toNat = 32 := by omega
          exact UInt8.toNat_inj.1 h2
        have hws : words9 (s.data.toList.take (k + 1)) = ws ++ [[]] := by rw [HTS.out, hc, words9_space, ← hW.out]
        have HWS := hide' hws
        clear hws hc hW
        go_wp2_with (at_builtin; go_must (refine wpList_append_own _ rfl _ _ 42 rfl w.heap.size 9 i0 _ 1 16 Tryz.underlying42 hi hz0 hz1 hz2 rfl (by decide) _ _ _ rfl (hown.alloc _) ⟨wr.heap.size, 0, none⟩ 1 1 [.string ⟨#[]⟩] rfl rfl ?c1 ?c2 ?c3 ?c4 ?c5 ?_))
        case c1 => intro j u hu; exact cells_new' wr _ _ j u hu rfl
        case c2 => intro u hu; simp at hu; subst hu; rfl
        case c3 => unfold maxLen; omega
        case c4 => omega
        case c5 => have := hnx.size; simp; omega
        intro v'' w5 hown5 hg5 _
        have hb5 := (hnx.alloc hnx.size (.cells #[.string ⟨#[]⟩] 9)).grown hg5 (by have := hnx.size; simp; omega) (fun k hk => (hown.lt k hk).1)
        go_wp2_with fail
        go_roundw
        case rel => exact ⟨k + 1, ws ++ [[]], by omega, by go_num, by rw [strs_snoc', List.length_append]; exact hown5, by rw [List.length_append]; simp; omega, HWS.out.symm, hb5⟩
        case measure => simp [intOf]; omega
    · have hke : k = s.size := by omega
      subst hke
      have hw := hW.out
      rw [List.take_of_length_le (by simp)] at hw
      have hend : WordsEnd s w wr (.returned u3) := ⟨_, rfl, by rw [← hw]; exact hown, hnx⟩
      have HE := hide' hend
      clear hown hw hW hend hnx
      go_wp2_with fail
      go_ret
      exact HE.out

end Go.Proofs.YtdmdfokkibijjaaGreatDoor

namespace Go.Proofs.YtdmdfokkibijjaaGreatDoor
open Go.RowKit
open Sgn
set_option linter.unusedVariables false
set_option linter.unusedSimpArgs false

def zeroG : G := ⟨⟨#[]⟩, [], ⟨#[]⟩⟩
def pV (o : Option G) : G × Int := match o with
  | some g => (g, 0)
  | none => (zeroG, 3)
def ParseE (o : Option G) (w w' : World) (e : Ending) : Prop := ∃ x, e = .returned (.tuple #[x, .int .i64 (pV o).2]) ∧ GV w' x (pV o).1 ∧ Below w.heap.size w w'

theorem headD_at' {a : List (List UInt8)} (h : 0 < a.length) : a.headD [] = a[0] := by
  match a, h with
  | x :: r, _ => rfl
theorem lastD_at {a : List (List UInt8)} {m : Nat} (h : a.length = m + 1) : a.getLastD [] = a[m] := by
  have hne : a ≠ [] := fun e => by rw [e] at h; cases h
  rw [List.getLastD_eq_getLast?, List.getLast?_eq_some_getLast hne, List.getLast_eq_getElem hne]
  simp [h]
theorem far_new40 {b n : Nat} {v v' : Value} (h : v.ownBlock ≠ some b) (hb : b < n) (hv : v'.ownBlock = v.ownBlock ∨ v'.ownBlock = some n) : v'.ownBlock ≠ some b := by
  rcases hv with hv | hv
  · rw [hv]; exact h
  · rw [hv]; intro e; cases e; omega
theorem set3 {w5 : World} {B : Nat} {x0 x1 x2 a b c : Value} (q0 : w5.cell? ⟨B, 0, none⟩ = some x0) (q1 : w5.cell? ⟨B, 1, none⟩ = some x1) (q2 : w5.cell? ⟨B, 2, none⟩ = some x2) :
    (((w5.setCell ⟨B, 0, none⟩ a).setCell ⟨B, 1, none⟩ b).setCell ⟨B, 2, none⟩ c).cell? ⟨B, 0, none⟩ = some a ∧ (((w5.setCell ⟨B, 0, none⟩ a).setCell ⟨B, 1, none⟩ b).setCell ⟨B, 2, none⟩ c).cell? ⟨B, 1, none⟩ = some b ∧
      (((w5.setCell ⟨B, 0, none⟩ a).setCell ⟨B, 1, none⟩ b).setCell ⟨B, 2, none⟩ c).cell? ⟨B, 2, none⟩ = some c := by
  refine ⟨?_, ?_, ?_⟩
  · exact (World.cell?_setCell_other _ _ _ _ (by simp)).trans ((World.cell?_setCell_other _ _ _ _ (by simp)).trans (World.cell?_setCell_same _ _ _ q0))
  · exact (World.cell?_setCell_other _ _ _ _ (by simp)).trans (World.cell?_setCell_same _ _ _ ((World.cell?_setCell_other _ _ _ _ (by simp)).trans q1))
  · exact World.cell?_setCell_same _ _ _ ((World.cell?_setCell_other _ _ _ _ (by simp)).trans ((World.cell?_setCell_other _ _ _ _ (by simp)).trans q2))
theorem FSl.nil (w : World) : FSl w (.slice none 0 0) [] := ⟨none, 0, rfl, Nat.le_refl _, Nat.zero_le _, fun h => by cases h⟩
theorem drop2 {W : List (List UInt8)} {i : Nat} (h : i + 1 < W.length) : W.drop i = W[i] :: W[i + 1] :: W.drop (i + 2) := by
  rw [List.drop_eq_getElem_cons (by omega), List.drop_eq_getElem_cons (by omega)]

set_option maxHeartbeats 32000000 in
set_option maxRecDepth 100000 in
theorem rParse9_any (s : ByteArray) (w : World) (hT : Tab w) (hs : s.size ≤ 100000) :
    Calls Tryz.prog 7 #[.string s] w fun e w' => ParseE (parseR (some (refS s.data.toList)) s.data.toList) w w' e := by
  have HT := fun u (hb : Below w.heap.size w u) => hide' (hT.on hb)
  have HWW := fun u => hide' (words9_any s u hs)
  unfold WordsEnd at HWW
  have hpos : 0 < (words9 s.data.toList).length := by
    cases h : words9 s.data.toList with
    | nil => exact absurd h (words9_ne _)
    | cons a b => simp
  have hwle := words9_le s.data.toList
  have hn : (⟨((words9 s.data.toList).headD []).toArray⟩ : ByteArray) = (refS s.data.toList).name := rfl
  have hr : (⟨((words9 s.data.toList).getLastD []).toArray⟩ : ByteArray) = (refS s.data.toList).res := rfl
  have hf : refL (words9 s.data.toList).length ((words9 s.data.toList).drop 2) = (refS s.data.toList).fs := rfl
  obtain ⟨W, hW⟩ : ∃ x, words9 s.data.toList = x := ⟨_, rfl⟩
  rw [hW] at HWW hpos hwle hn hr hf
  have hsl : s.data.toList.length = s.size := by simp
  rw [hsl] at hwle
  obtain ⟨R, hR⟩ : ∃ x, refS s.data.toList = x := ⟨_, rfl⟩
  rw [hR] at hn hr hf ⊢
  obtain ⟨nm, fs, res⟩ := R
  simp only at hn hr hf
  have HN := hide' hn
  have HR := hide' hr
  have HF := hide' hf
  have HW := hide' hW
  obtain ⟨m, hm⟩ : ∃ m, W.length = m + 1 := ⟨W.length - 1, by omega⟩
  rw [hm] at HWW hwle
  have HM := hide' hm
  clear hn hr hf hW hR hT hm hsl
  go_enter Tryz.func7, Tryz.ntmps7
  go_wp2_with fail
  refine (HWW _).out.mono ?_
  rintro e w1 ⟨v, rfl, hown, hb1⟩
  obtain ⟨g, cap, rfl, hnc, hmx, hcell⟩ := own_cell hown (by omega)
  rw [show maxLen = 9223372036854775807 from rfl] at hmx
  have hlo := (hown.lt g rfl).1
  have hhi := (hown.lt g rfl).2
  have x0 : w1.cell? ⟨g, 0, none⟩ = some (.string nm) := by
    rw [hcell 0 (by omega), strs_at' W 0 hpos, ← HN.out, headD_at' hpos]
  have xl : w1.cell? ⟨g, m, none⟩ = some (.string res) := by
    rw [hcell m (by omega), strs_at' W m (by have := HM.out; omega), ← HR.out, lastD_at HM.out]
  have w1' : IntKind.i64.wrap ((m : Int) + 1 - 1) = (m : Int) := (IntWalk.i64_in ((m : Int) + 1 - 1) ⟨by omega, by omega⟩).trans (by omega)
  have w7 : (0 : Int) ≤ (m : Int) := by omega
  have w8 : (m : Int) < (m : Int) + 1 := by omega
  have HCW : Hid (∀ u, Below w1.heap.size w1 u → ∀ j (h : j < W.length), u.cell? ⟨g, j, none⟩ = some (.string ⟨W[j].toArray⟩)) := fun u hb j hj => by
    have h1 := (hcell j (by have := HM.out; omega)).trans (strs_at' W j hj)
    exact (hb.cell (cell_lt h1)).trans h1
  have HB1 := hide' (box_below hb1)
  have hR0 : w1.cell? ⟨w.heap.size, 0, none⟩ = some (.string ⟨#[]⟩) ∧ w1.cell? ⟨w.heap.size, 1, none⟩ = some (.slice none 0 0) ∧ w1.cell? ⟨w.heap.size, 2, none⟩ = some (.string ⟨#[]⟩) := box3 hb1
  have hR1 : w1.frozen? ⟨w.heap.size, 0, none⟩ = false ∧ w1.frozen? ⟨w.heap.size, 1, none⟩ = false ∧ w1.frozen? ⟨w.heap.size, 2, none⟩ = false := ⟨(hb1.frozen (by simp)).trans (by simp), (hb1.frozen (by simp)).trans (by simp), (hb1.frozen (by simp)).trans (by simp)⟩
  have hRb : w.heap.size < w1.heap.size := by have := hb1.size; simp at this; omega
  have HR0 := hide' hR0
  have HR1 := hide' hR1
  obtain ⟨i0, hi, hz0, hz1, hz2⟩ := info_parts formalInfo
  clear HWW hcell hb1 hown hR0 hR1
  go_wp2_with fail
  go_region
  have hB2 : Below w1.heap.size w1 (w1.alloc (.cells #[.string nm, .slice none 0 0, .string res] 25)).drew := ((Below.refl _ _).alloc (Nat.le_refl _) _).drew
  have e0 : (w1.alloc (.cells #[.string nm, .slice none 0 0, .string res] 25)).drew.cell? ⟨w1.heap.size, 0, none⟩ = some (.string nm) := cells_new' w1 #[.string nm, .slice none 0 0, .string res] 25 0 _ rfl rfl
  have e1 : (w1.alloc (.cells #[.string nm, .slice none 0 0, .string res] 25)).drew.cell? ⟨w1.heap.size, 1, none⟩ = some (.slice none 0 0) := cells_new' w1 #[.string nm, .slice none 0 0, .string res] 25 1 _ rfl rfl
  have e2 : (w1.alloc (.cells #[.string nm, .slice none 0 0, .string res] 25)).drew.cell? ⟨w1.heap.size, 2, none⟩ = some (.string res) := cells_new' w1 #[.string nm, .slice none 0 0, .string res] 25 2 _ rfl rfl
  have e3 : (w1.alloc (.cells #[.string nm, .slice none 0 0, .string res] 25)).drew.frozen? ⟨w1.heap.size, 1, none⟩ = false := by simp
  generalize (w1.alloc (.cells #[.string nm, .slice none 0 0, .string res] 25)).drew = w2 at *
  go_wp2_with fail
  go_loopw [6] (fun c wr => ∃ (i n : Nat) (done : List F) (v : Value), c = .int .i64 i ∧ 2 ≤ i ∧ i ≤ m + 2 ∧ done.length ≤ i ∧ m + 1 ≤ i + n ∧ wr.cell? ⟨w1.heap.size, 0, none⟩ = some (.string nm) ∧ wr.cell? ⟨w1.heap.size, 1, none⟩ = some v ∧ wr.cell? ⟨w1.heap.size, 2, none⟩ = some (.string res) ∧ wr.frozen? ⟨w1.heap.size, 1, none⟩ = false ∧ wr.ownsRow w1.heap.size 35 2 v done.length (fcells done) ∧ v.ownBlock ≠ some w1.heap.size ∧ Below w1.heap.size w1 wr ∧ Hid (done ++ refL n (W.drop i) = fs)) (fun c _ => m + 3 - (intOf c).toNat)
  case atStart => exact ⟨2, W.length, [], .slice none 0 0, rfl, by omega, by omega, by simp, by have := HM.out; omega, e0, e1, e2, e3, World.ownsRow_nil _ _ _ _, (fun h => by cases h), hB2, HF.out⟩
  case round =>
    clear e0 e1 e2 e3 hB2 x0 xl
    obtain ⟨i, n, done, v, rfl, hi2, him, hdl, hfu, c0, c1, c2, c3, hown, hfar, hnx, hD⟩ := hrel
    by_cases hlt : i + 3 < m + 1
    · have hd : decide ((i : Int) < (m : Int) + 1 - 3) = true := decide_eq_true (by omega)
      have hWl := HM.out
      have ya := HCW.out wr hnx i (by omega)
      have yb := HCW.out wr hnx (i + 1) (by omega)
      have hdr := drop2 (W := W) (i := i) (by omega)
      have hrl : (W.drop (i + 2)).length = m + 1 - (i + 2) := by rw [List.length_drop, hWl]
      obtain ⟨n, rfl⟩ : ∃ k, n = k + 1 := ⟨n - 1, by omega⟩
      have hD' := hD.out
      rw [hdr] at hD'
      have hdr1 : W.drop (i + 1) = W[i + 1] :: W.drop (i + 2) := List.drop_eq_getElem_cons (by omega)
      have f1 := refL_dig n W[i] W[i + 1] (W.drop (i + 2)) (by omega)
      have f3 := fun (hd : digP W[i] W[i + 1] = false) (hc : W[i] ≠ [44]) => (refL_plain n W[i] W[i + 1] (W.drop (i + 2)) (by omega) hd hc).trans (show _ = (⟨⟨W[i].toArray⟩, 0⟩ : F) :: refL n (W.drop (i + 1)) by rw [hdr1])
      have f2 := fun (h : W[i] = [44]) => (show refL (n + 1) (W[i] :: W[i + 1] :: W.drop (i + 2)) = refL n (W.drop (i + 1)) by rw [hdr1, h]; exact refL_comma n _ _ (by omega))
      have hdig : digP W[i] W[i + 1] = (isShaped ⟨W[i].toArray⟩ && (decide (W[i + 1].length = 1) && (decide (48 ≤ (W[i + 1].headD 0).toNat) && decide ((W[i + 1].headD 0).toNat ≤ 51)))) := rfl
      obtain ⟨a, ha⟩ : ∃ x, W[i] = x := ⟨_, rfl⟩
      obtain ⟨b, hb⟩ : ∃ x, W[i + 1] = x := ⟨_, rfl⟩
      rw [ha] at ya hD' f1 f2 f3 hdig
      rw [hb] at yb hD' f1 f2 f3 hdig
      obtain ⟨ab, hab⟩ : ∃ x : ByteArray, x = ⟨a.toArray⟩ := ⟨_, rfl⟩
      obtain ⟨bb, hbb⟩ : ∃ x : ByteArray, x = ⟨b.toArray⟩ := ⟨_, rfl⟩
      rw [← hab] at ya hdig f1 f3
      rw [← hbb] at yb
      have HAB := hide' hab
      have HBB := hide' hbb
      have HD1 := hide' hD'
      have HF1 := hide' f1
      have HF2 := hide' f2
      have HF3 := hide' f3
      have HDG := hide' hdig
      have HSH := fun u => hide' (rShaped_any ab 0 u)
      have hk0 : (0 : Int) ≤ (i : Int) := by omega
      have hk1 : (i : Int) < (m : Int) + 1 := by omega
      have hk2 : (i : Int) + 1 < (m : Int) + 1 := by omega
      have hk3 : (0 : Int) ≤ (i : Int) + 1 := by omega
      have HNX := hide' hnx
      clear ha hb hab hbb hD hD' f1 f2 f3 hdig hdr hdr1 hrl hWl hnx
      go_upto_region 7 with fail
      go_cut [62] (fun x wx => x = .bool (digP a b) ∧ Below (wr.alloc (.cells #[.string ab, .int .i64 0] 35)).heap.size (wr.alloc (.cells #[.string ab, .int .i64 0] 35)) wx)
      case first =>
        have z0 : (wr.alloc (.cells #[.string ab, .int .i64 0] 35)).cell? ⟨wr.heap.size, 0, none⟩ = some (.string ab) := cells_new' wr #[.string ab, .int .i64 0] 35 0 _ rfl rfl
        have z1 : (wr.alloc (.cells #[.string ab, .int .i64 0] 35)).cell? ⟨wr.heap.size, 1, none⟩ = some (.int .i64 0) := cells_new' wr #[.string ab, .int .i64 0] 35 1 _ rfl rfl
        clear c0 c1 c2 c3 hown HF1 HF2 HF3 HD1
        go_wp2_with fail
        refine (HSH _).out.mono ?_
        rintro e w3 ⟨rfl, hb3⟩
        have yb3 := (hb3.cell (Nat.lt_of_lt_of_le (cell_lt yb) (by simp))).trans ((World.cell?_alloc_lt wr (.cells #[.string ab, .int .i64 0] 35) _ (cell_lt yb)).trans yb)
        have HB3 := hide' hb3
        clear z0 z1 hb3 HSH ya yb
        cases q : isShaped ab
        · have hg := hide' (show digP a b = false by rw [HDG.out, q]; rfl)
          go_wp2_with fail
          go_meet
          exact ⟨by (rw [hg.out]; first | done | rfl), HB3.out⟩
        · by_cases hl1 : b.length = 1
          · obtain ⟨c, rfl⟩ : ∃ c, b = [c] := by
              match b, hl1 with
              | [c], _ => exact ⟨c, rfl⟩
            have hbe : bb = ⟨#[c]⟩ := HBB.out
            subst hbe
            clear hl1
            have hz1 : 0 < (⟨#[c]⟩ : ByteArray).size := by show 0 < 1; omega
            by_cases h48 : 48 ≤ c.toNat
            · have t1 : decide (48 ≤ c.toNat) = true := decide_eq_true h48
              have t1' : decide ((48 : Int) ≤ ((((⟨#[c]⟩ : ByteArray)[0]'hz1).toNat : Nat) : Int)) = true := decide_eq_true (show (48 : Int) ≤ ((c.toNat : Nat) : Int) by omega)
              by_cases h51 : c.toNat ≤ 51
              · have t2 : decide (c.toNat ≤ 51) = true := decide_eq_true h51
                have t2' : decide (((((⟨#[c]⟩ : ByteArray)[0]'hz1).toNat : Nat) : Int) ≤ (51 : Int)) = true := decide_eq_true (show ((c.toNat : Nat) : Int) ≤ 51 by omega)
                have hg := hide' (show digP a [c] = true by rw [HDG.out, q]; simp [h48, h51])
                clear h48 h51
                go_wp2_with fail
                go_meet
                exact ⟨by (rw [hg.out]; first | done | rfl), HB3.out⟩
              · have t2 : decide (c.toNat ≤ 51) = false := decide_eq_false h51
                have t2' : decide (((((⟨#[c]⟩ : ByteArray)[0]'hz1).toNat : Nat) : Int) ≤ (51 : Int)) = false := decide_eq_false (show ¬ ((c.toNat : Nat) : Int) ≤ 51 by omega)
                have hg := hide' (show digP a [c] = false by rw [HDG.out, q]; simp [h51])
                clear h48 h51
                go_wp2_with fail
                go_meet
                exact ⟨by (rw [hg.out]; first | done | rfl), HB3.out⟩
            · have t1 : decide (48 ≤ c.toNat) = false := decide_eq_false h48
              have t1' : decide ((48 : Int) ≤ ((((⟨#[c]⟩ : ByteArray)[0]'hz1).toNat : Nat) : Int)) = false := decide_eq_false (show ¬ (48 : Int) ≤ ((c.toNat : Nat) : Int) by omega)
              have hg := hide' (show digP a [c] = false by rw [HDG.out, q]; simp [h48])
              clear h48
              go_wp2_with fail
              go_meet
              exact ⟨by (rw [hg.out]; first | done | rfl), HB3.out⟩
          · have hbz : bb.size = b.length := by rw [HBB.out]; show b.toArray.size = b.length; simp
            have t0 : ((bb.size : Int) == 1) = false := by rw [beq_eq_false_iff_ne]; omega
            have hg := hide' (show digP a b = false by rw [HDG.out, q]; simp [hl1])
            clear hl1 hbz
            go_wp2_with fail
            go_meet
            exact ⟨by (rw [hg.out]; first | done | rfl), HB3.out⟩
      case rest =>
        obtain ⟨rfl, hbx⟩ := hcut
        have hbw := box_below hbx
        have c0' := (hbw.cell (cell_lt c0)).trans c0
        have c1' := (hbw.cell (cell_lt c1)).trans c1
        have c2' := (hbw.cell (cell_lt c2)).trans c2
        have c3' := (hbw.frozen (p := ⟨w1.heap.size, 1, none⟩) (cell_lt c1)).trans c3
        have hown' := ownsRow_below hown hbw
        have zf0 : wc.cell? ⟨wr.heap.size, 0, none⟩ = some (.string ab) := (hbx.cell (by simp)).trans (cells_new' wr #[.string ab, .int .i64 0] 35 0 _ rfl rfl)
        have zf1 : wc.cell? ⟨wr.heap.size, 1, none⟩ = some (.int .i64 0) := (hbx.cell (by simp)).trans (cells_new' wr #[.string ab, .int .i64 0] 35 1 _ rfl rfl)
        have zf2 : wc.frozen? ⟨wr.heap.size, 1, none⟩ = false := (hbx.frozen (by simp)).trans (by simp)
        have hBr : w1.heap.size < wr.heap.size := cell_lt c1
        have hBc : wr.heap.size < wc.heap.size := cell_lt zf1
        have ya' := (hbw.cell (cell_lt ya)).trans ya
        have yb' := (hbw.cell (cell_lt yb)).trans yb
        have hgb : g < w1.heap.size := hhi
        have kbe' := HNX.out.trans (hbw.mono HNX.out.size)
        have hfar2 : v.ownBlock ≠ some wr.heap.size := fun e => by
          have := (hown.lt _ e).2
          omega
        clear c0 c1 c2 c3 hown hbx hbw ya yb HSH
        cases hdg : digP a b
        · have HDF := hide' hdg
          by_cases hc : a = [44]
          · have hab : ab = ⟨#[44]⟩ := by rw [HAB.out, hc]
            have hrem := hide' (show done ++ refL n (W.drop (i + 1)) = fs by rw [← HF2.out hc]; exact HD1.out)
            subst hab
            clear HF1 HF2 HF3 HD1 HAB hc HDG
            go_wp2_with fail
            go_roundw
            case rel => exact ⟨i + 1, n, done, v, by go_num, by omega, by omega, by omega, by omega, c0', c1', c2', c3', hown', hfar, kbe', hrem.out⟩
            case measure => simp [intOf]; omega
          · have ht : (ab.toList != [44]) = true := by
              rw [bne_iff_ne, HAB.out, Lib.toList_data]
              exact hc
            have ht2 : (ab.toList == [44]) = false := by
              rw [beq_eq_false_iff_ne, HAB.out, Lib.toList_data]
              exact hc
            have hrem := hide' (show (done ++ [⟨ab, 0⟩]) ++ refL n (W.drop (i + 1)) = fs by
              have h := HD1.out
              rw [HF3.out hdg hc] at h
              rw [← h]; simp)
            clear HF1 HF2 HF3 HD1 HAB hc HDG hdg HDF
            have k0 := c0'
            have k1 := c1'
            have k2 := c2'
            have k3 := c3'
            have kown := hown'
            have kbe := kbe'
            clear c0' c1' c2' c3' hown' kbe'
            obtain ⟨wy, rfl⟩ : ∃ x : World, x = wc := ⟨_, rfl⟩
            go_wp2_with (at_builtin; go_must (refine wpList_append_own_at _ rfl _ _ 23 rfl w1.heap.size 35 i0 _ 2 24 Tryz.underlying23 hi hz0 hz1 hz2 rfl (by decide) _ _ _ rfl (kown.alloc _) ⟨wy.heap.size, 0, none⟩ 1 1 [.string ab, .int .i64 0] rfl rfl ?a1 ?a2 ?a3 ?a4 ?a5 ?_))
            try (case a1 => (intro j u hu; exact cells_new' wy _ _ j u hu rfl))
            case a2 => first | (intro u hu; simp at hu; rcases hu with rfl | rfl <;> rfl) | exact ⟨rfl, rfl⟩
            case a3 => unfold maxLen; omega
            case a4 => omega
            case a5 => have := kbe.size; simp; omega
            intro v' w6 hn6 hg6 _ hloc
            have kbl := hg6.block w1.heap.size (by simp; omega) (fun e => hfar e.symm)
            have j0 := (World.cell?_of_block (a := ⟨w1.heap.size, 0, none⟩) kbl).trans (cell_alloc k0)
            have j1 := (World.cell?_of_block (a := ⟨w1.heap.size, 1, none⟩) kbl).trans (cell_alloc k1)
            have j2 := (World.cell?_of_block (a := ⟨w1.heap.size, 2, none⟩) kbl).trans (cell_alloc k2)
            have j3 : w6.frozen? ⟨w1.heap.size, 1, none⟩ = false := (World.frozen?_of_block (a := ⟨w1.heap.size, 1, none⟩) kbl).trans ((((Below.refl _ _).alloc (Nat.le_refl _) _).frozen (p := ⟨w1.heap.size, 1, none⟩) (cell_lt k1)).trans k3)
            have hfar6 := far_new40 hfar (show w1.heap.size < wy.heap.size + 1 by omega) hloc
            have hb6 := (kbe.alloc kbe.size (.cells #[.string ab, .int .i64 0] 35)).grown hg6 (by have := kbe.size; simp; omega) (fun k hk => (kown.lt k hk).1)
            obtain ⟨g6, cap6, rfl⟩ : ∃ g6 cap6, v' = .slice (some ⟨g6, 0, none⟩) (done.length + 1) cap6 := by
              rcases hn6.2 with ⟨_, h0⟩ | ⟨g6, cap6, cur, e6, _⟩
              · cases h0
              · exact ⟨g6, cap6, e6⟩
            have hlt6 : w1.heap.size < w6.heap.size := by have := hg6.size; simp at this; omega
            have l1 := World.cell?_setCell_same w6 ⟨w1.heap.size, 1, none⟩ (.slice (some ⟨g6, 0, none⟩) (done.length + 1) cap6) j1
            have l0 := (World.cell?_setCell_other (w := w6) (a := ⟨w1.heap.size, 1, none⟩) (b := ⟨w1.heap.size, 0, none⟩) (v := .slice (some ⟨g6, 0, none⟩) (done.length + 1) cap6) (h := by simp)).trans j0
            have l2 := (World.cell?_setCell_other (w := w6) (a := ⟨w1.heap.size, 1, none⟩) (b := ⟨w1.heap.size, 2, none⟩) (v := .slice (some ⟨g6, 0, none⟩) (done.length + 1) cap6) (h := by simp)).trans j2
            have l3 : (w6.setCell ⟨w1.heap.size, 1, none⟩ (.slice (some ⟨g6, 0, none⟩) (done.length + 1) cap6)).frozen? ⟨w1.heap.size, 1, none⟩ = false := by simpa using j3
            have l4 := ownsRow_setCell_other hn6 (a := ⟨w1.heap.size, 1, none⟩) hfar6 (.slice (some ⟨g6, 0, none⟩) (done.length + 1) cap6)
            have hb7 := hb6.setCell (p := ⟨w1.heap.size, 1, none⟩) (Nat.le_refl _) (.slice (some ⟨g6, 0, none⟩) (done.length + 1) cap6)
            have hfc : fcells (done ++ [(⟨ab, 0⟩ : F)]) = fcells done ++ [.string ab, .int .i64 0] := by simp [fcells]
            have hll : (done ++ [(⟨ab, 0⟩ : F)]).length = done.length + 1 := by simp
            have HFC := hide' hfc
            have HLL := hide' hll
            clear hloc kbl hg6 hn6 hb6 kown k0 k1 k2 k3 hfc hll
            go_wp2_with fail
            go_roundw
            case rel => exact ⟨i + 1, n, done ++ [(⟨ab, 0⟩ : F)], _, by go_num, by omega, by omega, by rw [HLL.out]; omega, by omega, l0, l1, l2, l3, by rw [HFC.out, HLL.out]; exact l4, hfar6, hb7, hrem.out⟩
            case measure => simp [intOf]; omega
        · have hD2 := HDG.out.symm.trans hdg
          simp only [Bool.and_eq_true, decide_eq_true_eq] at hD2
          obtain ⟨hq1, hq2, hq3, hq4⟩ := hD2
          obtain ⟨c, rfl⟩ : ∃ c, b = [c] := by
            match b, hq2 with
            | [c], _ => exact ⟨c, rfl⟩
          have hbe : bb = ⟨#[c]⟩ := HBB.out
          subst hbe
          have hz1' : 0 < (⟨#[c]⟩ : ByteArray).size := by show 0 < 1; omega
          have hq3' : 48 ≤ c.toNat := hq3
          have hq4' : c.toNat ≤ 51 := hq4
          have t1 : (48 : Int) ≤ ((((⟨#[c]⟩ : ByteArray)[0]'hz1').toNat : Nat) : Int) := show (48 : Int) ≤ ((c.toNat : Nat) : Int) by omega
          have t2 : ((((⟨#[c]⟩ : ByteArray)[0]'hz1').toNat : Nat) : Int) ≤ 51 := show ((c.toNat : Nat) : Int) ≤ 51 by omega
          have hrem := hide' (show (done ++ [⟨ab, (c.toNat : Int) - 48⟩]) ++ refL n (W.drop (i + 2)) = fs by
            have h := HD1.out
            rw [HF1.out hdg] at h
            rw [← h]
            simp)
          have ht : ((⟨#[c]⟩ : ByteArray).toList != [44]) = true := by
            rw [bne_iff_ne, Lib.toList_data]
            intro h
            have : c = 44 := by simpa using h
            subst this
            exact absurd hq3' (by decide)
          have ht2 : ((⟨#[c]⟩ : ByteArray).toList == [44]) = false := by
            rw [beq_eq_false_iff_ne, Lib.toList_data]
            intro h
            have : c = 44 := by simpa using h
            subst this
            exact absurd hq3' (by decide)
          have ht3 : (c == 44) = false := by
            rw [beq_eq_false_iff_ne]
            intro this
            subst this
            exact absurd hq3' (by decide)
          have ht4 : ([c] == [44]) = false := by simp [ht3]
          have ht5 : ¬ c = 44 := by simpa using ht3
          clear HF1 HF2 HF3 HD1 HAB HDG hdg hq1 hq2 hq3 hq4
          go_upto_region 10 with fail
          obtain ⟨r, hr⟩ : ∃ r : Int, ((((⟨#[c]⟩ : ByteArray)[0]'hz1').toNat : Nat) : Int) - 48 = r := ⟨_, rfl⟩
          have hr2 : (c.toNat : Int) - 48 = r := hr
          rw [hr2] at hrem
          have k0 := (World.cell?_setCell_far wc ⟨wr.heap.size, 1, none⟩ ⟨w1.heap.size, 0, none⟩ (.int .i64 r) (by simp; omega)).trans c0'
          have k1 := (World.cell?_setCell_far wc ⟨wr.heap.size, 1, none⟩ ⟨w1.heap.size, 1, none⟩ (.int .i64 r) (by simp; omega)).trans c1'
          have k2 := (World.cell?_setCell_far wc ⟨wr.heap.size, 1, none⟩ ⟨w1.heap.size, 2, none⟩ (.int .i64 r) (by simp; omega)).trans c2'
          have k3 : (wc.setCell ⟨wr.heap.size, 1, none⟩ (.int .i64 r)).frozen? ⟨w1.heap.size, 1, none⟩ = false := by simpa using c3'
          have kown := ownsRow_setCell_other hown' (a := ⟨wr.heap.size, 1, none⟩) hfar2 (.int .i64 r)
          have kbe := kbe'.setCell (p := ⟨wr.heap.size, 1, none⟩) (Nat.le_of_lt hBr) (.int .i64 r)
          have zg0 := (World.cell?_setCell_other (w := wc) (a := ⟨wr.heap.size, 1, none⟩) (b := ⟨wr.heap.size, 0, none⟩) (v := .int .i64 r) (h := by simp)).trans zf0
          have zg1 := World.cell?_setCell_same wc ⟨wr.heap.size, 1, none⟩ (.int .i64 r) zf1
          have yg := (World.cell?_setCell_far wc ⟨wr.heap.size, 1, none⟩ ⟨g, i + 1, none⟩ (.int .i64 r) (by simp; omega)).trans yb'
          have hsz : wc.heap.size ≤ (wc.setCell ⟨wr.heap.size, 1, none⟩ (.int .i64 r)).heap.size := by simp
          simp only [hr]
          clear c0' c1' c2' c3' hown' kbe' zf0 zf1 zf2 ya' yb' hr hr2 t1 t2 hz1'
          generalize wc.setCell ⟨wr.heap.size, 1, none⟩ (.int .i64 r) = wy at *
          go_wp2_with (at_builtin; go_must (refine wpList_append_own_at _ rfl _ _ 23 rfl w1.heap.size 35 i0 _ 2 24 Tryz.underlying23 hi hz0 hz1 hz2 rfl (by decide) _ _ _ rfl (kown.alloc _) ⟨wy.heap.size, 0, none⟩ 1 1 [.string ab, .int .i64 r] rfl rfl ?b1 ?b2 ?b3 ?b4 ?b5 ?_))
          try (case b1 => (intro j u hu; exact cells_new' wy _ _ j u hu rfl))
          case b2 => first | (intro u hu; simp at hu; rcases hu with rfl | rfl <;> rfl) | exact ⟨rfl, rfl⟩
          case b3 => unfold maxLen; omega
          case b4 => omega
          case b5 => have := kbe.size; simp; omega
          intro v' w6 hn6 hg6 _ hloc
          have kbl := hg6.block w1.heap.size (by simp; omega) (fun e => hfar e.symm)
          have j0 := (World.cell?_of_block (a := ⟨w1.heap.size, 0, none⟩) kbl).trans (cell_alloc k0)
          have j1 := (World.cell?_of_block (a := ⟨w1.heap.size, 1, none⟩) kbl).trans (cell_alloc k1)
          have j2 := (World.cell?_of_block (a := ⟨w1.heap.size, 2, none⟩) kbl).trans (cell_alloc k2)
          have j3 : w6.frozen? ⟨w1.heap.size, 1, none⟩ = false := (World.frozen?_of_block (a := ⟨w1.heap.size, 1, none⟩) kbl).trans ((((Below.refl _ _).alloc (Nat.le_refl _) _).frozen (p := ⟨w1.heap.size, 1, none⟩) (cell_lt k1)).trans k3)
          have hfar6 := far_new40 hfar (show w1.heap.size < wy.heap.size + 1 by omega) hloc
          have hb6 := (kbe.alloc kbe.size (.cells #[.string ab, .int .i64 r] 35)).grown hg6 (by have := kbe.size; simp; omega) (fun k hk => (kown.lt k hk).1)
          obtain ⟨g6, cap6, rfl⟩ : ∃ g6 cap6, v' = .slice (some ⟨g6, 0, none⟩) (done.length + 1) cap6 := by
            rcases hn6.2 with ⟨_, h0⟩ | ⟨g6, cap6, cur, e6, _⟩
            · cases h0
            · exact ⟨g6, cap6, e6⟩
          have hlt6 : w1.heap.size < w6.heap.size := by have := hg6.size; simp at this; omega
          have l1 := World.cell?_setCell_same w6 ⟨w1.heap.size, 1, none⟩ (.slice (some ⟨g6, 0, none⟩) (done.length + 1) cap6) j1
          have l0 := (World.cell?_setCell_other (w := w6) (a := ⟨w1.heap.size, 1, none⟩) (b := ⟨w1.heap.size, 0, none⟩) (v := .slice (some ⟨g6, 0, none⟩) (done.length + 1) cap6) (h := by simp)).trans j0
          have l2 := (World.cell?_setCell_other (w := w6) (a := ⟨w1.heap.size, 1, none⟩) (b := ⟨w1.heap.size, 2, none⟩) (v := .slice (some ⟨g6, 0, none⟩) (done.length + 1) cap6) (h := by simp)).trans j2
          have l3 : (w6.setCell ⟨w1.heap.size, 1, none⟩ (.slice (some ⟨g6, 0, none⟩) (done.length + 1) cap6)).frozen? ⟨w1.heap.size, 1, none⟩ = false := by simpa using j3
          have l4 := ownsRow_setCell_other hn6 (a := ⟨w1.heap.size, 1, none⟩) hfar6 (.slice (some ⟨g6, 0, none⟩) (done.length + 1) cap6)
          have hb7 := hb6.setCell (p := ⟨w1.heap.size, 1, none⟩) (Nat.le_refl _) (.slice (some ⟨g6, 0, none⟩) (done.length + 1) cap6)
          have hfc : fcells (done ++ [(⟨ab, r⟩ : F)]) = fcells done ++ [.string ab, .int .i64 r] := by simp [fcells]
          have hll : (done ++ [(⟨ab, r⟩ : F)]).length = done.length + 1 := by simp
          have HFC := hide' hfc
          have HLL := hide' hll
          clear hloc kbl hg6 hn6 hb6 kown k0 k1 k2 k3 hfc hll
          go_wp2_with fail
          go_roundw
          case rel => exact ⟨(i + 1) + 1, n, done ++ [(⟨ab, r⟩ : F)], _, by go_num, by omega, by omega, by rw [HLL.out]; omega, by omega, l0, l1, l2, l3, by rw [HFC.out, HLL.out]; exact l4, hfar6, hb7, hrem.out⟩
          case measure => simp [intOf]; omega
    · have hd : decide ((i : Int) < (m : Int) + 1 - 3) = false := decide_eq_false (by omega)
      have hfs : done = fs := by
        have h := hD.out
        rw [refL_stop n _ (by rw [List.length_drop, HM.out]; omega), List.append_nil] at h
        exact h
      subst hfs
      have hFS := FSl.own hown
      obtain ⟨A9, cap9, rfl⟩ : ∃ A cap, v = .slice A done.length cap := by
        obtain ⟨A9, cap9, e9, _⟩ := hFS
        exact ⟨A9, cap9, e9⟩
      have hGV : GV wr (.agg #[.string nm, .slice A9 done.length cap9, .string res]) ⟨nm, done, res⟩ := ⟨_, rfl, hFS⟩
      have hnb : nm.size ≤ 4611686018427387904 := by
        rw [← HN.out]
        show (W.headD []).toArray.size ≤ _
        rw [headD_at' hpos]
        have h1 := words9_mem_le s.data.toList W[0] (by rw [HW.out]; exact List.getElem_mem _)
        simp at h1 ⊢
        omega
      have hbw := HB1.out.trans (hnx.mono HB1.out.size)
      have HRT := hide' (rText9_any ⟨nm, done, res⟩ _ wr (HT wr hbw).out hGV hnb)
      have r0 := (hnx.cell (p := ⟨w.heap.size, 0, none⟩) hRb).trans HR0.out.1
      have r1 := (hnx.cell (p := ⟨w.heap.size, 1, none⟩) hRb).trans HR0.out.2.1
      have r2 := (hnx.cell (p := ⟨w.heap.size, 2, none⟩) hRb).trans HR0.out.2.2
      have s0 := (hnx.frozen (p := ⟨w.heap.size, 0, none⟩) hRb).trans HR1.out.1
      have s1 := (hnx.frozen (p := ⟨w.heap.size, 1, none⟩) hRb).trans HR1.out.2.1
      have s2 := (hnx.frozen (p := ⟨w.heap.size, 2, none⟩) hRb).trans HR1.out.2.2
      have HBW := hide' hbw
      clear hD HF HCW hFS hGV hbw HN HR HW hnb
      go_wp2_with fail
      refine HRT.out.mono ?_
      rintro e w5 ⟨hTE, hb5⟩
      have hown5 := ownsRow_below hown hb5
      have q0 := (hb5.cell (cell_lt r0)).trans r0
      have q1 := (hb5.cell (cell_lt r1)).trans r1
      have q2 := (hb5.cell (cell_lt r2)).trans r2
      have p0 := (hb5.frozen (p := ⟨w.heap.size, 0, none⟩) (cell_lt r0)).trans s0
      have p1 := (hb5.frozen (p := ⟨w.heap.size, 1, none⟩) (cell_lt r1)).trans s1
      have p2 := (hb5.frozen (p := ⟨w.heap.size, 2, none⟩) (cell_lt r2)).trans s2
      have d0 := (hb5.cell (cell_lt c0)).trans c0
      have d1 := (hb5.cell (cell_lt c1)).trans c1
      have d2 := (hb5.cell (cell_lt c2)).trans c2
      have HB5 := hide' (HBW.out.trans (hb5.mono HBW.out.size))
      clear HRT r0 r1 r2 s0 s1 s2 hb5 hown c0 c1 c2 c3 hnx HT HBW HR0 HR1 HB1
      rcases hTE with ⟨hno, rfl⟩ | ⟨hyes, rfl⟩
      · have hp := hide' (show parseR (some (⟨nm, done, res⟩ : G)) s.data.toList = none by unfold parseR; simp only; rw [if_neg (fun h => by rw [hno] at h; cases h.1)])
        clear hno
        have hS := set3 (a := .string ⟨#[]⟩) (b := .slice none 0 0) (c := .string ⟨#[]⟩) q0 q1 q2
        have hB := (((HB5.out.setCell (p := ⟨w.heap.size, 0, none⟩) (Nat.le_refl _) (.string ⟨#[]⟩)).setCell (p := ⟨w.heap.size, 1, none⟩) (Nat.le_refl _) (.slice none 0 0)).setCell (p := ⟨w.heap.size, 2, none⟩) (Nat.le_refl _) (.string ⟨#[]⟩))
        obtain ⟨t0, t1, t2⟩ := hS
        go_wp2_with fail
        generalize ((w5.setCell ⟨w.heap.size, 0, none⟩ (.string ⟨#[]⟩)).setCell ⟨w.heap.size, 1, none⟩ (.slice none 0 0)).setCell ⟨w.heap.size, 2, none⟩ (.string ⟨#[]⟩) = wz at *
        exact bodyPost_ret (v := .tuple #[.agg #[.string ⟨#[]⟩, .slice none 0 0, .string ⟨#[]⟩], .int .i64 3]) (by simp [results, Tryz.results7, go_sem, t0, t1, t2]) rfl (by rw [hp.out]; exact ⟨_, rfl, ⟨_, rfl, FSl.nil _⟩, hB⟩)
      · obtain ⟨tb, htb⟩ : ∃ x : ByteArray, x = ⟨(textL ⟨nm, done, res⟩).toArray⟩ := ⟨_, rfl⟩
        rw [← htb]
        cases hq : (tb.toList == s.toList)
        · have hp := hide' (show parseR (some (⟨nm, done, res⟩ : G)) s.data.toList = none by
            unfold parseR; simp only; rw [if_neg (fun h => by
              rw [beq_eq_false_iff_ne, htb, Lib.toList_data, Lib.toList_data] at hq
              exact hq h.2)])
          have hq' : (tb.toList != s.toList) = true := by simp only [bne, hq]; rfl
          clear hyes htb
          have hS := set3 (a := .string ⟨#[]⟩) (b := .slice none 0 0) (c := .string ⟨#[]⟩) q0 q1 q2
          have hB := (((HB5.out.setCell (p := ⟨w.heap.size, 0, none⟩) (Nat.le_refl _) (.string ⟨#[]⟩)).setCell (p := ⟨w.heap.size, 1, none⟩) (Nat.le_refl _) (.slice none 0 0)).setCell (p := ⟨w.heap.size, 2, none⟩) (Nat.le_refl _) (.string ⟨#[]⟩))
          obtain ⟨t0, t1, t2⟩ := hS
          go_wp2_with fail
          generalize ((w5.setCell ⟨w.heap.size, 0, none⟩ (.string ⟨#[]⟩)).setCell ⟨w.heap.size, 1, none⟩ (.slice none 0 0)).setCell ⟨w.heap.size, 2, none⟩ (.string ⟨#[]⟩) = wz at *
          exact bodyPost_ret (v := .tuple #[.agg #[.string ⟨#[]⟩, .slice none 0 0, .string ⟨#[]⟩], .int .i64 3]) (by simp [results, Tryz.results7, go_sem, t0, t1, t2]) rfl (by rw [hp.out]; exact ⟨_, rfl, ⟨_, rfl, FSl.nil _⟩, hB⟩)
        · have hp := hide' (show parseR (some (⟨nm, done, res⟩ : G)) s.data.toList = some ⟨nm, done, res⟩ by
            unfold parseR; simp only; rw [if_pos ⟨hyes, by
              rw [beq_iff_eq, htb, Lib.toList_data, Lib.toList_data] at hq
              exact hq⟩])
          have hq' : (tb.toList != s.toList) = false := by simp only [bne, hq]; rfl
          clear hyes htb
          have hS := set3 (a := .string nm) (b := .slice A9 done.length cap9) (c := .string res) q0 q1 q2
          have hB := (((HB5.out.setCell (p := ⟨w.heap.size, 0, none⟩) (Nat.le_refl _) (.string nm)).setCell (p := ⟨w.heap.size, 1, none⟩) (Nat.le_refl _) (.slice A9 done.length cap9)).setCell (p := ⟨w.heap.size, 2, none⟩) (Nat.le_refl _) (.string res))
          have hO := ownsRow_setCell_below (ownsRow_setCell_below (ownsRow_setCell_below hown5 (a := ⟨w.heap.size, 0, none⟩) hRb (.string nm)) (a := ⟨w.heap.size, 1, none⟩) hRb (.slice A9 done.length cap9)) (a := ⟨w.heap.size, 2, none⟩) hRb (.string res)
          obtain ⟨t0, t1, t2⟩ := hS
          go_wp2_with fail
          generalize ((w5.setCell ⟨w.heap.size, 0, none⟩ (.string nm)).setCell ⟨w.heap.size, 1, none⟩ (.slice A9 done.length cap9)).setCell ⟨w.heap.size, 2, none⟩ (.string res) = wz at *
          exact bodyPost_ret (v := .tuple #[.agg #[.string nm, .slice A9 done.length cap9, .string res], .int .i64 0]) (by simp [results, Tryz.results7, go_sem, t0, t1, t2]) rfl (by rw [hp.out]; exact ⟨_, rfl, ⟨_, rfl, FSl.own hO⟩, hB⟩)

end Go.Proofs.YtdmdfokkibijjaaGreatDoor
