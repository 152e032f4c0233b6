/-
  The walk of token.first.
-/
import Derived.Test.YtacjgphfcailmaaGreatDoorW2
import Derived.Deep.RegionHeld3
import Derived.Deep.RegionWith
import Derived.Deep.DeepMust
import Derived.Deep.DeepFit
namespace Go.Proofs.YtacjgphfcailmaaGreatDoor
open Go.RowKit
open Tok

/-- the table of spaces of package strings, as it is laid -/
def Tab (w : World) : Prop := Lib.TabIs Tryz.prog w "strings.asciiSpace" .u8 Lib.asciiSpaceTab
theorem gSpace : Tryz.prog.globalNamed "strings.asciiSpace" = some 3 := by kernel_rfl
theorem Tab.lt {w : World} (h : Tab w) : 3 < w.heap.size := by
  unfold Tab Lib.TabIs World.var? at h
  simp only [gSpace, Option.bind_some] at h
  rcases Nat.lt_or_ge 3 w.heap.size with hlt | hge
  · exact hlt
  · rw [Array.getElem?_eq_none hge] at h; simp at h
theorem Tab.below {B : Nat} {w w' : World} (h : Tab w) (hb : Below B w w') (hB : 3 < B) : Tab w' := var?_below hb gSpace hB h
theorem Tab.on {w w' : World} (h : Tab w) (hb : Below w.heap.size w w') : Tab w' := h.below hb h.lt
theorem Tab.alloc {w : World} (h : Tab w) (o : Obj) : Tab (w.alloc o) := h.on ((Below.refl _ _).alloc (Nat.le_refl _) o)

def signB (i : Nat) : ByteArray := ⟨(signs.getD i []).toArray⟩
def signObj : Obj := .cells (signs.map fun l => Value.string ⟨l.toArray⟩).toArray 9

theorem signs_any (w : World) :
    Calls Tryz.prog 345 #[] w fun e w' => e = .returned (.slice (some ⟨w.heap.size, 0, none⟩) 23 23) ∧ w.alloc signObj = w' := by
  go_enter Tryz.func345, Tryz.ntmps345
  go_wp2
  go_ret
  exact ⟨rfl, rfl⟩
theorem sign_cell (w : World) (i : Nat) (h : i < 23) : (w.alloc signObj).cell? ⟨w.heap.size, i, none⟩ = some (.string (signB i)) := by
  have e : (w.alloc signObj).heap[w.heap.size]? = some signObj := by
    show (w.heap.push signObj)[w.heap.size]? = _
    simp
  unfold World.cell?
  simp only [e]
  unfold signObj signB
  simp only [Option.isSome_none, Bool.false_eq_true, if_false, List.getElem?_toArray, List.getElem?_map]
  have hl : i < signs.length := h
  rw [List.getElem?_eq_getElem hl, List.getD, List.getElem?_eq_getElem hl]
  rfl

def keyVals : List ByteArray := keys.map fun l => ⟨l.toArray⟩
def keyObj : Obj := .cells (keys.map fun l => Value.string ⟨l.toArray⟩).toArray 9
theorem keys_len : keys.length = 57 := by decide +kernel
theorem fields_keys (s : ByteArray) (w : World) (hT : Tab w) (hs : s.data.toList = keyText) :
    Calls Tryz.prog 396 #[.string s] w fun e w' => e = .returned (.slice (some ⟨w.heap.size, 0, none⟩) 57 57) ∧ w.alloc keyObj = w' := by
  refine (Tryz.strings_Fields s w (by rw [Lib.size_eq, hs]; decide +kernel) ?_ hT).mono fun e w' ⟨h1, h2⟩ => ⟨?_, ?_⟩
  · intro j b hb
    rw [hs] at hb
    have h : ∀ b ∈ keyText, b.toNat < 128 := by decide +kernel
    exact h b (List.mem_of_getElem? hb)
  · rw [h1, hs]
    have : (Lib.fields keyText).length = 57 := keys_len
    rw [this]
  · rw [h2, hs]; rfl
theorem contains_keys (s : ByteArray) (w : World) :
    Calls Tryz.prog 94 #[.slice (some ⟨w.heap.size, 0, none⟩) 57 57, .string s] (w.alloc keyObj) fun e w' => e = .returned (.bool (isKey s.data.toList)) ∧ w.alloc keyObj = w' := by
  have hl : keyVals.length = 57 := by unfold keyVals; rw [List.length_map]; exact keys_len
  refine (Tryz.slices_Contains_string w.heap.size 0 57 57 keyVals s (w.alloc keyObj) (by omega) (by omega) ?_).mono fun e w' ⟨h1, h2⟩ => ⟨?_, h2.symm⟩
  · intro j hj
    have e : (w.alloc keyObj).heap[w.heap.size]? = some keyObj := by
      show (w.heap.push keyObj)[w.heap.size]? = _
      simp
    unfold World.cell?
    simp only [e]
    unfold keyObj
    have hk : j < keys.length := by rw [keys_len]; omega
    simp only [Option.isSome_none, Bool.false_eq_true, if_false, List.getElem?_toArray, List.getElem?_map, Nat.zero_add]
    rw [List.getElem?_eq_getElem hk, List.getD, keyVals, List.getElem?_map, List.getElem?_eq_getElem hk]
    rfl
  · rw [h1]
    congr 2
    rw [List.take_of_length_le (by omega), Bool.eq_iff_iff, Lib.containsS_iff]
    unfold isKey keyVals
    rw [List.contains_iff_mem, List.mem_map]
    constructor
    · rintro ⟨l, hl, rfl⟩; exact hl
    · intro h; exact ⟨_, h, Lib.mk_data s⟩

set_option maxRecDepth 100000 in
theorem isKey_any (s : ByteArray) (w : World) (hT : Tab w) :
    Calls Tryz.prog 374 #[.string s] w fun e w' => e = .returned (.bool (isKey s.data.toList)) ∧ w.alloc keyObj = w' := by
  have C := contains_keys s w
  have HC := Lib.hid C
  have HT := hide' hT
  clear C hT
  go_enter Tryz.func374, Tryz.ntmps374
  go_wp2_with fail
  refine (fields_keys _ w HT.out ?_).mono ?_
  · decide +kernel
  rintro e w' ⟨rfl, rfl⟩
  go_wp2_with fail
  refine (HC.out).mono ?_
  rintro e w' ⟨rfl, rfl⟩
  go_wp2_with fail
  go_ret
  exact ⟨rfl, rfl⟩

def kindB (s : ByteArray) : ByteArray := ⟨(kindOf s.data.toList).toArray⟩
theorem kind_any (s : ByteArray) (w : World) (hT : Tab w) :
    Calls Tryz.prog 343 #[.string s] w fun e w' => e = .returned (.string (kindB s)) ∧ w.alloc keyObj = w' := by
  have C := isKey_any s w hT
  have HC := Lib.hid C
  clear C hT
  by_cases hk : isKey s.data.toList = true
  · have hr : Hid (kindB s = ⟨#[107, 101, 121]⟩) := by show _ = _; unfold kindB kindOf; rw [if_pos hk]; rfl
    go_enter Tryz.func343, Tryz.ntmps343
    go_wp2_with fail
    refine (HC.out).mono ?_
    rintro e w' ⟨rfl, rfl⟩
    go_wp2_with fail
    go_ret
    exact ⟨by rw [hr.out]; rfl, rfl⟩
  · have hr : Hid (kindB s = ⟨#[110, 97, 109, 101]⟩) := by show _ = _; unfold kindB kindOf; rw [if_neg hk]; rfl
    have hk : isKey s.data.toList = false := by simpa using hk
    go_enter Tryz.func343, Tryz.ntmps343
    go_wp2_with fail
    refine (HC.out).mono ?_
    rintro e w' ⟨rfl, rfl⟩
    go_wp2_with fail
    go_ret
    exact ⟨by rw [hr.out]; rfl, rfl⟩

end Go.Proofs.YtacjgphfcailmaaGreatDoor

namespace Go.Proofs.YtacjgphfcailmaaGreatDoor
open Go.RowKit
open Tok

/-- the token in front: its parts, and whether there is one -/
def FirstEnd (s : ByteArray) (e : Ending) : Prop :=
  (∃ k t : List UInt8, first s.data.toList = some (k, t) ∧ e = .returned (.tuple #[.agg #[.string ⟨k.toArray⟩, .string ⟨t.toArray⟩, .int .i64 0], .bool true])) ∨
  (first s.data.toList = none ∧ ∃ k t : ByteArray, e = .returned (.tuple #[.agg #[.string k, .string t, .int .i64 0], .bool false]))

theorem ext_mk (s : ByteArray) (n : Nat) : s.extract 0 n = ⟨(s.data.toList.take n).toArray⟩ := by
  rw [Lib.extract_eq]; simp
theorem kindB_ext (s : ByteArray) (n : Nat) : kindB (s.extract 0 n) = ⟨(kindOf (s.data.toList.take n)).toArray⟩ := by
  unfold kindB; rw [ext_take]

/-- the named result's block, as it is laid at the head -/
def tok0 : Obj := .cells #[.string ⟨#[]⟩, .string ⟨#[]⟩, .int .i64 0] 383

set_option maxHeartbeats 400000 in
theorem first_word (s : ByteArray) (w : World) (hT : Tab w) (hs : s.size ≤ 4611686018427387904) (n : Nat) (hn : 0 < n) (hw : Hid (wordLen s.data.toList = n)) (hns : n ≤ s.size) :
    Calls Tryz.prog 302 #[.string s] w fun e w' => FirstEnd s e ∧ Below w.heap.size w w' := by
  have HT := fun o => hide' (hT.alloc o)
  have HW : Hid (Calls Tryz.prog 342 #[.string s] (w.alloc tok0) fun e w' => e = .returned (.int .i64 (n : Nat)) ∧ (w.alloc tok0) = w') := by
    have := word_any s (w.alloc tok0) hs
    rw [hw.out] at this
    exact this
  have hfin : Hid (first s.data.toList = some (kindOf (s.data.toList.take n), s.data.toList.take n)) := by
    show _ = _
    unfold first; rw [hw.out, if_pos hn]
  clear hT
  go_enter Tryz.func302, Tryz.ntmps302
  go_wp2_with fail
  refine HW.out.mono ?_
  rintro e w' ⟨rfl, rfl⟩
  unfold tok0
  go_wp2_with fail
  go_region_with (go_at_call 343; go_must (refine (kind_any _ _ (by exact (HT _).out)).mono ?_); rintro e w' ⟨rfl, rfl⟩)
  go_wp2_with fail
  refine bodyPost_ret (v := .tuple #[.agg #[.string (kindB (s.extract 0 n)), .string (s.extract 0 n), .int .i64 0], .bool true]) ?_ rfl ⟨?_, ?_⟩
  · simp [results, Tryz.results302, go_sem]
  · exact .inl ⟨_, _, hfin.out, by rw [kindB_ext, ext_mk]⟩
  · exact (((Below.refl _ _).alloc (Nat.le_refl _) _).alloc (by simp) _).drew

theorem first_dig (s : ByteArray) (w : World) (hs : s.size ≤ 4611686018427387904) (n : Nat) (hn : 0 < n) (h0 : Hid (wordLen s.data.toList = 0)) (hw : Hid (digLen s.data.toList = n)) (hns : n ≤ s.size) :
    Calls Tryz.prog 302 #[.string s] w fun e w' => FirstEnd s e ∧ Below w.heap.size w w' := by
  have HW : Hid (Calls Tryz.prog 342 #[.string s] (w.alloc tok0) fun e w' => e = .returned (.int .i64 0) ∧ (w.alloc tok0) = w') := by
    have := word_any s (w.alloc tok0) hs
    rw [h0.out] at this
    exact this
  have HD : Hid (Calls Tryz.prog 344 #[.string s] (w.alloc tok0) fun e w' => e = .returned (.int .i64 (n : Nat)) ∧ (w.alloc tok0) = w') := by
    have := digits_any s (w.alloc tok0) hs
    rw [hw.out] at this
    exact this
  by_cases h9 : n ≤ 9
  · have hfin : Hid (first s.data.toList = some (kInt, s.data.toList.take n)) := by
      show _ = _
      unfold first; rw [h0.out, hw.out, if_neg (by omega), if_pos hn, if_pos h9]
    go_enter Tryz.func302, Tryz.ntmps302
    go_wp2_with fail
    refine HW.out.mono ?_
    rintro e w' ⟨rfl, rfl⟩
    go_wp2_with fail
    refine HD.out.mono ?_
    rintro e w' ⟨rfl, rfl⟩
    unfold tok0
    go_wp2_with fail
    refine bodyPost_ret (v := .tuple #[.agg #[.string ⟨#[105, 110, 116]⟩, .string (s.extract 0 n), .int .i64 0], .bool true]) ?_ rfl ⟨?_, ?_⟩
    · simp [results, Tryz.results302, go_sem]
      omega
    · exact .inl ⟨_, _, hfin.out, by rw [ext_mk]; rfl⟩
    · exact ((Below.refl _ _).alloc (Nat.le_refl _) _)
  · have hfin : Hid (first s.data.toList = none) := by
      show _ = _
      unfold first; rw [h0.out, hw.out, if_neg (by omega), if_pos hn, if_neg h9]
    go_enter Tryz.func302, Tryz.ntmps302
    go_wp2_with fail
    refine HW.out.mono ?_
    rintro e w' ⟨rfl, rfl⟩
    go_wp2_with fail
    refine HD.out.mono ?_
    rintro e w' ⟨rfl, rfl⟩
    unfold tok0
    go_wp2_with fail
    refine bodyPost_ret (v := .tuple #[.agg #[.string ⟨#[105, 110, 116]⟩, .string (s.extract 0 n), .int .i64 0], .bool false]) ?_ rfl ⟨?_, ?_⟩
    · simp [results, Tryz.results302, go_sem]
      omega
    · exact .inr ⟨hfin.out, _, _, rfl⟩
    · exact ((Below.refl _ _).alloc (Nat.le_refl _) _)

/-- the first sign that a text begins with: none among the first k -/
def NoSign (s : ByteArray) (k : Nat) : Prop := ∀ j, j < k → pre s (signB j) = false
theorem find_sign (s : ByteArray) (k : Nat) (hk : k < 23) (hno : NoSign s k) (h : pre s (signB k) = true) :
    signs.find? (fun x => Lib.hasPrefix s.data.toList x) = some (signs.getD k []) := by
  have hl : k < signs.length := hk
  rw [List.getD, List.getElem?_eq_getElem hl, Option.getD_some]
  rw [List.find?_eq_some_iff_getElem]
  refine ⟨?_, k, hl, rfl, fun j hj => ?_⟩
  · unfold pre signB at h
    rw [List.getD, List.getElem?_eq_getElem hl, Option.getD_some] at h
    exact h
  · have h2 := hno j hj
    unfold pre signB at h2
    rw [List.getD, List.getElem?_eq_getElem (by omega), Option.getD_some] at h2
    simpa using h2
theorem find_none (s : ByteArray) (hno : NoSign s 23) : signs.find? (fun x => Lib.hasPrefix s.data.toList x) = none := by
  rw [List.find?_eq_none]
  intro x hx
  obtain ⟨j, hj, rfl⟩ := List.getElem_of_mem hx
  have h2 := hno j hj
  unfold pre signB at h2
  rw [List.getD, List.getElem?_eq_getElem hj, Option.getD_some] at h2
  simpa using h2

set_option maxHeartbeats 400000 in
theorem first_sign (s : ByteArray) (w : World) (hs : s.size ≤ 4611686018427387904) (h0 : Hid (wordLen s.data.toList = 0)) (hw : Hid (digLen s.data.toList = 0)) :
    Calls Tryz.prog 302 #[.string s] w fun e w' => FirstEnd s e ∧ Below w.heap.size w w' := by
  have HW : Hid (Calls Tryz.prog 342 #[.string s] (w.alloc tok0) fun e w' => e = .returned (.int .i64 0) ∧ (w.alloc tok0) = w') := by
    have := word_any s (w.alloc tok0) hs
    rw [h0.out] at this
    exact this
  have HD : Hid (Calls Tryz.prog 344 #[.string s] (w.alloc tok0) fun e w' => e = .returned (.int .i64 0) ∧ (w.alloc tok0) = w') := by
    have := digits_any s (w.alloc tok0) hs
    rw [hw.out] at this
    exact this
  have hfirst : Hid (first s.data.toList = (signs.find? (fun x => Lib.hasPrefix s.data.toList x)).map fun x => (kSign, x)) := by
    show _ = _
    unfold first; rw [h0.out, hw.out, if_neg (by omega), if_neg (by omega)]
  have HC := fun i h => sign_cell (w.alloc tok0) i h
  go_enter Tryz.func302, Tryz.ntmps302
  go_wp2_with fail
  refine HW.out.mono ?_
  rintro e w' ⟨rfl, rfl⟩
  go_wp2_with fail
  refine HD.out.mono ?_
  rintro e w' ⟨rfl, rfl⟩
  go_wp2_with fail
  refine (signs_any _).mono ?_
  rintro e w' ⟨rfl, rfl⟩
  go_wp2_with fail
  go_loop [32] (fun i => ∃ k : Nat, k ≤ 23 ∧ i = .int .i64 k ∧ NoSign s k) (fun i => 23 - (intOf i).toNat)
  case atStart => exact ⟨0, Nat.zero_le _, rfl, fun j hj => absurd hj (by omega)⟩
  case round =>
    obtain ⟨k, hk, rfl, hno⟩ := hrel
    by_cases hlt : k < 23
    · have hcell := HC k hlt
      simp only [World.size_alloc] at hcell
      by_cases hp : pre s (signB k) = true
      · have hfin : Hid (first s.data.toList = some (kSign, signs.getD k [])) := by
          show _ = _
          rw [hfirst.out, find_sign s k hlt hno hp]; rfl
        clear hfirst HC hno HW HD
        unfold tok0 at hcell ⊢
        go_wp2_with (go_at_call 346; refine (hasPrefix_any _ _ _).mono ?_; rintro e w' ⟨rfl, rfl⟩)
        refine bodyPost_ret (v := .tuple #[.agg #[.string ⟨#[115, 105, 103, 110]⟩, .string (signB k), .int .i64 0], .bool true]) ?_ rfl ⟨?_, ?_⟩
        · simp [results, Tryz.results302, go_sem]
        · exact .inl ⟨_, _, hfin.out, rfl⟩
        · exact ((Below.refl _ _).alloc (Nat.le_refl _) _).alloc (by simp) _
      · have hp' : pre s (signB k) = false := by simpa using hp
        have hno' : NoSign s (k + 1) := by
          intro j hj
          rcases Nat.lt_or_ge j k with h | h
          · exact hno j h
          · rw [show j = k from by omega]; exact hp'
        clear hp hno hfirst HC
        go_wp2_with (go_at_call 346; refine (hasPrefix_any _ _ _).mono ?_; rintro e w' ⟨rfl, rfl⟩)
        go_round
        case rel => exact ⟨k + 1, by omega, by go_num, hno'⟩
        case measure => simp [intOf]; omega
    · have hfin : Hid (first s.data.toList = none) := by
        show _ = _
        have : k = 23 := by omega
        subst this
        rw [hfirst.out, find_none s hno]; rfl
      clear hfirst HC hno HW HD
      unfold tok0
      go_wp2
      refine bodyPost_ret (v := .tuple #[.agg #[.string ⟨#[]⟩, .string ⟨#[]⟩, .int .i64 0], .bool false]) ?_ rfl ⟨?_, ?_⟩
      · simp [results, Tryz.results302, go_sem]
      · exact .inr ⟨hfin.out, _, _, rfl⟩
      · exact ((Below.refl _ _).alloc (Nat.le_refl _) _).alloc (by simp) _

theorem first_any (s : ByteArray) (w : World) (hT : Tab w) (hs : s.size ≤ 4611686018427387904) :
    Calls Tryz.prog 302 #[.string s] w fun e w' => FirstEnd s e ∧ Below w.heap.size w w' := by
  have h1 := wordLen_le s.data.toList
  have h2 := digLen_le s.data.toList
  rw [← Lib.size_eq] at h1 h2
  rcases Nat.eq_zero_or_pos (wordLen s.data.toList) with h | h
  · rcases Nat.eq_zero_or_pos (digLen s.data.toList) with h' | h'
    · exact first_sign s w hs h h'
    · exact first_dig s w hs _ h' h rfl h2
  · exact first_word s w hT hs _ h rfl h1

end Go.Proofs.YtacjgphfcailmaaGreatDoor
