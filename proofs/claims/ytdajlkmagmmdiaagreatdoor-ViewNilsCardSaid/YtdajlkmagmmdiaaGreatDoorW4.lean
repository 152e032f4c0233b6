/-
  The walks of signs, keys and kinds of package token.
-/
import Derived.Test.YtdajlkmagmmdiaaGreatDoorW2
import Derived.Deep.RegionHeld3
import Derived.Deep.RegionWith
import Derived.Deep.DeepMust
import Derived.Deep.DeepFit
namespace Go.Proofs.YtdajlkmagmmdiaaGreatDoor
open Go.RowKit
open Tok

/-- the table of spaces of package strings, as it is laid -/
def Tab (w : World) : Prop := Lib.TabIs Tryz.prog w "strings.asciiSpace" .u8 Lib.asciiSpaceTab
theorem gSpace : Tryz.prog.globalNamed "strings.asciiSpace" = some 6 := by kernel_rfl
theorem Tab.lt {w : World} (h : Tab w) : 6 < w.heap.size := by
  unfold Tab Lib.TabIs World.var? at h
  simp only [gSpace, Option.bind_some] at h
  rcases Nat.lt_or_ge 6 w.heap.size with hlt | hge
  · exact hlt
  · rw [Array.getElem?_eq_none hge] at h; simp at h
theorem Tab.below {B : Nat} {w w' : World} (h : Tab w) (hb : Below B w w') (hB : 6 < B) : Tab w' := var?_below hb gSpace hB h
theorem Tab.on {w w' : World} (h : Tab w) (hb : Below w.heap.size w w') : Tab w' := h.below hb h.lt
theorem Tab.alloc {w : World} (h : Tab w) (o : Obj) : Tab (w.alloc o) := h.on ((Below.refl _ _).alloc (Nat.le_refl _) o)

def signB (i : Nat) : ByteArray := ⟨(signs.getD i []).toArray⟩
def signObj : Obj := .cells (signs.map fun l => Value.string ⟨l.toArray⟩).toArray 9

theorem signs_any (w : World) :
    Calls Tryz.prog 475 #[] w fun e w' => e = .returned (.slice (some ⟨w.heap.size, 0, none⟩) 23 23) ∧ w.alloc signObj = w' := by
  go_enter Tryz.func475, Tryz.ntmps475
  go_wp2
  go_ret
  exact ⟨rfl, rfl⟩
theorem sign_cell (w : World) (i : Nat) (h : i < 23) : (w.alloc signObj).cell? ⟨w.heap.size, i, none⟩ = some (.string (signB i)) := by
  have e : (w.alloc signObj).heap[w.heap.size]? = some signObj := by
    show (w.heap.push signObj)[w.heap.size]? = _
    simp
  unfold World.cell?
  simp only [e]
  unfold signObj signB
  simp only [Option.isSome_none, Bool.false_eq_true, if_false, List.getElem?_toArray, List.getElem?_map]
  have hl : i < signs.length := h
  rw [List.getElem?_eq_getElem hl, List.getD, List.getElem?_eq_getElem hl]
  rfl

def keyVals : List ByteArray := keys.map fun l => ⟨l.toArray⟩
def keyObj : Obj := .cells (keys.map fun l => Value.string ⟨l.toArray⟩).toArray 9
theorem keys_len : keys.length = 57 := by decide +kernel
theorem fields_keys (s : ByteArray) (w : World) (hT : Tab w) (hs : s.data.toList = keyText) :
    Calls Tryz.prog 534 #[.string s] w fun e w' => e = .returned (.slice (some ⟨w.heap.size, 0, none⟩) 57 57) ∧ w.alloc keyObj = w' := by
  refine (Tryz.strings_Fields s w (by rw [Lib.size_eq, hs]; decide +kernel) ?_ hT).mono fun e w' ⟨h1, h2⟩ => ⟨?_, ?_⟩
  · intro j b hb
    rw [hs] at hb
    have h : ∀ b ∈ keyText, b.toNat < 128 := by decide +kernel
    exact h b (List.mem_of_getElem? hb)
  · rw [h1, hs]
    have : (Lib.fields keyText).length = 57 := keys_len
    rw [this]
  · rw [h2, hs]; rfl
theorem contains_keys (s : ByteArray) (w : World) :
    Calls Tryz.prog 132 #[.slice (some ⟨w.heap.size, 0, none⟩) 57 57, .string s] (w.alloc keyObj) fun e w' => e = .returned (.bool (isKey s.data.toList)) ∧ w.alloc keyObj = w' := by
  have hl : keyVals.length = 57 := by unfold keyVals; rw [List.length_map]; exact keys_len
  refine (Tryz.slices_Contains_string w.heap.size 0 57 57 keyVals s (w.alloc keyObj) (by omega) (by omega) ?_).mono fun e w' ⟨h1, h2⟩ => ⟨?_, h2.symm⟩
  · intro j hj
    have e : (w.alloc keyObj).heap[w.heap.size]? = some keyObj := by
      show (w.heap.push keyObj)[w.heap.size]? = _
      simp
    unfold World.cell?
    simp only [e]
    unfold keyObj
    have hk : j < keys.length := by rw [keys_len]; omega
    simp only [Option.isSome_none, Bool.false_eq_true, if_false, List.getElem?_toArray, List.getElem?_map, Nat.zero_add]
    rw [List.getElem?_eq_getElem hk, List.getD, keyVals, List.getElem?_map, List.getElem?_eq_getElem hk]
    rfl
  · rw [h1]
    congr 2
    rw [List.take_of_length_le (by omega), Bool.eq_iff_iff, Lib.containsS_iff]
    unfold isKey keyVals
    rw [List.contains_iff_mem, List.mem_map]
    constructor
    · rintro ⟨l, hl, rfl⟩; exact hl
    · intro h; exact ⟨_, h, Lib.mk_data s⟩

set_option maxRecDepth 100000 in
theorem isKey_any (s : ByteArray) (w : World) (hT : Tab w) :
    Calls Tryz.prog 507 #[.string s] w fun e w' => e = .returned (.bool (isKey s.data.toList)) ∧ w.alloc keyObj = w' := by
  have C := contains_keys s w
  have HC := Lib.hid C
  have HT := hide' hT
  clear C hT
  go_enter Tryz.func507, Tryz.ntmps507
  go_wp2_with fail
  refine (fields_keys _ w HT.out ?_).mono ?_
  · decide +kernel
  rintro e w' ⟨rfl, rfl⟩
  go_wp2_with fail
  refine (HC.out).mono ?_
  rintro e w' ⟨rfl, rfl⟩
  go_wp2_with fail
  go_ret
  exact ⟨rfl, rfl⟩

def kindB (s : ByteArray) : ByteArray := ⟨(kindOf s.data.toList).toArray⟩
theorem kind_any (s : ByteArray) (w : World) (hT : Tab w) :
    Calls Tryz.prog 473 #[.string s] w fun e w' => e = .returned (.string (kindB s)) ∧ w.alloc keyObj = w' := by
  have C := isKey_any s w hT
  have HC := Lib.hid C
  clear C hT
  by_cases hk : isKey s.data.toList = true
  · have hr : Hid (kindB s = ⟨#[107, 101, 121]⟩) := by show _ = _; unfold kindB kindOf; rw [if_pos hk]; rfl
    go_enter Tryz.func473, Tryz.ntmps473
    go_wp2_with fail
    refine (HC.out).mono ?_
    rintro e w' ⟨rfl, rfl⟩
    go_wp2_with fail
    go_ret
    exact ⟨by rw [hr.out]; rfl, rfl⟩
  · have hr : Hid (kindB s = ⟨#[110, 97, 109, 101]⟩) := by show _ = _; unfold kindB kindOf; rw [if_neg hk]; rfl
    have hk : isKey s.data.toList = false := by simpa using hk
    go_enter Tryz.func473, Tryz.ntmps473
    go_wp2_with fail
    refine (HC.out).mono ?_
    rintro e w' ⟨rfl, rfl⟩
    go_wp2_with fail
    go_ret
    exact ⟨by rw [hr.out]; rfl, rfl⟩

end Go.Proofs.YtdajlkmagmmdiaaGreatDoor
