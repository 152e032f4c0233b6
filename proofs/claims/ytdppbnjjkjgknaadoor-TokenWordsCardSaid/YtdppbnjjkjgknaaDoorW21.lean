/-
  The walks of Valid and Join of the reference of layer 1.
-/
import Derived.Test.YtdppbnjjkjgknaaDoorW19
namespace Go.Proofs.YtdppbnjjkjgknaaDoor
open Go.RowKit
open Tok
set_option linter.unusedVariables false

theorem eq_list {a b : ByteArray} : a = b ↔ a.data.toList = b.data.toList := by
  constructor
  · rintro rfl; rfl
  · intro h; exact ByteArray.ext (Array.toList_inj.mp h)
theorem ne_list {k : ByteArray} {l : List UInt8} (h : k ≠ ⟨l.toArray⟩) : (k.toList == l) = false := by
  rw [Lib.toList_data, beq_eq_false_iff_ne]
  intro e; exact h (eq_list.2 e)
theorem list_ne {k : ByteArray} {l : List UInt8} (h : (k.toList == l) = false) : k ≠ ⟨l.toArray⟩ := by
  rw [Lib.toList_data, beq_eq_false_iff_ne] at h
  rintro rfl; exact h rfl
def bName : ByteArray := ⟨#[110, 97, 109, 101]⟩
def bKey : ByteArray := ⟨#[107, 101, 121]⟩
def bInt : ByteArray := ⟨#[105, 110, 116]⟩
def bSign : ByteArray := ⟨#[115, 105, 103, 110]⟩
theorem valid_kind (k t : ByteArray) (K : List UInt8) (hk : k.data.toList = K) (b : Bool) (h : first t.data.toList = some (K, t.data.toList) ↔ b = true) : valid k t = b := by
  unfold valid
  rw [hk, Bool.eq_iff_iff, decide_eq_true_eq]
  exact h
theorem valid_other (k t : ByteArray) (h1 : k ≠ bName) (h2 : k ≠ bKey) (h3 : k ≠ bInt) (h4 : k ≠ bSign) : valid k t = false := by
  unfold valid
  rw [decide_eq_false_iff_not]
  intro h
  rcases first_kind h with e | e | e | e
  · exact h1 (eq_list.2 e)
  · exact h2 (eq_list.2 e)
  · exact h3 (eq_list.2 e)
  · exact h4 (eq_list.2 e)

set_option maxHeartbeats 1000000 in
theorem rValid_name (t : ByteArray) (n : Int) (w : World) (ht : t.size ≤ 4611686018427387904) :
    Calls Tryd.prog 17 #[.agg #[.string ⟨#[110, 97, 109, 101]⟩, .string t, .int .i64 n]] w fun e w' => e = .returned (.bool (valid ⟨#[110, 97, 109, 101]⟩ t)) ∧ Below w.heap.size w w' := by
  have hv : Hid (valid ⟨#[110, 97, 109, 101]⟩ t = isName t.data.toList) := valid_kind _ _ kName rfl _ (first_name _)
  go_enter Tryd.func17, Tryd.ntmps17
  go_wp2_with fail
  refine (rIsName_any t _ ht).mono ?_
  rintro e w1 ⟨rfl, hb⟩
  rw [← hv.out]
  go_wp2_with fail
  go_ret
  exact ⟨rfl, Below.trans ((Below.refl _ _).alloc (Nat.le_refl _) _) (hb.mono (by simp))⟩
set_option maxHeartbeats 1000000 in
theorem rValid_int (t : ByteArray) (n : Int) (w : World) (ht : t.size ≤ 4611686018427387904) :
    Calls Tryd.prog 17 #[.agg #[.string ⟨#[105, 110, 116]⟩, .string t, .int .i64 n]] w fun e w' => e = .returned (.bool (valid ⟨#[105, 110, 116]⟩ t)) ∧ Below w.heap.size w w' := by
  have hv : Hid (valid ⟨#[105, 110, 116]⟩ t = isNum t.data.toList) := valid_kind _ _ kInt rfl _ (first_int _)
  go_enter Tryd.func17, Tryd.ntmps17
  go_wp2_with fail
  refine (rNumber_any t _ ht).mono ?_
  rintro e w1 ⟨hn, rfl⟩
  rcases hn with ⟨h1, rfl⟩ | ⟨h1, rfl⟩
  · have hv' : Hid (valid ⟨#[105, 110, 116]⟩ t = true) := hv.out.trans h1
    clear hv h1
    go_wp2_with fail
    go_ret
    exact ⟨by rw [hv'.out]; rfl, (Below.refl _ _).alloc (Nat.le_refl _) _⟩
  · have hv' : Hid (valid ⟨#[105, 110, 116]⟩ t = false) := hv.out.trans h1
    clear hv h1
    go_wp2_with fail
    go_ret
    exact ⟨by rw [hv'.out]; rfl, (Below.refl _ _).alloc (Nat.le_refl _) _⟩

set_option maxHeartbeats 2000000 in
set_option maxRecDepth 100000 in
theorem rValid_key (t : ByteArray) (n : Int) (w : World) (ht : t.size ≤ 4611686018427387904) :
    Calls Tryd.prog 17 #[.agg #[.string ⟨#[107, 101, 121]⟩, .string t, .int .i64 n]] w fun e w' => e = .returned (.bool (valid ⟨#[107, 101, 121]⟩ t)) ∧ Below w.heap.size w w' := by
  have hv : Hid (valid ⟨#[107, 101, 121]⟩ t = hasW keys t) := valid_kind _ _ kKey rfl _ (first_key _)
  have K1 : Hid ((w.alloc (.cells #[.string ⟨#[107, 101, 121]⟩, .string t, .int .i64 n] 30)).cell? ⟨w.heap.size, 1, none⟩ = some (.string t)) := cells_new' w #[.string ⟨#[107, 101, 121]⟩, .string t, .int .i64 n] 30 1 _ rfl rfl
  go_enter Tryd.func17, Tryd.ntmps17
  go_wp2_with fail
  go_region_held3 (fun w' => w'.cell? ⟨w.heap.size, 1, none⟩ = some (.string t)) (first | exact K1.out | exact d1) (first | (go_at_call 32; refine (refKeys_any _ _ (by decide +kernel)).mono ?_; rintro e w1 ⟨v, rfl, hown, hb1⟩; have d1 : w1.cell? ⟨w.heap.size, 1, none⟩ = some (.string t) := (hb1.cell (by simp)).trans K1.out) | (go_at_call 31; refine (has_any keys v _ t _ (by rw [keys_len]; omega) hown).mono ?_; rintro e w2 ⟨rfl, rfl⟩))
  rw [← hv.out]
  go_wp2_with fail
  go_ret
  exact ⟨rfl, Below.trans (((Below.refl _ _).alloc (Nat.le_refl _) _).drew) (hb1.mono (B' := w.heap.size) (by simp))⟩

set_option maxHeartbeats 2000000 in
set_option maxRecDepth 100000 in
theorem rValid_sign (t : ByteArray) (n : Int) (w : World) (ht : t.size ≤ 4611686018427387904) :
    Calls Tryd.prog 17 #[.agg #[.string ⟨#[115, 105, 103, 110]⟩, .string t, .int .i64 n]] w fun e w' => e = .returned (.bool (valid ⟨#[115, 105, 103, 110]⟩ t)) ∧ Below w.heap.size w w' := by
  have hv : Hid (valid ⟨#[115, 105, 103, 110]⟩ t = hasW signs t) := valid_kind _ _ kSign rfl _ (Tok.first_sign _)
  have K1 : Hid ((w.alloc (.cells #[.string ⟨#[115, 105, 103, 110]⟩, .string t, .int .i64 n] 30)).cell? ⟨w.heap.size, 1, none⟩ = some (.string t)) := cells_new' w #[.string ⟨#[115, 105, 103, 110]⟩, .string t, .int .i64 n] 30 1 _ rfl rfl
  go_enter Tryd.func17, Tryd.ntmps17
  go_wp2_with fail
  go_region_held3 (fun w' => w'.cell? ⟨w.heap.size, 1, none⟩ = some (.string t)) (first | exact K1.out | exact d1) (first | (go_at_call 32; refine (refSigns_any _ _ (by decide +kernel)).mono ?_; rintro e w1 ⟨v, rfl, hown, hb1⟩; have d1 : w1.cell? ⟨w.heap.size, 1, none⟩ = some (.string t) := (hb1.cell (by simp)).trans K1.out) | (go_at_call 31; refine (has_any signs v _ t _ (by decide) hown).mono ?_; rintro e w2 ⟨rfl, rfl⟩))
  rw [← hv.out]
  go_wp2_with fail
  go_ret
  exact ⟨rfl, Below.trans (((Below.refl _ _).alloc (Nat.le_refl _) _).drew) (hb1.mono (B' := w.heap.size) (by simp))⟩

set_option maxHeartbeats 1000000 in
theorem rValid_other (k t : ByteArray) (n : Int) (w : World) (h1 : (k.toList == [110, 97, 109, 101]) = false) (h2 : (k.toList == [107, 101, 121]) = false)
    (h3 : (k.toList == [105, 110, 116]) = false) (h4 : (k.toList == [115, 105, 103, 110]) = false) :
    Calls Tryd.prog 17 #[.agg #[.string k, .string t, .int .i64 n]] w fun e w' => e = .returned (.bool (valid k t)) ∧ Below w.heap.size w w' := by
  have hv : Hid (valid k t = false) := valid_other k t (list_ne h1) (list_ne h2) (list_ne h3) (list_ne h4)
  go_enter Tryd.func17, Tryd.ntmps17
  go_wp2_with fail
  go_ret
  exact ⟨by rw [hv.out]; rfl, (Below.refl _ _).alloc (Nat.le_refl _) _⟩

theorem rValid_any (k t : ByteArray) (n : Int) (w : World) (ht : t.size ≤ 4611686018427387904) :
    Calls Tryd.prog 17 #[.agg #[.string k, .string t, .int .i64 n]] w fun e w' => e = .returned (.bool (valid k t)) ∧ Below w.heap.size w w' := by
  by_cases h1 : k = bName
  · subst h1; exact rValid_name t n w ht
  · by_cases h2 : k = bKey
    · subst h2; exact rValid_key t n w ht
    · by_cases h3 : k = bInt
      · subst h3; exact rValid_int t n w ht
      · by_cases h4 : k = bSign
        · subst h4; exact rValid_sign t n w ht
        · exact rValid_other k t n w (ne_list h1) (ne_list h2) (ne_list h3) (ne_list h4)

end Go.Proofs.YtdppbnjjkjgknaaDoor
