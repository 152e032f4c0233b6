/-
  The names of operations; how many ints they take; what changes nothing in them.
-/
import Derived.Test.YtclafjbbdhnhlaaGreatDoorSmA
namespace Go.Proofs.YtclafjbbdhnhlaaGreatDoor
open Go.RowKit
set_option linter.unusedVariables false
set_option linter.unusedSimpArgs false

namespace Sm
inductive Nm where
  | add | sub | mul | quo | rem | mn | mx | lt | le | eq | and | or | not | int | other
def bytes : Nm → List UInt8
  | .add => [43] | .sub => [45] | .mul => [42] | .quo => [47] | .rem => [37] | .mn => [109, 105, 110] | .mx => [109, 97, 120] | .lt => [60] | .le => [60, 61] | .eq => [61, 61]
  | .and => [38] | .or => [124] | .not => [33] | .int => [105, 110, 116] | .other => []
/-- a text is that name, or none of them -/
def Is (k : Nm) (s : ByteArray) : Prop :=
  match k with
  | .other => (s.toList == [43]) = false ∧ (s.toList == [45]) = false ∧ (s.toList == [42]) = false ∧ (s.toList == [47]) = false ∧ (s.toList == [37]) = false ∧ (s.toList == [109, 105, 110]) = false ∧ (s.toList == [109, 97, 120]) = false ∧
      (s.toList == [60]) = false ∧ (s.toList == [60, 61]) = false ∧ (s.toList == [61, 61]) = false ∧ (s.toList == [38]) = false ∧ (s.toList == [124]) = false ∧ (s.toList == [33]) = false ∧ (s.toList == [105, 110, 116]) = false
  | k => s = ⟨(bytes k).toArray⟩
theorem of_bytes {s : ByteArray} {l : List UInt8} (h : (s.toList == l) = true) : s = ⟨l.toArray⟩ := by
  rw [beq_iff_eq, ByteArray.toList_eq] at h
  exact ByteArray.ext (Array.ext' (by simpa using h))
theorem is_some (s : ByteArray) : ∃ k, Is k s := by
  cases a1 : (s.toList == [43])
  case true => exact ⟨.add, of_bytes a1⟩
  cases a2 : (s.toList == [45])
  case true => exact ⟨.sub, of_bytes a2⟩
  cases a3 : (s.toList == [42])
  case true => exact ⟨.mul, of_bytes a3⟩
  cases a4 : (s.toList == [47])
  case true => exact ⟨.quo, of_bytes a4⟩
  cases a5 : (s.toList == [37])
  case true => exact ⟨.rem, of_bytes a5⟩
  cases a6 : (s.toList == [109, 105, 110])
  case true => exact ⟨.mn, of_bytes a6⟩
  cases a7 : (s.toList == [109, 97, 120])
  case true => exact ⟨.mx, of_bytes a7⟩
  cases a8 : (s.toList == [60])
  case true => exact ⟨.lt, of_bytes a8⟩
  cases a9 : (s.toList == [60, 61])
  case true => exact ⟨.le, of_bytes a9⟩
  cases b1 : (s.toList == [61, 61])
  case true => exact ⟨.eq, of_bytes b1⟩
  cases b2 : (s.toList == [38])
  case true => exact ⟨.and, of_bytes b2⟩
  cases b3 : (s.toList == [124])
  case true => exact ⟨.or, of_bytes b3⟩
  cases b4 : (s.toList == [33])
  case true => exact ⟨.not, of_bytes b4⟩
  cases b5 : (s.toList == [105, 110, 116])
  case true => exact ⟨.int, of_bytes b5⟩
  exact ⟨.other, a1, a2, a3, a4, a5, a6, a7, a8, a9, b1, b2, b3, b4, b5⟩

def arity : Nm → Int
  | .not => 1 | .int => 1 | .other => 0 | _ => 2
def noneV : Nm → Option Int
  | .add => some 0 | .mul => some 1 | .mn => some 9223372036854775807 | .mx => some (-9223372036854775808) | .and => some 1 | .or => some 0 | _ => none
def noneB : Nm → Bool
  | .and => true | .or => true | _ => false

theorem arity_at (k : Nm) (s : ByteArray) (h : Is k s) (w : World) : Calls Tryz.prog 21 #[.string s] w fun e w' => e = .returned (.int .i64 (arity k)) ∧ Below w.heap.size w w' := by
  go_enter Tryz.func21, Tryz.ntmps21
  cases k
  case other =>
    obtain ⟨a1, a2, a3, a4, a5, a6, a7, a8, a9, b1, b2, b3, b4, b5⟩ := h
    go_wp2_with fail
    go_ret
    exact ⟨rfl, Below.refl _ _⟩
  all_goals
    simp only [Is, bytes] at h
    subst h
    go_wp2_with fail
    go_ret
    exact ⟨rfl, Below.refl _ _⟩
theorem enone_at (k : Nm) (s : ByteArray) (h : Is k s) (hk : (noneV k).isSome = true) (w : World) : Calls Tryz.prog 19 #[.string s] w fun e w' => e = .returned (.int .i64 ((noneV k).getD 0)) ∧ Below w.heap.size w w' := by
  go_enter Tryz.func19, Tryz.ntmps19
  cases k <;> simp only [noneV, Option.isSome_none, Bool.false_eq_true] at hk
  all_goals
    simp only [Is, bytes] at h
    subst h
    go_wp2_with fail
    go_ret
    exact ⟨rfl, Below.refl _ _⟩
theorem truth_at (b : Bool) (w : World) : Calls Tryz.prog 27 #[.bool b] w fun e w' => e = .returned (.int .i64 (if b then 1 else 0)) ∧ Below w.heap.size w w' := by
  go_enter Tryz.func27, Tryz.ntmps27
  cases b
  all_goals
    go_wp2_with fail
    go_ret
    exact ⟨rfl, Below.refl _ _⟩

/-- whether a text stands among texts -/
def inS (l : List ByteArray) (s : ByteArray) : Bool := l.any fun x => s.toList == x.toList
set_option maxHeartbeats 4000000 in
set_option maxRecDepth 100000 in
theorem index_at (l : List ByteArray) (s : ByteArray) (v : Value) (w : World) (hv : SSl w v l) :
    Calls Tryz.prog 26 #[v, .string s] w fun e w' => (∃ r : Int, e = .returned (.int .i64 r) ∧ decide (0 ≤ r) = inS l s) ∧ Below w.heap.size w w' := by
  obtain ⟨A, cap, rfl, hca, hma, hA⟩ := hv
  have HA : Hid (0 < l.length → ∃ b off, A = some ⟨b, off, none⟩ ∧ ∀ i (h : i < l.length), w.cell? ⟨b, off + i, none⟩ = some (.string l[i])) := hA
  have hmax : maxLen = 9223372036854775807 := rfl
  rw [hmax] at hma
  clear hA hmax
  go_enter Tryz.func26, Tryz.ntmps26
  go_wp2_with fail
  go_loopw [8, 5] (fun i j wr => ∃ (k : Nat), k ≤ l.length ∧ i = .int .i64 k ∧ Hid (∀ q (h : q < l.length), q < k → (s.toList == l[q].toList) = false) ∧ Below w.heap.size w wr) (fun i _ _ => l.length - (intOf i).toNat)
  case atStart => exact ⟨0, Nat.zero_le _, rfl, fun q h1 h2 => by omega, Below.refl _ _⟩
  case round =>
    obtain ⟨k, hk, rfl, hno, hnx⟩ := hrel
    by_cases hlt : k < l.length
    · obtain ⟨b, off, rfl, hCA⟩ := HA.out (by omega)
      have x1 : wr.cell? ⟨b, off + k, none⟩ = some (.string l[k]) := (hnx.cell (cell_lt (hCA k hlt))).trans (hCA k hlt)
      have hyes : Hid ((s.toList == l[k].toList) = true → inS l s = true) := fun h => by
        unfold inS
        rw [List.any_eq_true]
        exact ⟨l[k], List.getElem_mem hlt, h⟩
      have hnext : Hid ((s.toList == l[k].toList) = false → ∀ q (h : q < l.length), q < k + 1 → (s.toList == l[q].toList) = false) := fun h q h1 h2 => by
        by_cases e : q = k
        · subst e; exact h
        · exact hno.out q h1 (by omega)
      obtain ⟨x, hx⟩ : ∃ x, l[k] = x := ⟨_, rfl⟩
      rw [hx] at x1 hyes hnext
      have hki : (0 : Int) ≤ (k : Int) := by omega
      have hk1 : (k : Int) < (l.length : Int) := by omega
      clear hx hCA HA hno
      cases hxy : (s.toList == x.toList)
      · have hs := hide' (hnext.out hxy)
        clear hyes hnext
        go_wp2_with fail
        go_roundw
        case rel => exact ⟨k + 1, by omega, by go_num, hs, hnx⟩
        case measure => simp [intOf]; omega
      · have hs := hyes.out hxy
        clear hyes hnext
        go_wp2_with fail
        go_ret
        exact ⟨⟨k, rfl, by rw [hs]; simp⟩, hnx⟩
    · have hs : inS l s = false := by
        unfold inS
        rw [List.any_eq_false]
        intro x hx
        obtain ⟨q, hq, rfl⟩ := List.getElem_of_mem hx
        rw [hno.out q hq (by omega)]
        simp
      clear HA hno
      go_wp2_with fail
      go_ret
      exact ⟨⟨-1, rfl, by rw [hs]; rfl⟩, hnx⟩
theorem contains_at (l : List ByteArray) (s : ByteArray) (v : Value) (w : World) (hv : SSl w v l) :
    Calls Tryz.prog 18 #[v, .string s] w fun e w' => e = .returned (.bool (inS l s)) ∧ Below w.heap.size w w' := by
  have HI := hide' (index_at l s v w hv)
  obtain ⟨A, cap, rfl, _⟩ := hv
  go_enter Tryz.func18, Tryz.ntmps18
  go_wp2_with fail
  refine HI.out.mono ?_
  rintro e w1 ⟨⟨r, rfl, hr⟩, hb⟩
  clear HI
  go_wp2_with fail
  go_ret
  exact ⟨by rw [← hr]; rfl, hb⟩

def six : List ByteArray := [⟨#[43]⟩, ⟨#[42]⟩, ⟨#[109, 105, 110]⟩, ⟨#[109, 97, 120]⟩, ⟨#[38]⟩, ⟨#[124]⟩]
theorem six_in (k : Nm) (s : ByteArray) (h : Is k s) : inS six s = (noneV k).isSome := by
  cases k
  case other =>
    obtain ⟨a1, a2, a3, a4, a5, a6, a7, a8, a9, b1, b2, b3, b4, b5⟩ := h
    have t1 : (⟨#[43]⟩ : ByteArray).toList = [43] := by rw [ByteArray.toList_eq]
    have t2 : (⟨#[42]⟩ : ByteArray).toList = [42] := by rw [ByteArray.toList_eq]
    have t3 : (⟨#[109, 105, 110]⟩ : ByteArray).toList = [109, 105, 110] := by rw [ByteArray.toList_eq]
    have t4 : (⟨#[109, 97, 120]⟩ : ByteArray).toList = [109, 97, 120] := by rw [ByteArray.toList_eq]
    have t5 : (⟨#[38]⟩ : ByteArray).toList = [38] := by rw [ByteArray.toList_eq]
    have t6 : (⟨#[124]⟩ : ByteArray).toList = [124] := by rw [ByteArray.toList_eq]
    simp only [inS, six, List.any_cons, List.any_nil, t1, t2, t3, t4, t5, t6, a1, a3, a6, a7, b2, b3, Bool.or_false]
    rfl
  all_goals
    simp only [Is, bytes] at h
    subst h
    simp only [inS, six, ByteArray.toList_eq]
    decide
set_option maxHeartbeats 4000000 in
set_option maxRecDepth 100000 in
theorem none_at (k : Nm) (s : ByteArray) (h : Is k s) (w : World) :
    Calls Tryz.prog 10 #[.string s] w fun e w' => e = .returned (.tuple #[.int .i64 ((noneV k).getD 0), .int .i64 (if (noneV k).isSome then 0 else 2)]) ∧ Below w.heap.size w w' := by
  have HC := hide' (contains_at six s (.slice (some ⟨w.heap.size, 0, none⟩) 6 6) (w.alloc (.cells #[.string ⟨#[43]⟩, .string ⟨#[42]⟩, .string ⟨#[109, 105, 110]⟩, .string ⟨#[109, 97, 120]⟩, .string ⟨#[38]⟩, .string ⟨#[124]⟩] 9)) ⟨_, _, rfl, Nat.le_refl _, by unfold maxLen; omega, fun _ => ⟨_, 0, rfl, fun i hi => by
    match i, hi with
    | 0, _ => exact cells_new' _ _ _ 0 _ rfl rfl
    | 1, _ => exact cells_new' _ _ _ 1 _ rfl rfl
    | 2, _ => exact cells_new' _ _ _ 2 _ rfl rfl
    | 3, _ => exact cells_new' _ _ _ 3 _ rfl rfl
    | 4, _ => exact cells_new' _ _ _ 4 _ rfl rfl
    | 5, _ => exact cells_new' _ _ _ 5 _ rfl rfl⟩⟩)
  rw [six_in k s h] at HC
  have HE := fun hk w1 => hide' (enone_at k s h hk w1)
  go_enter Tryz.func10, Tryz.ntmps10
  go_wp2_with fail
  refine HC.out.mono ?_
  rintro e w1 ⟨rfl, hb1⟩
  have hend : Below w.heap.size w w1 := ((Below.refl _ w).alloc (Nat.le_refl _) _).trans (hb1.mono (by simp))
  clear HC hb1
  cases hk : (noneV k).isSome
  · have hv : (noneV k).getD 0 = 0 := by cases k <;> simp [noneV] at hk ⊢
    clear HE
    go_wp2_with fail
    all_goals
      go_ret2
      exact ⟨rfl, hend⟩
  · have HE1 := HE hk w1
    clear HE
    go_wp2_with fail
    refine HE1.out.mono ?_
    rintro e w2 ⟨rfl, hb2⟩
    have hend2 := hend.trans (hb2.mono hend.size)
    clear HE1 hb2
    go_wp2_with fail
    go_ret2
    exact ⟨rfl, hend2⟩

/-! the document's -/
theorem cells_pair (w : World) (x y : Value) (T : TypeId) : (w.alloc (.cells #[x, y] T)).cell? ⟨w.heap.size, 0, none⟩ = some x ∧ (w.alloc (.cells #[x, y] T)).cell? ⟨w.heap.size, 1, none⟩ = some y :=
  ⟨cells_new' w #[x, y] T 0 _ rfl rfl, cells_new' w #[x, y] T 1 _ rfl rfl⟩
set_option maxHeartbeats 4000000 in
set_option maxRecDepth 100000 in
theorem rnone0_at (k : Nm) (s : ByteArray) (h : Is k s) (w : World) :
    Calls Tryz.prog 20 #[.string s] w fun e w' => e = .returned (.tuple #[.agg #[.int .i64 ((noneV k).getD 0), .bool (noneB k)], .bool (noneV k).isSome]) ∧ Below w.heap.size w w' := by
  have r := cells_pair w (.int .i64 ((noneV k).getD 0)) (.bool (noneB k)) 52
  go_enter Tryz.func20, Tryz.ntmps20
  cases k
  case other =>
    obtain ⟨a1, a2, a3, a4, a5, a6, a7, a8, a9, b1, b2, b3, b4, b5⟩ := h
    simp only [noneV, noneB, Option.getD_some, Option.getD_none] at r
    go_wp2_with fail
    exact bodyPost_ret (by simp [results, Tryz.results20, go_sem, r.1, r.2, noneV, noneB]) rfl ⟨rfl, (Below.refl _ _).alloc (Nat.le_refl _) _⟩
  all_goals
    simp only [Is, bytes] at h
    subst h
    simp only [noneV, noneB, Option.getD_some, Option.getD_none] at r
    go_wp2_with fail
    exact bodyPost_ret (by simp [results, Tryz.results20, go_sem, r.1, r.2, noneV, noneB]) rfl ⟨rfl, (Below.refl _ _).alloc (Nat.le_refl _) _⟩
end Sm
end Go.Proofs.YtclafjbbdhnhlaaGreatDoor
