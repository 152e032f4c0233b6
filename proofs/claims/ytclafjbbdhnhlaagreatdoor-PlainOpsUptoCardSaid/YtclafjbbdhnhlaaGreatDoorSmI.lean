/-
  What an operation makes of ints: the program's.
-/
import Derived.Test.YtclafjbbdhnhlaaGreatDoorSmH
namespace Go.Proofs.YtclafjbbdhnhlaaGreatDoor
open Go.RowKit
set_option linter.unusedVariables false
set_option linter.unusedSimpArgs false

namespace Sm
/-- a list of ints -/
def ISl (w : World) (v : Value) (l : List Int) : Prop :=
  ∃ A cap, v = .slice A l.length cap ∧ l.length ≤ cap ∧ cap ≤ maxLen ∧ (0 < l.length → ∃ b off, A = some ⟨b, off, none⟩ ∧ ∀ i (h : i < l.length), w.cell? ⟨b, off + i, none⟩ = some (.int .i64 l[i]))
theorem ISl.under {w w' : World} {v : Value} {l : List Int} (h : ISl w v l) (hb : Below w.heap.size w w') : ISl w' v l := by
  obtain ⟨A, cap, h1, h2, h3, h4⟩ := h
  refine ⟨A, cap, h1, h2, h3, fun hp => ?_⟩
  obtain ⟨b, off, h5, h6⟩ := h4 hp
  exact ⟨b, off, h5, fun i hi => (hb.cell (cell_lt (h6 i hi))).trans (h6 i hi)⟩

def tr (b : Bool) : Int := if b then 1 else 0
/-- the program's operations on two ints, and on one -/
def eng2 : Nm → Int → Int → Int × Bool
  | .add, a, b => (wrap64 (a + b), true)
  | .sub, a, b => (wrap64 (a - b), true)
  | .mul, a, b => (wrap64 (a * b), true)
  | .quo, a, b => if b = 0 then (0, false) else (wrap64 (a.tdiv b), true)
  | .rem, a, b => if b = 0 then (0, false) else (a.tmod b, true)
  | .lt, a, b => (tr (decide (a < b)), true)
  | .le, a, b => (tr (decide (a ≤ b)), true)
  | .eq, a, b => (tr (decide (a = b)), true)
  | .and, a, b => (if b < a then b else a, true)
  | .mn, a, b => (if b < a then b else a, true)
  | .or, a, b => (if a < b then b else a, true)
  | .mx, a, b => (if a < b then b else a, true)
  | _, a, b => (a, true)
def eng1 : Nm → Int → Int
  | .not, a => wrap64 (1 - a)
  | _, a => a

set_option maxHeartbeats 4000000 in
set_option maxRecDepth 100000 in
theorem op1_at (k : Nm) (s : ByteArray) (h : Is k s) (hk : arity k = 1) (a : Int) (v : Value) (w : World) (hv : ISl w v [a]) :
    Calls Tryz.prog 22 #[.string s, v] w fun e w' => e = .returned (.tuple #[.int .i64 (eng1 k a), .bool true]) ∧ Below w.heap.size w w' := by
  obtain ⟨A, cap, rfl, hca, hma, hA⟩ := hv
  obtain ⟨b, off, rfl, hC⟩ := hA (by simp)
  have c0 := hC 0 (by simp)
  simp only [List.length_cons, List.length_nil, Nat.zero_add, List.getElem_cons_zero, Nat.add_zero] at *
  have hmax : maxLen = 9223372036854775807 := rfl
  rw [hmax] at hma
  clear hA hC hmax
  go_enter Tryz.func22, Tryz.ntmps22
  cases k <;> simp [arity] at hk
  all_goals
    simp only [Is, bytes] at h
    subst h
    go_wp2_with fail
    go_ret2
    exact ⟨rfl, Below.refl _ _⟩

set_option maxHeartbeats 16000000 in
set_option maxRecDepth 100000 in
theorem op2_at (k : Nm) (s : ByteArray) (h : Is k s) (hk : arity k = 2) (a b : Int) (v : Value) (w : World) (hv : ISl w v [a, b]) :
    Calls Tryz.prog 22 #[.string s, v] w fun e w' => e = .returned (.tuple #[.int .i64 (eng2 k a b).1, .bool (eng2 k a b).2]) ∧ Below w.heap.size w w' := by
  have HT := fun (x : Bool) (w1 : World) => hide' (truth_at x w1)
  obtain ⟨A, cap, rfl, hca, hma, hA⟩ := hv
  obtain ⟨g, off, rfl, hC⟩ := hA (by simp)
  have c0 := hC 0 (by simp)
  have c1 := hC 1 (by simp)
  simp only [List.length_cons, List.length_nil, Nat.zero_add, List.getElem_cons_zero, List.getElem_cons_succ, Nat.add_zero] at *
  have hmax : maxLen = 9223372036854775807 := rfl
  rw [hmax] at hma
  clear hA hC hmax
  go_enter Tryz.func22, Tryz.ntmps22
  cases k <;> simp [arity] at hk
  case quo =>
    simp only [Is, bytes] at h
    subst h
    by_cases hb : b = 0
    all_goals
      go_wp2_with fail
      go_ret2
      exact ⟨by simp [eng2, hb], Below.refl _ _⟩
  case rem =>
    simp only [Is, bytes] at h
    subst h
    by_cases hb : b = 0
    all_goals
      go_wp2_with fail
      go_ret2
      exact ⟨by simp [eng2, hb], Below.refl _ _⟩
  case lt =>
    simp only [Is, bytes] at h
    subst h
    go_wp2_with fail
    refine (HT _ _).out.mono ?_
    rintro e w1 ⟨rfl, hb1⟩
    clear HT
    go_wp2_with fail
    all_goals
      go_ret2
      exact ⟨by simp_all [eng2, tr], hb1⟩
  case le =>
    simp only [Is, bytes] at h
    subst h
    go_wp2_with fail
    refine (HT _ _).out.mono ?_
    rintro e w1 ⟨rfl, hb1⟩
    clear HT
    go_wp2_with fail
    all_goals
      go_ret2
      exact ⟨by simp_all [eng2, tr], hb1⟩
  case eq =>
    simp only [Is, bytes] at h
    subst h
    go_wp2_with fail
    refine (HT _ _).out.mono ?_
    rintro e w1 ⟨rfl, hb1⟩
    clear HT
    go_wp2_with fail
    all_goals
      go_ret2
      exact ⟨by simp_all [eng2, tr], hb1⟩
  all_goals
    simp only [Is, bytes] at h
    subst h
    go_wp2_with fail
    all_goals
      go_ret2
      exact ⟨by first | (simp_all [eng2, tr]; done) | (simp_all [eng2, tr]; omega), Below.refl _ _⟩

/-- what the program's Op returns: the result, whether there is one, the error -/
def opV (k : Nm) (l : List Int) : Int × Bool × Int :=
  match l with
  | [a] => if arity k = 1 then (eng1 k a, true, 0) else (0, false, 2)
  | [a, b] => if arity k = 2 then ((eng2 k a b).1, (eng2 k a b).2, 0) else (0, false, 2)
  | _ => (0, false, 2)
theorem opV_no {k : Nm} {l : List Int} (h : arity k ≠ l.length) : opV k l = (0, false, 2) := by
  unfold opV
  split
  · rw [if_neg (by simpa using h)]
  · rw [if_neg (by simpa using h)]
  · rfl
set_option maxHeartbeats 4000000 in
set_option maxRecDepth 100000 in
theorem pop_at (k : Nm) (s : ByteArray) (h : Is k s) (l : List Int) (v : Value) (w : World) (hv : ISl w v l) :
    Calls Tryz.prog 13 #[.string s, v] w fun e w' => e = .returned (.tuple #[.int .i64 (opV k l).1, .bool (opV k l).2.1, .int .i64 (opV k l).2.2]) ∧ Below w.heap.size w w' := by
  have HA := hide' (arity_at k s h w)
  have HV := hide' hv
  obtain ⟨A, cap, rfl, hca, hma, hA⟩ := hv
  have hmax : maxLen = 9223372036854775807 := rfl
  rw [hmax] at hma
  clear hA hmax
  by_cases hl : arity k = l.length
  · by_cases h0 : arity k = 0
    · have ho : opV k l = (0, false, 2) := by
        have : l = [] := List.eq_nil_of_length_eq_zero (by omega)
        subst this
        rfl
      rw [ho]
      rw [h0] at HA
      clear HV h hl ho h0
      go_enter Tryz.func13, Tryz.ntmps13
      go_wp2_with fail
      refine HA.out.mono ?_
      rintro e w1 ⟨rfl, hb1⟩
      clear HA
      go_wp2_with fail
      exact bodyPost_ret (by simp [results, Tryz.results13, go_sem]) rfl ⟨rfl, hb1⟩
    · have h12 : arity k = 1 ∨ arity k = 2 := by cases k <;> simp [arity] at h0 ⊢
      have HO : Hid (∀ w1, Below w.heap.size w w1 → Calls Tryz.prog 22 #[.string s, .slice A l.length cap] w1 fun e w' => e = .returned (.tuple #[.int .i64 (opV k l).1, .bool (opV k l).2.1]) ∧ Below w1.heap.size w1 w') := fun w1 hb1 => by
        rcases h12 with h1 | h2
        · match l, hl, HV with
          | [a], hl, HV =>
            refine (op1_at k s h h1 a _ w1 (HV.out.under hb1)).mono fun e w' ⟨he, hb⟩ => ?_
            simp only [opV, h1, if_true]
            exact ⟨he, hb⟩
          | [], hl, HV => simp at hl; omega
          | _ :: _ :: _, hl, HV => simp at hl; omega
        · match l, hl, HV with
          | [a, b], hl, HV =>
            refine (op2_at k s h h2 a b _ w1 (HV.out.under hb1)).mono fun e w' ⟨he, hb⟩ => ?_
            simp only [opV, h2, if_true]
            exact ⟨he, hb⟩
          | [], hl, HV => simp at hl; omega
          | [_], hl, HV => simp at hl; omega
          | _ :: _ :: _ :: _, hl, HV => simp at hl; omega
      have hz : (opV k l).2.2 = 0 := by
        rcases h12 with h1 | h2
        · match l, hl with
          | [a], hl => simp only [opV, h1, if_true]
          | [], hl => simp at hl; omega
          | _ :: _ :: _, hl => simp at hl; omega
        · match l, hl with
          | [a, b], hl => simp only [opV, h2, if_true]
          | [], hl => simp at hl; omega
          | [_], hl => simp at hl; omega
          | _ :: _ :: _ :: _, hl => simp at hl; omega
      obtain ⟨x, hx⟩ : ∃ x, (opV k l).1 = x := ⟨_, rfl⟩
      obtain ⟨y, hy⟩ : ∃ y, (opV k l).2.1 = y := ⟨_, rfl⟩
      rw [hx, hy] at HO
      rw [hx, hy, hz]
      obtain ⟨n, hn⟩ : ∃ n, arity k = n := ⟨_, rfl⟩
      rw [hn] at hl h0 HA
      subst hl
      have h0' : ((l.length : Int) == 0) = false := by simpa using h0
      clear HV hx hy hz hn h12 h h0
      go_enter Tryz.func13, Tryz.ntmps13
      go_wp2_with fail
      refine HA.out.mono ?_
      rintro e w1 ⟨rfl, hb1⟩
      have HO1 := hide' (HO.out w1 hb1)
      clear HA HO
      go_wp2_with fail
      refine HO1.out.mono ?_
      rintro e w2 ⟨rfl, hb2⟩
      have hend := hb1.trans (hb2.mono hb1.size)
      clear HO1
      go_wp2_with fail
      exact bodyPost_ret (by simp [results, Tryz.results13, go_sem]) rfl ⟨rfl, hend⟩
  · rw [opV_no hl]
    obtain ⟨n, hn⟩ : ∃ n, arity k = n := ⟨_, rfl⟩
    rw [hn] at hl HA
    have hl' : ((l.length : Int) != n) = true := by
      rw [bne_iff_ne]
      exact fun e => hl e.symm
    clear HV hn h hl
    cases h0 : (n == 0)
    all_goals
      go_enter Tryz.func13, Tryz.ntmps13
      go_wp2_with fail
      refine HA.out.mono ?_
      rintro e w1 ⟨rfl, hb1⟩
      clear HA
      go_wp2_with fail
      exact bodyPost_ret (by simp [results, Tryz.results13, go_sem]) rfl ⟨rfl, hb1⟩
end Sm
end Go.Proofs.YtclafjbbdhnhlaaGreatDoor
