/-
  The walks of Number and IsName of layer 1, and of the statement on words.
-/
import Derived.Test.YtdppbnjjkjgknaaDoorW21
import Derived.Test.YtdppbnjjkjgknaaDoorShelf
import Derived.Lib.AtoiErrMem
namespace Go.Proofs.YtdppbnjjkjgknaaDoor
open Go.RowKit
open Tok
set_option linter.unusedVariables false

theorem decFrom_all : ∀ (l : List UInt8) (acc : Nat), (∀ c ∈ l, isDig c = true) → ∃ m : Nat, Lib.decFrom acc l = some m ∧ (m : Int) = l.foldl (fun n c => 10 * n + ((c.toNat : Int) - 48)) (acc : Int)
  | [], acc, _ => ⟨acc, rfl, rfl⟩
  | c :: r, acc, h => by
    obtain ⟨g1, g2⟩ := isDig_range c (h c (by simp))
    have hd : Lib.digitVal c = some (c.toNat - 48) := by
      unfold Lib.digitVal
      rw [if_pos (by omega)]
    obtain ⟨m, hm, he⟩ := decFrom_all r (acc * 10 + (c.toNat - 48)) (fun x hx => h x (by simp [hx]))
    refine ⟨m, by simp only [Lib.decFrom, hd]; exact hm, ?_⟩
    rw [he, List.foldl_cons]
    congr 1
    omega
theorem atoi_num (l : List UInt8) (h : isNum l = true) : Lib.atoi l = some (numOf l) := by
  unfold isNum at h
  rw [Bool.and_eq_true, Bool.and_eq_true, decide_eq_true_eq] at h
  obtain ⟨⟨⟨h1, h2⟩, _⟩, h4⟩ := h
  rw [List.all_eq_true] at h4
  cases l with
  | nil => simp at h1
  | cons c r =>
    obtain ⟨g1, g2⟩ := isDig_range c (h4 c (by simp))
    obtain ⟨m, hm, he⟩ := decFrom_all (c :: r) 0 h4
    have e1 : (c == 45) = false := by
      rw [Bool.eq_false_iff]; intro e
      have : c = 45 := by simpa using e
      rw [this] at g1; revert g1; decide
    have e2 : (c == 43) = false := by
      rw [Bool.eq_false_iff]; intro e
      have : c = 43 := by simpa using e
      rw [this] at g1; revert g1; decide
    unfold Lib.atoi
    simp only [e1, e2, Bool.false_eq_true, if_false]
    unfold Lib.decNat
    simp only [List.isEmpty_cons, Bool.false_eq_true, if_false, hm, Option.map_some]
    rw [he]; rfl
theorem isNum_le {l : List UInt8} (h : isNum l = true) : l.length ≤ 9 := by
  unfold isNum at h
  rw [Bool.and_eq_true, Bool.and_eq_true, decide_eq_true_eq] at h
  exact h.1.1.2
theorem valid_int (s : ByteArray) : valid bInt s = isNum s.data.toList := by
  unfold valid
  rw [Bool.eq_iff_iff, decide_eq_true_eq]
  exact first_int _
theorem valid_name (s : ByteArray) : valid bName s = isName s.data.toList := by
  unfold valid
  rw [Bool.eq_iff_iff, decide_eq_true_eq]
  exact first_name _

set_option maxHeartbeats 1000000 in
theorem number_any (s : ByteArray) (w : World) (hT : Tab w) (hs : s.size ≤ 4611686018427387904) :
    Calls Tryd.prog 23 #[.string s] w fun e w' => NumEnd s.data.toList e ∧ Below w.heap.size w w' := by
  have HV := hide' (valid_any bInt s 0 w hT hs)
  rw [valid_int] at HV
  cases hn : isNum s.data.toList
  · rw [hn] at HV
    have HN := hide' hn
    clear hn
    go_enter Tryd.func23, Tryd.ntmps23
    go_wp2_with fail
    refine HV.out.mono ?_
    rintro e w1 ⟨rfl, hb⟩
    go_wp2_with fail
    go_ret2
    exact ⟨.inr ⟨HN.out, rfl⟩, hb⟩
  · rw [hn] at HV
    have HN := hide' hn
    have HA := fun u => hide' (Tryd.strconv_Atoi s _ (by have := isNum_le hn; rw [Lib.size_eq]; omega) (atoi_num _ hn) u)
    clear hn
    go_enter Tryd.func23, Tryd.ntmps23
    go_wp2_with fail
    refine HV.out.mono ?_
    rintro e w1 ⟨rfl, hb⟩
    go_wp2_with fail
    refine (HA _).out.mono ?_
    rintro e w2 ⟨rfl, t, rfl⟩
    go_wp2_with fail
    go_ret2
    exact ⟨.inl ⟨HN.out, rfl⟩, hb.trans ((Lib.bytesWorld_below _ _ _).mono hb.size)⟩

theorem isName_any (s : ByteArray) (w : World) (hT : Tab w) (hs : s.size ≤ 4611686018427387904) :
    Calls Tryd.prog 25 #[.string s] w fun e w' => e = .returned (.bool (isName s.data.toList)) ∧ Below w.heap.size w w' := by
  have HV := hide' (valid_any bName s 0 w hT hs)
  rw [valid_name] at HV
  go_enter Tryd.func25, Tryd.ntmps25
  go_wp2_with fail
  refine HV.out.mono ?_
  rintro e w1 ⟨rfl, hb⟩
  go_wp2_with fail
  go_ret
  exact ⟨rfl, hb⟩

theorem below_step {n : Nat} {w wc w2 : World} (h : Below w.heap.size w wc) (hb : Below wc.heap.size wc w2) : Below w.heap.size w w2 := h.trans (hb.mono h.size)
theorem numEnd_form {l : List UInt8} {e e' : Ending} (h : NumEnd l e) (h' : NumEnd l e') : ∃ (b c : Int), e = .returned (.tuple #[.int .i64 b, .int .i64 c]) ∧ e' = .returned (.tuple #[.int .i64 b, .int .i64 c]) := by
  rcases h with ⟨h1, rfl⟩ | ⟨h1, rfl⟩
  · rcases h' with ⟨_, rfl⟩ | ⟨g1, _⟩
    · exact ⟨_, _, rfl, rfl⟩
    · rw [h1] at g1; cases g1
  · rcases h' with ⟨g1, _⟩ | ⟨_, rfl⟩
    · rw [h1] at g1; cases g1
    · exact ⟨_, _, rfl, rfl⟩

set_option maxHeartbeats 4000000 in
set_option maxRecDepth 100000 in
theorem words_walk (s : ByteArray) (w : World) (hT : Tab w) (hs : s.size ≤ 4611686018427387904) :
    Calls Tryd.prog 10 #[.string s] w fun e w' => e = .returned (.bool true) ∧ Below w.heap.size w w' := by
  have HT := hide' hT
  clear hT
  go_enter Tryd.func10, Tryd.ntmps10
  go_wp2_with fail
  refine (number_any s _ HT.out hs).mono ?_
  rintro e w1 ⟨hj, hb1⟩
  obtain ⟨b1, c1, rfl, _⟩ := numEnd_form hj hj
  go_wp2_with fail
  refine (rNumber_any s _ hs).mono ?_
  rintro e w2 ⟨hj2, rfl⟩
  obtain ⟨b2, c2, e1, rfl⟩ := numEnd_form hj hj2
  simp only [Ending.returned.injEq, Value.tuple.injEq, Array.mk.injEq, List.cons.injEq, Value.int.injEq, and_true, true_and] at e1
  obtain ⟨rfl, rfl⟩ := e1
  have hT1 := hide' (HT.out.on hb1)
  clear hj hj2
  obtain ⟨q, hq⟩ : ∃ q : Bool, q = isName s.data.toList := ⟨_, rfl⟩
  have HI := fun u (h : Tab u) => isName_any s u h hs
  have HR := fun u => rIsName_any s u hs
  rw [← hq] at HI HR
  clear hq
  go_wp2_with fail
  refine (HI _ hT1.out).mono ?_
  rintro e w2 ⟨rfl, hb2⟩
  go_wp2_with fail
  refine (HR _).mono ?_
  rintro e w3 ⟨rfl, hb3⟩
  have hT3 := (hT1.out.on hb2).on hb3
  have hbw := hb1.trans ((hb2.trans (hb3.mono hb2.size)).mono hb1.size)
  clear hb1 hb2 hb3
  go_wp2_with fail
  all_goals (
    refine (First_any _ hT3).mono ?_
    rintro e w4 ⟨rfl, hb4⟩
    go_wp2_with fail
    go_ret
    exact ⟨rfl, hbw.trans (hb4.mono hbw.size)⟩)

end Go.Proofs.YtdppbnjjkjgknaaDoor
