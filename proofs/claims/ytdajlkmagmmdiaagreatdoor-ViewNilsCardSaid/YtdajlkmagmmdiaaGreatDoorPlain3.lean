/-
  Plain laws about the kinds of tokens: names, keys, ints and signs by their texts; the number of an int. No program stands in this text.
-/
import Derived.Test.YtdajlkmagmmdiaaGreatDoorPlain2
namespace Go.Proofs.YtdajlkmagmmdiaaGreatDoor.Tok

/-- the text of an int: one to nine digits, no 0 in front of others -/
def isNum (l : List UInt8) : Bool := decide (1 ≤ l.length ∧ l.length ≤ 9) && (decide (l.length = 1) || !(l.head? == some 48)) && l.all isDig
def numOf (l : List UInt8) : Int := l.foldl (fun n c => 10 * n + ((c.toNat : Int) - 48)) 0

theorem numOf_snoc (l : List UInt8) (c : UInt8) : numOf (l ++ [c]) = 10 * numOf l + ((c.toNat : Int) - 48) := by
  unfold numOf; rw [List.foldl_append]; rfl
theorem isDig_range (c : UInt8) (h : isDig c = true) : 48 ≤ (c.toNat : Int) ∧ (c.toNat : Int) ≤ 57 := by
  simpa [isDig, digB] using h
theorem numOf_bd : ∀ (n : Nat) (l : List UInt8), l.length = n → (∀ c ∈ l, isDig c = true) → 0 ≤ numOf l ∧ numOf l + 1 ≤ 10 ^ n
  | 0, l, h, _ => by
    obtain rfl : l = [] := List.eq_nil_of_length_eq_zero h
    simp [numOf]
  | n + 1, l, h, hd => by
    have hne : l ≠ [] := by rintro rfl; simp at h
    have e := (List.dropLast_concat_getLast hne).symm
    obtain ⟨h1, h2⟩ := numOf_bd n l.dropLast (by rw [List.length_dropLast]; omega) (fun c hc => hd c (by rw [e]; simp [hc]))
    obtain ⟨g1, g2⟩ := isDig_range (l.getLast hne) (hd _ (List.getLast_mem hne))
    rw [e, numOf_snoc, Int.pow_succ]
    omega
theorem run_all (p : UInt8 → Bool) (l : List UInt8) : run p l = l.length ↔ l.all p = true := by
  induction l with
  | nil => simp [run]
  | cons c r ih =>
    simp only [run, List.length_cons, List.all_cons, Bool.and_eq_true]
    by_cases hc : p c = true
    · rw [if_pos hc, ← ih]
      exact ⟨fun h => ⟨hc, by omega⟩, fun h => by omega⟩
    · rw [if_neg hc]
      exact ⟨fun h => by omega, fun h => absurd h.1 hc⟩

theorem kinds_differ : kName ≠ kKey ∧ kName ≠ kInt ∧ kName ≠ kSign ∧ kKey ≠ kInt ∧ kKey ≠ kSign ∧ kInt ≠ kSign := by decide
theorem keys_words : ∀ x ∈ keys, isWord x = true := by decide +kernel
theorem isKey_iff (l : List UInt8) : isKey l = true ↔ l ∈ keys := by unfold isKey; exact List.contains_iff_mem
theorem isWord_iff (l : List UInt8) : isWord l = true ↔ 0 < wordLen l ∧ wordLen l = l.length := by
  unfold isWord
  rw [decide_eq_true_eq]
  omega
theorem first_name (t : List UInt8) : first t = some (kName, t) ↔ isName t = true := by
  obtain ⟨d1, d2, d3, _⟩ := kinds_differ
  unfold isName
  rw [Bool.and_eq_true, isWord_iff]
  constructor
  · intro h
    have ht := first_text h
    rcases first_cases h with ⟨h1, _, _, h4⟩ | ⟨h1, _⟩ | ⟨h1, _⟩
    · refine ⟨⟨by omega, h4⟩, ?_⟩
      unfold kindOf at h1
      cases hk : isKey t
      · rfl
      · rw [hk, if_pos rfl] at h1; exact absurd h1 d1
    · exact absurd h1 d2
    · exact absurd h1 d3
  · rintro ⟨h1, h2⟩
    have hk : isKey t = false := by simpa using h2
    exact first_of_cases (.inl ⟨by unfold kindOf; rw [hk]; rfl, h1⟩)
theorem first_key (t : List UInt8) : first t = some (kKey, t) ↔ keys.contains t = true := by
  obtain ⟨d1, d2, d3, d4, d5, d6⟩ := kinds_differ
  constructor
  · intro h
    rcases first_cases h with ⟨h1, _⟩ | ⟨h1, _⟩ | ⟨h1, _⟩
    · unfold kindOf at h1
      by_cases hk : isKey t = true
      · exact hk
      · rw [if_neg hk] at h1; exact absurd h1.symm d1
    · exact absurd h1 d4
    · exact absurd h1 d5
  · intro h
    have hw := keys_words t ((isKey_iff t).1 h)
    rw [isWord_iff] at hw
    exact first_of_cases (.inl ⟨by unfold kindOf; rw [if_pos (show isKey t = true from h)], hw⟩)
theorem first_sign (t : List UInt8) : first t = some (kSign, t) ↔ signs.contains t = true := by
  obtain ⟨d1, d2, d3, d4, d5, d6⟩ := kinds_differ
  rw [List.contains_iff_mem]
  constructor
  · intro h
    rcases first_cases h with ⟨h1, _⟩ | ⟨h1, _⟩ | ⟨_, h1⟩
    · unfold kindOf at h1
      split at h1
      · exact absurd h1.symm d5
      · exact absurd h1.symm d3
    · exact absurd h1.symm d6
    · exact h1
  · exact sign_first t
theorem digLen_all (t : List UInt8) (h : 0 < t.length) : digLen t = t.length ↔ ((decide (t.length = 1) || !(t.head? == some 48)) = true ∧ t.all isDig = true) := by
  cases t with
  | nil => simp at h
  | cons c r =>
    rw [digLen_cons]
    by_cases h48 : (c == 48) = true
    · have hc : c = 48 := by simpa using h48
      subst hc
      rw [if_pos h48]
      have hd : isDig 48 = true := rfl
      cases r with
      | nil => simp [hd]
      | cons d r => simp
    · rw [if_neg h48, run_all]
      have hne : ¬ c = 48 := by simpa using h48
      simp [hne]
theorem first_int (t : List UInt8) : first t = some (kInt, t) ↔ isNum t = true := by
  obtain ⟨d1, d2, d3, d4, d5, d6⟩ := kinds_differ
  unfold isNum
  rw [Bool.and_eq_true, Bool.and_eq_true, decide_eq_true_eq]
  constructor
  · intro h
    rcases first_cases h with ⟨h1, _⟩ | ⟨_, _, h3, h4, h5⟩ | ⟨h1, _⟩
    · unfold kindOf at h1
      split at h1
      · exact absurd h1.symm d4
      · exact absurd h1.symm d2
    · obtain ⟨g1, g2⟩ := (digLen_all t h3).1 h4
      exact ⟨⟨⟨by omega, h5⟩, g1⟩, g2⟩
    · exact absurd h1 d6
  · rintro ⟨⟨⟨h1, h2⟩, h3⟩, h4⟩
    refine first_of_cases (.inr (.inl ⟨rfl, ?_, by omega, (digLen_all t (by omega)).2 ⟨h3, h4⟩, h2⟩))
    cases t with
    | nil => rfl
    | cons c r =>
      have hd : isDig c = true := by simp only [List.all_cons, Bool.and_eq_true] at h4; exact h4.1
      rw [wordLen_cons, dig_not_isLet c hd]; rfl
theorem first_kind {t k : List UInt8} (h : first t = some (k, t)) : k = kName ∨ k = kKey ∨ k = kInt ∨ k = kSign := by
  rcases first_cases h with ⟨h1, _⟩ | ⟨h1, _⟩ | ⟨h1, _⟩
  · unfold kindOf at h1
    split at h1
    · exact .inr (.inl h1)
    · exact .inl h1
  · exact .inr (.inr (.inl h1))
  · exact .inr (.inr (.inr h1))

end Go.Proofs.YtdajlkmagmmdiaaGreatDoor.Tok
