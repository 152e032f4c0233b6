/-
  Plain laws about tokens of a text, as lists of bytes: spaces and comments in front, the first token, all tokens, joined tokens. No program stands in this text.
-/
import Derived.Lib.Strings
import Derived.Lib.Fields
import Derived.Lib.Bytealg
import Derived.Lib.Join
import GoSem.Core.Value
namespace Go.Proofs.YtacjgphfcailmaaGreatDoor.Tok

/-- tests on a byte, as a number -/
def digB (c : Int) : Bool := decide (48 ≤ c) && decide (c ≤ 57)
def letB (c : Int) : Bool := decide (97 ≤ c) && decide (c ≤ 122)
def innB (c : Int) : Bool := letB c || (decide (65 ≤ c) && decide (c ≤ 90)) || digB c || decide (c = 95)
def isSpc (c : UInt8) : Bool := c == 32 || c == 9 || c == 10
def isDig (c : UInt8) : Bool := digB c.toNat
def isLet (c : UInt8) : Bool := letB c.toNat
def isInn (c : UInt8) : Bool := innB c.toNat

/-- how many bytes of l are of a kind, from the front on -/
def run (p : UInt8 → Bool) : List UInt8 → Nat
  | [] => 0
  | c :: r => if p c then run p r + 1 else 0

theorem run_le (p : UInt8 → Bool) (l : List UInt8) : run p l ≤ l.length := by
  induction l with
  | nil => simp [run]
  | cons c r ih => simp only [run, List.length_cons]; split <;> omega

theorem run_drop (p : UInt8 → Bool) : ∀ (n : Nat) (l : List UInt8), (∀ i, i < n → ∃ c, l[i]? = some c ∧ p c = true) → run p l = n + run p (l.drop n)
  | 0, l, _ => by simp
  | n + 1, [], h => by obtain ⟨c, hc, _⟩ := h 0 (by omega); simp at hc
  | n + 1, c :: r, h => by
    obtain ⟨c', hc, hp⟩ := h 0 (by omega)
    have hcc : c = c' := by simpa using hc
    subst hcc
    have := run_drop p n r (fun i hi => by simpa using h (i + 1) (by omega))
    simp only [run, hp, if_true, List.drop_succ_cons]
    omega

theorem run_stop (p : UInt8 → Bool) (l : List UInt8) (c : UInt8) (h : l.head? = some c) (hp : p c = false) : run p l = 0 := by
  cases l with
  | nil => rfl
  | cons d r => have : d = c := by simpa using h
                subst this; simp [run, hp]

theorem run_more (p : UInt8 → Bool) (l : List UInt8) (c : UInt8) (h : l.head? = some c) (hp : p c = true) : run p l = run p l.tail + 1 := by
  cases l with
  | nil => simp at h
  | cons d r => have : d = c := by simpa using h
                subst this; simp [run, hp]

/-- a word in front -/
def wordLen : List UInt8 → Nat
  | [] => 0
  | c :: r => if isLet c then run isInn r + 1 else 0
/-- an int in front -/
def digLen : List UInt8 → Nat
  | [] => 0
  | c :: r => if c == 48 then 1 else run isDig (c :: r)

theorem wordLen_le (l : List UInt8) : wordLen l ≤ l.length := by
  cases l with
  | nil => simp [wordLen]
  | cons c r => have := run_le isInn r; simp only [wordLen, List.length_cons]; split <;> omega
theorem digLen_le (l : List UInt8) : digLen l ≤ l.length := by
  cases l with
  | nil => simp [digLen]
  | cons c r => have := run_le isDig (c :: r); simp only [digLen]; split <;> simp_all

/-- spaces and comments in front: the Bool tells whether we are in a comment -/
def gapGo : Bool → List UInt8 → Nat
  | _, [] => 0
  | true, c :: r => (if c == 10 then gapGo false r else gapGo true r) + 1
  | false, c :: r => if isSpc c then gapGo false r + 1 else if c == 47 && r.head? == some 47 then gapGo true r + 1 else 0
def gap (l : List UInt8) : Nat := gapGo false l

theorem gapGo_le : ∀ (b : Bool) (l : List UInt8), gapGo b l ≤ l.length
  | _, [] => by cases ‹Bool› <;> simp [gapGo]
  | true, c :: r => by have h1 := gapGo_le false r; have h2 := gapGo_le true r; simp only [gapGo, List.length_cons]; split <;> omega
  | false, c :: r => by have h1 := gapGo_le false r; have h2 := gapGo_le true r; simp only [gapGo, List.length_cons]; split; omega; split <;> omega
theorem gap_le (l : List UInt8) : gap l ≤ l.length := gapGo_le false l

/-- in a comment: as far as the end of the line, and on from there -/
theorem gapGo_true_none : ∀ (l : List UInt8), (∀ c ∈ l, (c == 10) = false) → gapGo true l = l.length
  | [], _ => rfl
  | c :: r, h => by
    have h1 := h c (by simp)
    simp [gapGo, h1, gapGo_true_none r (fun d hd => h d (by simp [hd]))]
theorem gapGo_true_at : ∀ (k : Nat) (l : List UInt8), l[k]? = some 10 → (∀ j, j < k → l[j]? ≠ some 10) → gapGo true l = k + gap (l.drop k)
  | 0, [], h, _ => by simp at h
  | 0, c :: r, h, _ => by
    have : c = 10 := by simpa using h
    subst this
    simp [gapGo, gap, isSpc]
  | k + 1, [], h, _ => by simp at h
  | k + 1, c :: r, h, hn => by
    have hc : (c == 10) = false := by
      have := hn 0 (by omega)
      simpa using this
    have ih := gapGo_true_at k r (by simpa using h) (fun j hj => by simpa using hn (j + 1) (by omega))
    simp only [gapGo, hc, Bool.false_eq_true, if_false, List.drop_succ_cons, ih]
    omega

theorem gap_space (c : UInt8) (r : List UInt8) (h : isSpc c = true) : gap (c :: r) = gap r + 1 := by simp [gap, gapGo, h]
theorem gap_comment (r : List UInt8) : gap (47 :: 47 :: r) = gapGo true (47 :: 47 :: r) := by
  simp [gap, gapGo, isSpc]
theorem gap_stop (c : UInt8) (r : List UInt8) (h : isSpc c = false) (h2 : (c == 47 && r.head? == some 47) = false) : gap (c :: r) = 0 := by
  simp [gap, gapGo, h, h2]

/-- the keys and the signs -/
def keyText : List UInt8 := [97, 110, 100, 32, 97, 114, 114, 97, 121, 32, 97, 116, 32, 97, 116, 111, 109, 105, 99, 32, 98, 101, 103, 105, 110, 32, 98, 108, 111, 99, 107, 32, 98, 108, 111, 99, 107, 115, 32, 98, 111, 111, 108, 32, 98, 121, 32, 99, 111, 98, 101, 103, 105, 110, 32, 99, 111, 102, 111, 114, 97, 108, 108, 32, 99, 111, 117, 110, 116, 32, 99, 121, 99, 108, 105, 99, 32, 100, 111, 32, 100, 111, 109, 97, 105, 110, 32, 101, 108, 115, 101, 32, 102, 97, 108, 115, 101, 32, 102, 105, 108, 108, 32, 102, 111, 108, 100, 32, 102, 111, 114, 32, 102, 111, 114, 97, 108, 108, 32, 103, 101, 116, 32, 103, 105, 118, 101, 32, 104, 97, 108, 116, 32, 104, 97, 115, 32, 104, 105, 103, 104, 32, 105, 102, 32, 105, 110, 32, 105, 110, 116, 32, 105, 115, 32, 108, 111, 119, 32, 109, 97, 120, 32, 109, 105, 110, 32, 110, 111, 110, 101, 32, 110, 116, 104, 32, 111, 110, 32, 111, 114, 100, 32, 111, 118, 101, 114, 32, 112, 114, 111, 99, 32, 114, 101, 97, 100, 32, 114, 101, 100, 117, 99, 101, 32, 114, 101, 115, 105, 122, 101, 32, 114, 101, 116, 117, 114, 110, 32, 115, 99, 97, 110, 32, 115, 101, 116, 32, 115, 105, 110, 103, 108, 101, 32, 115, 121, 110, 99, 32, 116, 111, 32, 116, 114, 117, 101, 32, 118, 97, 114, 32, 119, 104, 101, 114, 101, 32, 119, 104, 105, 108, 101, 32, 119, 104, 111, 108, 101, 32, 119, 105, 116, 104, 32, 119, 114, 105, 116, 101, 32, 122, 105, 112, 32, 97, 100, 100]
def keys : List (List UInt8) := Lib.fields keyText
def signs : List (List UInt8) := [[60, 61], [61, 61], [46, 46], [60, 45], [40], [41], [91], [93], [123], [125], [44], [59], [58], [61], [43], [45], [42], [47], [37], [60], [38], [124], [33]]
def isKey (l : List UInt8) : Bool := keys.contains l

def kName : List UInt8 := [110, 97, 109, 101]
def kKey : List UInt8 := [107, 101, 121]
def kInt : List UInt8 := [105, 110, 116]
def kSign : List UInt8 := [115, 105, 103, 110]
def kindOf (l : List UInt8) : List UInt8 := if isKey l then kKey else kName

/-- a text that is a word, or a name -/
def isWord (l : List UInt8) : Bool := decide (0 < l.length ∧ wordLen l = l.length)
def isName (l : List UInt8) : Bool := isWord l && !isKey l

/-- the token that a text begins with: its kind and its text -/
def first (l : List UInt8) : Option (List UInt8 × List UInt8) :=
  if 0 < wordLen l then some (kindOf (l.take (wordLen l)), l.take (wordLen l))
  else if 0 < digLen l then (if digLen l ≤ 9 then some (kInt, l.take (digLen l)) else none)
  else (signs.find? (fun x => Lib.hasPrefix l x)).map fun x => (kSign, x)

theorem first_text {l k t : List UInt8} (h : first l = some (k, t)) : t = l.take t.length ∧ 0 < t.length ∧ t.length ≤ l.length := by
  have hw := wordLen_le l
  have hd := digLen_le l
  unfold first at h
  split at h
  · rename_i h1
    simp only [Option.some.injEq, Prod.mk.injEq] at h
    obtain ⟨_, rfl⟩ := h
    rw [List.length_take, Nat.min_eq_left hw]
    exact ⟨rfl, h1, hw⟩
  · split at h
    · rename_i h1
      split at h
      · simp only [Option.some.injEq, Prod.mk.injEq] at h
        obtain ⟨_, rfl⟩ := h
        rw [List.length_take, Nat.min_eq_left hd]
        exact ⟨rfl, h1, hd⟩
      · simp at h
    · simp only [Option.map_eq_some_iff, Prod.mk.injEq] at h
      obtain ⟨x, hx, _, rfl⟩ := h
      have hp := List.find?_some hx
      have hm := List.mem_of_find?_eq_some hx
      have hp' : x <+: l := by simpa [Lib.hasPrefix] using hp
      refine ⟨List.prefix_iff_eq_take.1 hp', ?_, hp'.length_le⟩
      revert hm; clear hp hp' hx; intro hm
      simp only [signs, List.mem_cons, List.not_mem_nil, or_false] at hm
      rcases hm with rfl | rfl | rfl | rfl | rfl | rfl | rfl | rfl | rfl | rfl | rfl | rfl | rfl | rfl | rfl | rfl | rfl | rfl | rfl | rfl | rfl | rfl | rfl <;> simp

/-- a token: its kind, its text, where it begins -/
structure T where
  kind : List UInt8
  text : List UInt8
  at_ : Int

/-- all tokens of l, which begins at an offset; the fuel is longer than l -/
def toks : Nat → List UInt8 → Nat → Option (List T)
  | 0, _, _ => none
  | f + 1, l, o =>
    if gap l = l.length then some [] else
    match first (l.drop (gap l)) with
    | none => none
    | some (k, t) => (toks f (l.drop (gap l + t.length)) (o + gap l + t.length)).map fun r => ⟨k, t, (o + gap l : Nat)⟩ :: r

/-- more fuel, the same tokens -/
theorem toks_fuel : ∀ (f g : Nat) (l : List UInt8) (o : Nat), l.length < f → l.length < g → toks f l o = toks g l o
  | 0, _, _, _, h, _ => absurd h (by omega)
  | _, 0, _, _, _, h => absurd h (by omega)
  | f + 1, g + 1, l, o, hf, hg => by
    simp only [toks]
    by_cases h : gap l = l.length
    · rw [if_pos h, if_pos h]
    · rw [if_neg h, if_neg h]
      cases hx : first (l.drop (gap l)) with
      | none => rfl
      | some x =>
        obtain ⟨k, t⟩ := x
        have ht := first_text hx
        have := gap_le l
        have e := toks_fuel f g (l.drop (gap l + t.length)) (o + gap l + t.length) (by rw [List.length_drop]; omega) (by rw [List.length_drop]; omega)
        simp only [e]

/-- all tokens of l, which begins at an offset -/
def toksN (l : List UInt8) (o : Nat) : Option (List T) := toks (l.length + 1) l o
/-- the same where l begins with no gap -/
def restN (l : List UInt8) (o : Nat) : Option (List T) :=
  if l = [] then some [] else
  match first l with
  | none => none
  | some (k, t) => (toksN (l.drop t.length) (o + t.length)).map fun r => ⟨k, t, (o : Nat)⟩ :: r

theorem toksN_rest (l : List UInt8) (o : Nat) : toksN l o = restN (l.drop (gap l)) (o + gap l) := by
  have hg := gap_le l
  unfold toksN restN
  simp only [toks]
  by_cases h : gap l = l.length
  · rw [if_pos h, if_pos (List.drop_eq_nil_of_le (by omega))]
  · have hne : l.drop (gap l) ≠ [] := by
      intro e
      have := congrArg List.length e
      rw [List.length_drop] at this
      simp at this; omega
    rw [if_neg h, if_neg hne]
    cases hx : first (l.drop (gap l)) with
    | none => rfl
    | some x =>
      obtain ⟨k, t⟩ := x
      have ht := first_text hx
      rw [List.length_drop] at ht
      simp only [List.drop_drop]
      have e := toks_fuel l.length ((l.drop (gap l + t.length)).length + 1) (l.drop (gap l + t.length)) (o + gap l + t.length) (by rw [List.length_drop]; omega) (by omega)
      unfold toksN
      rw [e]

def tokens (l : List UInt8) : Option (List T) := toksN l 0

/-- how tokens lie in memory: three cells each -/
def T.cells (t : T) : List Value := [.string ⟨t.kind.toArray⟩, .string ⟨t.text.toArray⟩, .int .i64 t.at_]
def flat (l : List T) : List Value := (l.map T.cells).flatten
theorem flat_length (l : List T) : (flat l).length = l.length * 3 := by
  induction l with
  | nil => rfl
  | cons t r ih => simp only [flat, List.map_cons, List.flatten_cons, List.length_append, List.length_cons] at ih ⊢; rw [ih]; simp [T.cells]; omega
theorem flat_snoc (l : List T) (t : T) : flat (l ++ [t]) = flat l ++ t.cells := by simp [flat]
theorem flat_at (l : List T) (i : Nat) (h : i < l.length) (j : Nat) (hj : j < 3) : (flat l)[3 * i + j]? = (l[i]).cells[j]? := by
  induction l generalizing i with
  | nil => simp at h
  | cons t r ih =>
    have e : flat (t :: r) = t.cells ++ flat r := by simp [flat]
    have hl : t.cells.length = 3 := rfl
    rw [e]
    cases i with
    | zero => rw [List.getElem?_append_left (by omega)]; simp
    | succ i =>
      rw [List.getElem?_append_right (by omega), hl, show 3 * (i + 1) + j - 3 = 3 * i + j from by omega]
      have := ih i (by simpa using h)
      simpa using this

/-- the words of a text between spaces; what is not yet followed by a space is none -/
def wordsGo : List UInt8 → List UInt8 → List (List UInt8)
  | _, [] => []
  | cur, c :: r => if c == 32 then (if cur.isEmpty then wordsGo [] r else cur :: wordsGo [] r) else wordsGo (cur ++ [c]) r
def refKeyText : List UInt8 := [32, 97, 110, 100, 32, 97, 114, 114, 97, 121, 32, 97, 116, 32, 97, 116, 111, 109, 105, 99, 32, 98, 101, 103, 105, 110, 32, 98, 108, 111, 99, 107, 32, 98, 108, 111, 99, 107, 115, 32, 98, 111, 111, 108, 32, 98, 121, 32, 99, 111, 98, 101, 103, 105, 110, 32, 99, 111, 102, 111, 114, 97, 108, 108, 32, 99, 111, 117, 110, 116, 32, 99, 121, 99, 108, 105, 99, 32, 100, 111, 32, 100, 111, 109, 97, 105, 110, 32, 101, 108, 115, 101, 32, 102, 97, 108, 115, 101, 32, 102, 105, 108, 108, 32, 102, 111, 108, 100, 32, 102, 111, 114, 32, 102, 111, 114, 97, 108, 108, 32, 103, 101, 116, 32, 103, 105, 118, 101, 32, 104, 97, 108, 116, 32, 104, 97, 115, 32, 104, 105, 103, 104, 32, 105, 102, 32, 105, 110, 32, 105, 110, 116, 32, 105, 115, 32, 108, 111, 119, 32, 109, 97, 120, 32, 109, 105, 110, 32, 110, 111, 110, 101, 32, 110, 116, 104, 32, 111, 110, 32, 111, 114, 100, 32, 111, 118, 101, 114, 32, 112, 114, 111, 99, 32, 114, 101, 97, 100, 32, 114, 101, 100, 117, 99, 101, 32, 114, 101, 115, 105, 122, 101, 32, 114, 101, 116, 117, 114, 110, 32, 115, 99, 97, 110, 32, 115, 101, 116, 32, 115, 105, 110, 103, 108, 101, 32, 115, 121, 110, 99, 32, 116, 111, 32, 116, 114, 117, 101, 32, 118, 97, 114, 32, 119, 104, 101, 114, 101, 32, 119, 104, 105, 108, 101, 32, 119, 104, 111, 108, 101, 32, 119, 105, 116, 104, 32, 119, 114, 105, 116, 101, 32, 122, 105, 112, 32, 97, 100, 100, 32]
def refSignText : List UInt8 := [32, 60, 61, 32, 61, 61, 32, 46, 46, 32, 60, 45, 32, 40, 32, 41, 32, 91, 32, 93, 32, 123, 32, 125, 32, 44, 32, 59, 32, 58, 32, 61, 32, 43, 32, 45, 32, 42, 32, 47, 32, 37, 32, 60, 32, 38, 32, 124, 32, 33, 32]
theorem refKeys : wordsGo [] refKeyText = keys := by decide +kernel
theorem refSigns : wordsGo [] refSignText = signs := by decide +kernel

end Go.Proofs.YtacjgphfcailmaaGreatDoor.Tok
