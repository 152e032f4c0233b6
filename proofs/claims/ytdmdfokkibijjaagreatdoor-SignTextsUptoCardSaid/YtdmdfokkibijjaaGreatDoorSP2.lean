/-
  Layer 9, plain laws: how the document's answer reads a text, word by word; both readings answer alike.
-/
import Derived.Test.YtdmdfokkibijjaaGreatDoorSW25
import Derived.Lib.Split
import Derived.Lib.AtoiAll
import Derived.Lib.Join
import Derived.Lib.ItoaNum
namespace Go.Proofs.YtdmdfokkibijjaaGreatDoor
open Go.RowKit
open Sgn
set_option linter.unusedVariables false
set_option linter.unusedSimpArgs false

/-- the text of a formal -/
def wordL (f : F) : List UInt8 := if isShaped f.k = true then f.k.data.toList ++ 32 :: Lib.decDigits f.n.toNat else f.k.data.toList
def innerL (fs : List F) : List UInt8 := if fs = [] then [] else Lib.join (fs.map wordL) [32, 44, 32] ++ [32]
/-- the text of a signature -/
def textL (g : G) : List UInt8 := g.name.data.toList ++ [32, 40, 32] ++ (innerL g.fs ++ [41, 32, 58, 32] ++ g.res.data.toList)

theorem formal_cases {k : ByteArray} {n : Int} (h : isFormal k n = true) :
    ((k = ⟨#[105, 110, 116]⟩ ∨ k = ⟨#[98, 111, 111, 108]⟩ ∨ k = ⟨#[97, 110, 121]⟩) ∧ n = 0) ∨ ((k = ⟨#[100, 111, 109, 97, 105, 110]⟩ ∨ k = ⟨#[97, 114, 114, 97, 121]⟩) ∧ (n = 0 ∨ n = 1 ∨ n = 2 ∨ n = 3)) := by
  rcases kinds k with rfl | rfl | rfl | rfl | rfl | rfl | ho
  · rw [isFormal_1, isType_1] at h; simp at h; exact .inl ⟨.inl rfl, h⟩
  · rw [isFormal_2, isType_2] at h; simp at h; exact .inl ⟨.inr (.inl rfl), h⟩
  · rw [isFormal_3] at h; cases h
  · rw [isFormal_4, isType_4] at h; simp at h; exact .inr ⟨.inl rfl, by omega⟩
  · rw [isFormal_5, isType_5] at h; simp at h; exact .inr ⟨.inr rfl, by omega⟩
  · rw [isFormal_6] at h; simp at h; exact .inl ⟨.inr (.inr rfl), h⟩
  · rw [isFormal_7 n ho, isType_7 n ho] at h; cases h

theorem occ_ne {s tl : List UInt8} {c : UInt8} {j : Nat} (h : s[j]? ≠ some c) : Lib.occAt s (c :: tl) j = false := by
  unfold Lib.occAt
  cases hd : s.drop j with
  | nil => rfl
  | cons d r =>
    have e : s[j]? = some d := by
      have := congrArg List.head? hd
      simpa [List.head?_drop] using this
    have hne : ¬ c = d := fun hcd => h (by rw [e, hcd])
    simp [List.isPrefixOf, hne]
theorem occ_ne2 {s tl : List UInt8} {c d : UInt8} {j : Nat} (h : s[j + 1]? ≠ some d) : Lib.occAt s (c :: d :: tl) j = false := by
  unfold Lib.occAt
  match hd : s.drop j with
  | [] => rfl
  | [x] => simp [List.isPrefixOf]
  | x :: y :: r =>
    have e : s[j + 1]? = some y := by
      have : (s.drop j)[1]? = some y := by rw [hd]; rfl
      rwa [List.getElem?_drop] at this
    have hne : ¬ d = y := fun hcd => h (by rw [e, hcd])
    simp [List.isPrefixOf, hne]
theorem occ_here (a sep b : List UInt8) : Lib.occAt (a ++ (sep ++ b)) sep a.length = true := by
  unfold Lib.occAt
  rw [List.drop_left]
  exact List.isPrefixOf_iff_prefix.2 ⟨b, rfl⟩
theorem index_at {a b tl : List UInt8} {c : UInt8} (h : c ∉ a) : Lib.index (a ++ ((c :: tl) ++ b)) (c :: tl) = a.length :=
  Lib.index_first (by simp) (occ_here a (c :: tl) b) fun j hj => occ_ne (by
    rw [List.getElem?_append_left hj]
    exact fun e => h (List.mem_of_getElem? e))
theorem index_at2 {a b tl : List UInt8} {c d : UInt8} (hcd : d ≠ c) (h : d ∉ a) : Lib.index (a ++ ((c :: d :: tl) ++ b)) (c :: d :: tl) = a.length :=
  Lib.index_first (by simp) (occ_here a (c :: d :: tl) b) fun j hj => occ_ne2 (by
    by_cases h1 : j + 1 < a.length
    · rw [List.getElem?_append_left h1]
      exact fun e => h (List.mem_of_getElem? e)
    · have e1 : j + 1 = a.length := by omega
      rw [List.getElem?_append_right (by omega), e1]
      simpa using fun e => hcd e.symm)
theorem index_no {a tl : List UInt8} {c d : UInt8} (h : d ∉ a) : Lib.index a (c :: d :: tl) = -1 :=
  Lib.index_none fun j _ => occ_ne2 fun e => h (List.mem_of_getElem? e)
theorem index_no1 {a tl : List UInt8} {c : UInt8} (h : c ∉ a) : Lib.index a (c :: tl) = -1 :=
  Lib.index_none fun j _ => occ_ne fun e => h (List.mem_of_getElem? e)
theorem cut_of {a b sep : List UInt8} (h : Lib.index (a ++ (sep ++ b)) sep = a.length) : Lib.cut (a ++ (sep ++ b)) sep = (a, b, true) := by
  unfold Lib.cut
  rw [h, if_pos (by omega)]
  have e : ((a.length : Int)).toNat = a.length := by omega
  rw [e, List.take_left, ← List.append_assoc, ← List.length_append, List.drop_left]
theorem cut_no {a sep : List UInt8} (h : Lib.index a sep = -1) : Lib.cut a sep = (a, [], false) := by
  unfold Lib.cut
  rw [h, if_neg (by omega)]

theorem split_join : ∀ (ws : List (List UInt8)), ws ≠ [] → (∀ w ∈ ws, (44 : UInt8) ∉ w) → Lib.split (Lib.join ws [32, 44, 32]) [32, 44, 32] = ws
  | [], h, _ => absurd rfl h
  | [w], _, h => by
    have e : Lib.join [w] [32, 44, 32] = w := by simp [Lib.join, List.intercalate]
    have hi : Lib.index w [32, 44, 32] = -1 := index_no (h w (by simp))
    rw [e]
    unfold Lib.split
    rw [Lib.count_miss hi]
    rfl
  | w :: w2 :: r, _, h => by
    have e : Lib.join (w :: w2 :: r) [32, 44, 32] = w ++ ([32, 44, 32] ++ Lib.join (w2 :: r) [32, 44, 32]) := by simp [Lib.join, List.intercalate]
    have hi : Lib.index (w ++ ([32, 44, 32] ++ Lib.join (w2 :: r) [32, 44, 32])) [32, 44, 32] = w.length := index_at2 (by decide) (h w (by simp))
    have ih := split_join (w2 :: r) (by simp) (fun x hx => h x (by simp [hx]))
    rw [e]
    unfold Lib.split at ih ⊢
    rw [Lib.count_hit (by simp) hi]
    have hd : (w ++ ([32, 44, 32] ++ Lib.join (w2 :: r) [32, 44, 32])).drop (w.length + ([32, 44, 32] : List UInt8).length) = Lib.join (w2 :: r) [32, 44, 32] := by
      rw [← List.append_assoc, ← List.length_append, List.drop_left]
    rw [hd, Nat.add_comm 1, Lib.splitK, hi]
    have hm : ¬ (((w.length : Int)) == -1) = true := by rw [beq_iff_eq]; omega
    rw [if_neg hm]
    have e2 : ((w.length : Int)).toNat = w.length := by omega
    rw [e2, hd, Nat.add_zero, List.take_left, ih]

theorem trim_end (x : List UInt8) : Lib.trimSuffix (x ++ [32]) [32] = x := by
  unfold Lib.trimSuffix Lib.hasSuffix
  simp

/-- a word read as a formal -/
def parseW (w : List UInt8) : F :=
  ⟨⟨(Lib.cut w [32]).1.toArray⟩, if (Lib.cut w [32]).2.2 = true then (match Lib.atoiAll (Lib.cut w [32]).2.1 with
    | .ok v => v
    | _ => 0) else 0⟩
theorem parseW_word (f : F) (h : isFormal f.k f.n = true) : parseW (wordL f) = f := by
  obtain ⟨k, n⟩ := f
  rcases formal_cases h with ⟨rfl | rfl | rfl, rfl⟩ | ⟨rfl | rfl, rfl | rfl | rfl | rfl⟩
  all_goals
    unfold parseW wordL isShaped
    simp only [Lib.toList_data]
    rw [F.mk.injEq]
    decide +kernel
theorem word_no_comma (f : F) (h : isFormal f.k f.n = true) : (44 : UInt8) ∉ wordL f ∧ (41 : UInt8) ∉ wordL f ∧ wordL f ≠ [] := by
  obtain ⟨k, n⟩ := f
  rcases formal_cases h with ⟨rfl | rfl | rfl, rfl⟩ | ⟨rfl | rfl, rfl | rfl | rfl | rfl⟩
  all_goals
    unfold wordL isShaped
    simp only [Lib.toList_data]
    decide +kernel

/-- what the program reads -/
def progS (t : List UInt8) : Option G :=
  if ((Lib.cut t [32, 40, 32]).2.2 && (Lib.cut (Lib.cut t [32, 40, 32]).2.1 [41, 32, 58, 32]).2.2) = true then
    some ⟨⟨(Lib.cut t [32, 40, 32]).1.toArray⟩, if (Lib.cut (Lib.cut t [32, 40, 32]).2.1 [41, 32, 58, 32]).1 = [] then [] else (Lib.split (Lib.trimSuffix (Lib.cut (Lib.cut t [32, 40, 32]).2.1 [41, 32, 58, 32]).1 [32]) [32, 44, 32]).map parseW,
      ⟨(Lib.cut (Lib.cut t [32, 40, 32]).2.1 [41, 32, 58, 32]).2.1.toArray⟩⟩
  else none

theorem isWord_inner {l : List UInt8} (h : Tok.isWord l = true) : ∀ c ∈ l, Tok.isLet c = true ∨ Tok.isInn c = true := by
  rw [Tok.isWord_iff] at h
  match l, h with
  | c :: r, ⟨h1, h2⟩ =>
    have e : Tok.wordLen (c :: r) = if Tok.isLet c = true then Tok.run Tok.isInn r + 1 else 0 := rfl
    rw [e] at h1 h2
    by_cases hc : Tok.isLet c = true
    · rw [if_pos hc] at h2
      have hr : Tok.run Tok.isInn r = r.length := by simpa using h2
      rw [Tok.run_all, List.all_eq_true] at hr
      intro d hd
      rcases List.mem_cons.1 hd with rfl | hd
      · exact .inl hc
      · exact .inr (hr d hd)
    · rw [if_neg hc] at h1
      omega
theorem name_chars {l : List UInt8} (h : Tok.isName l = true) : (32 : UInt8) ∉ l := by
  unfold Tok.isName at h
  rw [Bool.and_eq_true] at h
  intro hm
  have := isWord_inner h.1 32 hm
  revert this
  decide +kernel
theorem res_chars {r : ByteArray} (h : okRes r = true) : r = ⟨#[105, 110, 116]⟩ ∨ r = ⟨#[98, 111, 111, 108]⟩ ∨ r = ⟨#[110, 111, 110, 101]⟩ := by
  unfold okRes at h
  rw [Bool.or_eq_true, Bool.or_eq_true] at h
  rcases h with (h | h) | h
  · exact .inl (eq_bytes.1 h)
  · exact .inr (.inl (eq_bytes.1 h))
  · exact .inr (.inr (eq_bytes.1 h))
theorem inner_no_paren (fs : List F) (h : ∀ f ∈ fs, isFormal f.k f.n = true) : (41 : UInt8) ∉ innerL fs := by
  unfold innerL
  split
  · simp
  · rw [List.mem_append]
    rintro (hm | hm)
    · unfold Lib.join at hm
      rw [List.intercalate, List.mem_flatten] at hm
      obtain ⟨x, hx, hc⟩ := hm
      have : x = [32, 44, 32] ∨ x ∈ fs.map wordL := by
        clear hc
        generalize fs.map wordL = ws at hx
        induction ws with
        | nil => cases hx
        | cons a r ih =>
          cases r with
          | nil => exact .inr (by simpa using hx)
          | cons b t =>
            rw [List.intersperse_cons_cons] at hx
            rcases List.mem_cons.1 hx with rfl | hx
            · exact .inr (by simp)
            · rcases List.mem_cons.1 hx with rfl | hx
              · exact .inl rfl
              · rcases ih hx with h | h
                · exact .inl h
                · exact .inr (by simp [h])
      rcases this with rfl | hx
      · revert hc; decide
      · obtain ⟨f, hf, rfl⟩ := List.mem_map.1 hx
        exact (word_no_comma f (h f hf)).2.1 hc
    · revert hm; decide
theorem join_ne {ws : List (List UInt8)} (h : ws ≠ []) (hw : ∀ w ∈ ws, w ≠ []) : Lib.join ws [32, 44, 32] ≠ [] := by
  match ws, h with
  | [w], _ => simpa [Lib.join, List.intercalate] using hw w (by simp)
  | w :: w2 :: r, _ => simp [Lib.join, List.intercalate]
theorem map_id_of {α : Type} {f : α → α} {l : List α} (h : ∀ x ∈ l, f x = x) : l.map f = l := by
  induction l with
  | nil => rfl
  | cons a r ih => rw [List.map_cons, h a (by simp), ih fun x hx => h x (by simp [hx])]
/-- THE PLAIN LAW: the text of a signature is read as the signature. -/
theorem progS_text (g : G) (h : validG g = true) : progS (textL g) = some g := by
  have h' := h
  unfold validG at h'
  simp only [Bool.and_eq_true, List.all_eq_true] at h'
  obtain ⟨hf, ⟨hr, hn⟩, hl⟩ := h'
  have c1 : Lib.cut (textL g) [32, 40, 32] = (g.name.data.toList, innerL g.fs ++ [41, 32, 58, 32] ++ g.res.data.toList, true) := by
    unfold textL
    rw [List.append_assoc g.name.data.toList]
    exact cut_of (index_at (name_chars hn))
  have c2 : Lib.cut (innerL g.fs ++ [41, 32, 58, 32] ++ g.res.data.toList) [41, 32, 58, 32] = (innerL g.fs, g.res.data.toList, true) := by
    rw [List.append_assoc]
    exact cut_of (index_at (inner_no_paren g.fs hf))
  unfold progS
  rw [c1]
  simp only
  rw [c2]
  simp only [Bool.and_self, if_true]
  obtain ⟨nm, fs, res⟩ := g
  simp only at hf ⊢
  have e : (if innerL fs = [] then [] else (Lib.split (Lib.trimSuffix (innerL fs) [32]) [32, 44, 32]).map parseW) = fs := by
    by_cases h0 : fs = []
    · subst h0
      rfl
    · have hi : innerL fs = Lib.join (fs.map wordL) [32, 44, 32] ++ [32] := by unfold innerL; rw [if_neg h0]
      have hne : innerL fs ≠ [] := by rw [hi]; simp
      rw [if_neg hne, hi, trim_end, split_join]
      · rw [List.map_map]
        exact map_id_of fun f hfm => parseW_word f (hf f hfm)
      · simpa using h0
      · intro w hw
        obtain ⟨f, hfm, rfl⟩ := List.mem_map.1 hw
        exact (word_no_comma f (hf f hfm)).1
  rw [e]

end Go.Proofs.YtdmdfokkibijjaaGreatDoor

namespace Go.Proofs.YtdmdfokkibijjaaGreatDoor
open Go.RowKit
open Sgn
set_option linter.unusedVariables false
set_option linter.unusedSimpArgs false

/-- the words of a text, cut at each space -/
def words9 : List UInt8 → List (List UInt8)
  | [] => [[]]
  | c :: r => if c = 32 then [] :: words9 r else
    match words9 r with
    | w :: ws => (c :: w) :: ws
    | [] => [[c]]
theorem words9_cons (c : UInt8) (r : List UInt8) : words9 (c :: r) = if c = 32 then [] :: words9 r else (match words9 r with
    | w :: ws => (c :: w) :: ws
    | [] => [[c]]) := rfl
theorem words9_ne (l : List UInt8) : words9 l ≠ [] := by
  cases l with
  | nil => simp [words9]
  | cons c r =>
    rw [words9_cons]
    split
    · simp
    · split <;> simp
theorem words9_one : ∀ (a : List UInt8), (32 : UInt8) ∉ a → words9 a = [a]
  | [], _ => rfl
  | c :: r, h => by
    have hc : ¬ c = 32 := fun e => h (by simp [e])
    have hr : (32 : UInt8) ∉ r := fun e => h (by simp [e])
    rw [words9_cons, if_neg hc, words9_one r hr]
theorem words9_cut : ∀ (a b : List UInt8), (32 : UInt8) ∉ a → words9 (a ++ 32 :: b) = a :: words9 b
  | [], b, _ => by rw [List.nil_append, words9_cons, if_pos rfl]
  | c :: r, b, h => by
    have hc : ¬ c = 32 := fun e => h (by simp [e])
    have hr : (32 : UInt8) ∉ r := fun e => h (by simp [e])
    have e : (c :: r) ++ 32 :: b = c :: (r ++ 32 :: b) := rfl
    rw [e, words9_cons, if_neg hc, words9_cut r b hr]
theorem words9_space : ∀ (l : List UInt8), words9 (l ++ [32]) = words9 l ++ [[]]
  | [] => rfl
  | c :: r => by
    have e : (c :: r) ++ [32] = c :: (r ++ [32]) := rfl
    rw [e, words9_cons, words9_cons, words9_space r]
    split
    · simp
    · cases h : words9 r with
      | nil => exact absurd h (words9_ne r)
      | cons w ws => rfl
theorem words9_char : ∀ (l : List UInt8) (c : UInt8), c ≠ 32 → ∃ init last, words9 l = init ++ [last] ∧ words9 (l ++ [c]) = init ++ [last ++ [c]]
  | [], c, h => ⟨[], [], rfl, by rw [List.nil_append, words9_cons, if_neg h]; rfl⟩
  | d :: r, c, h => by
    obtain ⟨init, last, h1, h2⟩ := words9_char r c h
    have e : (d :: r) ++ [c] = d :: (r ++ [c]) := rfl
    rw [e, words9_cons, words9_cons, h1, h2]
    by_cases hd : d = 32
    · rw [if_pos hd, if_pos hd]
      exact ⟨[] :: init, last, rfl, rfl⟩
    · rw [if_neg hd, if_neg hd]
      cases init with
      | nil => exact ⟨[], d :: last, rfl, rfl⟩
      | cons w ws => exact ⟨(d :: w) :: ws, last, rfl, rfl⟩

/-- is it a shape, and behind it a rank -/
def digP (a b : List UInt8) : Bool := isShaped ⟨a.toArray⟩ && (decide (b.length = 1) && (decide (48 ≤ (b.headD 0).toNat) && decide ((b.headD 0).toNat ≤ 51)))
/-- the formals of words -/
def refL : Nat → List (List UInt8) → List F
  | 0, _ => []
  | n + 1, l =>
    if 3 < l.length then
      match l with
      | a :: b :: r => if digP a b = true then ⟨⟨a.toArray⟩, ((b.headD 0).toNat : Int) - 48⟩ :: refL n r else if a = [44] then refL n (b :: r) else ⟨⟨a.toArray⟩, 0⟩ :: refL n (b :: r)
      | _ => []
    else []
theorem refL_stop (n : Nat) (l : List (List UInt8)) (h : l.length ≤ 3) : refL n l = [] := by
  cases n with
  | zero => rfl
  | succ n => unfold refL; rw [if_neg (by omega)]
theorem refL_cons (n : Nat) (a b : List UInt8) (r : List (List UInt8)) : refL (n + 1) (a :: b :: r) = if 3 < (a :: b :: r).length then (if digP a b = true then ⟨⟨a.toArray⟩, ((b.headD 0).toNat : Int) - 48⟩ :: refL n r else if a = [44] then refL n (b :: r) else ⟨⟨a.toArray⟩, 0⟩ :: refL n (b :: r)) else [] := rfl
theorem refL_dig (n : Nat) (a b : List UInt8) (r : List (List UInt8)) (h : 2 ≤ r.length) (hd : digP a b = true) : refL (n + 1) (a :: b :: r) = ⟨⟨a.toArray⟩, ((b.headD 0).toNat : Int) - 48⟩ :: refL n r := by
  rw [refL_cons, if_pos (by simp; omega), if_pos hd]
theorem refL_comma (n : Nat) (b : List UInt8) (r : List (List UInt8)) (h : 2 ≤ r.length) : refL (n + 1) ([44] :: b :: r) = refL n (b :: r) := by
  have hd : ¬ digP [44] b = true := by
    have : isShaped ⟨([44] : List UInt8).toArray⟩ = false := by unfold isShaped; simp only [Lib.toList_data]; decide +kernel
    unfold digP
    rw [this]
    simp
  rw [refL_cons, if_pos (by simp; omega), if_neg hd, if_pos rfl]
theorem refL_plain (n : Nat) (a b : List UInt8) (r : List (List UInt8)) (h : 2 ≤ r.length) (hd : digP a b = false) (hc : a ≠ [44]) : refL (n + 1) (a :: b :: r) = ⟨⟨a.toArray⟩, 0⟩ :: refL n (b :: r) := by
  rw [refL_cons, if_pos (by simp; omega), if_neg (by rw [hd]; simp), if_neg hc]
/-- the words of a formal, and of formals -/
def fw (f : F) : List (List UInt8) := if isShaped f.k = true then [f.k.data.toList, Lib.decDigits f.n.toNat] else [f.k.data.toList]
def fws : List F → List (List UInt8)
  | [] => []
  | [f] => fw f
  | f :: g :: r => fw f ++ [44] :: fws (g :: r)
theorem fw_cases (f : F) (h : isFormal f.k f.n = true) : (fw f = [f.k.data.toList] ∧ wordL f = f.k.data.toList ∧ (32 : UInt8) ∉ f.k.data.toList ∧ (∀ b, digP f.k.data.toList b = false) ∧ f.k.data.toList ≠ [44] ∧ f = ⟨⟨f.k.data.toList.toArray⟩, 0⟩) ∨
    (∃ d, fw f = [f.k.data.toList, d] ∧ wordL f = f.k.data.toList ++ 32 :: d ∧ (32 : UInt8) ∉ f.k.data.toList ∧ (32 : UInt8) ∉ d ∧ digP f.k.data.toList d = true ∧ f = ⟨⟨f.k.data.toList.toArray⟩, ((d.headD 0).toNat : Int) - 48⟩) := by
  obtain ⟨k, n⟩ := f
  rcases formal_cases h with ⟨rfl | rfl | rfl, rfl⟩ | ⟨rfl | rfl, rfl | rfl | rfl | rfl⟩
  iterate 3
    · left
      have hs : ∀ b, isShaped b = isShaped b := fun _ => rfl
      refine ⟨?_, ?_, by decide +kernel, fun b => ?_, by decide +kernel, rfl⟩
      · unfold fw isShaped; simp only [Lib.toList_data]; decide +kernel
      · unfold wordL isShaped; simp only [Lib.toList_data]; decide +kernel
      · unfold digP isShaped
        simp only [Lib.toList_data]
        rfl
  all_goals
    right
    refine ⟨_, by unfold fw isShaped; simp only [Lib.toList_data]; rfl, by unfold wordL isShaped; simp only [Lib.toList_data]; rfl, by decide +kernel, by decide +kernel, ?_, ?_⟩
    · unfold digP isShaped; simp only [Lib.toList_data]; decide +kernel
    · rw [F.mk.injEq]; decide +kernel
theorem fw_pos (f : F) : 1 ≤ (fw f).length ∧ (fw f).length ≤ 2 := by
  unfold fw
  split <;> simp
theorem refL_words : ∀ (fs : List F), (∀ f ∈ fs, isFormal f.k f.n = true) → ∀ (n : Nat) (T : List (List UInt8)), T.length = 3 → (fws fs ++ T).length ≤ n → refL n (fws fs ++ T) = fs
  | [], _, n, T, hT, _ => refL_stop n T (by simp [fws] at *; omega)
  | [f], h, n, T, hT, hn => by
    have e : fws [f] = fw f := rfl
    rw [e] at hn ⊢
    match T, hT with
    | [t1, t2, t3], _ =>
      rcases fw_cases f (h f (by simp)) with ⟨h1, _, _, h4, h5, h6⟩ | ⟨d, h1, _, _, _, h5, h6⟩
      · rw [h1] at hn ⊢
        match n, hn with
        | n + 1, _ =>
          show refL (n + 1) (f.k.data.toList :: t1 :: [t2, t3]) = [f]
          rw [refL_plain n _ _ _ (by simp) (h4 t1) h5, ← h6, refL_stop n _ (by simp)]
      · rw [h1] at hn ⊢
        match n, hn with
        | n + 1, _ =>
          show refL (n + 1) (f.k.data.toList :: d :: [t1, t2, t3]) = [f]
          rw [refL_dig n _ _ _ (by simp) h5, ← h6, refL_stop n _ (by simp)]
  | f :: g :: r, h, n, T, hT, hn => by
    have e : fws (f :: g :: r) = fw f ++ [44] :: fws (g :: r) := rfl
    have ih := refL_words (g :: r) (fun x hx => h x (by simp [hx]))
    rw [e] at hn ⊢
    have hpos : 1 ≤ (fws (g :: r)).length := by
      cases r with
      | nil => exact (fw_pos g).1
      | cons x y =>
        have e2 : fws (g :: x :: y) = fw g ++ [44] :: fws (x :: y) := rfl
        rw [e2]; simp; omega
    obtain ⟨x, y, hxy⟩ : ∃ x y, fws (g :: r) ++ T = x :: y := by
      cases hz : fws (g :: r) ++ T with
      | nil =>
        have h0 := congrArg List.length hz
        rw [List.length_append] at h0
        have h1 : ([] : List (List UInt8)).length = 0 := rfl
        omega
      | cons x y => exact ⟨x, y, rfl⟩
    have hy : 3 ≤ y.length := by
      have h0 := congrArg List.length hxy
      rw [List.length_append, List.length_cons] at h0
      omega
    rcases fw_cases f (h f (by simp)) with ⟨h1, _, _, h4, h5, h6⟩ | ⟨d, h1, _, _, _, h5, h6⟩
    · rw [h1] at hn ⊢
      have hn' : (fws (g :: r) ++ T).length + 2 ≤ n := by simp at hn ⊢; omega
      obtain ⟨m, rfl⟩ : ∃ m, n = m + 2 := ⟨n - 2, by omega⟩
      have e3 : ([f.k.data.toList] ++ [44] :: fws (g :: r)) ++ T = f.k.data.toList :: [44] :: (fws (g :: r) ++ T) := by simp
      rw [e3, refL_plain (m + 1) _ _ _ (by rw [hxy]; simp; omega) (h4 _) h5, ← h6, hxy, refL_comma m _ _ (by omega), ← hxy, ih m T hT (by omega)]
    · rw [h1] at hn ⊢
      have hn' : (fws (g :: r) ++ T).length + 2 ≤ n := by simp at hn ⊢; omega
      obtain ⟨m, rfl⟩ : ∃ m, n = m + 2 := ⟨n - 2, by omega⟩
      have e3 : ([f.k.data.toList, d] ++ [44] :: fws (g :: r)) ++ T = f.k.data.toList :: d :: [44] :: (fws (g :: r) ++ T) := by simp
      rw [e3, refL_dig (m + 1) _ _ _ (by rw [hxy]; simp) h5, ← h6, hxy, refL_comma m _ _ (by omega), ← hxy, ih m T hT (by omega)]

/-- what the document's answer reads -/
def refS (t : List UInt8) : G := ⟨⟨((words9 t).headD []).toArray⟩, refL (words9 t).length ((words9 t).drop 2), ⟨((words9 t).getLastD []).toArray⟩⟩
theorem words9_join : ∀ (fs : List F), fs ≠ [] → (∀ f ∈ fs, isFormal f.k f.n = true) → ∀ X, words9 (Lib.join (fs.map wordL) [32, 44, 32] ++ 32 :: X) = fws fs ++ words9 X
  | [], h, _, _ => absurd rfl h
  | [f], _, h, X => by
    have e : Lib.join ([f].map wordL) [32, 44, 32] = wordL f := by simp [Lib.join, List.intercalate]
    rw [e]
    rcases fw_cases f (h f (by simp)) with ⟨h1, h2, h3, _⟩ | ⟨d, h1, h2, h3, h4, _⟩
    · rw [h2, words9_cut _ _ h3]
      show _ = fw f ++ _
      rw [h1]; rfl
    · rw [h2, List.append_assoc, List.cons_append, words9_cut _ _ h3, words9_cut _ _ h4]
      show _ = fw f ++ _
      rw [h1]; rfl
  | f :: g :: r, _, h, X => by
    have e : Lib.join ((f :: g :: r).map wordL) [32, 44, 32] ++ 32 :: X = wordL f ++ 32 :: ([44] ++ 32 :: (Lib.join ((g :: r).map wordL) [32, 44, 32] ++ 32 :: X)) := by simp [Lib.join, List.intercalate]
    have ih := words9_join (g :: r) (by simp) (fun x hx => h x (by simp [hx])) X
    have hc : words9 ([44] ++ 32 :: (Lib.join ((g :: r).map wordL) [32, 44, 32] ++ 32 :: X)) = [44] :: (fws (g :: r) ++ words9 X) := by
      rw [words9_cut _ _ (by decide), ih]
    rw [e]
    rcases fw_cases f (h f (by simp)) with ⟨h1, h2, h3, _⟩ | ⟨d, h1, h2, h3, h4, _⟩
    · rw [h2, words9_cut _ _ h3, hc]
      show _ = (fw f ++ [44] :: fws (g :: r)) ++ _
      rw [h1]; simp
    · rw [h2, List.append_assoc, List.cons_append, words9_cut _ _ h3, words9_cut _ _ h4, hc]
      show _ = (fw f ++ [44] :: fws (g :: r)) ++ _
      rw [h1]; simp
theorem bytes_back (b : ByteArray) : (⟨b.data.toList.toArray⟩ : ByteArray) = b := by cases b; simp
/-- THE PLAIN LAW: the text of a signature is read as the signature, by words too. -/
theorem refS_text (g : G) (h : validG g = true) : refS (textL g) = g := by
  have h' := h
  unfold validG at h'
  simp only [Bool.and_eq_true, List.all_eq_true] at h'
  obtain ⟨hf, ⟨hr, hn⟩, hl⟩ := h'
  have hres : (32 : UInt8) ∉ g.res.data.toList := by
    rcases res_chars hr with e | e | e <;> rw [e] <;> decide
  have hw : words9 (textL g) = g.name.data.toList :: [40] :: (fws g.fs ++ [[41], [58], g.res.data.toList]) := by
    have e : textL g = g.name.data.toList ++ 32 :: ([40] ++ 32 :: (innerL g.fs ++ [41, 32, 58, 32] ++ g.res.data.toList)) := by
      unfold textL; simp
    rw [e, words9_cut _ _ (name_chars hn), words9_cut _ _ (by decide)]
    congr 2
    have et : ([41, 32, 58, 32] : List UInt8) ++ g.res.data.toList = [41] ++ 32 :: ([58] ++ 32 :: g.res.data.toList) := rfl
    have hT : words9 ([41, 32, 58, 32] ++ g.res.data.toList) = [[41], [58], g.res.data.toList] := by
      rw [et, words9_cut _ _ (by decide), words9_cut _ _ (by decide), words9_one _ hres]
    by_cases h0 : g.fs = []
    · rw [h0]
      show words9 (([] : List UInt8) ++ [41, 32, 58, 32] ++ g.res.data.toList) = _
      rw [List.nil_append, hT]
      rfl
    · have hi : innerL g.fs = Lib.join (g.fs.map wordL) [32, 44, 32] ++ [32] := by unfold innerL; rw [if_neg h0]
      have e2 : innerL g.fs ++ [41, 32, 58, 32] ++ g.res.data.toList = Lib.join (g.fs.map wordL) [32, 44, 32] ++ 32 :: ([41, 32, 58, 32] ++ g.res.data.toList) := by rw [hi]; simp
      rw [e2, words9_join g.fs h0 hf, hT]
  unfold refS
  rw [hw]
  obtain ⟨nm, fs, res⟩ := g
  simp only at hf ⊢
  have e1 : refL (nm.data.toList :: [40] :: (fws fs ++ [[41], [58], res.data.toList])).length (fws fs ++ [[41], [58], res.data.toList]) = fs := refL_words fs hf _ _ rfl (by simp)
  have e2 : (nm.data.toList :: [40] :: (fws fs ++ [[41], [58], res.data.toList])).getLastD [] = res.data.toList := by
    have e0 : nm.data.toList :: [40] :: (fws fs ++ [[41], [58], res.data.toList]) = (nm.data.toList :: [40] :: (fws fs ++ [[41], [58]])) ++ [res.data.toList] := by simp
    rw [List.getLastD_eq_getLast?, e0, List.getLast?_concat]
    rfl
  show G.mk ⟨nm.data.toList.toArray⟩ _ _ = _
  rw [e2, bytes_back, bytes_back]
  show G.mk nm (refL _ (fws fs ++ [[41], [58], res.data.toList])) res = _
  rw [e1]

/-- what a reading answers: the signature, if its text is the text -/
def parseR (o : Option G) (t : List UInt8) : Option G := match o with
  | some g => if validG g = true ∧ textL g = t then some g else none
  | none => none
theorem parse_same (t : List UInt8) : parseR (progS t) t = parseR (some (refS t)) t := by
  unfold parseR
  cases hp : progS t with
  | none =>
    simp only
    rw [if_neg]
    rintro ⟨h1, h2⟩
    have := progS_text _ h1
    rw [h2, hp] at this
    cases this
  | some g =>
    simp only
    by_cases h : validG g = true ∧ textL g = t
    · have e := refS_text g h.1
      rw [h.2] at e
      rw [if_pos h, e, if_pos h]
    · rw [if_neg h, if_neg]
      rintro ⟨h1, h2⟩
      have e := progS_text _ h1
      rw [h2, hp] at e
      cases e
      exact h ⟨h1, h2⟩

end Go.Proofs.YtdmdfokkibijjaaGreatDoor
