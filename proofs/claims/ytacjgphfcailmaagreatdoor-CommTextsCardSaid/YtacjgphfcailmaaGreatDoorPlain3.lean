/-
  Plain laws about the kinds of tokens: names, keys, ints and signs by their texts; the number of an int. No program stands in this text.
-/
import Derived.Test.YtacjgphfcailmaaGreatDoorPlain
namespace Go.Proofs.YtacjgphfcailmaaGreatDoor.Tok

/-! A text whose bytes 9 and 10 become spaces -/
def spc (c : UInt8) : UInt8 := if c == 9 || c == 10 then 32 else c
theorem spc_cases (c : UInt8) : (spc c = 32 ∧ (c = 9 ∨ c = 10)) ∨ (spc c = c ∧ c ≠ 9 ∧ c ≠ 10) := by
  unfold spc
  by_cases h9 : c = 9
  · subst h9; exact .inl ⟨rfl, .inl rfl⟩
  · by_cases h10 : c = 10
    · subst h10; exact .inl ⟨rfl, .inr rfl⟩
    · exact .inr ⟨by simp [h9, h10], h9, h10⟩
theorem spc_keeps (p : UInt8 → Bool) (h32 : p 32 = false) (h9 : p 9 = false) (h10 : p 10 = false) (c : UInt8) : p (spc c) = p c := by
  rcases spc_cases c with ⟨e, rfl | rfl⟩ | ⟨e, _⟩
  · rw [e, h32, h9]
  · rw [e, h32, h10]
  · rw [e]
theorem spc_id (p : UInt8 → Bool) (h9 : p 9 = false) (h10 : p 10 = false) (c : UInt8) (h : p c = true) : spc c = c := by
  rcases spc_cases c with ⟨_, rfl | rfl⟩ | ⟨e, _⟩
  · rw [h9] at h; cases h
  · rw [h10] at h; cases h
  · exact e
theorem isSpc_spc (c : UInt8) : isSpc (spc c) = isSpc c := by
  rcases spc_cases c with ⟨e, rfl | rfl⟩ | ⟨e, _⟩
  · rw [e]; rfl
  · rw [e]; rfl
  · rw [e]
theorem run_map (p : UInt8 → Bool) (m : UInt8 → UInt8) (h : ∀ c, p (m c) = p c) (l : List UInt8) : run p (l.map m) = run p l := by
  induction l with
  | nil => rfl
  | cons c r ih => simp only [List.map_cons, run, h, ih]
theorem take_map (p : UInt8 → Bool) (m : UInt8 → UInt8) (h : ∀ c, p c = true → m c = c) (l : List UInt8) : (l.map m).take (run p l) = l.take (run p l) := by
  induction l with
  | nil => rfl
  | cons c r ih =>
    simp only [run]
    by_cases hc : p c = true
    · rw [if_pos hc, List.map_cons, List.take_succ_cons, List.take_succ_cons, h c hc, ih]
    · rw [if_neg hc]; rfl
theorem inn_of_isLet (c : UInt8) (h : isLet c = true) : isInn c = true := by unfold isInn innB; rw [show letB c.toNat = true from h]; rfl
theorem isLet_spc (c : UInt8) : isLet (spc c) = isLet c := spc_keeps isLet rfl rfl rfl c
theorem isInn_spc (c : UInt8) : isInn (spc c) = isInn c := spc_keeps isInn rfl rfl rfl c
theorem isDig_spc (c : UInt8) : isDig (spc c) = isDig c := spc_keeps isDig rfl rfl rfl c
theorem wordLen_cons (c : UInt8) (r : List UInt8) : wordLen (c :: r) = if isLet c then run isInn r + 1 else 0 := rfl
theorem digLen_cons (c : UInt8) (r : List UInt8) : digLen (c :: r) = if c == 48 then 1 else run isDig (c :: r) := rfl
theorem run_cons' (p : UInt8 → Bool) (c : UInt8) (r : List UInt8) : run p (c :: r) = if p c then run p r + 1 else 0 := rfl
theorem wordLen_eq (c : UInt8) (r : List UInt8) : wordLen (c :: r) = if isLet c then run isInn (c :: r) else 0 := by
  rw [wordLen_cons]
  by_cases h : isLet c = true
  · rw [if_pos h, if_pos h, run_cons', if_pos (inn_of_isLet c h)]
  · rw [if_neg h, if_neg h]
theorem wordLen_spc (l : List UInt8) : wordLen (l.map spc) = wordLen l := by
  cases l with
  | nil => rfl
  | cons c r =>
    rw [List.map_cons, wordLen_eq, wordLen_eq, isLet_spc, ← List.map_cons, run_map isInn spc isInn_spc]
theorem spc48 (c : UInt8) : (spc c == 48) = (c == 48) := by
  rcases spc_cases c with ⟨e, rfl | rfl⟩ | ⟨e, _⟩
  · rw [e]; rfl
  · rw [e]; rfl
  · rw [e]
theorem digLen_spc (l : List UInt8) : digLen (l.map spc) = digLen l := by
  cases l with
  | nil => rfl
  | cons c r =>
    rw [List.map_cons, digLen_cons, digLen_cons, spc48, ← List.map_cons, run_map isDig spc isDig_spc]
theorem prefix_spc : ∀ (x l : List UInt8), (∀ c ∈ x, c ≠ 9 ∧ c ≠ 10 ∧ c ≠ 32) → Lib.hasPrefix (l.map spc) x = Lib.hasPrefix l x
  | [], _, _ => rfl
  | a :: x, [], _ => rfl
  | a :: x, c :: l, h => by
    have ih := prefix_spc x l (fun d hd => h d (by simp [hd]))
    obtain ⟨h9, h10, h32⟩ := h a (by simp)
    unfold Lib.hasPrefix at ih ⊢
    have ha : (a == spc c) = (a == c) := by
      rcases spc_cases c with ⟨e, rfl | rfl⟩ | ⟨e, _⟩
      · rw [e, beq_eq_false_iff_ne.2 h9, beq_eq_false_iff_ne.2 h32]
      · rw [e, beq_eq_false_iff_ne.2 h10, beq_eq_false_iff_ne.2 h32]
      · rw [e]
    simp only [List.map_cons, List.isPrefixOf, ih, ha]
theorem signs_plain : ∀ x ∈ signs, ∀ c ∈ x, c ≠ 9 ∧ c ≠ 10 ∧ c ≠ 32 := by decide
theorem find_same {α : Type} {p q : α → Bool} : ∀ {l : List α}, (∀ x ∈ l, p x = q x) → l.find? p = l.find? q
  | [], _ => rfl
  | a :: l, h => by
    rw [List.find?_cons, List.find?_cons, h a (by simp), find_same fun x hx => h x (by simp [hx])]
theorem first_spc (l : List UInt8) : first (l.map spc) = first l := by
  unfold first
  rw [wordLen_spc, digLen_spc]
  by_cases hw : 0 < wordLen l
  · rw [if_pos hw, if_pos hw]
    have e : (l.map spc).take (wordLen l) = l.take (wordLen l) := by
      cases l with
      | nil => simp [wordLen] at hw
      | cons c r =>
        rw [wordLen_eq] at hw ⊢
        by_cases hc : isLet c = true
        · rw [if_pos hc]; exact take_map isInn spc (spc_id isInn rfl rfl) (c :: r)
        · rw [if_neg hc] at hw; omega
    rw [e]
  · rw [if_neg hw, if_neg hw]
    by_cases hd : 0 < digLen l
    · rw [if_pos hd, if_pos hd]
      have e : (l.map spc).take (digLen l) = l.take (digLen l) := by
        cases l with
        | nil => simp [digLen] at hd
        | cons c r =>
          rw [digLen_cons]
          by_cases h48 : (c == 48) = true
          · rw [if_pos h48]
            have : c = 48 := by simpa using h48
            subst this; rfl
          · rw [if_neg h48]; exact take_map isDig spc (spc_id isDig rfl rfl) (c :: r)
      rw [e]
    · rw [if_neg hd, if_neg hd]
      rw [find_same fun x hx => prefix_spc x l (signs_plain x hx)]
theorem gap_plain : ∀ l : List UInt8, (∀ c ∈ l, c ≠ 47) → gap l = run isSpc l
  | [], _ => rfl
  | c :: r, h => by
    have ih := gap_plain r (fun d hd => h d (by simp [hd]))
    have hc : (c == 47) = false := by simpa using h c (by simp)
    unfold gap at ih ⊢
    simp only [gapGo, run, hc, Bool.false_and, Bool.false_eq_true, if_false, ih]
theorem spc_not47 (l : List UInt8) (h : ∀ c ∈ l, c ≠ 47) : ∀ c ∈ l.map spc, c ≠ 47 := by
  intro c hc
  obtain ⟨d, hd, rfl⟩ := List.mem_map.1 hc
  rcases spc_cases d with ⟨e, _⟩ | ⟨e, _⟩
  · rw [e]; decide
  · rw [e]; exact h d hd
theorem toks_spc : ∀ (f : Nat) (l : List UInt8) (o : Nat), (∀ c ∈ l, c ≠ 47) → toks f (l.map spc) o = toks f l o
  | 0, _, _, _ => rfl
  | f + 1, l, o, h => by
    have hg : gap (l.map spc) = gap l := by
      rw [gap_plain l h, gap_plain _ (spc_not47 l h), run_map isSpc spc isSpc_spc]
    simp only [toks]
    rw [hg, List.length_map, ← List.map_drop, first_spc]
    by_cases h0 : gap l = l.length
    · rw [if_pos h0, if_pos h0]
    · rw [if_neg h0, if_neg h0]
      cases hx : first (l.drop (gap l)) with
      | none => rfl
      | some x =>
        simp only [← List.map_drop]
        rw [toks_spc f _ _ (fun c hc => h c (List.mem_of_mem_drop hc))]
theorem tokens_spc (l : List UInt8) (h : ∀ c ∈ l, c ≠ 47) : tokens (l.map spc) = tokens l := by
  unfold tokens toksN
  rw [List.length_map]
  exact toks_spc _ _ _ h

/-! A token by itself -/
theorem run_take' (p : UInt8 → Bool) : ∀ l : List UInt8, run p (l.take (run p l)) = run p l
  | [] => rfl
  | c :: r => by
    show run p ((c :: r).take (if p c then run p r + 1 else 0)) = if p c then run p r + 1 else 0
    by_cases h : p c = true
    · rw [if_pos h, List.take_succ_cons]
      show (if p c then run p (r.take (run p r)) + 1 else 0) = _
      rw [if_pos h, run_take' p r]
    · rw [if_neg h]; rfl
theorem sign_first : ∀ x ∈ signs, first x = some (kSign, x) := by decide +kernel
theorem dig_not_isLet (c : UInt8) (h : isDig c = true) : isLet c = false := by
  simp only [isDig, digB, isLet, letB, Bool.and_eq_true, decide_eq_true_eq, Bool.and_eq_false_iff, decide_eq_false_iff_not] at h ⊢
  omega

/-- the three kinds of tokens, by their texts -/
theorem first_cases {l k t : List UInt8} (h : first l = some (k, t)) :
    (k = kindOf t ∧ t = l.take (wordLen l) ∧ 0 < wordLen l ∧ wordLen t = t.length) ∨
    (k = kInt ∧ wordLen t = 0 ∧ 0 < t.length ∧ digLen t = t.length ∧ t.length ≤ 9) ∨
    (k = kSign ∧ t ∈ signs) := by
  have hwl := wordLen_le l
  have hdl := digLen_le l
  unfold first at h
  split at h
  · rename_i hw
    simp only [Option.some.injEq, Prod.mk.injEq] at h
    obtain ⟨rfl, rfl⟩ := h
    refine .inl ⟨rfl, rfl, hw, ?_⟩
    rw [List.length_take, Nat.min_eq_left hwl]
    cases l with
    | nil => simp [wordLen] at hw
    | cons c r =>
      rw [wordLen_eq] at hw ⊢
      by_cases hc : isLet c = true
      · rw [if_pos hc] at hw ⊢
        have ht := run_take' isInn (c :: r)
        obtain ⟨n, hn⟩ : ∃ n, run isInn (c :: r) = n + 1 := ⟨run isInn (c :: r) - 1, by omega⟩
        rw [hn, List.take_succ_cons] at ht ⊢
        rw [wordLen_eq, if_pos hc, ht]
      · rw [if_neg hc] at hw; omega
  · rename_i hw
    split at h
    · rename_i hd
      split at h
      · rename_i h9
        simp only [Option.some.injEq, Prod.mk.injEq] at h
        obtain ⟨rfl, rfl⟩ := h
        refine .inr (.inl ⟨rfl, ?_, ?_, ?_, ?_⟩)
        · cases l with
          | nil => rfl
          | cons c r =>
            obtain ⟨n, hn⟩ : ∃ n, digLen (c :: r) = n + 1 := ⟨digLen (c :: r) - 1, by omega⟩
            rw [hn, List.take_succ_cons]
            have hl : isLet c = false := by
              rw [digLen_cons] at hn
              by_cases h48 : (c == 48) = true
              · have : c = 48 := by simpa using h48
                subst this; rfl
              · rw [if_neg h48] at hn
                simp only [run] at hn
                by_cases hdg : isDig c = true
                · exact dig_not_isLet c hdg
                · rw [if_neg hdg] at hn; omega
            simp [wordLen, hl]
        · rw [List.length_take]; omega
        · rw [List.length_take, Nat.min_eq_left hdl]
          cases l with
          | nil => simp [digLen] at hd
          | cons c r =>
            by_cases h48 : (c == 48) = true
            · have : c = 48 := by simpa using h48
              subst this; rfl
            · have hn : digLen (c :: r) = run isDig (c :: r) := by rw [digLen_cons, if_neg h48]
              rw [hn] at hd ⊢
              have ht := run_take' isDig (c :: r)
              obtain ⟨n, hn⟩ : ∃ n, run isDig (c :: r) = n + 1 := ⟨run isDig (c :: r) - 1, by omega⟩
              rw [hn, List.take_succ_cons] at ht ⊢
              rw [digLen_cons, if_neg h48, ht]
        · rw [List.length_take]; omega
      · simp at h
    · simp only [Option.map_eq_some_iff, Prod.mk.injEq] at h
      obtain ⟨x, hx, rfl, rfl⟩ := h
      exact .inr (.inr ⟨rfl, List.mem_of_find?_eq_some hx⟩)
theorem first_of_cases {k t : List UInt8} (h : (k = kindOf t ∧ 0 < wordLen t ∧ wordLen t = t.length) ∨
    (k = kInt ∧ wordLen t = 0 ∧ 0 < t.length ∧ digLen t = t.length ∧ t.length ≤ 9) ∨ (k = kSign ∧ t ∈ signs)) : first t = some (k, t) := by
  rcases h with ⟨rfl, h1, h2⟩ | ⟨rfl, h0, h1, h2, h3⟩ | ⟨rfl, h1⟩
  · unfold first; rw [if_pos h1, h2, List.take_length]
  · unfold first; rw [h0, h2, if_neg (by omega), if_pos h1, if_pos h3, List.take_length]
  · exact sign_first t h1
/-- the text of a token in front is that token by itself -/
theorem first_again {l k t : List UInt8} (h : first l = some (k, t)) : first t = some (k, t) := by
  have ht := first_text h
  rcases first_cases h with ⟨h1, _, _, h4⟩ | h2 | h3
  · exact first_of_cases (.inl ⟨h1, by omega, h4⟩)
  · exact first_of_cases (.inr (.inl h2))
  · exact first_of_cases (.inr (.inr h3))

/-! Where tokens stand -/
def Follow (l : List UInt8) : Nat → List T → Prop
  | _, [] => True
  | e, t :: r => ∃ a : Nat, t.at_ = a ∧ e ≤ a ∧ a + t.text.length ≤ l.length ∧ (l.drop a).take t.text.length = t.text ∧ first t.text = some (t.kind, t.text) ∧ Follow l (a + t.text.length) r
theorem toks_follow (l : List UInt8) : ∀ (f : Nat) (o : Nat) (ts : List T), o ≤ l.length → toks f (l.drop o) o = some ts → Follow l o ts
  | 0, _, _, _, h => by simp [toks] at h
  | f + 1, o, ts, ho, h => by
    simp only [toks] at h
    have hg := gap_le (l.drop o)
    rw [List.length_drop] at hg
    by_cases h0 : gap (l.drop o) = (l.drop o).length
    · rw [if_pos h0] at h
      obtain rfl := Option.some.inj h
      trivial
    · rw [if_neg h0, List.drop_drop] at h
      cases hx : first (l.drop (o + gap (l.drop o))) with
      | none => rw [hx] at h; simp at h
      | some x =>
        obtain ⟨k, t⟩ := x
        rw [hx] at h
        simp only [List.drop_drop, Option.map_eq_some_iff] at h
        obtain ⟨r, hr, rfl⟩ := h
        have ht := first_text hx
        rw [List.length_drop] at ht
        obtain ⟨e, h1, h2⟩ := ht
        refine ⟨o + gap (l.drop o), rfl, by omega, by show o + gap (l.drop o) + t.length ≤ l.length; omega, by simp only; exact e.symm, first_again hx, ?_⟩
        have e2 : o + (gap (l.drop o) + t.length) = o + gap (l.drop o) + t.length := by omega
        rw [e2] at hr
        exact toks_follow l f _ r (show o + gap (l.drop o) + t.length ≤ l.length from by omega) hr
theorem tokens_follow (l : List UInt8) (ts : List T) (h : tokens l = some ts) : Follow l 0 ts := by
  refine toks_follow l (l.length + 1) 0 ts (Nat.zero_le _) ?_
  rw [List.drop_zero]; exact h

/-! Tokens that are joined and read again -/
theorem run_app (p : UInt8 → Bool) (l r : List UInt8) (h : run p l = l.length) (hr : run p r = 0) : run p (l ++ r) = l.length := by
  induction l with
  | nil => simpa using hr
  | cons c l ih =>
    simp only [run] at h
    by_cases hc : p c = true
    · rw [if_pos hc, List.length_cons] at h
      simp only [List.cons_append, run, if_pos hc, List.length_cons]
      rw [ih (by omega)]
    · rw [if_neg hc] at h; simp at h
/-- what stands behind a token: nothing, or a space -/
def Behind (r : List UInt8) : Prop := r = [] ∨ ∃ x, r = 32 :: x
theorem Behind.run {r : List UInt8} (h : Behind r) (p : UInt8 → Bool) (hp : p 32 = false) : Tok.run p r = 0 := by
  rcases h with rfl | ⟨x, rfl⟩
  · rfl
  · simp [Tok.run, hp]
theorem sign_behind (t : List UInt8) (ht : t ∈ signs) (r : List UInt8) (h : Behind r) : first (t ++ r) = some (kSign, t) ∧ gap (t ++ r) = 0 := by
  simp only [signs, List.mem_cons, List.not_mem_nil, or_false] at ht
  rcases h with rfl | ⟨x, rfl⟩
  · rcases ht with rfl | rfl | rfl | rfl | rfl | rfl | rfl | rfl | rfl | rfl | rfl | rfl | rfl | rfl | rfl | rfl | rfl | rfl | rfl | rfl | rfl | rfl | rfl <;> exact ⟨rfl, rfl⟩
  · rcases ht with rfl | rfl | rfl | rfl | rfl | rfl | rfl | rfl | rfl | rfl | rfl | rfl | rfl | rfl | rfl | rfl | rfl | rfl | rfl | rfl | rfl | rfl | rfl <;> exact ⟨rfl, rfl⟩
theorem gap_zero (c : UInt8) (r : List UInt8) (h1 : isSpc c = false) (h2 : (c == 47) = false) : gap (c :: r) = 0 := gap_stop c r h1 (by rw [h2]; rfl)
theorem let_plain (c : UInt8) (h : isLet c = true) : isSpc c = false ∧ (c == 47) = false := by
  simp only [isLet, letB, Bool.and_eq_true, decide_eq_true_eq] at h
  refine ⟨?_, ?_⟩
  · simp only [isSpc, Bool.or_eq_false_iff, beq_eq_false_iff_ne, ne_eq]
    exact ⟨⟨by rintro rfl; revert h; decide, by rintro rfl; revert h; decide⟩, by rintro rfl; revert h; decide⟩
  · rw [beq_eq_false_iff_ne]; rintro rfl; revert h; decide
theorem dig_plain (c : UInt8) (h : isDig c = true) : isSpc c = false ∧ (c == 47) = false := by
  simp only [isDig, digB, Bool.and_eq_true, decide_eq_true_eq] at h
  refine ⟨?_, ?_⟩
  · simp only [isSpc, Bool.or_eq_false_iff, beq_eq_false_iff_ne, ne_eq]
    exact ⟨⟨by rintro rfl; revert h; decide, by rintro rfl; revert h; decide⟩, by rintro rfl; revert h; decide⟩
  · rw [beq_eq_false_iff_ne]; rintro rfl; revert h; decide
/-- a token with a space behind it, or nothing, is read as itself -/
theorem first_behind {k t : List UInt8} (h : first t = some (k, t)) (r : List UInt8) (hr : Behind r) : first (t ++ r) = some (k, t) ∧ gap (t ++ r) = 0 := by
  rcases first_cases h with ⟨rfl, _, h2, h4⟩ | ⟨rfl, h0, h1, h2, h3⟩ | ⟨rfl, h1⟩
  · cases t with
    | nil => simp [wordLen] at h2
    | cons c t =>
      rw [wordLen_eq] at h2 h4
      by_cases hc : isLet c = true
      · rw [if_pos hc] at h4
        have hw : wordLen (c :: t ++ r) = (c :: t).length := by
          rw [List.cons_append, wordLen_eq, if_pos hc, ← List.cons_append]
          exact run_app isInn _ r h4 (hr.run isInn rfl)
        refine ⟨?_, ?_⟩
        · unfold first
          rw [hw, if_pos (by simp), List.take_left]
        · obtain ⟨g1, g2⟩ := let_plain c hc
          exact gap_zero c _ g1 g2
      · rw [if_neg hc] at h2; omega
  · cases t with
    | nil => simp at h1
    | cons c t =>
      have hdc : isDig c = true ∧ digLen (c :: t ++ r) = (c :: t).length := by
        rw [digLen_cons] at h2
        rw [List.cons_append, digLen_cons]
        by_cases h48 : (c == 48) = true
        · rw [if_pos h48] at h2 ⊢
          have : c = 48 := by simpa using h48
          subst this
          exact ⟨rfl, h2⟩
        · rw [if_neg h48] at h2 ⊢
          refine ⟨?_, by rw [← List.cons_append]; exact run_app isDig _ r h2 (hr.run isDig rfl)⟩
          simp only [run] at h2
          by_cases hdg : isDig c = true
          · exact hdg
          · rw [if_neg hdg] at h2; simp at h2
      obtain ⟨hd, he⟩ := hdc
      have hl := dig_not_isLet c hd
      have hw : wordLen (c :: t ++ r) = 0 := by rw [List.cons_append, wordLen_eq, hl]; rfl
      refine ⟨?_, ?_⟩
      · unfold first
        rw [hw, he, if_neg (by omega), if_pos (by simp), if_pos h3, List.take_left]
      · obtain ⟨g1, g2⟩ := dig_plain c hd
        exact gap_zero c _ g1 g2
  · exact sign_behind t h1 r hr
theorem toksN_space (l : List UInt8) (o : Nat) : toksN (32 :: l) o = toksN l (o + 1) := by
  rw [toksN_rest, toksN_rest l]
  have : gap (32 :: l) = gap l + 1 := gap_space 32 l rfl
  rw [this, List.drop_succ_cons]
  congr 1; omega
theorem joinTail_behind (r : List (List UInt8)) : Behind (Lib.joinTail [32] r) ∧ (r ≠ [] → Lib.joinTail [32] r = 32 :: Lib.join r [32]) := by
  cases r with
  | nil => exact ⟨.inl rfl, fun h => absurd rfl h⟩
  | cons x r =>
    have e : Lib.joinTail [32] (x :: r) = 32 :: Lib.join (x :: r) [32] := by
      rw [Lib.join_cons]; simp [Lib.joinTail]
    exact ⟨.inr ⟨_, e⟩, fun _ => e⟩
theorem toks_join : ∀ (vs : List (List UInt8 × List UInt8)) (o : Nat), (∀ v ∈ vs, first v.2 = some (v.1, v.2)) →
    ∃ ts, toksN (Lib.join (vs.map (·.2)) [32]) o = some ts ∧ ts.map (fun t => (t.kind, t.text)) = vs
  | [], o, _ => ⟨[], rfl, rfl⟩
  | (k, t) :: vs, o, h => by
    have hf := h (k, t) (by simp)
    simp only at hf
    obtain ⟨hb, hj⟩ := joinTail_behind (vs.map (·.2))
    obtain ⟨h1, h2⟩ := first_behind hf _ hb
    have ht := first_text hf
    rw [List.map_cons, Lib.join_cons, toksN_rest, h2, List.drop_zero]
    unfold restN
    have hne : t ++ Lib.joinTail [32] (vs.map (·.2)) ≠ [] := by
      intro e
      have h0 := congrArg List.length e
      have h1 := ht.2.1
      rw [List.length_append, List.length_nil] at h0
      omega
    rw [if_neg hne, h1]
    simp only [List.drop_left]
    cases hvs : vs with
    | nil =>
      refine ⟨[⟨k, t, (o + 0 : Nat)⟩], ?_, rfl⟩
      simp only [List.map_nil, Lib.joinTail]
      rfl
    | cons v r =>
      rw [← hvs]
      rw [hj (by rw [hvs]; simp), toksN_space]
      obtain ⟨ts, h3, h4⟩ := toks_join vs (o + 0 + t.length + 1) (fun v hv => h v (by simp [hv]))
      refine ⟨⟨k, t, (o + 0 : Nat)⟩ :: ts, ?_, ?_⟩
      · rw [h3]; rfl
      · simp [h4]

end Go.Proofs.YtacjgphfcailmaaGreatDoor.Tok

namespace Go.Proofs.YtacjgphfcailmaaGreatDoor.Tok

/-- the text of an int: one to nine digits, no 0 in front of others -/
def isNum (l : List UInt8) : Bool := decide (1 ≤ l.length ∧ l.length ≤ 9) && (decide (l.length = 1) || !(l.head? == some 48)) && l.all isDig
def numOf (l : List UInt8) : Int := l.foldl (fun n c => 10 * n + ((c.toNat : Int) - 48)) 0

theorem numOf_snoc (l : List UInt8) (c : UInt8) : numOf (l ++ [c]) = 10 * numOf l + ((c.toNat : Int) - 48) := by
  unfold numOf; rw [List.foldl_append]; rfl
theorem isDig_range (c : UInt8) (h : isDig c = true) : 48 ≤ (c.toNat : Int) ∧ (c.toNat : Int) ≤ 57 := by
  simpa [isDig, digB] using h
theorem numOf_bd : ∀ (n : Nat) (l : List UInt8), l.length = n → (∀ c ∈ l, isDig c = true) → 0 ≤ numOf l ∧ numOf l + 1 ≤ 10 ^ n
  | 0, l, h, _ => by
    obtain rfl : l = [] := List.eq_nil_of_length_eq_zero h
    simp [numOf]
  | n + 1, l, h, hd => by
    have hne : l ≠ [] := by rintro rfl; simp at h
    have e := (List.dropLast_concat_getLast hne).symm
    obtain ⟨h1, h2⟩ := numOf_bd n l.dropLast (by rw [List.length_dropLast]; omega) (fun c hc => hd c (by rw [e]; simp [hc]))
    obtain ⟨g1, g2⟩ := isDig_range (l.getLast hne) (hd _ (List.getLast_mem hne))
    rw [e, numOf_snoc, Int.pow_succ]
    omega
theorem run_all (p : UInt8 → Bool) (l : List UInt8) : run p l = l.length ↔ l.all p = true := by
  induction l with
  | nil => simp [run]
  | cons c r ih =>
    simp only [run, List.length_cons, List.all_cons, Bool.and_eq_true]
    by_cases hc : p c = true
    · rw [if_pos hc, ← ih]
      exact ⟨fun h => ⟨hc, by omega⟩, fun h => by omega⟩
    · rw [if_neg hc]
      exact ⟨fun h => by omega, fun h => absurd h.1 hc⟩

theorem kinds_differ : kName ≠ kKey ∧ kName ≠ kInt ∧ kName ≠ kSign ∧ kKey ≠ kInt ∧ kKey ≠ kSign ∧ kInt ≠ kSign := by decide
theorem keys_words : ∀ x ∈ keys, isWord x = true := by decide +kernel
theorem isKey_iff (l : List UInt8) : isKey l = true ↔ l ∈ keys := by unfold isKey; exact List.contains_iff_mem
theorem isWord_iff (l : List UInt8) : isWord l = true ↔ 0 < wordLen l ∧ wordLen l = l.length := by
  unfold isWord
  rw [decide_eq_true_eq]
  omega
theorem first_name (t : List UInt8) : first t = some (kName, t) ↔ isName t = true := by
  obtain ⟨d1, d2, d3, _⟩ := kinds_differ
  unfold isName
  rw [Bool.and_eq_true, isWord_iff]
  constructor
  · intro h
    have ht := first_text h
    rcases first_cases h with ⟨h1, _, _, h4⟩ | ⟨h1, _⟩ | ⟨h1, _⟩
    · refine ⟨⟨by omega, h4⟩, ?_⟩
      unfold kindOf at h1
      cases hk : isKey t
      · rfl
      · rw [hk, if_pos rfl] at h1; exact absurd h1 d1
    · exact absurd h1 d2
    · exact absurd h1 d3
  · rintro ⟨h1, h2⟩
    have hk : isKey t = false := by simpa using h2
    exact first_of_cases (.inl ⟨by unfold kindOf; rw [hk]; rfl, h1⟩)
theorem first_key (t : List UInt8) : first t = some (kKey, t) ↔ keys.contains t = true := by
  obtain ⟨d1, d2, d3, d4, d5, d6⟩ := kinds_differ
  constructor
  · intro h
    rcases first_cases h with ⟨h1, _⟩ | ⟨h1, _⟩ | ⟨h1, _⟩
    · unfold kindOf at h1
      by_cases hk : isKey t = true
      · exact hk
      · rw [if_neg hk] at h1; exact absurd h1.symm d1
    · exact absurd h1 d4
    · exact absurd h1 d5
  · intro h
    have hw := keys_words t ((isKey_iff t).1 h)
    rw [isWord_iff] at hw
    exact first_of_cases (.inl ⟨by unfold kindOf; rw [if_pos (show isKey t = true from h)], hw⟩)
theorem first_sign (t : List UInt8) : first t = some (kSign, t) ↔ signs.contains t = true := by
  obtain ⟨d1, d2, d3, d4, d5, d6⟩ := kinds_differ
  rw [List.contains_iff_mem]
  constructor
  · intro h
    rcases first_cases h with ⟨h1, _⟩ | ⟨h1, _⟩ | ⟨_, h1⟩
    · unfold kindOf at h1
      split at h1
      · exact absurd h1.symm d5
      · exact absurd h1.symm d3
    · exact absurd h1.symm d6
    · exact h1
  · exact sign_first t
theorem digLen_all (t : List UInt8) (h : 0 < t.length) : digLen t = t.length ↔ ((decide (t.length = 1) || !(t.head? == some 48)) = true ∧ t.all isDig = true) := by
  cases t with
  | nil => simp at h
  | cons c r =>
    rw [digLen_cons]
    by_cases h48 : (c == 48) = true
    · have hc : c = 48 := by simpa using h48
      subst hc
      rw [if_pos h48]
      have hd : isDig 48 = true := rfl
      cases r with
      | nil => simp [hd]
      | cons d r => simp
    · rw [if_neg h48, run_all]
      have hne : ¬ c = 48 := by simpa using h48
      simp [hne]
theorem first_int (t : List UInt8) : first t = some (kInt, t) ↔ isNum t = true := by
  obtain ⟨d1, d2, d3, d4, d5, d6⟩ := kinds_differ
  unfold isNum
  rw [Bool.and_eq_true, Bool.and_eq_true, decide_eq_true_eq]
  constructor
  · intro h
    rcases first_cases h with ⟨h1, _⟩ | ⟨_, _, h3, h4, h5⟩ | ⟨h1, _⟩
    · unfold kindOf at h1
      split at h1
      · exact absurd h1.symm d4
      · exact absurd h1.symm d2
    · obtain ⟨g1, g2⟩ := (digLen_all t h3).1 h4
      exact ⟨⟨⟨by omega, h5⟩, g1⟩, g2⟩
    · exact absurd h1 d6
  · rintro ⟨⟨⟨h1, h2⟩, h3⟩, h4⟩
    refine first_of_cases (.inr (.inl ⟨rfl, ?_, by omega, (digLen_all t (by omega)).2 ⟨h3, h4⟩, h2⟩))
    cases t with
    | nil => rfl
    | cons c r =>
      have hd : isDig c = true := by simp only [List.all_cons, Bool.and_eq_true] at h4; exact h4.1
      rw [wordLen_cons, dig_not_isLet c hd]; rfl
theorem first_kind {t k : List UInt8} (h : first t = some (k, t)) : k = kName ∨ k = kKey ∨ k = kInt ∨ k = kSign := by
  rcases first_cases h with ⟨h1, _⟩ | ⟨h1, _⟩ | ⟨h1, _⟩
  · unfold kindOf at h1
    split at h1
    · exact .inr (.inl h1)
    · exact .inl h1
  · exact .inr (.inr (.inl h1))
  · exact .inr (.inr (.inr h1))

end Go.Proofs.YtacjgphfcailmaaGreatDoor.Tok
