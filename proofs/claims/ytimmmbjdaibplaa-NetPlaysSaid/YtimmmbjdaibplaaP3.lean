/-
  Layer 16, plain laws of NetSums: sums of what is added, and how many messages were sent.
-/
import Derived.Test.YtimmmbjdaibplaaP2
import Derived.Laws.Strings
namespace Nt
open Go
set_option linter.unusedVariables false
set_option linter.unusedSimpArgs false

theorem wrap_eq (x : Int) : IntKind.i64.wrap x = if 9223372036854775808 ≤ x % 18446744073709551616 then x % 18446744073709551616 - 18446744073709551616 else x % 18446744073709551616 := by
  simp [IntKind.wrap, IntKind.bits, IntKind.signed]
theorem wrap_l (a b : Int) : IntKind.i64.wrap (IntKind.i64.wrap a + b) = IntKind.i64.wrap (a + b) := by
  simp only [wrap_eq]
  split <;> split <;> split <;> omega
theorem wrap_sub (a b : Int) : IntKind.i64.wrap (IntKind.i64.wrap a + b) = IntKind.i64.wrap (b + a) := by rw [wrap_l, Int.add_comm]

/-- what a message will add to a cell -/
def vAt (p c : Nat) (m : Msg) : Int := if m.kind = 4 then 0 else if m.to.toNat = p ∧ m.cell.toNat = c then m.val else 0
def sumAt (p c : Nat) : List Msg → Int
  | [] => 0
  | m :: r => vAt p c m + sumAt p c r
theorem sumAt_append (p c : Nat) : ∀ a b : List Msg, sumAt p c (a ++ b) = sumAt p c a + sumAt p c b
  | [], b => by simp [sumAt]
  | m :: r, b => by
    simp only [List.cons_append, sumAt]
    rw [sumAt_append p c r b]
    omega
theorem sumAt_erase (p c : Nat) : ∀ (l : List Msg) (k : Nat) (h : k < l.length), sumAt p c (l.eraseIdx k) + vAt p c l[k] = sumAt p c l
  | m :: r, 0, _ => by simp [sumAt]; omega
  | m :: r, k + 1, h => by
    have := sumAt_erase p c r k (by simpa using h)
    simp only [List.eraseIdx_cons_succ, sumAt, List.getElem_cons_succ]
    omega
def cntOf (k : ByteArray) : List Cnt → Int
  | [] => 0
  | x :: r => (if x.kind = k then x.many else 0) + cntOf k r
theorem cntOf_append (k : ByteArray) : ∀ a b : List Cnt, cntOf k (a ++ b) = cntOf k a + cntOf k b
  | [], b => by simp [cntOf]
  | x :: r, b => by
    simp only [List.cons_append, cntOf]
    rw [cntOf_append k r b]
    omega
theorem cntOf_perm (k : ByteArray) {a b : List Cnt} (h : a.Perm b) : cntOf k a = cntOf k b := by
  induction h with
  | nil => rfl
  | cons x _ ih => simp only [cntOf, ih]
  | swap x y l => simp only [cntOf]; omega
  | trans _ _ h1 h2 => exact h1.trans h2
theorem cntOf_nonneg (k : ByteArray) : ∀ l : List Cnt, (∀ x ∈ l, 0 ≤ x.many) → 0 ≤ cntOf k l
  | [], _ => by simp [cntOf]
  | x :: r, h => by
    have h1 := h x (by simp)
    have h2 := cntOf_nonneg k r fun y hy => h y (by simp [hy])
    simp only [cntOf]
    split <;> omega
theorem cntOf_take (k : ByteArray) (l : List Cnt) (h : ∀ x ∈ l, 0 ≤ x.many) (i : Nat) : 0 ≤ cntOf k (l.take i) ∧ cntOf k (l.take i) ≤ cntOf k l := by
  refine ⟨cntOf_nonneg k _ fun x hx => h x (List.mem_of_mem_take hx), ?_⟩
  have e := cntOf_append k (l.take i) (l.drop i)
  rw [List.take_append_drop] at e
  have := cntOf_nonneg k (l.drop i) fun x hx => h x (List.mem_of_mem_drop hx)
  omega
theorem cntOf_snoc (k : ByteArray) (l : List Cnt) (i : Nat) (h : i < l.length) : cntOf k (l.take (i + 1)) = cntOf k (l.take i) + (if l[i].kind = k then l[i].many else 0) := by
  rw [List.take_succ_eq_append_getElem h, cntOf_append]
  simp [cntOf]
theorem cntOf_mem (k : ByteArray) : ∀ (l : List Cnt), (∀ x ∈ l, 0 ≤ x.many) → ∀ x ∈ l, x.kind = k → x.many ≤ cntOf k l
  | y :: r, h, x, hx, hk => by
    have h1 := h y (by simp)
    have h2 := cntOf_nonneg k r fun z hz => h z (by simp [hz])
    simp only [cntOf]
    rcases List.mem_cons.1 hx with rfl | hx
    · rw [if_pos hk]; omega
    · have := cntOf_mem k r (fun z hz => h z (by simp [hz])) x hx hk
      split <;> omega
theorem bytes_ext {a b : ByteArray} (h : a.toList = b.toList) : a = b := by
  rw [Go.ByteArray.toList_eq, Go.ByteArray.toList_eq] at h
  exact ByteArray.ext (Array.toList_inj.1 h)
theorem isCnt_kind {x : Cnt} {f t : Int} {k : ByteArray} (h : isCnt x f t k = true) : x.frm = f ∧ x.to = t ∧ x.kind = k := by
  unfold isCnt at h
  simp only [Bool.and_eq_true, decide_eq_true_eq, beq_iff_eq] at h
  exact ⟨h.1, h.2.1, bytes_ext h.2.2⟩
theorem bump_cnt (f t : Int) (k q : ByteArray) : ∀ (l : List Cnt), (∀ x ∈ l, 0 ≤ x.many ∧ x.many ≤ 100000) → cntOf q (bump l f t k) = cntOf q l + (if k = q then 1 else 0)
  | [], _ => by simp [bump, cntOf]
  | x :: r, h => by
    have h1 := h x (by simp)
    unfold bump
    split
    · rename_i e
      have e3 := (isCnt_kind e).2.2
      have ew : IntKind.i64.wrap (x.many + 1) = x.many + 1 := IntWalk.i64_in _ (by omega)
      simp only [cntOf, ew, e3]
      split <;> omega
    · simp only [cntOf]
      rw [bump_cnt f t k q r fun z hz => h z (by simp [hz])]
      omega
theorem bump_mem (f t : Int) (k : ByteArray) : ∀ (l : List Cnt), (∀ x ∈ l, 0 ≤ x.many ∧ x.many ≤ 100000) → ∀ y ∈ bump l f t k, 0 ≤ y.many ∧ (y.kind = k ∨ ∃ x ∈ l, y.kind = x.kind)
  | [], _, y, hy => by
    simp only [bump, List.mem_singleton] at hy
    subst hy
    exact ⟨by simp, .inl rfl⟩
  | x :: r, h, y, hy => by
    have h1 := h x (by simp)
    unfold bump at hy
    split at hy
    · rcases List.mem_cons.1 hy with rfl | hy
      · have ew : IntKind.i64.wrap (x.many + 1) = x.many + 1 := IntWalk.i64_in _ (by omega)
        exact ⟨by simp only [ew]; omega, .inr ⟨x, by simp, rfl⟩⟩
      · exact ⟨(h y (by simp [hy])).1, .inr ⟨y, by simp [hy], rfl⟩⟩
    · rcases List.mem_cons.1 hy with rfl | hy
      · exact ⟨h1.1, .inr ⟨y, by simp, rfl⟩⟩
      · obtain ⟨h2, h3⟩ := bump_mem f t k r (fun z hz => h z (by simp [hz])) y hy
        refine ⟨h2, ?_⟩
        rcases h3 with h3 | ⟨z, hz, e⟩
        · exact .inl h3
        · exact .inr ⟨z, by simp [hz], e⟩
def kAdd : ByteArray := ⟨#[97, 100, 100]⟩
def kAns : ByteArray := ⟨#[97, 110, 115, 119, 101, 114]⟩
theorem kname_add : kname 3 = kAdd := by decide
theorem kname_ans : kname 4 = kAns := by decide
theorem kAdd_ne : kAdd ≠ kAns := by decide

def getL (S : List Int) (i : Nat) : Int := S.getD i 0
/-- only adds, and their answers: P places of 4 cells; S: what each cell has in the end; far: how many went to another place -/
structure Su (P : Nat) (S : List Int) (far : Nat) (N : Net) : Prop where
  ms : ∀ m ∈ N.fl, m.kind ≠ 4 → m.kind = 3
  sl : S.length = 4 * P
  su : ∀ p c, p < P → c < 4 → IntKind.i64.wrap (getC N.cs p c + sumAt p c N.fl) = getL S (4 * p + c)
  cs : ∀ p c, p < P → c < 4 → IntKind.i64.wrap (getC N.cs p c) = getC N.cs p c
  ix : (didx 1 N.hs ++ N.fl.map (fun x : Msg => x.hnd)).Perm (upto1 N.hs.length)
  ck : ∀ x ∈ N.sent, 0 ≤ x.many ∧ (x.kind = kAdd ∨ x.kind = kAns)
  ca : cntOf kAdd N.sent = far
  cb : cntOf kAns N.sent + reqs N.fl = far
  fr : far ≤ N.hs.length
theorem Su.many {P : Nat} {S : List Int} {far : Nat} {N : Net} (h : Su P S far N) : ∀ x ∈ N.sent, 0 ≤ x.many ∧ x.many ≤ far := by
  intro x hx
  have h0 : ∀ x ∈ N.sent, 0 ≤ x.many := fun x hx => (h.ck x hx).1
  refine ⟨h0 x hx, ?_⟩
  have ha := h.ca
  have hb := h.cb
  rcases (h.ck x hx).2 with e | e
  · have := cntOf_mem kAdd N.sent h0 x hx e
    omega
  · have := cntOf_mem kAns N.sent h0 x hx e
    omega
theorem getC_setC {cs : List (List Int)} {p c C : Nat} (hp : p < cs.length) (hc : c < C) (h : ∀ r ∈ cs, r.length = C) (v : Int) (q d : Nat) : getC (setC cs p c v) q d = if q = p ∧ d = c then v else getC cs q d := by
  by_cases e : q = p ∧ d = c
  · obtain ⟨rfl, rfl⟩ := e
    rw [if_pos ⟨rfl, rfl⟩, getC_set hp hc h]
  · rw [if_neg e]
    unfold getC setC
    by_cases eq : q = p
    · subst eq
      have hd : c ≠ d := fun e' => e ⟨rfl, e'.symm⟩
      have e2 : (cs.set q ((cs.getD q []).set c v)).getD q [] = (cs.getD q []).set c v := by simp [List.getD, hp]
      rw [e2]
      simp [List.getD, hd]
    · have e2 : (cs.set p ((cs.getD p []).set c v)).getD q [] = cs.getD q [] := by simp [List.getD, Ne.symm eq]
      rw [e2]
theorem su_new (P : Nat) : Su P (List.replicate (4 * P) 0) 0 ⟨List.replicate P (List.replicate 4 0), [], [], []⟩ := by
  have hz : ∀ p c, p < P → c < 4 → getC (List.replicate P (List.replicate 4 0)) p c = 0 := fun p c hp hc => by
    have e : (List.replicate P (List.replicate 4 (0 : Int))).getD p [] = List.replicate 4 0 := by simp [List.getD, hp]
    unfold getC
    rw [e]
    simp only [List.getD, List.getElem?_replicate, if_pos hc, Option.getD_some]
  refine ⟨fun m hm => (by simp at hm), by simp, fun p c hp hc => ?_, fun p c hp hc => ?_, by simp [didx, upto1], fun x hx => (by simp at hx), rfl, rfl, Nat.zero_le _⟩
  · have hl : 4 * p + c < 4 * P := by omega
    rw [hz p c hp hc]
    simp [sumAt, getL, List.getD, hl]
    decide
  · rw [hz p c hp hc]; decide
theorem getL_set {S : List Int} {i : Nat} (hi : i < S.length) (v : Int) (j : Nat) : getL (S.set i v) j = if j = i then v else getL S j := by
  unfold getL
  by_cases e : j = i
  · subst e; simp [List.getD, hi]
  · rw [if_neg e]; simp [List.getD, Ne.symm e]
theorem cell_ix {p c q d : Nat} (hc : c < 4) (hd : d < 4) : 4 * q + d = 4 * p + c ↔ q = p ∧ d = c := by omega

theorem su_req {P : Nat} {S : List Int} {far : Nat} {N : Net} (hw : Wf P 4 N) (h : Su P S far N) (hn : N.hs.length < 40) {f v : Int} {t c : Nat} (f0 : 0 ≤ f) (f1 : f < P) (t1 : t < P) (c1 : c < 4) :
    Su P (S.set (4 * t + c) (IntKind.i64.wrap (getL S (4 * t + c) + v))) (if f = t then far else far + 1) (reqN N ⟨f, t, 3, c, v, 0⟩) := by
  have hp : t < N.cs.length := by rw [hw.pl]; exact t1
  have hi : 4 * t + c < S.length := by rw [h.sl]; omega
  have hfr := h.fr
  have hmany := h.many
  unfold reqN
  by_cases e : f = t
  · rw [if_pos e, if_pos e]
    have ecs : ∀ (h' : Nat) (b : Int), (doneN (doN (hangN N f) ⟨f, t, 3, c, v, N.hs.length + 1⟩) h' b).cs = setC N.cs t c (IntKind.i64.wrap (getC N.cs t c + v)) := by
      intro h' b
      simp [doneN, doN, hangN, newV]
    refine ⟨h.ms, by rw [List.length_set]; exact h.sl, ?_, ?_, ?_, h.ck, h.ca, h.cb, ?_⟩
    · intro q d hq hd
      rw [ecs, getC_setC hp c1 hw.ce, getL_set hi]
      show IntKind.i64.wrap ((if q = t ∧ d = c then _ else _) + sumAt q d N.fl) = _
      have hs := h.su q d hq hd
      by_cases e2 : q = t ∧ d = c
      · rw [if_pos e2, if_pos ((cell_ix c1 hd).2 e2), wrap_l]
        obtain ⟨rfl, rfl⟩ := e2
        rw [← hs, wrap_l]
        congr 1
        omega
      · rw [if_neg e2, if_neg (fun e3 => e2 ((cell_ix c1 hd).1 e3))]
        exact hs
    · intro q d hq hd
      rw [ecs, getC_setC hp c1 hw.ce]
      split
      · have := wrap_l (getC N.cs t c + v) 0
        simpa using this
      · exact h.cs q d hq hd
    · have hi : (N.hs ++ [(⟨f, 0, false⟩ : Hd)]).length = N.hs.length + 1 := by simp
      have hs := didx_set (N.hs ++ [(⟨f, 0, false⟩ : Hd)]) 1 N.hs.length (by simp) ⟨f, ansN N ⟨f, t, 3, c, v, (N.hs.length : Int) + 1⟩, true⟩ (by simp) rfl
      rw [didx_append] at hs
      simp only [didx] at hs
      have e1 : (doneN (doN (hangN N f) ⟨f, t, 3, c, v, (N.hs.length : Int) + 1⟩) (N.hs.length + 1) (ansN N ⟨f, t, 3, c, v, (N.hs.length : Int) + 1⟩)).hs = (N.hs ++ [(⟨f, 0, false⟩ : Hd)]).set N.hs.length ⟨f, ansN N ⟨f, t, 3, c, v, (N.hs.length : Int) + 1⟩, true⟩ := by
        simp [doneN, doN, hangN]
      show (didx 1 (doneN _ _ _).hs ++ N.fl.map (fun x : Msg => x.hnd)).Perm (upto1 (doneN _ _ _).hs.length)
      rw [e1, List.length_set, hi, upto1_snoc]
      refine (hs.append_right _).trans ?_
      simp only [Bool.false_eq_true, if_false, List.append_nil, List.cons_append]
      have e2 : (1 : Int) + (N.hs.length : Int) = (N.hs.length : Int) + 1 := by omega
      rw [e2]
      exact ((h.ix.cons _).trans (List.perm_append_comm (l₁ := [_])))
    · simp [doneN, doN, hangN]; omega
  · rw [if_neg e, if_neg e]
    refine ⟨?_, by rw [List.length_set]; exact h.sl, ?_, h.cs, ?_, ?_, ?_, ?_, ?_⟩
    · intro x hx h4
      simp only [sendN, hangN, List.mem_append, List.mem_singleton] at hx
      rcases hx with hx | rfl
      · exact h.ms x hx h4
      · rfl
    · intro q d hq hd
      have hs := h.su q d hq hd
      show IntKind.i64.wrap (getC N.cs q d + sumAt q d (N.fl ++ [_])) = _
      rw [sumAt_append, getL_set hi]
      simp only [sumAt, vAt, Int.toNat_natCast]
      rw [if_neg (by omega)]
      by_cases e2 : q = t ∧ d = c
      · obtain ⟨rfl, rfl⟩ := e2
        rw [if_pos ⟨rfl, rfl⟩, if_pos rfl, ← hs, wrap_l]
        congr 1
        omega
      · rw [if_neg (fun e3 : t = q ∧ c = d => e2 ⟨e3.1.symm, e3.2.symm⟩), if_neg (fun e3 => e2 ((cell_ix c1 hd).1 e3))]
        simpa using hs
    · show (didx 1 (N.hs ++ [(⟨f, 0, false⟩ : Hd)]) ++ (N.fl ++ [(⟨f, t, 3, c, v, (N.hs.length : Int) + 1⟩ : Msg)]).map (fun x : Msg => x.hnd)).Perm (upto1 (N.hs ++ [(⟨f, 0, false⟩ : Hd)]).length)
      rw [didx_append]
      simp only [didx, Bool.false_eq_true, if_false, List.append_nil, List.map_append, List.map_cons, List.map_nil, List.length_append, List.length_cons, List.length_nil]
      rw [upto1_snoc, ← List.append_assoc]
      exact h.ix.append_right _
    · intro y hy
      have := bump_mem f t (kname 3) N.sent (fun x hx => ⟨(hmany x hx).1, by have := (hmany x hx).2; omega⟩) y hy
      refine ⟨this.1, ?_⟩
      rcases this.2 with e2 | ⟨x, hx, e2⟩
      · exact .inl (e2.trans kname_add)
      · rw [e2]; exact (h.ck x hx).2
    · show cntOf kAdd (bump N.sent f t (kname 3)) = _
      rw [bump_cnt _ _ _ _ _ (fun x hx => ⟨(hmany x hx).1, by have := (hmany x hx).2; omega⟩), kname_add, if_pos rfl, h.ca]
      omega
    · show cntOf kAns (bump N.sent f t (kname 3)) + ((reqs (N.fl ++ [_]) : Nat) : Int) = _
      rw [bump_cnt _ _ _ _ _ (fun x hx => ⟨(hmany x hx).1, by have := (hmany x hx).2; omega⟩), kname_add, if_neg kAdd_ne, reqs_append]
      have e1 : reqs [(⟨f, t, 3, c, v, (N.hs.length : Int) + 1⟩ : Msg)] = 1 := by simp [reqs]
      have := h.cb
      rw [show ({ frm := f, to := (t : Int), kind := 3, cell := (c : Int), val := v, hnd := (N.hs.length : Int) + 1 } : Msg) = ⟨f, t, 3, c, v, (N.hs.length : Int) + 1⟩ from rfl] at *
      rw [e1]
      omega
    · simp [sendN, hangN]; omega

theorem su_del {P : Nat} {S : List Int} {far : Nat} {N : Net} (hw : Wf P 4 N) (h : Su P S far N) (hn : N.hs.length ≤ 40) {k : Nat} (hk : k < N.fl.length) : Su P S far (delN N k N.fl[k]) := by
  have hms := h.ms _ (List.getElem_mem hk)
  have hm := hw.ms _ (List.getElem_mem hk)
  have hpm := (erase_perm N.fl k hk).map (fun x : Msg => x.hnd)
  have hse := fun p c => sumAt_erase p c N.fl k hk
  have hre := reqs_erase N.fl k hk
  have hmany := h.many
  have hfr := h.fr
  generalize N.fl[k] = m at *
  have hix : (m.hnd :: (didx 1 N.hs ++ (N.fl.eraseIdx k).map (fun x : Msg => x.hnd))).Perm (upto1 N.hs.length) :=
    ((List.perm_middle.symm).trans (hpm.symm.append_left _)).trans h.ix
  have hnd := (hix.nodup_iff).2 (upto1_nodup _)
  have hfree : m.hnd ∉ didx 1 N.hs := fun hm => (List.nodup_cons.1 hnd).1 (List.mem_append.2 (.inl hm))
  have hi : (m.hnd.toNat - 1) < N.hs.length := by have := hm.h0; have := hm.h1; omega
  have hdn : N.hs[m.hnd.toNat - 1].dn = false := by
    have := mem_didx N.hs 1 (m.hnd.toNat - 1) hi
    have e : (1 : Int) + ((m.hnd.toNat - 1 : Nat) : Int) = m.hnd := by have := hm.h0; omega
    rw [e] at this
    cases hd : N.hs[m.hnd.toNat - 1].dn
    · rfl
    · exact absurd (this.2 hd) hfree
  unfold delN
  split
  · rename_i e4
    rw [if_pos e4] at hre
    refine ⟨?_, h.sl, ?_, h.cs, ?_, h.ck, h.ca, ?_, ?_⟩
    · exact fun x hx h4 => h.ms x (erase_mem hx) h4
    · intro p c hp hc
      have := hse p c
      unfold vAt at this
      rw [if_pos e4] at this
      show IntKind.i64.wrap (getC N.cs p c + sumAt p c (N.fl.eraseIdx k)) = _
      rw [← h.su p c hp hc]
      congr 1
      omega
    · have hs := didx_set N.hs 1 (m.hnd.toNat - 1) hi ⟨(N.hs.getD (m.hnd.toNat - 1) ⟨0, 0, false⟩).frm, m.val, true⟩ hdn rfl
      have e : (1 : Int) + ((m.hnd.toNat - 1 : Nat) : Int) = m.hnd := by have := hm.h0; omega
      rw [e] at hs
      show (didx 1 (N.hs.set (m.hnd.toNat - 1) ⟨(N.hs.getD (m.hnd.toNat - 1) ⟨0, 0, false⟩).frm, m.val, true⟩) ++ (N.fl.eraseIdx k).map (fun x : Msg => x.hnd)).Perm (upto1 (N.hs.set _ _).length)
      rw [List.length_set]
      exact (hs.append_right _).trans hix
    · show cntOf kAns N.sent + ((reqs (N.fl.eraseIdx k) : Nat) : Int) = _
      have := h.cb
      omega
    · simp [doneN, dropN]; exact hfr
  · rename_i e4
    rw [if_neg e4] at hre
    have k3 := hms e4
    have hp : m.to.toNat < N.cs.length := by rw [hw.pl]; have := hm.t0; have := hm.t1; omega
    have hc4 : m.cell.toNat < 4 := by have := hm.c0; have := hm.c1; omega
    have hnv : newV m (getC N.cs m.to.toNat m.cell.toNat) = IntKind.i64.wrap (getC N.cs m.to.toNat m.cell.toNat + m.val) := by
      unfold newV
      rw [if_neg (by omega), if_pos k3]
    have hm' : ∀ x ∈ N.sent, 0 ≤ x.many ∧ x.many ≤ 100000 := fun x hx => ⟨(hmany x hx).1, by have := (hmany x hx).2; omega⟩
    refine ⟨?_, h.sl, ?_, ?_, ?_, ?_, ?_, ?_, ?_⟩
    · intro x hx h4
      simp only [sendN, doN, dropN, List.mem_append, List.mem_singleton] at hx
      rcases hx with hx | rfl
      · exact h.ms x (erase_mem hx) h4
      · exact absurd rfl h4
    · intro q d hq hd
      show IntKind.i64.wrap (getC (setC N.cs m.to.toNat m.cell.toNat (newV m (getC N.cs m.to.toNat m.cell.toNat))) q d + sumAt q d (N.fl.eraseIdx k ++ [ansM m (ansN N m)])) = _
      have hs := hse q d
      unfold vAt at hs
      rw [if_neg e4] at hs
      rw [hnv, getC_setC hp hc4 hw.ce, sumAt_append]
      have ea : sumAt q d [ansM m (ansN N m)] = 0 := by simp [sumAt, vAt, ansM]
      rw [ea, ← h.su q d hq hd]
      by_cases e2 : q = m.to.toNat ∧ d = m.cell.toNat
      · rw [if_pos e2, wrap_l]
        obtain ⟨rfl, rfl⟩ := e2
        rw [if_pos ⟨rfl, rfl⟩] at hs
        congr 1
        omega
      · rw [if_neg e2]
        rw [if_neg (fun e3 => e2 ⟨e3.1.symm, e3.2.symm⟩)] at hs
        congr 1
        omega
    · intro q d hq hd
      show IntKind.i64.wrap (getC (setC N.cs m.to.toNat m.cell.toNat (newV m (getC N.cs m.to.toNat m.cell.toNat))) q d) = getC (setC N.cs m.to.toNat m.cell.toNat (newV m (getC N.cs m.to.toNat m.cell.toNat))) q d
      rw [hnv, getC_setC hp hc4 hw.ce]
      split
      · have := wrap_l (getC N.cs m.to.toNat m.cell.toNat + m.val) 0
        simpa using this
      · exact h.cs q d hq hd
    · show (didx 1 N.hs ++ (N.fl.eraseIdx k ++ [ansM m (ansN N m)]).map (fun x : Msg => x.hnd)).Perm (upto1 N.hs.length)
      refine List.Perm.trans ?_ hix
      simp only [List.map_append, List.map_cons, List.map_nil]
      rw [← List.append_assoc]
      exact List.perm_append_comm
    · intro y hy
      have := bump_mem m.to m.frm (kname 4) N.sent hm' y hy
      refine ⟨this.1, ?_⟩
      rcases this.2 with e2 | ⟨x, hx, e2⟩
      · exact .inr (e2.trans kname_ans)
      · rw [e2]; exact (h.ck x hx).2
    · show cntOf kAdd (bump N.sent m.to m.frm (kname 4)) = _
      rw [bump_cnt _ _ _ _ _ hm', kname_ans, if_neg kAdd_ne.symm, h.ca]
      omega
    · show cntOf kAns (bump N.sent m.to m.frm (kname 4)) + ((reqs (N.fl.eraseIdx k ++ [ansM m (ansN N m)]) : Nat) : Int) = _
      rw [bump_cnt _ _ _ _ _ hm', kname_ans, if_pos rfl, reqs_append]
      have e1 : reqs [ansM m (ansN N m)] = 0 := by simp [reqs, ansM]
      rw [e1]
      have := h.cb
      omega
    · exact hfr

/-- at the end -/
theorem su_end {P : Nat} {S : List Int} {far : Nat} {N : Net} (h : Su P S far N) (h0 : N.fl = []) : (∀ p c, p < P → c < 4 → getC N.cs p c = getL S (4 * p + c)) ∧ (∀ i (h : i < N.hs.length), N.hs[i].dn = true) ∧ cntOf kAdd N.sent = far ∧ cntOf kAns N.sent = far := by
  have hix := h.ix
  have hcb := h.cb
  rw [h0] at hix hcb
  simp only [List.map_nil, List.append_nil] at hix
  refine ⟨fun p c hp hc => ?_, fun i hi => ?_, h.ca, by simpa [reqs] using hcb⟩
  · have := h.su p c hp hc
    rw [h0] at this
    simp only [sumAt, Int.add_zero] at this
    rw [← this]
    exact (h.cs p c hp hc).symm
  · refine (mem_didx N.hs 1 i hi).1 ((hix.mem_iff).2 ?_)
    unfold upto1
    exact List.mem_map.2 ⟨i + 1, List.mem_range'_1.2 (by omega), by simp; omega⟩
end Nt
