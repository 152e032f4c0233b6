/-
  Layer 16, plain laws: what a net is, what its calls make of it, and that tickets are all different.
-/
import Derived.IntWalk
namespace Nt
set_option linter.unusedVariables false
set_option linter.unusedSimpArgs false
open Go

structure Msg where
  frm : Int
  to : Int
  kind : Int
  cell : Int
  val : Int
  hnd : Int
structure Hd where
  frm : Int
  val : Int
  dn : Bool
structure Cnt where
  frm : Int
  to : Int
  kind : ByteArray
  many : Int
structure Net where
  cs : List (List Int)
  fl : List Msg
  hs : List Hd
  sent : List Cnt

def getC (cs : List (List Int)) (p c : Nat) : Int := (cs.getD p []).getD c 0
def setC (cs : List (List Int)) (p c : Nat) (v : Int) : List (List Int) := cs.set p ((cs.getD p []).set c v)
/-- the value of the answer, and what the cell has then -/
def ansV (m : Msg) (was : Int) : Int := if m.kind = 1 then 0 else was
def newV (m : Msg) (was : Int) : Int := if m.kind = 1 then m.val else if m.kind = 3 then IntKind.i64.wrap (was + m.val) else was
/-- the name of a kind -/
def kname (k : Int) : ByteArray := if k = 1 then ⟨#[112, 117, 116]⟩ else if k = 2 then ⟨#[103, 101, 116]⟩ else if k = 3 then ⟨#[97, 100, 100]⟩ else if k = 4 then ⟨#[97, 110, 115, 119, 101, 114]⟩ else ⟨#[]⟩
def isCnt (x : Cnt) (f t : Int) (k : ByteArray) : Bool := decide (x.frm = f) && (decide (x.to = t) && (x.kind.toList == k.toList))
def bump : List Cnt → Int → Int → ByteArray → List Cnt
  | [], f, t, k => [⟨f, t, k, 1⟩]
  | x :: r, f, t, k => if isCnt x f t k = true then ⟨x.frm, x.to, x.kind, IntKind.i64.wrap (x.many + 1)⟩ :: r else x :: bump r f t k
theorem bump_len : ∀ (l : List Cnt) (f t : Int) (k : ByteArray), (bump l f t k).length ≤ l.length + 1
  | [], _, _, _ => by simp [bump]
  | x :: r, f, t, k => by
    unfold bump
    split
    · simp
    · have := bump_len r f t k
      simp only [List.length_cons]
      omega

def sendN (N : Net) (m : Msg) : Net := ⟨N.cs, N.fl ++ [m], N.hs, bump N.sent m.frm m.to (kname m.kind)⟩
def doneN (N : Net) (h : Nat) (v : Int) : Net := ⟨N.cs, N.fl, N.hs.set (h - 1) ⟨(N.hs.getD (h - 1) ⟨0, 0, false⟩).frm, v, true⟩, N.sent⟩
def doN (N : Net) (m : Msg) : Net := ⟨setC N.cs m.to.toNat m.cell.toNat (newV m (getC N.cs m.to.toNat m.cell.toNat)), N.fl, N.hs, N.sent⟩
def ansN (N : Net) (m : Msg) : Int := ansV m (getC N.cs m.to.toNat m.cell.toNat)
def hangN (N : Net) (f : Int) : Net := ⟨N.cs, N.fl, N.hs ++ [⟨f, 0, false⟩], N.sent⟩
/-- a request -/
def reqN (N : Net) (m : Msg) : Net :=
  if m.frm = m.to then doneN (doN (hangN N m.frm) ⟨m.frm, m.to, m.kind, m.cell, m.val, N.hs.length + 1⟩) (N.hs.length + 1) (ansN N ⟨m.frm, m.to, m.kind, m.cell, m.val, N.hs.length + 1⟩)
  else sendN (hangN N m.frm) ⟨m.frm, m.to, m.kind, m.cell, m.val, N.hs.length + 1⟩
def dropN (N : Net) (k : Nat) : Net := ⟨N.cs, N.fl.eraseIdx k, N.hs, N.sent⟩
def ansM (m : Msg) (v : Int) : Msg := ⟨m.to, m.frm, 4, m.cell, v, m.hnd⟩
/-- the message m, which was the k-th that flies, delivered -/
def delN (N : Net) (k : Nat) (m : Msg) : Net :=
  if m.kind = 4 then doneN (dropN N k) m.hnd.toNat m.val
  else sendN (doN (dropN N k) m) (ansM m (ansN N m))

/-- what is so of each message -/
structure wfM (P C n : Nat) (m : Msg) : Prop where
  f0 : 0 ≤ m.frm
  f1 : m.frm < P
  t0 : 0 ≤ m.to
  t1 : m.to < P
  k0 : 1 ≤ m.kind
  k1 : m.kind ≤ 4
  c0 : 0 ≤ m.cell
  c1 : m.cell < C
  h0 : 1 ≤ m.hnd
  h1 : m.hnd ≤ n
def reqs (l : List Msg) : Nat := (l.filter fun m => decide (m.kind ≠ 4)).length
/-- what is so of each net: P places, C cells each -/
structure Wf (P C : Nat) (N : Net) : Prop where
  pl : N.cs.length = P
  ce : ∀ r ∈ N.cs, r.length = C
  ms : ∀ m ∈ N.fl, wfM P C N.hs.length m
  fl : N.fl.length ≤ N.hs.length
  se : N.sent.length + reqs N.fl ≤ 2 * N.hs.length
  hs : N.hs.length ≤ 1000

theorem setC_pl (cs : List (List Int)) (p c : Nat) (v : Int) : (setC cs p c v).length = cs.length := by simp [setC]
theorem setC_ce {cs : List (List Int)} {C : Nat} (h : ∀ r ∈ cs, r.length = C) (p c : Nat) (v : Int) : ∀ r ∈ setC cs p c v, r.length = C := by
  intro r hr
  unfold setC at hr
  rcases Nat.lt_or_ge p cs.length with hp | hp
  · rcases List.mem_or_eq_of_mem_set hr with h' | rfl
    · exact h r h'
    · rw [List.length_set]
      have e : cs.getD p [] = cs[p] := by simp [List.getD, List.getElem?_eq_getElem hp]
      rw [e]
      exact h _ (List.getElem_mem hp)
  · rw [List.set_eq_of_length_le hp] at hr
    exact h r hr
theorem erase_perm {α : Type} (l : List α) (k : Nat) (h : k < l.length) : l.Perm (l[k] :: l.eraseIdx k) := by
  rw [List.eraseIdx_eq_take_drop_succ]
  conv => lhs; rw [← List.take_append_drop k l, ← List.getElem_cons_drop h]
  exact List.perm_middle
theorem reqs_append (a b : List Msg) : reqs (a ++ b) = reqs a + reqs b := by simp [reqs, List.filter_append]
theorem reqs_erase (l : List Msg) (k : Nat) (h : k < l.length) : reqs (l.eraseIdx k) + (if l[k].kind = 4 then 0 else 1) = reqs l := by
  have hp := (erase_perm l k h).filter (fun m => decide (m.kind ≠ 4))
  have hl := hp.length_eq
  unfold reqs
  rw [hl, List.filter_cons]
  by_cases h4 : l[k].kind = 4
  · simp [h4]
  · simp [h4]
theorem wfM.mono {P C n n' : Nat} {m : Msg} (h : wfM P C n m) (hn : n ≤ n') : wfM P C n' m := ⟨h.f0, h.f1, h.t0, h.t1, h.k0, h.k1, h.c0, h.c1, h.h0, by have := h.h1; omega⟩

theorem wf_req {P C : Nat} {N : Net} (h : Wf P C N) (hn : N.hs.length < 1000) {m : Msg} (f0 : 0 ≤ m.frm) (f1 : m.frm < P) (t0 : 0 ≤ m.to) (t1 : m.to < P) (k0 : 1 ≤ m.kind) (k1 : m.kind ≤ 3) (c0 : 0 ≤ m.cell) (c1 : m.cell < C) : Wf P C (reqN N m) ∧ (reqN N m).hs.length = N.hs.length + 1 := by
  have h1 := h.fl
  have h2 := h.se
  unfold reqN
  split
  · refine ⟨⟨?_, ?_, ?_, ?_, ?_, ?_⟩, ?_⟩
    · exact (setC_pl ..).trans h.pl
    · exact setC_ce h.ce _ _ _
    · intro x hx
      exact (h.ms x hx).mono (by simp [doneN, doN, hangN])
    · simp [doneN, doN, hangN]; omega
    · simp [doneN, doN, hangN]; omega
    · simp [doneN, doN, hangN]; omega
    · simp [doneN, doN, hangN]
  · refine ⟨⟨h.pl, h.ce, ?_, ?_, ?_, ?_⟩, ?_⟩
    · intro x hx
      simp only [sendN, hangN, List.mem_append, List.mem_singleton] at hx
      rcases hx with hx | rfl
      · exact (h.ms x hx).mono (by simp [sendN, hangN])
      · exact ⟨f0, f1, t0, t1, k0, by simp only; omega, c0, c1, by simp only; omega, by simp [sendN, hangN]⟩
    · simp [sendN, hangN]; omega
    · have := bump_len N.sent m.frm m.to (kname m.kind)
      have h4 : m.kind ≠ 4 := by omega
      have e : reqs [(⟨m.frm, m.to, m.kind, m.cell, m.val, N.hs.length + 1⟩ : Msg)] = 1 := by simp [reqs, h4]
      show (bump N.sent m.frm m.to (kname m.kind)).length + reqs (N.fl ++ [_]) ≤ 2 * (N.hs ++ [_]).length
      rw [reqs_append, e]
      simp
      omega
    · simp [sendN, hangN]; omega
    · simp [sendN, hangN]


theorem erase_mem {α : Type} {l : List α} {k : Nat} {x : α} (h : x ∈ l.eraseIdx k) : x ∈ l := (List.eraseIdx_sublist l k).subset h
theorem wf_del {P C : Nat} {N : Net} (h : Wf P C N) {k : Nat} (hk : k < N.fl.length) : Wf P C (delN N k N.fl[k]) ∧ (delN N k N.fl[k]).hs.length = N.hs.length := by
  have h1 := h.fl
  have h2 := h.se
  have h3 := reqs_erase N.fl k hk
  have h4 := List.length_eraseIdx_of_lt hk
  have hm := h.ms _ (List.getElem_mem hk)
  generalize N.fl[k] = m at *
  unfold delN
  split
  · rename_i e4
    rw [if_pos e4] at h3
    refine ⟨⟨h.pl, h.ce, ?_, ?_, ?_, ?_⟩, ?_⟩
    · intro x hx
      exact (h.ms x (erase_mem hx)).mono (by simp [doneN, dropN])
    · simp [doneN, dropN]; omega
    · simp [doneN, dropN]; omega
    · simp [doneN, dropN]; exact h.hs
    · simp [doneN, dropN]
  · rename_i e4
    rw [if_neg e4] at h3
    have hb := bump_len N.sent m.to m.frm (kname 4)
    have e : reqs [ansM m (ansN N m)] = 0 := by simp [reqs, ansM]
    refine ⟨⟨?_, ?_, ?_, ?_, ?_, ?_⟩, ?_⟩
    · exact (setC_pl ..).trans h.pl
    · exact setC_ce h.ce _ _ _
    · intro x hx
      simp only [sendN, doN, dropN, List.mem_append, List.mem_singleton] at hx
      rcases hx with hx | rfl
      · exact h.ms x (erase_mem hx)
      · exact ⟨hm.t0, hm.t1, hm.f0, hm.f1, by simp [ansM], by simp [ansM], hm.c0, hm.c1, hm.h0, hm.h1⟩
    · simp [sendN, doN, dropN]; omega
    · show (bump N.sent m.to m.frm (kname 4)).length + reqs (N.fl.eraseIdx k ++ [ansM m (ansN N m)]) ≤ 2 * N.hs.length
      rw [reqs_append, e]
      omega
    · exact h.hs
    · rfl
/-- how many deliveries there may be yet -/
def todo (N : Net) : Nat := N.fl.length + reqs N.fl
theorem todo_del {N : Net} {k : Nat} (hk : k < N.fl.length) : todo (delN N k N.fl[k]) + 1 = todo N := by
  have h3 := reqs_erase N.fl k hk
  have h4 := List.length_eraseIdx_of_lt hk
  generalize N.fl[k] = m at *
  unfold delN todo
  split
  · rename_i e4
    rw [if_pos e4] at h3
    simp [doneN, dropN]
    omega
  · rename_i e4
    rw [if_neg e4] at h3
    have e : reqs [ansM m (ansN N m)] = 0 := by simp [reqs, ansM]
    show (N.fl.eraseIdx k ++ [ansM m (ansN N m)]).length + reqs (N.fl.eraseIdx k ++ [ansM m (ansN N m)]) + 1 = _
    rw [reqs_append, e]
    simp
    omega

/-! ### tickets -/
/-- the numbers of the handles that are done, those of the messages, and the values of both -/
def didx : Int → List Hd → List Int
  | _, [] => []
  | k, x :: r => if x.dn = true then k :: didx (k + 1) r else didx (k + 1) r
def hvals (l : List Hd) : List Int := l.filterMap fun x => if x.dn = true then some x.val else none
def avals (l : List Msg) : List Int := l.filterMap fun m => if m.kind = 4 then some m.val else none
theorem didx_append (a b : List Hd) : ∀ k : Int, didx k (a ++ b) = didx k a ++ didx (k + a.length) b := by
  induction a with
  | nil => intro k; simp [didx]
  | cons x r ih =>
    intro k
    simp only [List.cons_append, didx, ih]
    have e : k + 1 + (r.length : Int) = k + ((x :: r).length : Int) := by simp only [List.length_cons]; omega
    rw [e]
    split <;> simp
theorem didx_lt (l : List Hd) : ∀ (k x : Int), x ∈ didx k l → k ≤ x ∧ x < k + l.length := by
  induction l with
  | nil => intro k x h; simp [didx] at h
  | cons y r ih =>
    intro k x h
    unfold didx at h
    simp only [List.length_cons]
    split at h
    · rcases List.mem_cons.1 h with rfl | h
      · omega
      · have := ih _ _ h; omega
    · have := ih _ _ h; omega
theorem didx_set (l : List Hd) : ∀ (k : Int) (i : Nat) (h : i < l.length) (y : Hd), l[i].dn = false → y.dn = true → (didx k (l.set i y)).Perm ((k + i) :: didx k l) := by
  induction l with
  | nil => intro k i h; cases h
  | cons x r ih =>
    intro k i h y h0 h1
    cases i with
    | zero =>
      simp only [List.getElem_cons_zero] at h0
      simp [didx, h0, h1]
    | succ i =>
      simp only [List.getElem_cons_succ] at h0
      simp only [List.set_cons_succ, didx]
      have e : k + ((i + 1 : Nat) : Int) = k + 1 + i := by omega
      rw [e]
      have := ih (k + 1) i (by simpa using h) y h0 h1
      split
      · exact (this.cons k).trans (List.Perm.swap ..)
      · exact this
theorem hvals_set (l : List Hd) : ∀ (i : Nat) (h : i < l.length) (y : Hd), l[i].dn = false → y.dn = true → (hvals (l.set i y)).Perm (y.val :: hvals l) := by
  induction l with
  | nil => intro i h; cases h
  | cons x r ih =>
    intro i h y h0 h1
    cases i with
    | zero =>
      simp only [List.getElem_cons_zero] at h0
      simp [hvals, h0, h1]
    | succ i =>
      simp only [List.getElem_cons_succ] at h0
      have := ih i (by simpa using h) y h0 h1
      unfold hvals at this ⊢
      simp only [List.set_cons_succ, List.filterMap_cons]
      split
      · exact this
      · exact (this.cons _).trans (List.Perm.swap ..)
theorem mem_didx (l : List Hd) : ∀ (k : Int) (i : Nat) (h : i < l.length), (k + i) ∈ didx k l ↔ l[i].dn = true := by
  induction l with
  | nil => intro k i h; cases h
  | cons x r ih =>
    intro k i h
    cases i with
    | zero =>
      simp only [List.getElem_cons_zero, didx]
      have hno : k ∉ didx (k + 1) r := fun hm => by have := didx_lt _ _ _ hm; omega
      by_cases hd : x.dn = true
      · simp [hd]
      · simp [hd]
        exact fun hm => hno (by simpa using hm)
    | succ i =>
      simp only [List.getElem_cons_succ, didx]
      have e : k + ((i + 1 : Nat) : Int) = k + 1 + i := by omega
      rw [e, ← ih (k + 1) i (by simpa using h)]
      split
      · simp; omega
      · rfl
/-- the numbers 1 .. n -/
def upto1 (n : Nat) : List Int := (List.range' 1 n).map Int.ofNat
def upto0 (n : Nat) : List Int := (List.range n).map Int.ofNat
theorem upto1_nodup (n : Nat) : (upto1 n).Nodup := List.Pairwise.map _ (fun a b h e => h (Int.ofNat.inj e)) (List.nodup_range' (s := 1) (n := n))
theorem upto0_nodup (n : Nat) : (upto0 n).Nodup := List.Pairwise.map _ (fun a b h e => h (Int.ofNat.inj e)) List.nodup_range
theorem upto1_snoc (n : Nat) : upto1 (n + 1) = upto1 n ++ [((n : Int) + 1)] := by
  unfold upto1
  rw [List.range'_concat]
  simp
  omega
theorem upto0_snoc (n : Nat) : upto0 (n + 1) = upto0 n ++ [(n : Int)] := by
  unfold upto0
  rw [List.range_succ]
  simp
theorem mem_upto1 {n : Nat} {x : Int} (h : x ∈ upto1 n) : 1 ≤ x ∧ x ≤ n := by
  unfold upto1 at h
  obtain ⟨i, hi, rfl⟩ := List.mem_map.1 h
  have := List.mem_range'_1.1 hi
  simp only [Int.ofNat_eq_natCast]
  omega
theorem mem_upto0 {n : Nat} {x : Int} : x ∈ upto0 n ↔ 0 ≤ x ∧ x < n := by
  unfold upto0
  rw [List.mem_map]
  constructor
  · rintro ⟨i, hi, rfl⟩
    have := List.mem_range.1 hi
    simp only [Int.ofNat_eq_natCast]
    omega
  · rintro ⟨h0, h1⟩
    exact ⟨x.toNat, List.mem_range.2 (by omega), by simp only [Int.ofNat_eq_natCast]; omega⟩

/-- only requests that add 1 to one cell, and their answers; c of them have been done -/
structure Tk (to cell : Int) (c : Nat) (N : Net) : Prop where
  ms : ∀ m ∈ N.fl, m.kind ≠ 4 → m.kind = 3 ∧ m.to = to ∧ m.cell = cell ∧ m.val = 1
  ce : getC N.cs to.toNat cell.toNat = c
  ix : (didx 1 N.hs ++ N.fl.map (fun x : Msg => x.hnd)).Perm (upto1 N.hs.length)
  vs : (hvals N.hs ++ avals N.fl).Perm (upto0 c)

theorem didx_len (l : List Hd) : ∀ k : Int, (didx k l).length = (hvals l).length := by
  induction l with
  | nil => intro k; rfl
  | cons x r ih =>
    intro k
    unfold didx hvals
    rw [List.filterMap_cons]
    have := ih (k + 1)
    unfold hvals at this
    split
    · simp [this]
    · simp [this]
theorem avals_len (l : List Msg) : (avals l).length + reqs l = l.length := by
  induction l with
  | nil => rfl
  | cons m r ih =>
    unfold avals reqs at ih ⊢
    rw [List.filterMap_cons, List.filter_cons]
    by_cases h : m.kind = 4
    · rw [decide_eq_false (show ¬ m.kind ≠ 4 from fun hn => hn h), if_pos h]
      simp only [List.length_cons, Bool.false_eq_true, if_false]
      omega
    · rw [decide_eq_true h, if_neg h]
      simp only [List.length_cons, if_true]
      omega
theorem tk_count {to cell : Int} {c : Nat} {N : Net} (h : Tk to cell c N) : c + reqs N.fl = N.hs.length := by
  have h1 := h.ix.length_eq
  have h2 := h.vs.length_eq
  have h3 := avals_len N.fl
  have h4 := didx_len N.hs 1
  simp only [List.length_append, List.length_map, upto1, upto0, List.length_range', List.length_range] at h1 h2
  omega
theorem getC_set {cs : List (List Int)} {p c C : Nat} (hp : p < cs.length) (hc : c < C) (h : ∀ r ∈ cs, r.length = C) (v : Int) : getC (setC cs p c v) p c = v := by
  unfold getC setC
  have e : cs.getD p [] = cs[p] := by simp [List.getD, List.getElem?_eq_getElem hp]
  have hl := h _ (List.getElem_mem hp)
  rw [e]
  have e2 : (cs.set p (cs[p].set c v)).getD p [] = cs[p].set c v := by simp [List.getD, hp]
  rw [e2]
  simp [List.getD, hl, hc]
theorem tk_new (cs : List (List Int)) (to cell : Int) (h : getC cs to.toNat cell.toNat = 0) : Tk to cell 0 ⟨cs, [], [], []⟩ :=
  ⟨fun m hm => by simp at hm, h, by simp [didx, upto1], by simp [hvals, avals, upto0]⟩
theorem tk_bound {to cell : Int} {c : Nat} {N : Net} (h : Tk to cell c N) (hb : c ≤ 1000) : newV ⟨0, to, 3, cell, 1, 0⟩ c = ((c + 1 : Nat) : Int) := by
  show IntKind.i64.wrap ((c : Int) + 1) = _
  rw [IntWalk.i64_in _ (by omega)]
  omega
theorem tk_req {P C : Nat} {to cell : Int} {c : Nat} {N : Net} (hw : Wf P C N) (h : Tk to cell c N) (hn : N.hs.length < 1000) {f : Int} (t0 : 0 ≤ to) (t1 : to < P) (c0 : 0 ≤ cell) (c1 : cell < C) :
    ∃ c', Tk to cell c' (reqN N ⟨f, to, 3, cell, 1, 0⟩) := by
  have hl := tk_count h
  have hp : to.toNat < N.cs.length := by rw [hw.pl]; omega
  have hce : cell.toNat < C := by omega
  have hnv : newV ⟨f, to, 3, cell, 1, (N.hs.length : Int) + 1⟩ c = ((c + 1 : Nat) : Int) := tk_bound h (by omega)
  unfold reqN
  split
  · rename_i e
    refine ⟨c + 1, ?_, ?_, ?_, ?_⟩
    · exact h.ms
    · show getC (setC N.cs to.toNat cell.toNat (newV ⟨f, to, 3, cell, 1, (N.hs.length : Int) + 1⟩ (getC N.cs to.toNat cell.toNat))) to.toNat cell.toNat = _
      rw [getC_set hp hce hw.ce, h.ce]
      exact hnv
    · have hi : (N.hs ++ [(⟨f, 0, false⟩ : Hd)]).length = N.hs.length + 1 := by simp
      have hs := didx_set (N.hs ++ [(⟨f, 0, false⟩ : Hd)]) 1 N.hs.length (by simp) ⟨f, ansN N ⟨f, to, 3, cell, 1, (N.hs.length : Int) + 1⟩, true⟩ (by simp) rfl
      rw [didx_append] at hs
      simp only [didx] at hs
      have e1 : (doneN (doN (hangN N f) ⟨f, to, 3, cell, 1, (N.hs.length : Int) + 1⟩) (N.hs.length + 1) (ansN N ⟨f, to, 3, cell, 1, (N.hs.length : Int) + 1⟩)).hs = (N.hs ++ [(⟨f, 0, false⟩ : Hd)]).set N.hs.length ⟨f, ansN N ⟨f, to, 3, cell, 1, (N.hs.length : Int) + 1⟩, true⟩ := by
        simp [doneN, doN, hangN]
      show (didx 1 (doneN _ _ _).hs ++ N.fl.map (fun x : Msg => x.hnd)).Perm (upto1 (doneN _ _ _).hs.length)
      rw [e1, List.length_set, hi, upto1_snoc]
      refine (hs.append_right _).trans ?_
      simp only [Bool.false_eq_true, if_false, List.append_nil, List.cons_append]
      have e2 : (1 : Int) + (N.hs.length : Int) = (N.hs.length : Int) + 1 := by omega
      rw [e2]
      exact ((h.ix.cons _).trans (List.perm_append_comm (l₁ := [_])))
    · have hs := hvals_set (N.hs ++ [(⟨f, 0, false⟩ : Hd)]) N.hs.length (by simp) ⟨f, ansN N ⟨f, to, 3, cell, 1, (N.hs.length : Int) + 1⟩, true⟩ (by simp) rfl
      have e1 : (doneN (doN (hangN N f) ⟨f, to, 3, cell, 1, (N.hs.length : Int) + 1⟩) (N.hs.length + 1) (ansN N ⟨f, to, 3, cell, 1, (N.hs.length : Int) + 1⟩)).hs = (N.hs ++ [(⟨f, 0, false⟩ : Hd)]).set N.hs.length ⟨f, ansN N ⟨f, to, 3, cell, 1, (N.hs.length : Int) + 1⟩, true⟩ := by
        simp [doneN, doN, hangN]
      have e3 : hvals (N.hs ++ [(⟨f, 0, false⟩ : Hd)]) = hvals N.hs := by simp [hvals]
      have e4 : ansN N ⟨f, to, 3, cell, 1, (N.hs.length : Int) + 1⟩ = c := by
        show (if (3 : Int) = 1 then 0 else getC N.cs to.toNat cell.toNat) = c
        rw [if_neg (by omega), h.ce]
      show (hvals (doneN _ _ _).hs ++ avals N.fl).Perm (upto0 (c + 1))
      rw [e1, upto0_snoc]
      refine (hs.append_right _).trans ?_
      rw [e3, e4]
      exact ((h.vs.cons _).trans (List.perm_append_comm (l₁ := [_])))
  · rename_i e
    refine ⟨c, ?_, h.ce, ?_, ?_⟩
    · intro x hx h4
      simp only [sendN, hangN, List.mem_append, List.mem_singleton] at hx
      rcases hx with hx | rfl
      · exact h.ms x hx h4
      · exact ⟨rfl, rfl, rfl, rfl⟩
    · show (didx 1 (N.hs ++ [(⟨f, 0, false⟩ : Hd)]) ++ (N.fl ++ [(⟨f, to, 3, cell, 1, (N.hs.length : Int) + 1⟩ : Msg)]).map (fun x : Msg => x.hnd)).Perm (upto1 (N.hs ++ [(⟨f, 0, false⟩ : Hd)]).length)
      rw [didx_append]
      simp only [didx, Bool.false_eq_true, if_false, List.append_nil, List.map_append, List.map_cons, List.map_nil, List.length_append, List.length_cons, List.length_nil]
      rw [upto1_snoc, ← List.append_assoc]
      exact h.ix.append_right _
    · show (hvals (N.hs ++ [(⟨f, 0, false⟩ : Hd)]) ++ avals (N.fl ++ [(⟨f, to, 3, cell, 1, (N.hs.length : Int) + 1⟩ : Msg)])).Perm (upto0 c)
      have e1 : hvals (N.hs ++ [(⟨f, 0, false⟩ : Hd)]) = hvals N.hs := by simp [hvals]
      have e2 : avals (N.fl ++ [(⟨f, to, 3, cell, 1, (N.hs.length : Int) + 1⟩ : Msg)]) = avals N.fl := by simp [avals]
      rw [e1, e2]
      exact h.vs

theorem tk_del {P C : Nat} {to cell : Int} {c : Nat} {N : Net} (hw : Wf P C N) (h : Tk to cell c N) {k : Nat} (hk : k < N.fl.length) (t0 : 0 ≤ to) (t1 : to < P) (c0 : 0 ≤ cell) (c1 : cell < C) :
    ∃ c', Tk to cell c' (delN N k N.fl[k]) := by
  have hl := tk_count h
  have hN := hw.hs
  have hp : to.toNat < N.cs.length := by rw [hw.pl]; omega
  have hce : cell.toNat < C := by omega
  have hms := h.ms _ (List.getElem_mem hk)
  have hm := hw.ms _ (List.getElem_mem hk)
  have hpm := (erase_perm N.fl k hk).map (fun x : Msg => x.hnd)
  have hpa := (erase_perm N.fl k hk).filterMap (fun m : Msg => if m.kind = 4 then some m.val else none)
  generalize N.fl[k] = m at *
  have hix : (m.hnd :: (didx 1 N.hs ++ (N.fl.eraseIdx k).map (fun x : Msg => x.hnd))).Perm (upto1 N.hs.length) :=
    ((List.perm_middle.symm).trans (hpm.symm.append_left _)).trans h.ix
  have hnd := (hix.nodup_iff).2 (upto1_nodup _)
  have hfree : m.hnd ∉ didx 1 N.hs := fun hm => (List.nodup_cons.1 hnd).1 (List.mem_append.2 (.inl hm))
  have hi : (m.hnd.toNat - 1) < N.hs.length := by have := hm.h0; have := hm.h1; omega
  have hdn : N.hs[m.hnd.toNat - 1].dn = false := by
    have := mem_didx N.hs 1 (m.hnd.toNat - 1) hi
    have e : (1 : Int) + ((m.hnd.toNat - 1 : Nat) : Int) = m.hnd := by have := hm.h0; omega
    rw [e] at this
    cases hd : N.hs[m.hnd.toNat - 1].dn
    · rfl
    · exact absurd (this.2 hd) hfree
  unfold delN
  split
  · rename_i e4
    refine ⟨c, ?_, h.ce, ?_, ?_⟩
    · exact fun x hx h4 => h.ms x (erase_mem hx) h4
    · have hs := didx_set N.hs 1 (m.hnd.toNat - 1) hi ⟨(N.hs.getD (m.hnd.toNat - 1) ⟨0, 0, false⟩).frm, m.val, true⟩ hdn rfl
      have e : (1 : Int) + ((m.hnd.toNat - 1 : Nat) : Int) = m.hnd := by have := hm.h0; omega
      rw [e] at hs
      show (didx 1 (N.hs.set (m.hnd.toNat - 1) ⟨(N.hs.getD (m.hnd.toNat - 1) ⟨0, 0, false⟩).frm, m.val, true⟩) ++ (N.fl.eraseIdx k).map (fun x : Msg => x.hnd)).Perm (upto1 (N.hs.set _ _).length)
      rw [List.length_set]
      exact (hs.append_right _).trans hix
    · have hs := hvals_set N.hs (m.hnd.toNat - 1) hi ⟨(N.hs.getD (m.hnd.toNat - 1) ⟨0, 0, false⟩).frm, m.val, true⟩ hdn rfl
      show (hvals (N.hs.set (m.hnd.toNat - 1) ⟨(N.hs.getD (m.hnd.toNat - 1) ⟨0, 0, false⟩).frm, m.val, true⟩) ++ avals (N.fl.eraseIdx k)).Perm (upto0 c)
      have hpa' : (avals N.fl).Perm (m.val :: avals (N.fl.eraseIdx k)) := by
        unfold avals
        refine hpa.trans ?_
        rw [List.filterMap_cons, if_pos e4]
      exact (hs.append_right _).trans ((List.perm_middle.symm).trans ((hpa'.symm.append_left _).trans h.vs))
  · rename_i e4
    obtain ⟨k3, kt, kc, kv⟩ := hms e4
    have hnv : newV m c = ((c + 1 : Nat) : Int) := by
      unfold newV
      rw [if_neg (by omega), if_pos k3, kv, IntWalk.i64_in _ (by omega)]
      omega
    have hav : ansN N m = c := by
      unfold ansN ansV
      rw [if_neg (by omega), kt, kc, h.ce]
    have hpa' : (avals N.fl).Perm (avals (N.fl.eraseIdx k)) := by
      unfold avals
      refine hpa.trans ?_
      rw [List.filterMap_cons, if_neg e4]
    refine ⟨c + 1, ?_, ?_, ?_, ?_⟩
    · intro x hx h4
      simp only [sendN, doN, dropN, List.mem_append, List.mem_singleton] at hx
      rcases hx with hx | rfl
      · exact h.ms x (erase_mem hx) h4
      · exact absurd rfl h4
    · show getC (setC N.cs m.to.toNat m.cell.toNat (newV m (getC N.cs m.to.toNat m.cell.toNat))) to.toNat cell.toNat = _
      rw [kt, kc, getC_set hp hce hw.ce, h.ce]
      exact hnv
    · show (didx 1 N.hs ++ (N.fl.eraseIdx k ++ [ansM m (ansN N m)]).map (fun x : Msg => x.hnd)).Perm (upto1 N.hs.length)
      refine List.Perm.trans ?_ hix
      simp only [List.map_append, List.map_cons, List.map_nil]
      rw [← List.append_assoc]
      exact List.perm_append_comm
    · show (hvals N.hs ++ avals (N.fl.eraseIdx k ++ [ansM m (ansN N m)])).Perm (upto0 (c + 1))
      have e1 : avals (N.fl.eraseIdx k ++ [ansM m (ansN N m)]) = avals (N.fl.eraseIdx k) ++ [ansN N m] := by
        unfold avals
        rw [List.filterMap_append]
        simp [ansM]
      rw [e1, hav, upto0_snoc, ← List.append_assoc]
      exact ((hpa'.symm.append_left _).trans h.vs).append_right _

/-- at the end: the values are all different, from 0 on -/
theorem tk_end {to cell : Int} {c : Nat} {N : Net} (h : Tk to cell c N) (h0 : N.fl = []) : (∀ i (h : i < N.hs.length), N.hs[i].dn = true) ∧ (N.hs.map (fun x : Hd => x.val)).Nodup ∧ ∀ i (h : i < N.hs.length), 0 ≤ N.hs[i].val ∧ N.hs[i].val < N.hs.length := by
  have hix := h.ix
  have hvs := h.vs
  have hc := tk_count h
  rw [h0] at hix hvs hc
  simp only [List.map_nil, List.append_nil, avals, List.filterMap_nil] at hix hvs
  have hdn : ∀ i (h : i < N.hs.length), N.hs[i].dn = true := by
    intro i hi
    refine (mem_didx N.hs 1 i hi).1 ((hix.mem_iff).2 ?_)
    unfold upto1
    exact List.mem_map.2 ⟨i + 1, List.mem_range'_1.2 (by omega), by simp; omega⟩
  have hv : hvals N.hs = N.hs.map (fun x : Hd => x.val) := by
    have h1 : ∀ l : List Hd, (∀ x ∈ l, x.dn = true) → hvals l = l.map (fun x : Hd => x.val) := by
      intro l
      induction l with
      | nil => intro _; rfl
      | cons x r ih =>
        intro hl
        unfold hvals at ih ⊢
        rw [List.filterMap_cons, if_pos (hl x (by simp)), List.map_cons, ih fun y hy => hl y (by simp [hy])]
    refine h1 _ fun x hx => ?_
    obtain ⟨i, hi, rfl⟩ := List.getElem_of_mem hx
    exact hdn i hi
  rw [hv] at hvs
  have hcn : c = N.hs.length := by simpa [reqs] using hc
  subst hcn
  refine ⟨hdn, (hvs.nodup_iff).2 (upto0_nodup _), fun i hi => ?_⟩
  exact mem_upto0.1 ((hvs.mem_iff).1 (List.mem_map.2 ⟨_, List.getElem_mem hi, rfl⟩))
end Nt
