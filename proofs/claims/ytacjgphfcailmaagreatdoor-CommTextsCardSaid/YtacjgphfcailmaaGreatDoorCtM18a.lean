/-
  Layer 20: ranging over the map of the sums.
-/
import Derived.Test.YtacjgphfcailmaaGreatDoorCtM17
import Derived.Test.YtacjgphfcailmaaGreatDoorCtK
import Derived.Maps.RangeRun
namespace Go.Proofs.YtacjgphfcailmaaGreatDoor
open Go.RowKit Go.Sort
open Ct Mp
set_option linter.unusedVariables false
set_option linter.unusedSimpArgs false

theorem ckey : CKeyT Tryz.prog 61 32 3 (Tryz.prog.fieldsOf 32) where
  map := by kernel_rfl
  key := by kernel_rfl
  zero := fun w => by kernel_rfl
  held := by kernel_rfl
  same := fun x y s x' y' s' w => by
    show (Op.equalIn (9999 + 1) _ _ _).run _ _ = _
    unfold cKey
    rw [run_equalIn_agg w 9999 _ _ _ (by kernel_rfl) (by kernel_rfl)]
    simp [Op.eqFields, go_sem]
    by_cases h1 : x = x' <;> by_cases h2 : y = y' <;> by_cases h3 : s.toList = s'.toList <;> simp [h1, h2, h3]
  chk := fun em x y s w => by cases em <;> kernel_rfl

/-- the map of the sums -/
def MapS (w : World) (b : Nat) (m : List Cnt) : Prop := ∃ E c, w.heap[b]? = some (.map E c) ∧ E.toList.map (fun e => (e.key, e.val)) = m.map (fun x => (cKey x.frm x.to x.kind, .int .i64 x.many)) ∧ (∀ e ∈ E.toList, e.born < c) ∧ (E.toList.map (·.born)).Nodup
theorem mapS_keys {E : Array MapEntry} {m : List Cnt} (h : E.toList.map (fun e => (e.key, e.val)) = m.map (fun x => (cKey x.frm x.to x.kind, Value.int .i64 x.many))) : E.size = m.length ∧ ∀ (j : Nat) (hj : j < m.length), ∃ e, E.toList[j]? = some e ∧ e.key = cKey m[j].frm m[j].to m[j].kind ∧ e.val = .int .i64 m[j].many := by
  have hl : E.toList.length = m.length := by have := congrArg List.length h; simpa using this
  refine ⟨by simpa using hl, fun j hj => ?_⟩
  have hj' : j < E.toList.length := by omega
  have h1 := congrArg (fun l => l[j]?) h
  simp only [List.getElem?_map, List.getElem?_eq_getElem hj, List.getElem?_eq_getElem hj', Option.map_some, Option.some.injEq, Prod.mk.injEq] at h1
  exact ⟨_, List.getElem?_eq_getElem hj', h1.1, h1.2⟩
theorem other_of {e : MapEntry} {x c : Cnt} (hk : e.key = cKey x.frm x.to x.kind) (hv : e.val = .int .i64 x.many) (hn : ¬ sameKey x c) : Other c.frm c.to c.kind e := by
  refine ⟨_, _, _, _, hk, hv, ?_⟩
  cases hb : ((c.frm == x.frm) && ((c.to == x.to) && (c.kind.toList == x.kind.toList)))
  · rfl
  · simp only [Bool.and_eq_true, beq_iff_eq] at hb
    exact absurd ⟨hb.1.symm, hb.2.1.symm, (bytes_ext hb.2.2).symm⟩ hn
theorem map_modify {E : Array MapEntry} {m : List Cnt} {j : Nat} (hj : j < m.length) (h : E.toList.map (fun e => (e.key, e.val)) = m.map (fun x => (cKey x.frm x.to x.kind, Value.int .i64 x.many))) (q : Int) {k : Value} (hk : k = cKey m[j].frm m[j].to m[j].kind) :
    (E.modify j fun e => { e with key := k, val := .int .i64 q }).toList.map (fun e => (e.key, e.val)) = (m.set j { m[j] with many := q }).map (fun x => (cKey x.frm x.to x.kind, Value.int .i64 x.many)) := by
  obtain ⟨hs, hE⟩ := mapS_keys h
  apply List.ext_getElem?
  intro i
  have hi := congrArg (fun l => l[i]?) h
  simp only [List.getElem?_map, Array.toList_modify, List.getElem?_modify, List.getElem?_set] at hi ⊢
  by_cases e : j = i
  · subst e
    obtain ⟨e0, he, -, -⟩ := hE j hj
    simp [he, hj, hk]
  · simp only [e, if_false]
    rw [← hi]
    simp
theorem born_modify {E : Array MapEntry} (j : Nat) (f : MapEntry → MapEntry) (hf : ∀ e, (f e).born = e.born) : (E.modify j f).toList.map (·.born) = E.toList.map (·.born) := by
  apply List.ext_getElem?
  intro i
  simp only [List.getElem?_map, Array.toList_modify, List.getElem?_modify]
  cases E.toList[i]? with
  | none => simp
  | some e => by_cases h : j = i <;> simp [h, hf]
theorem born_take {E : Array MapEntry} (hn : (E.toList.map (·.born)).Nodup) {j : Nat} {e0 : MapEntry} (h0 : E.toList[j]? = some e0) : ∀ e ∈ E.toList.take j, e.born ≠ e0.born := by
  intro e he
  obtain ⟨i, hi, rfl⟩ := List.getElem_of_mem he
  rw [List.length_take] at hi
  rw [List.getElem_take]
  have hj := (List.getElem?_eq_some_iff.1 h0)
  obtain ⟨hjl, hj⟩ := hj
  rw [← hj]
  have hsz := Array.length_toList (xs := E)
  have := List.pairwise_iff_getElem.1 hn i j (by simp; omega) (by simpa using hjl) (by omega)
  simpa using this
theorem set_at {w : World} {m c c' : Nat} {E E' : Array MapEntry} (hm : w.heap[m]? = some (.map E c)) : ({ w with heap := w.heap.setIfInBounds m (.map E' c') } : World).heap[m]? = some (.map E' c') := by
  have := (Array.getElem?_eq_some_iff.1 hm).1
  simp [Array.getElem?_setIfInBounds, this]
theorem set_grown {w : World} {b : Nat} (o : Obj) : w.grownBy { w with heap := w.heap.setIfInBounds b o } (some b) :=
  ⟨rfl, rfl, rfl, by simp, fun k hk hne => by
    have : ¬ b = k := fun e => hne (by rw [e])
    simp [Array.getElem?_setIfInBounds, this]⟩
/-- what one round does to the map -/
def MapStep (w : World) (b : Nat) (c : Cnt) (W2 : World) : Prop := ∃ (v8 : Int) (born : Nat) (W1 : World),
  (Instr.lookup 61 (.map (some b)) (cKey c.frm c.to c.kind) false).run Tryz.prog w = .ok (.int .i64 v8) w ∧
  (Instr.lookup 61 (.map (some b)) (cKey c.frm c.to c.kind) false).run Tryz.prog W1 = .ok (.int .i64 v8) W1 ∧
  (Instr.mapEntry 61 (.map (some b)) (cKey c.frm c.to c.kind)).run Tryz.prog w = .ok (.tuple #[.int .i64 v8, .int .i64 born]) W1 ∧
  (Instr.entryStore 61 (.map (some b)) (.int .i64 born) (.int .i64 (wrap64 (v8 + c.many)))).run Tryz.prog W1 = .ok () W2
theorem mapS_old {w : World} {b : Nat} {m l : List Cnt} {c : Cnt} (h : MapS w b m) (hs : Sums m l) (hl : l.length ≤ 800) (hn : ∀ x ∈ l, near x) (hc : near c) {j : Nat} (hj : j < m.length) (hk : sameKey m[j] c) :
    ∃ W2 m', MapStep w b c W2 ∧ MapS W2 b m' ∧ Sums m' (l ++ [c]) ∧ w.grownBy W2 (some b) ∧ m'.length ≤ m.length + 1 := by
  obtain ⟨E, cl, hm, hE, hb, hd⟩ := h
  obtain ⟨hsz, hat⟩ := mapS_keys hE
  obtain ⟨e0, h0, k0, v0⟩ := hat j hj
  have hkey : e0.key = cKey c.frm c.to c.kind := by rw [k0, hk.1, hk.2.1, hk.2.2]
  have ho : ∀ e ∈ E.toList.take j, Other c.frm c.to c.kind e := by
    intro e he
    obtain ⟨i, hi, rfl⟩ := List.getElem_of_mem he
    have hi' : i < j := by rw [List.length_take] at hi; omega
    rw [List.getElem_take]
    obtain ⟨e1, h1, k1, v1⟩ := hat i (by omega)
    obtain ⟨_, h1⟩ := List.getElem?_eq_some_iff.1 h1
    rw [h1]
    refine other_of k1 v1 fun q => ?_
    exact List.pairwise_iff_getElem.1 hs.un i j (by omega) hj hi' (q.trans hk.symm)
  have hn0 := born_take hd h0
  have e1 := lookup_old ckey (x := c.frm) (y := c.to) (s := c.kind) hm ho h0 hkey
  have e3 := entry_old ckey (x := c.frm) (y := c.to) (s := c.kind) hm ho h0 hkey
  have hm1 := set_at (E' := E.modify j fun e => { e with key := cKey c.frm c.to c.kind }) (c' := cl) hm
  have h1 := modify_at (fun e => { e with key := cKey c.frm c.to c.kind }) h0
  have e2 := lookup_old ckey (x := c.frm) (y := c.to) (s := c.kind) hm1 (j := j) (by rw [modify_take]; exact ho) h1 rfl
  have e4 := store_at (P := Tryz.prog) (t := 61) (val := .int .i64 (wrap64 (m[j].many + c.many))) hm1 (j := j) h1 (by rw [modify_take]; exact hn0)
  rw [v0] at e1 e3
  simp only [v0] at e2
  rw [modify_twice] at e4
  have hbm : ∀ (k v : Value), (E.modify j fun e => { e with key := k, val := v }).toList.map (·.born) = E.toList.map (·.born) := fun k v => born_modify j (fun e => { e with key := k, val := v }) fun _ => rfl
  have hab := hs.abs hn (List.getElem_mem hj)
  unfold near at hc
  have hw : wrap64 (m[j].many + c.many) = m[j].many + c.many := by
    have e1 : ((l.length : Nat) : Int) * 1099511627776 ≤ 800 * 1099511627776 := by omega
    unfold wrap64
    omega
  refine ⟨_, m.set j { m[j] with many := wrap64 (m[j].many + c.many) }, ⟨_, _, _, e1, e2, e3, e4⟩, ⟨_, _, set_at hm1, map_modify hj hE _ (by rw [hk.1, hk.2.1, hk.2.2]; rfl), ?_, ?_⟩, ?_, ?_, by rw [List.length_set]; omega⟩
  · intro e he
    have : e.born ∈ (E.modify j fun e => { e with key := cKey c.frm c.to c.kind, val := .int .i64 (wrap64 (m[j].many + c.many)) }).toList.map (·.born) := List.mem_map.2 ⟨e, he, rfl⟩
    rw [hbm] at this
    obtain ⟨e', he', hb'⟩ := List.mem_map.1 this
    rw [← hb']
    exact hb e' he'
  · rw [hbm]
    exact hd
  · have es : m = m.take j ++ m[j] :: m.drop (j + 1) := by rw [List.getElem_cons_drop, List.take_append_drop]
    have e2 : m.set j { m[j] with many := m[j].many + c.many } = m.take j ++ { m[j] with many := m[j].many + c.many } :: m.drop (j + 1) := by
      rw [List.set_eq_take_append_cons_drop, if_pos hj]
    rw [hw, e2]
    rw [es] at hs
    exact hs.add hk
  · exact (set_grown _).andThen (set_grown _) fun k hk => .inr hk
theorem mapS_new {w : World} {b : Nat} {m l : List Cnt} {c : Cnt} (h : MapS w b m) (hs : Sums m l) (hc : near c) (hk : ∀ x ∈ m, ¬ sameKey x c) :
    ∃ W2 m', MapStep w b c W2 ∧ MapS W2 b m' ∧ Sums m' (l ++ [c]) ∧ w.grownBy W2 (some b) ∧ m'.length ≤ m.length + 1 := by
  obtain ⟨E, cl, hm, hE, hb, hd⟩ := h
  obtain ⟨hsz, hat⟩ := mapS_keys hE
  have ho : ∀ e ∈ E.toList, Other c.frm c.to c.kind e := by
    intro e he
    obtain ⟨i, hi, rfl⟩ := List.getElem_of_mem he
    have hsz' := Array.length_toList (xs := E)
    obtain ⟨e1, h1, k1, v1⟩ := hat i (by omega)
    obtain ⟨_, h1⟩ := List.getElem?_eq_some_iff.1 h1
    rw [h1]
    exact other_of k1 v1 (hk _ (List.getElem_mem _))
  have hn : ∀ e ∈ E.toList, e.born ≠ cl := fun e he => Nat.ne_of_lt (hb e he)
  have e1 := lookup_new ckey (x := c.frm) (y := c.to) (s := c.kind) hm ho
  have e3 := entry_new ckey (x := c.frm) (y := c.to) (s := c.kind) hm ho
  have hm1 := set_at (E' := E.push ⟨cKey c.frm c.to c.kind, .int .i64 0, cl⟩) (c' := cl + 1) hm
  have e2 := lookup_old ckey (x := c.frm) (y := c.to) (s := c.kind) hm1 (j := E.size) (by rw [push_take]; exact ho) (push_at _) rfl
  have e4 := store_at (P := Tryz.prog) (t := 61) (val := .int .i64 (wrap64 (0 + c.many))) hm1 (j := E.size) (push_at _) (by rw [push_take]; exact hn)
  rw [push_modify] at e4
  unfold near at hc
  have hw : wrap64 (0 + c.many) = c.many := by unfold wrap64; omega
  refine ⟨_, m ++ [{ c with many := wrap64 (0 + c.many) }], ⟨_, _, _, e1, e2, e3, e4⟩, ⟨_, _, set_at hm1, ?_, ?_, ?_⟩, ?_, ?_, by simp⟩
  · rw [Array.toList_push, List.map_append, hE, List.map_append]
    rfl
  · intro e he
    rw [Array.toList_push] at he
    rcases List.mem_append.1 he with he | he
    · exact Nat.lt_succ_of_lt (hb e he)
    · simp only [List.mem_cons, List.not_mem_nil, or_false] at he
      subst he
      exact Nat.lt_succ_self _
  · rw [Array.toList_push, List.map_append, List.nodup_append]
    refine ⟨hd, by simp, fun a ha b' hb' => ?_⟩
    obtain ⟨e, he, rfl⟩ := List.mem_map.1 ha
    simp only [List.map_cons, List.map_nil, List.mem_cons, List.not_mem_nil, or_false] at hb'
    subst hb'
    exact hn e he
  · rw [hw]
    have := hs
    rw [← List.append_nil m] at this
    exact this.ins (by simpa using hk)
  · exact (set_grown _).andThen (set_grown _) fun k hk => .inr hk
theorem mapS_step {w : World} {b : Nat} {m l : List Cnt} {c : Cnt} (h : MapS w b m) (hs : Sums m l) (hl : l.length ≤ 800) (hn : ∀ x ∈ l, near x) (hc : near c) :
    ∃ W2 m', MapStep w b c W2 ∧ MapS W2 b m' ∧ Sums m' (l ++ [c]) ∧ w.grownBy W2 (some b) ∧ m'.length ≤ m.length + 1 := by
  by_cases hk : ∃ x ∈ m, sameKey x c
  · obtain ⟨x, hx, hk⟩ := hk
    obtain ⟨j, hj, rfl⟩ := List.getElem_of_mem hx
    exact mapS_old h hs hl hn hc hj hk
  · exact mapS_new h hs hc fun x hx q => hk ⟨x, hx, q⟩
end Go.Proofs.YtacjgphfcailmaaGreatDoor

namespace Go.Proofs.YtacjgphfcailmaaGreatDoor
open Go.RowKit Go.Sort
open Ct Mp
open Go.ChangeMaps (setBlock)
set_option linter.unusedVariables false
set_option linter.unusedSimpArgs false

def toC (e : MapEntry) : Cnt := match e.key, e.val with
  | .agg ⟨[.int _ a, .int _ b, .string s, _]⟩, .int _ n => ⟨a, b, s, n⟩
  | _, _ => ⟨0, 0, ⟨#[]⟩, 0⟩
theorem toC_of {e : MapEntry} {x : Cnt} (hk : e.key = cKey x.frm x.to x.kind) (hv : e.val = .int .i64 x.many) : toC e = x := by
  unfold toC
  rw [hk, hv]
  rfl
theorem toC_map {E : Array MapEntry} {m : List Cnt} (h : E.toList.map (fun e => (e.key, e.val)) = m.map (fun x => (cKey x.frm x.to x.kind, Value.int .i64 x.many))) : E.toList.map toC = m ∧ ∀ e ∈ E.toList, e.key = cKey (toC e).frm (toC e).to (toC e).kind ∧ e.val = .int .i64 (toC e).many := by
  obtain ⟨hs, hat⟩ := mapS_keys h
  have hl := Array.length_toList (xs := E)
  constructor
  · apply List.ext_getElem
    · simp only [List.length_map]; omega
    · intro j h1 h2
      obtain ⟨e, he, hk, hv⟩ := hat j h2
      rw [List.getElem_map]
      obtain ⟨_, he⟩ := List.getElem?_eq_some_iff.1 he
      rw [he]
      exact toC_of hk hv
  · intro e he
    obtain ⟨j, hj, rfl⟩ := List.getElem_of_mem he
    obtain ⟨e, he', hk, hv⟩ := hat j (by omega)
    obtain ⟨_, he'⟩ := List.getElem?_eq_some_iff.1 he'
    rw [he', toC_of hk hv]
    exact ⟨hk, hv⟩
theorem perm_cons_filter {e : MapEntry} : ∀ l : List MapEntry, (l.map (·.born)).Nodup → e ∈ l → l.Perm (e :: l.filter (fun x => !(x.born == e.born)))
  | [], _, h => by simp at h
  | a :: r, hn, h => by
    rw [List.map_cons, List.nodup_cons] at hn
    rcases List.mem_cons.1 h with rfl | h
    · have hf : r.filter (fun x => !(x.born == e.born)) = r := by
        rw [List.filter_eq_self]
        intro x hx
        have : x.born ≠ e.born := fun q => hn.1 (q ▸ List.mem_map.2 ⟨x, hx, rfl⟩)
        simpa using this
      rw [List.filter_cons]
      simp [hf]
    · have hne : a.born ≠ e.born := fun q => hn.1 (q ▸ List.mem_map.2 ⟨e, h, rfl⟩)
      have ih := perm_cons_filter r hn.2 h
      rw [List.filter_cons]
      simp only [beq_eq_false_iff_ne.2 hne, Bool.not_false, if_true]
      exact (ih.cons a).trans (List.Perm.swap _ _ _)
theorem left_step {E : Array MapEntry} {seen : Array Nat} {e : MapEntry} (hn : (E.toList.map (·.born)).Nodup) (he : e ∈ (leftOf E seen).toList) : (leftOf E seen).toList.Perm (e :: (leftOf E (seen.push e.born)).toList) := by
  have h1 : (leftOf E (seen.push e.born)).toList = (leftOf E seen).toList.filter (fun x => !(x.born == e.born)) := by
    unfold leftOf
    simp only [Array.toList_filter, List.filter_filter]
    apply List.filter_congr
    intro x hx
    simp only [Array.contains_push, Bool.not_or]
    rw [Bool.and_comm]
  rw [h1]
  refine perm_cons_filter _ ?_ he
  unfold leftOf
  rw [Array.toList_filter]
  exact (List.Sublist.map _ List.filter_sublist).nodup hn
/-- the map, ranged over; s: what has been taken -/
def Iter (w : World) (b r : Nat) (M s : List Cnt) : Prop := ∃ E c seen, ∃ dn : List MapEntry, w.heap[b]? = some (.map E c) ∧ w.heap[r]? = some (.mapIter (some b) c seen c) ∧ (∀ e ∈ E.toList, e.born < c) ∧ (E.toList.map (·.born)).Nodup ∧
  E.toList.map (fun e => (e.key, e.val)) = M.map (fun x => (cKey x.frm x.to x.kind, Value.int .i64 x.many)) ∧ (dn ++ (leftOf E seen).toList).Perm E.toList ∧ s = some0 (dn.map toC)
def iterLeft (w : World) (b r : Nat) : Nat := match w.heap[b]?, w.heap[r]? with
  | some (.map es _), some (.mapIter _ _ seen _) => (leftOf es seen).size
  | _, _ => 0
theorem Iter.keep {w w' : World} {b r : Nat} {M s : List Cnt} {row : Option Nat} (h : Iter w b r M s) (hg : w.grownBy w' row) (hb : some b ≠ row) (hr : some r ≠ row) : Iter w' b r M s ∧ iterLeft w' b r = iterLeft w b r := by
  obtain ⟨E, c, seen, dn, h1, h2, h3⟩ := h
  have k1 := (hg.block b (Array.getElem?_eq_some_iff.1 h1).1 hb).trans h1
  have k2 := (hg.block r (Array.getElem?_eq_some_iff.1 h2).1 hr).trans h2
  exact ⟨⟨E, c, seen, dn, k1, k2, h3⟩, by unfold iterLeft; rw [h1, h2, k1, k2]⟩
theorem Iter.len {w : World} {b r : Nat} {M s : List Cnt} (h : Iter w b r M s) : s.length ≤ M.length := by
  obtain ⟨E, c, seen, dn, _, _, _, _, hE, hp, rfl⟩ := h
  have h1 := (mapS_keys hE).1
  have h2 := hp.length_eq
  simp only [List.length_append, Array.length_toList] at h2
  have h3 : (some0 (dn.map toC)).length ≤ (dn.map toC).length := List.length_filter_le _ _
  rw [List.length_map] at h3
  have h4 : dn.length ≤ E.size := by omega
  exact Nat.le_trans h3 (h1 ▸ h4)
theorem iter_start {w : World} {b : Nat} {M : List Cnt} (h : MapS w b M) : ∃ w', (Instr.range 61 (.map (some b))).run Tryz.prog w = .ok (.pointer (some ⟨w.heap.size, 0, none⟩)) w' ∧ Iter w' b w.heap.size M [] ∧ Below w.heap.size w w' := by
  obtain ⟨E, c, hm, hE, hb, hd⟩ := h
  refine ⟨_, run_range_map w _ 32 3 b E c (by kernel_rfl) hm, ⟨E, c, #[], [], (Below.heap_alloc w _ b (Array.getElem?_eq_some_iff.1 hm).1).trans hm, heap_alloc_new w _, hb, hd, hE, ?_, rfl⟩, (Below.refl _ _).alloc (Nat.le_refl _) _⟩
  have : (leftOf E #[]).toList = E.toList := by simp [leftOf]
  rw [this]
  exact List.Perm.refl _
theorem iter_next {w : World} {b r : Nat} {M s : List Cnt} (h : Iter w b r M s) (ty : TypeId) :
    ((Instr.next (.pointer (some ⟨r, 0, none⟩)) false ty).run Tryz.prog w = .ok (.tuple #[.bool false]) w ∧ s.Perm (some0 M)) ∨
    ∃ (c : Cnt) (w' : World), (Instr.next (.pointer (some ⟨r, 0, none⟩)) false ty).run Tryz.prog w = .ok (.tuple #[.bool true, cKey c.frm c.to c.kind, .int .i64 c.many]) w' ∧
      (Instr.entry (.pointer (some ⟨r, 0, none⟩))).run Tryz.prog w' = .ok (.tuple #[cKey c.frm c.to c.kind, .int .i64 c.many]) w' ∧ Iter w' b r M (s ++ some0 [c]) ∧ iterLeft w' b r < iterLeft w b r ∧ w.grownBy w' (some r) := by
  obtain ⟨E, c, seen, dn, hb, hr, hold, hn, hE, hp, rfl⟩ := h
  obtain ⟨hT, hK⟩ := toC_map hE
  rcases run_next_at (P := Tryz.prog) w ty r b c c seen E c hr hb hold (Nat.le_refl _) with ⟨h0, hrun⟩ | ⟨e, he, w1, hal, hrun⟩
  · refine .inl ⟨hrun, ?_⟩
    have h1 : (leftOf E seen).toList = [] := List.eq_nil_of_length_eq_zero (by rw [Array.length_toList]; exact h0)
    rw [h1, List.append_nil] at hp
    have := (hp.map toC).filter (fun x => !(x.many == 0))
    rw [hT] at this
    exact this
  · have hmem : e ∈ E.toList := by
      unfold leftOf at he
      rw [Array.toList_filter] at he
      exact (List.mem_filter.1 he).1
    obtain ⟨hk, hv⟩ := hK e hmem
    have hne : r ≠ b := fun q => by rw [q, hb] at hr; cases hr
    have hb1 : (setBlock w1 r (.mapIter (some b) c (seen.push e.born) c)).heap[b]? = some (.map E c) := by
      have hb' : w1.heap[b]? = some (.map E c) := by rcases hal with rfl | rfl <;> exact hb
      simpa [setBlock, Array.getElem?_setIfInBounds, hne] using hb'
    have hrl := (Array.getElem?_eq_some_iff.1 hr).1
    have hr1 : (setBlock w1 r (.mapIter (some b) c (seen.push e.born) c)).heap[r]? = some (.mapIter (some b) c (seen.push e.born) c) := by
      have hr' : r < w1.heap.size := by rcases hal with rfl | rfl <;> exact hrl
      simp [setBlock, Array.getElem?_setIfInBounds, hr']
    have hls := left_step hn he
    rw [hk, hv] at hrun
    have hen := run_entry_at (P := Tryz.prog) (setBlock w1 r (.mapIter (some b) c (seen.push e.born) c)) r b c seen E c e hr1 hb1 hmem hn
    rw [hk, hv] at hen
    refine .inr ⟨toC e, _, hrun, hen, ⟨E, c, seen.push e.born, dn ++ [e], hb1, hr1, hold, hn, hE, ?_, ?_⟩, ?_, ?_⟩
    · rw [List.append_assoc]
      exact ((hls.append_left dn).symm.trans hp)
    · rw [List.map_append]
      unfold some0
      rw [List.filter_append]
      rfl
    · unfold iterLeft
      rw [hb1, hr1, hb, hr]
      have := hls.length_eq
      simp only [List.length_cons, Array.length_toList] at this
      simp only []
      omega
    · rcases hal with rfl | rfl
      · exact set_grown _
      · exact (World.grownBy.andThen (b' := w.drew) (row' := some r) ⟨rfl, rfl, rfl, Nat.le_refl _, fun _ _ _ => rfl⟩ (set_grown (w := w.drew) _) fun k hk => .inr hk)
end Go.Proofs.YtacjgphfcailmaaGreatDoor
