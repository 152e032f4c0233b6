/-
  The small machine's maps and small builtins are the model's.
-/
import Derived.Test.YtacjgphfcailmaaGreatDoorEvJ
namespace Go.Proofs.YtacjgphfcailmaaGreatDoor
open Go.RowKit
namespace Ev
set_option linter.unusedVariables false
set_option linter.unusedSimpArgs false

section
variable {P : Program} {ρ : Ren}

theorem run_getObj {w : World} {r : Nat} {o : Obj} (h : w.heap[r]? = some o) (hc : ∀ c e f, o ≠ .cells c e f) : (getObj r).run P w = .ok o w := by
  cases o <;> first | exact absurd rfl (hc _ _ _) | simp only [getObj, Sem.run, h]
theorem run_setObj {w : World} {r : Nat} {o o' : Obj} (h : w.heap[r]? = some o) (hc : ∀ c e f, o ≠ .cells c e f) : (setObj r o').run P w = .ok () { w with heap := w.heap.setIfInBounds r o' } := by
  cases o <;> first | exact absurd rfl (hc _ _ _) | simp only [setObj, Sem.run, h]
theorem getB_ok {n n' b : Nat} {h h' : Heap} {l l' : Log} {x : AB} (e : getB b n h l = .ok x n' h' l') : n' = n ∧ h' = h ∧ h.get b = some x := by
  unfold Ev.getB at e
  split at e
  · rename_i y hb
    simp only [R.ok.injEq] at e
    obtain ⟨rfl, rfl, rfl, rfl⟩ := e
    exact ⟨rfl, rfl, hb⟩
  · cases e
theorem setB_ok {n n' b : Nat} {h h' : Heap} {l l' : Log} {x : AB} {u : Unit} (e : setB b x n h l = .ok u n' h' l') : n' = n ∧ h' = T.set x 40 h b ∧ (∃ y, h.get b = some y) ∧ b + 1 < 2 ^ 40 := by
  unfold Ev.setB at e
  split at e
  · rename_i y hb
    split at e
    · rename_i hs
      simp only [R.ok.injEq] at e
      obtain ⟨_, rfl, rfl, rfl⟩ := e
      exact ⟨rfl, rfl, ⟨y, hb⟩, small_of hs⟩
    · cases e
  · cases e
/-- an object that is no row is laid anew -/
theorem setObj_sound {W w : World} {h : Heap} {b : Nat} {x y : AB} {l : Loc} {o o' : Obj} (m : Mo W ρ h w) (hb : b + 1 < 2 ^ 40) (hg : h.get b = some y) (hρ : ρ b = some l) (hl : live y = true) (hf : fixed y = false) (hfx : fixed x = false)
    (ho : w.heap[l.blk]? = some o) (hc : ∀ c e f, o ≠ .cells c e f) (hbr : BR ρ l x (some o')) : ∃ w', (setObj l.blk o').run P w = .ok () w' ∧ Mo W ρ (T.set x 40 h b) w' := by
  refine ⟨_, run_setObj ho hc, ?_⟩
  have hlt : l.blk < w.heap.size := (Array.getElem?_eq_some_iff.1 ho).1
  refine m.write hb hg hρ hl hf hfx ?_ (fun j hj => ?_) ⟨rfl, rfl, rfl, by simp, fun j hj => ?_⟩
  · simp [Array.getElem?_setIfInBounds, hlt]
    exact hbr
  · simp [Array.getElem?_setIfInBounds, Ne.symm hj]
  · have := m.new _ _ _ hg hρ hf
    simp only [Array.getElem?_setIfInBounds]
    rw [if_neg (by omega)]

theorem ERL.length : ∀ {es : List (AV × AV × Nat)} {E : List MapEntry}, ERL ρ es E → es.length = E.length
  | [], E, h => by simp only [ERL] at h; subst h; rfl
  | (k, v, b) :: es, E, h => by
    simp only [ERL] at h
    obtain ⟨e, r, rfl, _, _, _, h⟩ := h
    simp [ERL.length h]
theorem ERL.append : ∀ {es fs : List (AV × AV × Nat)} {E F : List MapEntry}, ERL ρ es E → ERL ρ fs F → ERL ρ (es ++ fs) (E ++ F)
  | [], fs, E, F, h, k => by simp only [ERL] at h; subst h; exact k
  | (k', v, b) :: es, fs, E, F, h, k => by
    simp only [ERL] at h
    obtain ⟨e, r, rfl, h1, h2, h3, h⟩ := h
    simp only [List.cons_append, ERL]
    exact ⟨e, _, rfl, h1, h2, h3, h.append k⟩
theorem ERL.take : ∀ {es : List (AV × AV × Nat)} {E : List MapEntry} (n : Nat), ERL ρ es E → ERL ρ (es.take n) (E.take n)
  | es, E, 0, h => by simp [ERL]
  | [], E, n + 1, h => by simp only [ERL] at h; subst h; simp [ERL]
  | (k', v, b) :: es, E, n + 1, h => by
    simp only [ERL] at h
    obtain ⟨e, r, rfl, h1, h2, h3, h⟩ := h
    simp only [List.take_succ_cons, ERL]
    exact ⟨e, _, rfl, h1, h2, h3, h.take n⟩
theorem ERL.drop : ∀ {es : List (AV × AV × Nat)} {E : List MapEntry} (n : Nat), ERL ρ es E → ERL ρ (es.drop n) (E.drop n)
  | es, E, 0, h => h
  | [], E, n + 1, h => by simp only [ERL] at h; subst h; simp [ERL]
  | (k', v, b) :: es, E, n + 1, h => by
    simp only [ERL] at h
    obtain ⟨e, r, rfl, h1, h2, h3, h⟩ := h
    simpa using h.drop n
theorem ERL.setAt {k v : AV} {x y : Value} (hk : VR ρ k x) (hv : VR ρ v y) : ∀ {es : List (AV × AV × Nat)} {E : List MapEntry} (i : Nat) {k0 v0 : AV} {b0 : Nat}, ERL ρ es E → es[i]? = some (k0, v0, b0) →
    ERL ρ (setAt (k, v, b0) es i) (E.modify i fun e => { e with key := x, val := y })
  | [], E, i, k0, v0, b0, h, hi => by simp at hi
  | (k', v', b) :: es, E, 0, k0, v0, b0, h, hi => by
    simp only [ERL] at h
    obtain ⟨e, r, rfl, h1, h2, h3, h⟩ := h
    simp at hi
    obtain ⟨rfl, rfl, rfl⟩ := hi
    simp only [Ev.setAt, List.modify_zero_cons, ERL]
    exact ⟨_, _, rfl, hk, hv, h3, h⟩
  | (k', v', b) :: es, E, i + 1, k0, v0, b0, h, hi => by
    simp only [ERL] at h
    obtain ⟨e, r, rfl, h1, h2, h3, h⟩ := h
    simp at hi
    simp only [Ev.setAt, List.modify_succ_cons, ERL]
    exact ⟨_, _, rfl, h1, h2, h3, h.setAt hk hv i hi⟩

theorem sameNow_of {d : TypeDesc} {a b : AV} {x y : Value} {r : Bool} (ha : VR ρ a x) (hb : VR ρ b y) (hk : keyT d a = true) (e : sameA a b = some r) : Instr.sameNow d x y = some r ∧ (r = true → y = x ∧ Instr.sameBits 10000 x x = true) := by
  have hkb : keyT d b = true := by
    cases a <;> cases b <;> simp [sameA] at e <;> cases d <;> simp [keyT] at hk ⊢
  rcases sameA_key ha hb hk hkb e with ⟨k, j, p, q, rfl, rfl, rfl, rfl⟩ | ⟨p, q, rfl, rfl, rfl, rfl⟩ | ⟨p, q, rfl, rfl, rfl, rfl⟩
  · refine ⟨by simp [Instr.sameNow], fun h => ?_⟩
    have : p = q := by simpa using h
    subst this
    simp [Instr.sameBits]
  · refine ⟨by simp only [Instr.sameNow, beq_toListBytes], fun h => ?_⟩
    have : p.toList = q.toList := by simpa using h
    have : p = q := by
      rw [ByteArray.toList_eq, ByteArray.toList_eq] at this
      exact ByteArray.ext (Array.ext' this)
    subst this
    refine ⟨rfl, ?_⟩
    simp [Instr.sameBits, beq_toListBytes]
  · refine ⟨by simp [Instr.sameNow], fun h => ?_⟩
    have : p = q := by simpa using h
    subst this
    simp [Instr.sameBits]
theorem find_sound {d : TypeDesc} {k : AV} {x : Value} (hk : VR ρ k x) (hkt : keyT d k = true) : ∀ {es : List (AV × AV × Nat)} {E : List MapEntry} {i : Nat} {r : Option (Nat × AV)}, ERL ρ es E → findA k es i = some r →
    (r = none ∧ Instr.findNow d x E i = some none) ∨ ∃ j v y e, r = some (i + j, v) ∧ Instr.findNow d x E i = some (some (i + j, y)) ∧ VR ρ v y ∧ E[j]? = some e ∧ e.key = x ∧ Instr.sameBits 10000 x x = true
  | [], E, i, r, h, e => by
    simp only [ERL] at h
    subst h
    simp [findA] at e
    subst e
    exact .inl ⟨rfl, rfl⟩
  | (k', v, b) :: es, E, i, r, h, e => by
    simp only [ERL] at h
    obtain ⟨en, E', rfl, h1, h2, h3, h⟩ := h
    simp only [findA] at e
    split at e
    · rename_i hs
      cases e
      obtain ⟨h4, h5⟩ := sameNow_of hk h1 hkt hs
      obtain ⟨h6, h7⟩ := h5 rfl
      exact .inr ⟨0, v, en.val, en, rfl, by simp [Instr.findNow, h4], h2, rfl, h6, h7⟩
    · rename_i hs
      obtain ⟨h4, _⟩ := sameNow_of hk h1 hkt hs
      rcases find_sound hk hkt h e with ⟨rfl, h5⟩ | ⟨j, v', y, e', rfl, h5, h6, h7, h8, h9⟩
      · exact .inl ⟨rfl, by simp [Instr.findNow, h4, h5]⟩
      · refine .inr ⟨j + 1, v', y, e', by simp; omega, ?_, h6, by simpa using h7, h8, h9⟩
        simp only [Instr.findNow, h4, h5]
        congr 3
        omega
    · cases e
theorem check_run {d : TypeDesc} {kt : Nat} {k : AV} {x : Value} (hd : P.underlying kt = some d) (hk : VR ρ k x) (hkt : keyT d k = true) (em : Bool) (w : World) : (Instr.checkKey em 10000 kt x).run P w = .ok () w := by
  show (Instr.checkKey em (9999 + 1) kt x).run P w = .ok () w
  generalize 9999 = n
  rw [Instr.checkKey]
  simp only [Sem.run_bind, run_underlying hd, Result.andThen_ok]
  cases d <;> cases k <;> simp [keyT] at hkt <;> simp only [VR] at hk <;> subst hk <;> rfl
theorem findKey_run {d : TypeDesc} {kt : Nat} {x : Value} {E : List MapEntry} {r : Option (Nat × Value)} (hd : P.underlying kt = some d) (h : Instr.findNow d x E 0 = some r) (w : World) : (Instr.findKey kt x E).run P w = .ok r w := by
  simp [Instr.findKey, run_underlying hd, h]

/-- what a map holds -/
def Holds (w : World) (x : Value) (E : Array MapEntry) : Prop := (x = .map none ∧ E = #[]) ∨ ∃ r c, x = .map (some r) ∧ w.heap[r]? = some (.map E c)
theorem entries_sound {a : AV} {x : Value} (ha : VR ρ a x) : ∀ W n h l (r : List (AV × AV × Nat) × Nat) n' h' l' w, entriesA a n h l = .ok r n' h' l' → Mo W ρ h w → h' = h ∧ ∃ E : Array MapEntry, ERL ρ r.1 E.toList ∧ Holds w x E := by
  intro W n h l r n' h' l' w e m
  cases a <;> simp only [entriesA] at e <;> first | exact (err_ok e).elim | skip
  · obtain ⟨rfl, rfl, rfl, rfl⟩ := ret_ok e
    simp only [VR] at ha
    subst ha
    exact ⟨rfl, #[], by simp [ERL], .inl ⟨rfl, rfl⟩⟩
  · rename_i b
    obtain ⟨x0, n1, h1, l1, e1, e2⟩ := bind_ok e
    obtain ⟨rfl, rfl, hg⟩ := getB_ok e1
    cases x0 <;> first | exact (err_ok e2).elim | skip
    rename_i es c
    obtain ⟨rfl, rfl, rfl, rfl⟩ := ret_ok e2
    simp only [VR] at ha
    obtain ⟨lc, hρ, rfl⟩ := ha
    obtain ⟨E, hE, hr⟩ := m.blk _ _ _ hg hρ
    exact ⟨rfl, E, hr, .inr ⟨_, c, rfl, hE⟩⟩
theorem lookup_none {t kt el : Nat} {kd : TypeDesc} {x y zv : Value} {E : Array MapEntry} {w : World} (ok : Bool) (hd : P.underlying t = some (.map kt el)) (hkd : P.underlying kt = some kd) (hh : Holds w x E) (hc : (Instr.checkKey E.isEmpty 10000 kt y).run P w = .ok () w)
    (hf : Instr.findNow kd y E.toList 0 = some none) (hz : (zeroValue el).run P w = .ok zv w) : (Instr.lookup t x y ok).run P w = .ok (if ok then .tuple #[zv, .bool false] else zv) w := by
  have hk := findKey_run (P := P) hkd hf w
  rcases hh with ⟨rfl, rfl⟩ | ⟨r, c, rfl, hr⟩
  · simp [Instr.lookup, run_underlying hd] at hc hk ⊢
    simp [hc, hk, hz]
  · simp [Instr.lookup, run_underlying hd, run_getObj hr (by intros; simp)] at hc hk ⊢
    simp [hc, hk, hz]
theorem lookup_some {t kt el j : Nat} {kd : TypeDesc} {x y v : Value} {E : Array MapEntry} {w : World} (ok : Bool) (hd : P.underlying t = some (.map kt el)) (hkd : P.underlying kt = some kd) (hh : Holds w x E) (hc : (Instr.checkKey E.isEmpty 10000 kt y).run P w = .ok () w)
    (hf : Instr.findNow kd y E.toList 0 = some (some (j, v))) : (Instr.lookup t x y ok).run P w = .ok (if ok then .tuple #[v, .bool true] else v) w := by
  have hk := findKey_run (P := P) hkd hf w
  rcases hh with ⟨rfl, rfl⟩ | ⟨r, c, rfl, hr⟩
  · simp [Instr.lookup, run_underlying hd] at hc hk ⊢
    simp [hc, hk]
  · simp [Instr.lookup, run_underlying hd, run_getObj hr (by intros; simp)] at hc hk ⊢
    simp [hc, hk]
theorem lookup_sound {t : Nat} {a k : AV} {x y : Value} {ok : Bool} (ha : VR ρ a x) (hk : VR ρ k y) : Sim P ρ (lookupA P t a k ok) (Instr.lookup t x y ok) := by
  unfold lookupA
  split
  · rename_i kt el hd
    split
    · rename_i kd z hkd hz
      split
      · rename_i hkt
        obtain ⟨zv, hzv, hzr⟩ := run_zero hz
        intro W n h l v n' h' l' w e m
        obtain ⟨⟨es, c⟩, n1, h1, l1, e1, e2⟩ := bind_ok e
        obtain ⟨rfl, E, hE, hr⟩ := entries_sound ha _ _ _ _ _ _ _ _ _ e1 m
        simp only at e2 hE
        cases hf : findA k es 0 with
        | none => simp only [hf] at e2; exact (err_ok e2).elim
        | some r =>
          have hc := check_run hkd hk hkt E.isEmpty w
          rcases find_sound hk hkt hE hf with ⟨rfl, h5⟩ | ⟨j, v', y', e', rfl, h5, h6, h7, h8, h9⟩
          · simp only [hf] at e2
            obtain ⟨rfl, rfl, rfl, rfl⟩ := ret_ok e2
            refine ⟨ρ, _, w, Ext.refl _, ?_, m, lookup_none ok hd hkd hr hc h5 (hzr w)⟩
            cases ok
            · exact hzv ρ
            · simp only [VR, if_true]
              exact ⟨[zv, .bool false], .cons (hzv ρ) (.cons (by simp only [VR]) VRL.nil), rfl⟩
          · simp only [hf] at e2
            obtain ⟨rfl, rfl, rfl, rfl⟩ := ret_ok e2
            refine ⟨ρ, _, w, Ext.refl _, ?_, m, lookup_some ok hd hkd hr hc h5⟩
            cases ok
            · exact h6
            · simp only [VR, if_true]
              exact ⟨[y', .bool true], .cons h6 (.cons (by simp only [VR]) VRL.nil), rfl⟩
      · exact Sim.err
    · exact Sim.err
  · exact Sim.err
theorem update_sound {t : Nat} {a k v : AV} {x y z : Value} (ha : VR ρ a x) (hk : VR ρ k y) (hv : VR ρ v z) : SimU P ρ (updateA P t a k v) (Instr.mapUpdate t x y z) := by
  unfold updateA
  split
  · rename_i kt el b hd
    split
    · rename_i kd hkd
      split
      · rename_i hkt
        intro W n h l u n' h' l' w e m
        obtain ⟨x0, n1, h1, l1, e1, e2⟩ := bind_ok e
        obtain ⟨rfl, rfl, hg⟩ := getB_ok e1
        cases x0 <;> first | exact (err_ok e2).elim | skip
        rename_i es c
        simp only [VR] at ha
        obtain ⟨lc, hρ, rfl⟩ := ha
        obtain ⟨E, hE, hr⟩ := m.blk _ _ _ hg hρ
        have hgo := run_getObj (P := P) hE (by intros; simp)
        have hc := check_run hkd hk hkt false w
        simp only at e2
        cases hf : findA k es 0 with
        | none => simp only [hf] at e2; exact (err_ok e2).elim
        | some r =>
          rcases find_sound hk hkt hr hf with ⟨rfl, h5⟩ | ⟨j, v', y', e', rfl, h5, h6, h7, h8, h9⟩
          · simp only [hf] at e2
            obtain ⟨_, n2, h2, l2, e3, e4⟩ := bind_ok e2
            obtain ⟨rfl, rfl, rfl, rfl⟩ := ret_ok e4
            obtain ⟨rfl, rfl, _, hb⟩ := setB_ok e3
            obtain ⟨w', k1, k2⟩ := setObj_sound (P := P) (x := .mp (es ++ [(k, v, c)]) (c + 1)) (o' := .map (E.push { key := y, val := z, born := c }) (c + 1)) m hb hg hρ rfl rfl rfl hE (by intros; simp)
              ⟨_, rfl, by rw [Array.toList_push]; exact hr.append (by simp only [ERL]; exact ⟨_, _, rfl, hk, hv, rfl, rfl⟩)⟩
            refine ⟨w', rfl, k2, ?_⟩
            simp only [Instr.mapUpdate, Sem.run_bind, run_underlying hd, Result.andThen_ok, hgo, hc, findKey_run hkd h5, k1]
          · simp only [hf, Nat.zero_add] at e2
            cases hes : es[j]? with
            | none => simp only [hes] at e2; exact (err_ok e2).elim
            | some q =>
              obtain ⟨k0, v0, b0⟩ := q
              simp only [hes] at e2
              obtain ⟨_, n2, h2, l2, e3, e4⟩ := bind_ok e2
              obtain ⟨rfl, rfl, rfl, rfl⟩ := ret_ok e4
              obtain ⟨rfl, rfl, _, hb⟩ := setB_ok e3
              obtain ⟨w', k1, k2⟩ := setObj_sound (P := P) (x := .mp (setAt (k, v, b0) es j) c) (o' := .map (E.modify j fun e => { e with key := y, val := z }) c) m hb hg hρ rfl rfl rfl hE (by intros; simp)
                ⟨_, rfl, by rw [Array.toList_modify]; exact hr.setAt hk hv j hes⟩
              refine ⟨w', rfl, k2, ?_⟩
              have hEj : E[j]? = some e' := by simpa using h7
              have hst : (Instr.keyThatStays (((E[j]?).map (·.key)).getD y) y).run P w = .ok y w := by
                rw [hEj]
                simp [Instr.keyThatStays, h8, h9]
              simp only [Instr.mapUpdate, Sem.run_bind, run_underlying hd, Result.andThen_ok, hgo, hc, findKey_run hkd h5, hst, Nat.zero_add, k1]
      · exact SimU.err
    · exact SimU.err
  · exact SimU.err

theorem delete_sound {ts : Array Nat} {args : List AV} {xs : Array Value} {ty : Nat} (ha : VRL ρ args xs.toList) : Sim P ρ (deleteA P ts.toList args) (Builtin.delete_ ts ty xs) := by
  unfold deleteA
  split
  · rename_i t ts' a k hts
    have ht : ts[0]? = some t := by rw [← Array.getElem?_toList, hts]; rfl
    obtain ⟨x, xs1, hx1, hx, hr1⟩ := ha.cons_inv
    obtain ⟨y, xs2, rfl, hy, hr2⟩ := hr1.cons_inv
    have hx0 : xs[0]? = some x := by rw [← Array.getElem?_toList, hx1]; rfl
    have hx2 : xs[1]? = some y := by rw [← Array.getElem?_toList, hx1]; rfl
    split
    · rename_i kt el b hd
      split
      · rename_i kd hkd
        split
        · rename_i hkt
          intro W n h l u n' h' l' w e m
          obtain ⟨x0, n1, h1, l1, e1, e2⟩ := bind_ok e
          obtain ⟨rfl, rfl, hg⟩ := getB_ok e1
          cases x0 <;> first | exact (err_ok e2).elim | skip
          rename_i es c
          simp only [VR] at hx
          obtain ⟨lc, hρ, rfl⟩ := hx
          obtain ⟨E, hE, hr⟩ := m.blk _ _ _ hg hρ
          have hgo := run_getObj (P := P) hE (by intros; simp)
          have hc := check_run hkd hy hkt E.isEmpty w
          simp only at e2
          cases hf : findA k es 0 with
          | none => simp only [hf] at e2; exact (err_ok e2).elim
          | some r =>
            rcases find_sound hy hkt hr hf with ⟨rfl, h5⟩ | ⟨j, v', y', e', rfl, h5, h6, h7, h8, h9⟩
            · simp only [hf] at e2
              obtain ⟨_, n2, h2, l2, e3, e4⟩ := bind_ok e2
              obtain ⟨rfl, rfl, rfl, rfl⟩ := ret_ok e4
              obtain ⟨rfl, rfl, _, hb⟩ := setB_ok e3
              obtain ⟨w', k1, k2⟩ := setObj_sound (P := P) (x := .mp es c) (o' := .map E c) m hb hg hρ rfl rfl rfl hE (by intros; simp) ⟨_, rfl, hr⟩
              refine ⟨ρ, .tuple #[], w', Ext.refl _, by simp only [VR]; exact ⟨[], VRL.nil, rfl⟩, k2, ?_⟩
              simp only [Builtin.delete_, ht, hx0, hx2, Sem.run_bind, run_underlying hd, Result.andThen_ok, hgo, hc, findKey_run hkd h5, k1]
              rfl
            · simp only [hf, Nat.zero_add] at e2
              obtain ⟨_, n2, h2, l2, e3, e4⟩ := bind_ok e2
              obtain ⟨rfl, rfl, rfl, rfl⟩ := ret_ok e4
              obtain ⟨rfl, rfl, _, hb⟩ := setB_ok e3
              obtain ⟨w', k1, k2⟩ := setObj_sound (P := P) (x := .mp (es.take j ++ es.drop (j + 1)) c) (o' := .map (E.eraseIdxIfInBounds j) c) m hb hg hρ rfl rfl rfl hE (by intros; simp)
                ⟨_, rfl, by rw [Array.toList_eraseIdxIfInBounds, List.eraseIdx_eq_take_drop_succ]; exact (hr.take j).append (hr.drop (j + 1))⟩
              refine ⟨ρ, .tuple #[], w', Ext.refl _, by simp only [VR]; exact ⟨[], VRL.nil, rfl⟩, k2, ?_⟩
              simp only [Builtin.delete_, ht, hx0, hx2, Sem.run_bind, run_underlying hd, Result.andThen_ok, hgo, hc, findKey_run hkd h5, Nat.zero_add, k1]
              rfl
        · exact Sim.err
      · exact Sim.err
    · exact Sim.err
  · exact Sim.err
theorem len_sound {ts : Array Nat} {args : List AV} {xs : Array Value} {ty : Nat} (ha : VRL ρ args xs.toList) : Sim P ρ (lenOp P ts.toList args) (Builtin.len_ ts ty xs) := by
  unfold lenOp
  split
  · rename_i t ts' a hts
    have ht : ts[0]? = some t := by rw [← Array.getElem?_toList, hts]; rfl
    obtain ⟨x, xs1, hx1, hx, hr1⟩ := ha.cons_inv
    have hx0 : xs[0]? = some x := by rw [← Array.getElem?_toList, hx1]; rfl
    split
    · rename_i n v hd
      simp only [VR] at hx
      subst hx
      exact Sim.ret (x := .int .i64 n) (by simp only [VR]) fun w => by simp [Builtin.len_, ht, hx0, run_underlying hd, str_size, goInt]
    · rename_i e hd
      simp only [VR] at hx
      subst hx
      exact Sim.ret (x := .int .i64 0) (by simp only [VR]) fun w => by simp [Builtin.len_, ht, hx0, run_underlying hd, goInt]
    · rename_i e b o n opn c hd
      simp only [VR] at hx
      obtain ⟨lc, x0, cap, _, rfl, _⟩ := hx
      exact Sim.ret (x := .int .i64 n) (by simp only [VR]) fun w => by simp [Builtin.len_, ht, hx0, run_underlying hd, goInt]
    · rename_i q n el hd
      exact Sim.ret (x := .int .i64 n) (by simp only [VR]) fun w => by simp [Builtin.len_, ht, hx0, run_underlying hd, goInt]
    · rename_i kt e hd
      simp only [VR] at hx
      subst hx
      exact Sim.ret (x := .int .i64 0) (by simp only [VR]) fun w => by simp [Builtin.len_, ht, hx0, run_underlying hd, goInt]
    · rename_i kt el b hd
      intro W n h l u n' h' l' w e m
      obtain ⟨x0, n1, h1, l1, e1, e2⟩ := bind_ok e
      obtain ⟨rfl, rfl, hg⟩ := getB_ok e1
      cases x0 <;> first | exact (err_ok e2).elim | skip
      rename_i es c
      obtain ⟨rfl, rfl, rfl, rfl⟩ := ret_ok e2
      simp only [VR] at hx
      obtain ⟨lc, hρ, rfl⟩ := hx
      obtain ⟨E, hE, hr⟩ := m.blk _ _ _ hg hρ
      have hgo := run_getObj (P := P) hE (by intros; simp)
      have hl := hr.length
      simp at hl
      exact ⟨ρ, .int .i64 es.length, w, Ext.refl _, by simp only [VR], m, by simp [Builtin.len_, ht, hx0, run_underlying hd, goInt, hgo, hl]⟩
    · exact Sim.err
  · exact Sim.err
theorem cap_sound {ts : Array Nat} {args : List AV} {xs : Array Value} {ty : Nat} (ha : VRL ρ args xs.toList) : Sim P ρ (capOp P ts.toList args) (Builtin.cap_ ts ty xs) := by
  unfold capOp
  split
  · rename_i t ts' a hts
    have ht : ts[0]? = some t := by rw [← Array.getElem?_toList, hts]; rfl
    obtain ⟨x, xs1, hx1, hx, hr1⟩ := ha.cons_inv
    have hx0 : xs[0]? = some x := by rw [← Array.getElem?_toList, hx1]; rfl
    split
    · rename_i e hd
      simp only [VR] at hx
      subst hx
      exact Sim.ret (x := .int .i64 0) (by simp only [VR]) fun w => by simp [Builtin.cap_, ht, hx0, run_underlying hd, goInt]
    · rename_i e b o n c hd
      simp only [VR] at hx
      obtain ⟨lc, x0, cap, _, rfl, _, _, h1, _⟩ := hx
      have := h1 (by simp)
      subst this
      exact Sim.ret (x := .int .i64 cap) (by simp only [VR]) fun w => by simp [Builtin.cap_, ht, hx0, run_underlying hd, goInt]
    · exact Sim.err
  · exact Sim.err
theorem min_sound {mx : Bool} {ts : Array Nat} {args : List AV} {xs : Array Value} {ty : Nat} (ha : VRL ρ args xs.toList) : Sim P ρ (M.opt (minOp mx args)) (if mx then Builtin.max_ ts ty xs else Builtin.min_ ts ty xs) := by
  refine Sim.of fun v e => ?_
  unfold minOp at e
  split at e
  · rename_i j a k b
    split at e
    · rename_i hjk
      have hjk : j = k := by simpa using hjk
      subst hjk
      cases e
      obtain ⟨x, xs1, hx1, hx, hr1⟩ := ha.cons_inv
      obtain ⟨y, xs2, rfl, hy, hr2⟩ := hr1.cons_inv
      simp only [VR] at hx hy
      subst hx; subst hy
      have := hr2.nil_inv
      subst this
      cases mx
      · refine .mk (.int j (if b < a then b else a)) ?_ fun w => ?_
        · simp only [VR]
          by_cases h : b < a <;> simp [h]
        · simp [Builtin.min_, hx1, Builtin.min2]
      · refine .mk (.int j (if b > a then b else a)) ?_ fun w => ?_
        · simp only [VR]
          by_cases h : a < b <;> simp [h]
        · simp [Builtin.max_, hx1, Builtin.max2]
    · cases e
  · cases e
theorem clear_sound {ts : Array Nat} {args : List AV} {xs : Array Value} {ty : Nat} (ha : VRL ρ args xs.toList) : Sim P ρ (clearA P ts.toList args) (Builtin.clear_ ts ty xs) := by
  unfold clearA
  split
  · rename_i t ts' a hts
    have ht : ts[0]? = some t := by rw [← Array.getElem?_toList, hts]; rfl
    obtain ⟨x, xs1, hx1, hx, hr1⟩ := ha.cons_inv
    have hx0 : xs[0]? = some x := by rw [← Array.getElem?_toList, hx1]; rfl
    split
    · rename_i e hd
      simp only [VR] at hx
      subst hx
      exact Sim.ret VR.undef fun w => by simp [Builtin.clear_, ht, hx0, run_underlying hd, Go.undef]
    · rename_i el b o len opn c hd
      simp only [VR] at hx
      obtain ⟨lc, x0, cap, hρ, rfl, hle, hx9, _⟩ := hx
      split
      · rename_i s z hs hz
        split
        · rename_i hc
          simp only [Bool.and_eq_true, Nat.ble_eq, Nat.beq_eq] at hc
          obtain ⟨⟨⟨c1, c2⟩, c3⟩, c4⟩ := hc
          split
          · exact Sim.ret VR.undef fun w => by simp [Builtin.clear_, ht, hx0, run_underlying hd, Go.undef]
          · rename_i hl0
            have hcap : cap ≠ 0 := fun h => hl0 (by omega)
            have := hx9 hcap
            subst this
            obtain ⟨zv, hzv, hzr⟩ := run_zero hz
            intro W n h l u n' h' l' w e m
            obtain ⟨x0, n1, h1, l1, e1, e2⟩ := bind_ok e
            obtain ⟨rfl, rfl, rfl, rfl⟩ := ret_ok e2
            have hcv := cellsA_VRL (hzv ρ)
            have hzs : zv.cells.size = s := by have := hcv.length; simp at this; omega
            have hzz : VRL ρ (rep (cellsA z) len) (Builtin.zeroCells zv.cells len).toList := by
              have := zeros_VRL (hzv ρ) c1 c3 len
              unfold Builtin.zeroCells
              rw [hzs] at this ⊢
              exact this
            have hpl : (rep (cellsA z) len).all plainA = true := by
              have : ∀ n, (rep (cellsA z) n).all plainA = true := by
                intro n
                induction n with
                | zero => rfl
                | succ n ih => simp only [rep, List.all_append, c2, ih, Bool.and_self]
              exact this len
            obtain ⟨w', k1, k2⟩ := setR_sound (P := P) m hρ e1 hzz (plains_one hzz hpl)
            refine ⟨ρ, Go.undef, w', Ext.refl _, VR.undef, k2, ?_⟩
            cases len with
            | zero => exact absurd rfl hl0
            | succ len => simp [Builtin.clear_, ht, hx0, run_underlying hd, hzr, k1, Go.undef]
        · exact Sim.err
      · exact Sim.err
    · exact Sim.err
  · exact Sim.err

/-! iterators of maps -/
theorem run_newObj {w : World} {o : Obj} : (newObj o).run P w = .ok w.heap.size (w.alloc o) := by
  simp [newObj, Sem.run]
theorem rangeMap_sound {t : Nat} {a : AV} {x : Value} (ha : VR ρ a x) : Sim P ρ (rangeMapA P t a) (Instr.range t x) := by
  unfold rangeMapA
  split
  · rename_i kt el m hd
    intro W n h l u n' h' l' w e mo
    obtain ⟨y, n1, h1, l1, e1, e2⟩ := bind_ok e
    obtain ⟨rfl, rfl, hg⟩ := getB_ok e1
    cases y <;> first | exact (err_ok e2).elim | skip
    rename_i es c
    simp only at e2
    obtain ⟨b, n2, h2, l2, e3, e4⟩ := bind_ok e2
    obtain ⟨rfl, rfl, rfl, rfl⟩ := ret_ok e4
    obtain ⟨rfl, rfl, hk, hn, rfl, rfl⟩ := alloc_ok e3
    simp only [VR] at ha
    obtain ⟨lm, hρ, rfl⟩ := ha
    obtain ⟨E, hE, hr⟩ := mo.blk _ _ _ hg hρ
    obtain ⟨ρ', g1, g2, g3⟩ := mo.fresh (x := .mi m c [] c) (o := .mapIter (some lm.blk) c #[] c) 0 hk hn ⟨rfl, lm, hρ, rfl⟩
    refine ⟨ρ', .pointer (some ⟨w.heap.size, 0, none⟩), _, g1, ?_, g3, ?_⟩
    · simp only [VR]
      exact ⟨_, g2, rfl⟩
    · simp [Instr.range, run_underlying hd, run_getObj hE (by intros; simp)]
  · exact Sim.err
theorem ERL.filter {p : AV × AV × Nat → Bool} {q : MapEntry → Bool} (hpq : ∀ k v b e, e.born = b → p (k, v, b) = q e) : ∀ {es : List (AV × AV × Nat)} {E : List MapEntry}, ERL ρ es E → ERL ρ (es.filter p) (E.filter q)
  | [], E, h => by simp only [ERL] at h; subst h; simp [ERL]
  | (k, v, b) :: es, E, h => by
    simp only [ERL] at h
    obtain ⟨e, r, rfl, h1, h2, h3, h⟩ := h
    have := hpq k v b e h3
    simp only [List.filter_cons, this]
    split
    · simp only [ERL]
      exact ⟨e, _, rfl, h1, h2, h3, h.filter hpq⟩
    · exact h.filter hpq
theorem ERL.all {p : AV × AV × Nat → Bool} {q : MapEntry → Bool} (hpq : ∀ k v b e, e.born = b → p (k, v, b) = q e) : ∀ {es : List (AV × AV × Nat)} {E : List MapEntry}, ERL ρ es E → es.all p = E.all q
  | [], E, h => by simp only [ERL] at h; subst h; rfl
  | (k, v, b) :: es, E, h => by
    simp only [ERL] at h
    obtain ⟨e, r, rfl, h1, h2, h3, h⟩ := h
    simp only [List.all_cons, hpq k v b e h3, h.all hpq]
theorem next_sound {a : AV} {x : Value} {ty : Nat} (ha : VR ρ a x) : Sim P ρ (nextA a) (Instr.next x false ty) := by
  unfold nextA
  split
  · rename_i b
    intro W n h l u n' h' l' w e mo
    obtain ⟨y, n1, h1, l1, e1, e2⟩ := bind_ok e
    obtain ⟨rfl, rfl, hg⟩ := getB_ok e1
    cases y <;> first | exact (err_ok e2).elim | skip
    rename_i m since seen last
    simp only at e2
    obtain ⟨z, n2, h2, l2, e3, e4⟩ := bind_ok e2
    obtain ⟨rfl, rfl, hg2⟩ := getB_ok e3
    cases z <;> first | exact (err_ok e4).elim | skip
    rename_i es c
    simp only at e4
    simp only [VR] at ha
    obtain ⟨lb, hρ, rfl⟩ := ha
    obtain ⟨hd0, lm, hm, hit⟩ := mo.blk _ _ _ hg hρ
    obtain ⟨E, hE, hr⟩ := mo.blk _ _ _ hg2 hm
    have hgo := run_getObj (P := P) hit (by intros; simp)
    have hgm := run_getObj (P := P) hE (by intros; simp)
    have hall : es.all (fun e => Nat.ble last e.2.2) = E.toList.all (fun e => decide (last ≤ e.born)) := hr.all fun k v b e he => by
      subst he
      rw [Bool.eq_iff_iff]
      simp
    have hemp : es.isEmpty = E.isEmpty := by
      have hl := hr.length
      rw [Bool.eq_iff_iff, List.isEmpty_iff, Array.isEmpty_iff, ← List.length_eq_zero_iff, hl, List.length_eq_zero_iff]
      simp
    cases hc : candA es since seen last with
    | none => simp only [hc] at e4; exact (err_ok e4).elim
    | some r =>
      simp only [hc] at e4
      unfold candA at hc
      split at hc
      · cases hc
      · rename_i hcond
        have hfil := hr.filter (p := fun e => !seen.contains e.2.2) (q := fun e => !(seen.toArray).contains e.born) fun k v b e he => by subst he; simp
        have hcond' : (!(seen.toArray).isEmpty && !E.isEmpty && E.all fun x => decide (x.born ≥ last)) = false := by
          rw [hall, hemp] at hcond
          rw [← Array.all_toList]
          simpa using hcond
        have hfilE : (E.filter fun e => !(seen.toArray).contains e.born).toList = E.toList.filter fun e => !(seen.toArray).contains e.born := Array.toList_filter
        generalize hLdef : (E.filter fun e => !(seen.toArray).contains e.born) = L at hfilE
        rw [← hfilE] at hfil
        split at hc
        · rename_i hnil
          cases hc
          rw [hnil] at hfil
          simp only [ERL] at hfil
          have hL0 : L = #[] := by apply Array.ext'; simpa using hfil
          subst hL0
          obtain ⟨rfl, rfl, rfl, rfl⟩ := ret_ok e4
          refine ⟨ρ, .tuple #[.bool false], w, Ext.refl _, ?_, mo, ?_⟩
          · simp only [VR]
            exact ⟨[.bool false], .cons (by simp only [VR]) VRL.nil, rfl⟩
          · simp only [hd0, Nat.add_zero, Instr.next, Sem.run_bind, hgo, Result.andThen_ok, hgm, hcond', hLdef]
            simp [Question.forced]
        · rename_i e0 hone
          obtain ⟨k0, v0, b0⟩ := e0
          split at hc
          · rename_i hlt
            cases hc
            rw [hone] at hfil
            simp only [ERL] at hfil
            obtain ⟨e', r', hr1, q1, q2, q3, rfl⟩ := hfil
            have hL0 : L = #[e'] := by apply Array.ext'; simpa using hr1
            subst hL0
            simp only at hlt
            have hlt' : e'.born < since := by rw [q3]; simpa using hlt
            simp only at e4
            obtain ⟨_, n3, h3, l3, e5, e6⟩ := bind_ok e4
            obtain ⟨rfl, rfl, rfl, rfl⟩ := ret_ok e6
            obtain ⟨rfl, rfl, _, hb⟩ := setB_ok e5
            obtain ⟨w', k1, k2⟩ := setObj_sound (P := P) (x := .mi m since (seen ++ [b0]) c) (o' := .mapIter (some lm.blk) since (seen.toArray.push e'.born) c) mo hb hg hρ rfl rfl rfl hit (by intros; simp)
              ⟨hd0, lm, hm, by rw [q3]; simp⟩
            refine ⟨ρ, .tuple #[.bool true, e'.key, e'.val], w', Ext.refl _, ?_, k2, ?_⟩
            · simp only [VR]
              exact ⟨[.bool true, e'.key, e'.val], .cons (by simp only [VR]) (.cons q1 (.cons q2 VRL.nil)), rfl⟩
            · rw [List.push_toArray] at k1
              simp only [hd0, Nat.add_zero, Instr.next, Sem.run_bind, hgo, Result.andThen_ok, hgm, hcond', hLdef]
              simp [Question.forced, hlt', k1, Nat.not_le.2 hlt']
          · cases hc
        · cases hc
  · exact Sim.err
theorem ERL.find {p : AV × AV × Nat → Bool} {q : MapEntry → Bool} (hpq : ∀ k v b e, e.born = b → p (k, v, b) = q e) : ∀ {es : List (AV × AV × Nat)} {E : List MapEntry} {y : AV × AV × Nat}, ERL ρ es E → es.find? p = some y → ∃ e, E.find? q = some e ∧ VR ρ y.1 e.key ∧ VR ρ y.2.1 e.val
  | [], E, y, h, hf => by simp at hf
  | (k, v, b) :: es, E, y, h, hf => by
    simp only [ERL] at h
    obtain ⟨e, r, rfl, h1, h2, h3, h⟩ := h
    rw [List.find?_cons] at hf ⊢
    rw [hpq k v b e h3] at hf
    cases hq : q e with
    | true =>
      rw [hq] at hf
      cases hf
      exact ⟨e, rfl, h1, h2⟩
    | false =>
      rw [hq] at hf
      exact h.find hpq hf
theorem entry_sound {a : AV} {x : Value} (ha : VR ρ a x) : Sim P ρ (entryA a) (Instr.entry x) := by
  unfold entryA
  split
  · rename_i b
    intro W n h l u n' h' l' w e mo
    obtain ⟨y, n1, h1, l1, e1, e2⟩ := bind_ok e
    obtain ⟨rfl, rfl, hg⟩ := getB_ok e1
    cases y <;> first | exact (err_ok e2).elim | skip
    rename_i m since seen last
    simp only at e2
    obtain ⟨z, n2, h2, l2, e3, e4⟩ := bind_ok e2
    obtain ⟨rfl, rfl, hg2⟩ := getB_ok e3
    cases z <;> first | exact (err_ok e4).elim | skip
    rename_i es c
    simp only at e4
    simp only [VR] at ha
    obtain ⟨lb, hρ, rfl⟩ := ha
    obtain ⟨hd0, lm, hm, hit⟩ := mo.blk _ _ _ hg hρ
    obtain ⟨E, hE, hr⟩ := mo.blk _ _ _ hg2 hm
    have hgo := run_getObj (P := P) hit (by intros; simp)
    have hgm := run_getObj (P := P) hE (by intros; simp)
    change Ok _ _ _ _ _ at e4
    split at e4
    · rename_i st hc hlast
      have hc := Nat.eq_of_beq_eq_true hc
      subst hc
      split at e4
      · rename_i e0 hf
        obtain ⟨e', hf', q1, q2⟩ := hr.find (q := fun e => e.born == st) (fun k v b e he => by subst he; rw [Bool.eq_iff_iff]; simp) hf
        obtain ⟨rfl, rfl, rfl, rfl⟩ := ret_ok e4
        refine ⟨ρ, .tuple #[e'.key, e'.val], w, Ext.refl _, ?_, mo, ?_⟩
        · simp only [VR]
          exact ⟨[e'.key, e'.val], .cons q1 (.cons q2 VRL.nil), rfl⟩
        · have hb : seen.toArray.back? = some st := by simpa using hlast
          have hf2 : E.find? (fun e => e.born == st) = some e' := by rw [← Array.find?_toList]; exact hf'
          simp only [hd0, Nat.add_zero, Instr.entry, Sem.run_bind, hgo, Result.andThen_ok, hgm, hb, bne_self_eq_false, Bool.false_eq_true, if_false, hf2]
          rfl
      · exact (err_ok e4).elim
    · exact (err_ok e4).elim
  · exact Sim.err
end
end Ev
end Go.Proofs.YtacjgphfcailmaaGreatDoor
