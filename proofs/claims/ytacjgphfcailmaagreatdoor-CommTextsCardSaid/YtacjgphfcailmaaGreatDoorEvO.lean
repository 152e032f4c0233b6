/-
  The small machine's regions are the model's, in whatever order.
-/
import Derived.Test.YtacjgphfcailmaaGreatDoorEvN
namespace Go.Proofs.YtacjgphfcailmaaGreatDoor
open Go.RowKit
namespace Ev
set_option linter.unusedVariables false
set_option linter.unusedSimpArgs false

section
variable {E : World → Prop} {P : Program} {ρ : Ren} {rec : Rec}

/-- an operation's value -/
noncomputable def stepV (P : Program) (rec : Rec) (ops : Array Oper) (o : Oper) (tm : Tm) : M AV :=
  match wantedA ops tm o with
  | some true => evOp P rec (evA tm) o.op
  | some false => M.ret undefA
  | none => M.err
theorem stepA_ok {ops : Array Oper} {o : Oper} {tm tm' : Tm} {n n' : Nat} {h h' : Heap} {l l' : Log} (e : stepA P rec ops o tm n h l = .ok tm' n' h' l') :
    ∃ v, stepV P rec ops o tm n h l = .ok v n' h' l' ∧ tm' = putA tm o.dst v := by
  unfold stepA at e
  unfold stepV
  cases hw : wantedA ops tm o with
  | none => simp only [hw] at e; exact (err_ok e).elim
  | some b =>
    cases b
    · simp only [hw] at e ⊢
      obtain ⟨rfl, rfl, rfl, rfl⟩ := ret_ok e
      exact ⟨undefA, rfl, rfl⟩
    · simp only [hw] at e ⊢
      obtain ⟨v, n1, h1, l1, e1, e2⟩ := bind_ok e
      obtain ⟨rfl, rfl, rfl, rfl⟩ := ret_ok e2
      exact ⟨v, e1, rfl⟩
theorem Local.stepV (hrec : ∀ r c tm ds, Local (rec r c tm ds)) (ops : Array Oper) (o : Oper) (tm : Tm) : Local (stepV P rec ops o tm) := by
  unfold Ev.stepV
  split
  · exact Local.evOp hrec _ _
  · exact Local.ret _
  · exact Local.err

theorem wanted_of {ops : Array Oper} {o : Oper} {tm : Tm} {a : Act} {b : Bool} (ht : TR ρ tm a.tmps) (h : wantedA ops tm o = some b) : Region.wanted o (yielded ops a.tmps) = b := by
  unfold wantedA at h
  unfold Region.wanted
  cases hg : o.guard with
  | none => simp only [hg] at h ⊢; cases h; rfl
  | some g =>
    obtain ⟨j, want⟩ := g
    simp only [hg] at h ⊢
    cases ho : (ops[j]?).bind (·.dst) with
    | none => simp only [ho] at h; cases h
    | some t =>
      simp only [ho] at h
      have hv := ht.nth t
      have hy : yielded ops a.tmps j = (a.tmps[t]?).bind fun x => match x with | .bool b => some b | _ => none := by
        simp only [yielded, ho, Option.bind_some]
        cases a.tmps[t]? with
        | none => rfl
        | some x => cases x <;> rfl
      rw [hy]
      cases hn : nth tm t with
      | bool b' =>
        simp only [hn, Option.some.injEq] at h
        subst h
        rw [hn] at hv
        simp only [VR] at hv
        cases hx : a.tmps[t]? with
        | none =>
          rw [Array.getD_eq_getD_getElem?, hx] at hv
          simp [Go.undef] at hv
        | some x =>
          rw [Array.getD_eq_getD_getElem?, hx] at hv
          simp only [Option.getD_some] at hv
          subst hv
          cases b' <;> cases want <;> rfl
      | tup vs =>
        cases vs with
        | cons _ _ => simp only [hn] at h; cases h
        | nil =>
          simp only [hn, Option.some.injEq] at h
          subst h
          rw [hn] at hv
          simp only [VR] at hv
          obtain ⟨xs, h1, h2⟩ := hv
          cases hx : a.tmps[t]? with
          | none => rfl
          | some x =>
            rw [Array.getD_eq_getD_getElem?, hx] at h2
            simp only [Option.getD_some] at h2
            subst h2
            rfl
      | _ => simp only [hn] at h; cases h

theorem put_defers (a : Act) (d : Option Nat) (x : Value) : (a.put d x).defers = a.defers := by cases d <;> rfl
theorem put_VRL {tm : Tm} {a : Act} {v : AV} {x : Value} (d : Option Nat) (ht : TR ρ tm a.tmps) (hv : VR ρ v x) : TR ρ (putA tm d v) (a.put d x).tmps := by
  cases d with
  | none => exact ht
  | some d =>
    exact ht.put hv d

theorem stepV_sound (hor : OrcOK E P ∧ CntOK E P) (hc : SoundCall E P rec) (hy : SoundYield E P rec) {q : Option Nat} {Q : Exit → Act → World → Prop} {ops : Array Oper} {i : Nat} {o : Oper} {a : Act} {tm : Tm} {W w : World} {n n' : Nat} {h h' : Heap} {l l' : Log} {v : AV}
    (hi : ops[i]? = some o) (ht : TR ρ tm a.tmps) (e : stepV P rec ops o tm n h l = .ok v n' h' l') (hE : E W) (mo : Mo W ρ h w) {K : Act → World → Prop} (hK : ∀ x w', Got W ρ v h' x w' → K (a.put o.dst x) w') : wpOpIn (Fc q) 0 P ops Q i K a w := by
  unfold stepV at e
  cases hw : wantedA ops tm o with
  | none => simp only [hw] at e; exact (err_ok e).elim
  | some b =>
    have hwn := wanted_of ht hw
    unfold Go.wpOpIn
    cases b with
    | false =>
      simp only [hw] at e
      obtain ⟨rfl, rfl, rfl, rfl⟩ := ret_ok e
      simp only [hi, hwn, Bool.false_eq_true, if_false]
      exact ⟨fun _ _ => trivial, hK _ _ ⟨ρ, Ext.refl _, VR.undef, mo⟩⟩
    | true =>
      simp only [hw] at e
      have hnd : ∀ c, o.op ≠ .defer c := by
        intro c hc
        rw [hc] at e
        rw [evOp_defer] at e
        exact err_ok e
      simp only [hi, hwn, if_true, Oper.wpIn]
      refine ⟨fun _ _ => trivial, ?_⟩
      rw [show (Fc q).round = q from rfl, Oper.semAt_eq q a.eval o hnd]
      rcases evOp_sound hor hc hy (evRel_act ht mo.glob) o W hE n h l v n' h' l' w e mo with ⟨x, w', hg, h1 | ⟨rfl, h1⟩⟩ | ⟨f, args, h1, h2⟩ | ⟨b, f, tmps, asg, body, h1, h2⟩
      · rw [h1]; exact hK x w' hg
      · rw [h1]; exact hK _ w' hg
      · rw [h1]
        refine ⟨fun h => (by cases h), ?_⟩
        have h3 : CallsIn Fence.wide 0 P f args w (GotE W ρ v h') := callsIn_wide.2 h2
        have h4 : CallsIn (Fc q) 0 P f args w (GotE W ρ v h') := h3
        refine h4.mono ?_
        rintro e w' ⟨x, rfl, hg⟩
        exact hK x w' hg
      · rw [h1]
        refine ⟨fun h => (by cases h), ?_⟩
        have h4 : RoundIn (Fc q) 0 P b f tmps asg body w (GotE W ρ v h') := h2
        refine h4.mono ?_
        rintro e w' ⟨x, rfl, hg⟩
        exact hK x w' hg

theorem opsA_sound (hor : OrcOK E P ∧ CntOK E P) (hc : SoundCall E P rec) (hy : SoundYield E P rec) {q : Option Nat} {Q : Exit → Act → World → Prop} {ops : Array Oper} {W : World} (hE : E W) : ∀ (L : List Oper) (i : Nat) {ρ : Ren} {a : Act} {tm tm' : Tm} {w : World} {n n' : Nat} {h h' : Heap} {l l' : Log},
    (∀ j o, L[j]? = some o → ops[i + j]? = some o) → TR ρ tm a.tmps → opsA P rec ops L tm n h l = .ok tm' n' h' l' → Mo W ρ h w →
    (∀ ρ' a' w', Ext ρ ρ' → TR ρ' tm' a'.tmps → a'.defers = a.defers → Mo W ρ' h' w' → Q .normal a' w') → wpOpsIn (Fc q) 0 P ops Q (List.range' i L.length) a w
  | [], i, ρ, a, tm, tm', w, n, n', h, h', l, l', ho, ht, e, mo, hQ => by
    rw [opsA_nil] at e
    obtain ⟨rfl, rfl, rfl, rfl⟩ := ret_ok e
    exact hQ ρ a w (Ext.refl _) ht rfl mo
  | o :: L, i, ρ, a, tm, tm', w, n, n', h, h', l, l', ho, ht, e, mo, hQ => by
    rw [opsA_cons] at e
    obtain ⟨tm1, n1, h1, l1, e1, e2⟩ := bind_ok e
    obtain ⟨v, e3, rfl⟩ := stepA_ok e1
    simp only [List.length_cons, List.range'_succ]
    rw [wpOpsIn_cons]
    refine stepV_sound hor hc hy (ho 0 o rfl) ht e3 hE mo fun x w' hg => ?_
    obtain ⟨ρ1, k1, k2, k3⟩ := hg
    refine opsA_sound hor hc hy hE L (i + 1) (fun j o hj => by have := ho (j + 1) o (by simpa using hj); rwa [show i + (j + 1) = i + 1 + j by omega] at this) (put_VRL o.dst (TR.mono k1 ht) k2) e2 k3 fun ρ' a' w'' g1 g2 g3 g4 => ?_
    exact hQ ρ' a' w'' (k1.trans g1) g2 (g3.trans (put_defers _ _ _)) g4
theorem region_sound (hor : OrcOK E P ∧ CntOK E P) (hc : SoundCall E P rec) (hy : SoundYield E P rec) {q : Option Nat} {Q : Exit → Act → World → Prop} {ops : Array Oper} {id : Nat} {W : World} {a : Act} {tm tm' : Tm} {w : World} {n n' : Nat} {h h' : Heap} {l l' : Log}
    (ht : TR ρ tm a.tmps) (e : opsA P rec ops ops.toList tm n h l = .ok tm' n' h' l') (hE : E W) (mo : Mo W ρ h w)
    (hQ : ∀ ρ' a' w', Ext ρ ρ' → TR ρ' tm' a'.tmps → a'.defers = a.defers → Mo W ρ' h' w' → Q .normal a' w') : (Code.region id ops false).wpIn (Fc q) 0 P Q a w := by
  refine wpIn_region ?_
  have := opsA_sound hor hc hy hE (q := q) (Q := Q) (ops := ops) ops.toList 0 (fun j o hj => by simpa using hj) ht e mo hQ
  rw [List.range_eq_range']
  simpa using this

/-! ### Any order -/
theorem marks_tr {ops : Array Oper} : ∀ (L : List Oper) (tm : Tm) (ms : List Mk) (n : Nat) (h : Heap) (l : Log) (tm' : Tm) (ms' : List Mk) (n' : Nat) (h' : Heap) (l' : Log), marksA P rec ops L tm ms n h l = .ok (tm', ms') n' h' l' →
    ∃ (T : Nat → Tm) (N : Nat → Nat) (H : Nat → Heap) (D : Nat → Log), T 0 = tm ∧ N 0 = n ∧ H 0 = h ∧ T L.length = tm' ∧ H L.length = h' ∧ (∀ i, i < ms.length → ms'[i]? = ms[i]?) ∧ (∀ i, i < L.length → ms'[ms.length + i]? = some (D i, N i, N (i + 1))) ∧
      ∀ i o, L[i]? = some o → ∃ v, stepV P rec ops o (T i) (N i) (H i) [] = .ok v (N (i + 1)) (H (i + 1)) (D i) ∧ T (i + 1) = putA (T i) o.dst v
  | [], tm, ms, n, h, l, tm', ms', n', h', l', e => by
    simp only [marksA] at e
    obtain ⟨e1, rfl, rfl, rfl⟩ := ret_ok e
    simp only [Prod.mk.injEq] at e1
    obtain ⟨rfl, rfl⟩ := e1
    exact ⟨fun _ => tm, fun _ => n, fun _ => h, fun _ => [], rfl, rfl, rfl, rfl, rfl, fun _ _ => rfl, fun i hi => by simp at hi, fun i o hi => by simp at hi⟩
  | o :: L, tm, ms, n, h, l, tm', ms', n', h', l', e => by
    simp only [marksA] at e
    obtain ⟨⟨tm1, mk⟩, n1, h1, l1, e1, e2⟩ := bind_ok e
    simp only [traced] at e1
    cases e3 : stepA P rec ops o tm n h [] with
    | fail => rw [e3] at e1; cases e1
    | ok x n2 h2 d =>
      rw [e3] at e1
      simp only [R.ok.injEq, Prod.mk.injEq] at e1
      obtain ⟨⟨rfl, rfl⟩, rfl, rfl, rfl⟩ := e1
      obtain ⟨v, e4, e5⟩ := stepA_ok e3
      obtain ⟨T, N, H, D, hT, hN, hH, hT', hH', hm1, hm2, hs⟩ := marks_tr L _ _ _ _ _ _ _ _ _ _ e2
      refine ⟨fun i => match i with | 0 => tm | i + 1 => T i, fun i => match i with | 0 => n | i + 1 => N i, fun i => match i with | 0 => h | i + 1 => H i, fun i => match i with | 0 => d | i + 1 => D i,
        rfl, rfl, rfl, hT', hH', fun i hi => ?_, fun i hi => ?_, fun i o' hi => ?_⟩
      · rw [hm1 i (by simp; omega), List.getElem?_append_left hi]
      · cases i with
        | zero =>
          rw [Nat.add_zero, hm1 _ (by simp)]
          simp [hN]
        | succ i =>
          have := hm2 i (by simpa using hi)
          simp only [List.length_append, List.length_cons, List.length_nil] at this
          rw [show ms.length + (i + 1) = ms.length + (0 + 1) + i by omega]
          exact this
      · cases i with
        | zero =>
          simp only [List.getElem?_cons_zero, Option.some.injEq] at hi
          subst hi
          exact ⟨v, by simp only [hN, hH]; exact e4, by simp only [hT]; exact e5⟩
        | succ i => exact hs i o' (by simpa using hi)

theorem apart_heap {x y : Mk} (hc : clash x y = false) (hi : inside x y = false) (fx : formW x = false) (fy : formW y = false) (ho : x.2.2 ≤ y.2.1) (b j : Nat) :
    ¬ (Write x.1 x.2.1 x.2.2 b j ∧ Touch y.1 y.2.1 y.2.2 b j) ∧ ¬ (Touch x.1 x.2.1 x.2.2 b j ∧ Write y.1 y.2.1 y.2.2 b j) := by
  obtain ⟨dx, nx, mx⟩ := x
  obtain ⟨dy, ny, my⟩ := y
  simp only at ho ⊢
  have c1 : ∀ e ∈ dx, ny ≤ e.2.1 → e.2.1 < my → False := by
    intro e he h1 h2
    have := List.any_eq_false.1 hc e he
    simp only [Bool.or_eq_true, not_or, Bool.and_eq_true, Nat.ble_eq, Nat.blt_eq] at this
    exact this.1 ⟨h1, h2⟩
  have c2 : ∀ e ∈ dx, ∀ g ∈ dy, (e.1 = true ∨ g.1 = true) → e.2.1 = g.2.1 → (e.2.2 = 0 ∨ g.2.2 = 0 ∨ e.2.2 = g.2.2) → False := by
    intro e he g hg h1 h2 h3
    have := List.any_eq_false.1 hc e he
    simp only [Bool.or_eq_true, not_or] at this
    have := List.any_eq_false.1 (Bool.not_eq_true _ ▸ this.2) g hg
    simp only [Bool.or_eq_true, Bool.and_eq_true, Nat.beq_eq, not_and, or_assoc] at this
    exact this ⟨h1, h2⟩ h3
  have c3 : ∀ g ∈ dy, nx ≤ g.2.1 → g.2.1 < mx → False := by
    intro g hg h1 h2
    have := List.any_eq_false.1 hi g hg
    simp only [Bool.and_eq_true, Nat.ble_eq, Nat.blt_eq] at this
    exact this ⟨h1, h2⟩
  have f1 : ∀ e ∈ dx, e.1 = true → e.2.2 = 1 → False := by
    intro e he h1 h2
    have := List.any_eq_false.1 fx e he
    simp only [Bool.and_eq_true, Nat.beq_eq] at this
    exact this ⟨h1, h2⟩
  have f2 : ∀ e ∈ dy, e.1 = true → e.2.2 = 1 → False := by
    intro e he h1 h2
    have := List.any_eq_false.1 fy e he
    simp only [Bool.and_eq_true, Nat.beq_eq] at this
    exact this ⟨h1, h2⟩
  constructor
  · rintro ⟨⟨a1, a2⟩ | ⟨e, he, hew, heb, heo⟩, ⟨b1, b2⟩ | ⟨g, hg, hgb, hgo⟩⟩
    · omega
    · exact c3 g hg (by omega) (by omega)
    · exact c1 e he (by omega) (by omega)
    · rcases heo with heo | heo
      · exact c2 e he g hg (.inl hew) (by omega) (.inl heo)
      · rcases hgo with hgo | hgo | hgo
        · exact c2 e he g hg (.inl hew) (by omega) (.inr (.inl hgo))
        · exact f1 e he hew (by omega)
        · exact c2 e he g hg (.inl hew) (by omega) (.inr (.inr (by omega)))
  · rintro ⟨⟨a1, a2⟩ | ⟨e, he, heb, heo⟩, ⟨b1, b2⟩ | ⟨g, hg, hgw, hgb, hgo⟩⟩
    · omega
    · exact c3 g hg (by omega) (by omega)
    · exact c1 e he (by omega) (by omega)
    · rcases hgo with hgo | hgo
      · exact c2 e he g hg (.inr hgw) (by omega) (.inr (.inl hgo))
      · rcases heo with heo | heo | heo
        · exact c2 e he g hg (.inr hgw) (by omega) (.inl heo)
        · exact f2 g hg hgw (by omega)
        · exact c2 e he g hg (.inr hgw) (by omega) (.inr (.inr (by omega)))

/-! what an operation reads -/
theorem evs_congr {ev ev' : Operand → Option AV} : ∀ {l : List Operand}, (∀ x ∈ l, ev x = ev' x) → evs ev l = evs ev' l
  | [], _ => rfl
  | x :: l, h => by
    simp only [evs, h x List.mem_cons_self, evs_congr fun y hy => h y (List.mem_cons_of_mem _ hy)]
theorem evParts_congr {ev ev' : Operand → Option AV} : ∀ {l : List (Nat × Operand)}, (∀ x ∈ l, ev x.2 = ev' x.2) → evParts ev l = evParts ev' l
  | [], _ => rfl
  | x :: l, h => by
    simp only [evParts, h x List.mem_cons_self, evParts_congr fun y hy => h y (List.mem_cons_of_mem _ hy)]
theorem evO_congr {ev ev' : Operand → Option AV} {x : Option Operand} (h : ∀ y, x = some y → ev y = ev' y) : evO ev x = evO ev' x := by
  cases x with
  | none => rfl
  | some x => simp only [evO, h x rfl]
theorem evOp_congr {ev ev' : Operand → Option AV} (op : Op) (h : ∀ x ∈ op.operands, ev x = ev' x) : evOp P rec ev op = evOp P rec ev' op := by
  cases op <;> simp only [Op.operands] at h <;> simp only [evOp_move, evOp_assign, evOp_pick, evOp_alloc, evOp_box, evOp_build, evOp_buildSlice, evOp_insert, evOp_load, evOp_store, evOp_ready, evOp_waits, evOp_nilCheck, evOp_binOp, evOp_unOp, evOp_convert, evOp_sliceToArrayPointer, evOp_makeInterface, evOp_makeFunc, evOp_makeMap, evOp_makeChan, evOp_makeSlice, evOp_slice, evOp_fieldAddr, evOp_field, evOp_indexAddr, evOp_index, evOp_lookup, evOp_mapUpdate, evOp_mapEntry, evOp_entryStore, evOp_range, evOp_next, evOp_entry, evOp_typeAssert, evOp_extract, evOp_call, evOp_go, evOp_defer, evOp_panic, evOp_send, evOp_recv, evOp_select, op_move, op_assign, op_pick, op_alloc, op_box, op_build, op_buildSlice, op_insert, op_load, op_store, op_nilCheck, op_binOp, op_unOp, op_convert, op_makeInterface, op_makeFunc, op_makeMap, op_makeSlice, op_slice, op_fieldAddr, op_field, op_indexAddr, op_index, op_lookup, op_mapUpdate, op_range, op_next, op_entry, op_extract, op_call]
  case build t ps => rw [evParts_congr fun x hx => h x.2 (by simp; exact ⟨x.1, by simpa using hx⟩)]
  case buildSlice t n ps => rw [evParts_congr fun x hx => h x.2 (by simp; exact ⟨x.1, by simpa using hx⟩)]
  case makeFunc fn first captured =>
    cases fn <;> simp only
    rw [evs_congr fun x hx => h _ (by simp at hx ⊢; exact .inl hx), evs_congr fun x hx => h _ (by simp at hx ⊢; exact .inr hx)]
  case makeMap t r => cases r <;> simp_all
  case next x q => cases q <;> simp_all
  case slice t x lo hi mx =>
    rw [h x (by simp), evO_congr (x := lo) fun y hy => h y (by simp [hy]), evO_congr (x := hi) fun y hy => h y (by simp [hy]), evO_congr (x := mx) fun y hy => h y (by simp [hy])]
  case call c =>
    obtain ⟨callee, aas, ts⟩ := c
    cases callee <;> simp only [Call.operands] at h ⊢
    · rw [h _ (by simp), evs_congr fun x hx => h _ (by simp at hx ⊢; exact .inr hx)]
    · rw [evs_congr fun x hx => h _ (by simp at hx ⊢; exact hx)]
  all_goals (first | rfl | (simp_all; done))
theorem wantedA_congr {ops : Array Oper} {o : Oper} {tm tm' : Tm} (h : ∀ t ∈ o.looksAt ops, nth tm t = nth tm' t) : wantedA ops tm o = wantedA ops tm' o := by
  unfold wantedA
  cases hg : o.guard with
  | none => rfl
  | some g =>
    obtain ⟨j, want⟩ := g
    simp only
    cases ho : (ops[j]?).bind (·.dst) with
    | none => rfl
    | some t =>
      have : nth tm t = nth tm' t := h t (by simp [Oper.looksAt, hg, ho])
      simp only [this]
theorem stepV_congr {ops : Array Oper} {o : Oper} {tm tm' : Tm} (h : ∀ t ∈ o.looksAt ops, nth tm t = nth tm' t) : stepV P rec ops o tm = stepV P rec ops o tm' := by
  unfold stepV
  rw [wantedA_congr h, evOp_congr (ev := evA tm) (ev' := evA tm') o.op fun x hx => ?_]
  cases x with
  | tmp t =>
    simp only [evA]
    rw [h t (List.mem_append_left _ (List.mem_filterMap.2 ⟨.tmp t, by simpa using hx, rfl⟩))]
  | const v => rfl
  | global g => rfl
  | func f => rfl

theorem putA_n (m : Tm) (d : Option Nat) (x : AV) : (putA m d x).n = m.n := by cases d <;> simp [putA, put_n]
theorem putA_nth {m : Tm} (h : m.n ≤ 4000) (d : Option Nat) (x : AV) (k : Nat) : nth (putA m d x) k = if d = some k ∧ k < m.n then x else nth m k := by
  cases d with
  | none => simp [putA]
  | some d =>
    simp only [putA]
    rw [nth_put h]
    by_cases e : k = d
    · subst e; simp
    · have : ¬ d = k := fun q => e q.symm
      simp [e, this]

/-- a world's memory does not hang on how the names are kept -/
theorem Mo.congr {W w : World} {h h' : Heap} (m : Mo W ρ h w) (e : ∀ b, h.get b = h'.get b) : Mo W ρ h' w where
  below := m.below
  dom b := by rw [← e b]; exact m.dom b
  blk b x l h1 h2 := m.blk b x l (by rw [e b]; exact h1) h2
  inj b c x y l k h1 h2 := m.inj b c x y l k (by rw [e b]; exact h1) (by rw [e c]; exact h2)
  new b x l h1 := m.new b x l (by rw [e b]; exact h1)
  glob := m.glob
end

/-- keys: a temporary, or a place in the memory -/
abbrev Key := Sum Nat (Nat × Nat)
abbrev St := Tm × Heap
noncomputable def VS (s : St) : Key → Sum AV (Option AX)
  | .inl t => .inl (nth s.1 t)
  | .inr (b, j) => .inr (view s.2 b j)
section
variable {E : World → Prop} {P : Program} {rec : Rec} (ops : Array Oper) (N : Nat → Nat) (D : Nat → Log)
def tchK (i : Nat) : Key → Prop
  | .inl t => ∃ o, ops[i]? = some o ∧ (t ∈ o.looksAt ops ∨ o.dst = some t)
  | .inr (b, j) => Touch (D i) (N i) (N (i + 1)) b j
def wrtK (i : Nat) : Key → Prop
  | .inl t => ∃ o, ops[i]? = some o ∧ o.dst = some t
  | .inr (b, j) => Write (D i) (N i) (N (i + 1)) b j
variable {ops N D}
theorem wrtK.tch {i : Nat} {k : Key} (h : wrtK ops N D i k) : tchK ops N D i k := by
  cases k with
  | inl t => obtain ⟨o, h1, h2⟩ := h; exact ⟨o, h1, .inr h2⟩
  | inr p => obtain ⟨b, j⟩ := p; exact Write.touch h

/-- the run from first to last -/
structure Tr (P : Program) (rec : Rec) (ops : Array Oper) (T : Nat → Tm) (N : Nat → Nat) (H : Nat → Heap) (D : Nat → Log) : Prop where
  step : ∀ i o, ops[i]? = some o → ∃ v, stepV P rec ops o (T i) (N i) (H i) [] = .ok v (N (i + 1)) (H (i + 1)) (D i) ∧ T (i + 1) = putA (T i) o.dst v
  loc : ∀ r c tm ds, Local (rec r c tm ds)
  ordered : orderedB ops = true
  apart : ∀ i j x y, i < j → ops[i]? = some x → ops[j]? = some y → ¬ ahead ops i j → x.apart ops y = true
  clear : ∀ i j, i < j → j < ops.size → ¬ ahead ops i j → clash (D i, N i, N (i + 1)) (D j, N j, N (j + 1)) = false ∧ inside (D i, N i, N (i + 1)) (D j, N j, N (j + 1)) = false
  small : (T 0).n ≤ 4000
  top : ∀ k, (T 0).n ≤ k → nth (T 0) k = undefA
  forms : ∀ i, i < ops.size → formW (D i, N i, N (i + 1)) = false

variable {T : Nat → Tm} {H : Nat → Heap} (tr : Tr P rec ops T N H D)
include tr
theorem Tr.local (i : Nat) (hi : i < ops.size) : ∃ v, stepV P rec ops ops[i] (T i) (N i) (H i) [] = .ok v (N (i + 1)) (H (i + 1)) (D i) ∧ T (i + 1) = putA (T i) ops[i].dst v ∧
    LocalAt (stepV P rec ops ops[i] (T i)) (N i) (H i) (D i) v (N (i + 1)) (H (i + 1)) := by
  obtain ⟨v, h1, h2⟩ := tr.step i ops[i] (by simp [hi])
  obtain ⟨d, h3, h4⟩ := Local.stepV (P := P) tr.loc ops ops[i] (T i) _ _ _ _ _ _ _ h1
  rw [List.append_nil] at h3
  subst h3
  exact ⟨v, h1, h2, h4⟩
theorem Tr.mono {i j : Nat} (h : i ≤ j) (hj : j ≤ ops.size) : N i ≤ N j := by
  induction j with
  | zero => obtain rfl : i = 0 := by omega
            exact Nat.le_refl _
  | succ j ih =>
    by_cases e : i = j + 1
    · subst e; exact Nat.le_refl _
    · obtain ⟨v, _, _, h1⟩ := tr.local j (by omega)
      exact Nat.le_trans (ih (by omega) (by omega)) h1.1
theorem Tr.length (i : Nat) (hi : i ≤ ops.size) : (T i).n = (T 0).n := by
  induction i with
  | zero => rfl
  | succ i ih =>
    obtain ⟨v, _, h2, _⟩ := tr.local i (by omega)
    rw [h2, putA_n, ih (by omega)]
theorem Tr.high (i : Nat) (hi : i ≤ ops.size) (k : Nat) (hk : (T 0).n ≤ k) : nth (T i) k = undefA := by
  induction i with
  | zero => exact tr.top k hk
  | succ i ih =>
    obtain ⟨v, _, h2, _⟩ := tr.local i (by omega)
    have hl := tr.length i (by omega)
    rw [h2, putA_nth (by rw [hl]; exact tr.small), if_neg (fun q => by rw [hl] at q; omega), ih (by omega)]
theorem Tr.H3 (i : Nat) (hi : i < ops.size) (k : Key) (hk : ¬ wrtK ops N D i k) : VS (T (i + 1), H (i + 1)) k = VS (T i, H i) k := by
  obtain ⟨v, _, h2, _, h3, _⟩ := tr.local i hi
  cases k with
  | inl t =>
    simp only [VS, h2]
    rw [putA_nth (by rw [tr.length i (by omega)]; exact tr.small), if_neg (fun q => hk ⟨ops[i], by simp [hi], q.1⟩)]
  | inr p =>
    obtain ⟨b, j⟩ := p
    simp only [VS]
    rw [h3 b j hk]
theorem Tr.H4 (i j : Nat) (hij : i < j) (hj : j < ops.size) (hn : ¬ ahead ops i j) (k : Key) : ¬ (wrtK ops N D i k ∧ tchK ops N D j k) ∧ ¬ (tchK ops N D i k ∧ wrtK ops N D j k) := by
  cases k with
  | inl t =>
    have hi' : ops[i]? = some ops[i] := by simp
    have hj' : ops[j]? = some ops[j] := by simp [hj]
    obtain ⟨a1, a2, a3⟩ := Oper.apart_spec (tr.apart i j _ _ hij hi' hj' hn)
    constructor
    · rintro ⟨⟨x, hx, hxd⟩, ⟨y, hy, hyt⟩⟩
      rw [hi'] at hx; cases hx
      rw [hj'] at hy; cases hy
      rcases hyt with hyt | hyt
      · exact a1 t hxd hyt
      · exact a2 t hxd hyt
    · rintro ⟨⟨x, hx, hxt⟩, ⟨y, hy, hyd⟩⟩
      rw [hi'] at hx; cases hx
      rw [hj'] at hy; cases hy
      rcases hxt with hxt | hxt
      · exact a3 t hyd hxt
      · exact a2 t hxt hyd
  | inr p =>
    obtain ⟨b, q⟩ := p
    obtain ⟨c1, c2⟩ := tr.clear i j hij hj hn
    exact apart_heap c1 c2 (tr.forms i (by omega)) (tr.forms j hj) (tr.mono hij (by omega)) b q
omit tr

/-- what has been reached when some of the operations are done -/
def Inv (W : World) (ρ : Ren) (ops : Array Oper) (T : Nat → Tm) (N : Nat → Nat) (H : Nat → Heap) (D : Nat → Log) (ds : List Deferred) (listed : Array Bool) (a : Act) (w : World) : Prop :=
  ∃ ρ' tmL hL, Ext ρ ρ' ∧ TR ρ' tmL a.tmps ∧ a.defers = ds ∧ Mo W ρ' hL w ∧ tmL.n = (T 0).n ∧
    Seen VS ops.size (fun i => (T i, H i)) (wrtK ops N D) (fun i => listed.getD i false = true) (tmL, hL) ∧ listed.size = ops.size ∧ Closed ops (fun i => listed.getD i false = true)

theorem listed_of {listed : Array Bool} (hs : listed.size = ops.size) (ho : orderedB ops = true) (hr : Region.ready .any ops listed = []) : ∀ i, i < ops.size → listed.getD i false = true := by
  intro i
  induction i using Nat.strongRecOn with
  | _ i ih =>
    intro hi
    apply Classical.byContradiction
    intro hn
    have hli : i < listed.size := by omega
    have hmem : i ∈ Region.ready .any ops listed := by
      rw [mem_ready]
      refine ⟨?_, ops[i], by simp [hi], fun e he hb => ?_⟩
      · simp [hli] at hn ⊢
        exact hn
      · have h1 := List.all_eq_true.1 ho i (List.mem_range.2 hi)
        have h0 : ops[i]? = some ops[i] := by simp [hi]
        simp only [h0] at h1
        have h2 := List.all_eq_true.1 h1 e (by simpa using he)
        simp only [Bool.or_eq_true, Bool.not_eq_true', Nat.blt_eq] at h2
        have hlt : e.on < i := h2.resolve_left (by simp [hb])
        exact ih e.on hlt (by omega)
    rw [hr] at hmem
    cases hmem

theorem any_sound (hor : OrcOK E P ∧ CntOK E P) (hc : SoundCall E P rec) (hy : SoundYield E P rec) (tr : Tr P rec ops T N H D) {W : World} (hE : E W) {ρ : Ren} {q : Option Nat} {Q : Exit → Act → World → Prop} {ds : List Deferred}
    (hQ : ∀ ρ' a' w', Ext ρ ρ' → TR ρ' (T ops.size) a'.tmps → a'.defers = ds → Mo W ρ' (H ops.size) w' → Q .normal a' w') :
    ∀ (fuel : Nat) (listed : Array Bool) (a : Act) (w : World), Inv W ρ ops T N H D ds listed a w → listed.toList.count false ≤ fuel → wpAnyIn (Fc q) 0 P .any ops Q fuel listed a w := by
  have fin : ∀ (listed : Array Bool) (a : Act) (w : World), Inv W ρ ops T N H D ds listed a w → (∀ i, i < ops.size → listed.getD i false = true) → Q .normal a w := by
    rintro listed a w ⟨ρ', tmL, hL, h1, h2, h3, h4, h5, h6, h7, h8⟩ hall
    have hv := fun k => h6.final hall k
    have e1 : ∀ t, nth (T ops.size) t = nth tmL t := fun t => by
      have := hv (.inl t)
      simpa [VS] using this.symm
    have e2 : ∀ b, hL.get b = (H ops.size).get b := fun b => view_ext fun j => by
      have := hv (.inr (b, j))
      simpa [VS] using this
    exact hQ ρ' a w h1 (h2.same ((tr.length ops.size (Nat.le_refl _)).trans h5.symm) e1) h3 (h4.congr e2)
  intro fuel
  induction fuel with
  | zero =>
    intro listed a w hI hcnt
    have hall : ∀ i, i < ops.size → listed.getD i false = true := by
      obtain ⟨ρ', tmL, hL, h1, h2, h3, h4, h5, h6, h7, h8⟩ := hI
      intro i hi
      have h0 : listed.toList.count false = 0 := by omega
      have hnm := List.count_eq_zero.1 h0
      have hli : i < listed.size := by omega
      cases hb : listed[i] with
      | true => simp [hli, hb]
      | false =>
        exfalso
        apply hnm
        rw [← hb]
        simp
    refine ⟨?_, fin listed a w hI hall⟩
    rw [List.eq_nil_iff_forall_not_mem]
    intro i hi
    rw [mem_ready] at hi
    obtain ⟨h1, o, ho, _⟩ := hi
    have hlt : i < ops.size := (Array.getElem?_eq_some_iff.1 ho).1
    have := hall i hlt
    rw [Array.getD_eq_getD_getElem?] at h1 this
    cases hx : listed[i]? with
    | none => rw [hx] at this; cases this
    | some b => rw [hx] at this h1; simp at this h1; rw [this] at h1; cases h1
  | succ fuel ih =>
    intro listed a w hI hcnt
    refine ⟨fun hr => ?_, fun i hi => ?_⟩
    · obtain ⟨ρ', tmL, hL, h1, h2, h3, h4, h5, h6, h7, h8⟩ := hI
      exact fin listed a w ⟨ρ', tmL, hL, h1, h2, h3, h4, h5, h6, h7, h8⟩ (listed_of h7 tr.ordered hr)
    · obtain ⟨ρ', tmL, hL, h1, h2, h3, h4, h5, h6, h7, h8⟩ := hI
      rw [mem_ready] at hi
      obtain ⟨g1, o, ho, g2⟩ := hi
      have hlt : i < ops.size := (Array.getElem?_eq_some_iff.1 ho).1
      have hli : i < listed.size := by omega
      have hfalse : listed[i] = false := by simpa [hli] using g1
      have hnL : ¬ (listed.getD i false = true) := by simp [hli, hfalse]
      have hoi : ops[i] = o := by
        have := (Array.getElem?_eq_some_iff.1 ho).2
        exact this
      obtain ⟨v, e1, e2, e3⟩ := tr.local i hlt
      rw [hoi] at e1 e2 e3
      have hb : ∀ j, j < ops.size → ahead ops j i → listed.getD j false = true := fun j hj ha => ahead_closed h8 i j o ho g2 ha
      have ha : ∀ j, j < ops.size → ahead ops i j → ¬ (listed.getD j false = true) := fun j hj ha hL => by
        refine hnL (ahead_closed h8 j i ops[j] (by simp [hj]) (fun e he hb => h8 j ops[j] (by simp [hj]) hL e he hb) ha)
      have hat := fun k ht => h6.at (tch := tchK ops N D) (bef := ahead ops) hlt hnL hb ha (fun i k h => wrtK.tch h) tr.H4 k ht
      have hcong : stepV P rec ops o tmL = stepV P rec ops o (T i) := stepV_congr fun t ht => by
        have := hat (.inl t) ⟨o, ho, .inl ht⟩
        simpa [VS] using this
      obtain ⟨hL', f1, f2, f3⟩ := e3.2.2 hL [] (fun b j ht => by
        have := hat (.inr (b, j)) ht
        simpa [VS] using this)
      rw [← hcong] at f1
      refine stepV_sound hor hc hy ho h2 f1 hE h4 fun x w' hg => ?_
      obtain ⟨ρ'', k1, k2, k3⟩ := hg
      refine ih _ _ _ ⟨ρ'', putA tmL o.dst v, hL', h1.trans k1, put_VRL o.dst (TR.mono k1 h2) k2, (put_defers _ _ _).trans h3, k3, by rw [putA_n, h5], ?_, by simp [h7], ?_⟩ ?_
      · have hst := h6.step (y := (putA tmL o.dst v, hL')) (tch := tchK ops N D) (bef := ahead ops) hlt hnL hb ha (fun i k h => wrtK.tch h) tr.H3 tr.H4 (fun k hk => ?_) (fun k hk => ?_)
        · have hfun : (fun j => listed.getD j false = true ∨ j = i) = fun j => (listed.setIfInBounds i true).getD j false = true := by
            funext j
            apply propext
            by_cases hji : j = i
            · subst hji; simp [hli]
            · rw [getD_set_ne false (Ne.symm hji)]
              simp [hji]
          rw [← hfun]
          exact hst
        · cases k with
          | inl t =>
            obtain ⟨o', ho', hd⟩ := hk
            rw [ho] at ho'; cases ho'
            have hn : tmL.n = (T i).n := h5.trans (tr.length i (by omega)).symm
            simp only [VS, e2]
            rw [putA_nth h2.2.1, putA_nth (by rw [tr.length i (by omega)]; exact tr.small), hn]
            by_cases q : o.dst = some t ∧ t < (T i).n
            · rw [if_pos q, if_pos q]
            · rw [if_neg q, if_neg q]
              have hge : (T i).n ≤ t := Nat.le_of_not_lt fun hh => q ⟨hd, hh⟩
              rw [h2.high t (by omega), tr.high i (by omega) t (by rw [← tr.length i (by omega)]; exact hge)]
          | inr p =>
            obtain ⟨b, j⟩ := p
            simp only [VS]
            rw [f2 b j hk]
        · cases k with
          | inl t =>
            simp only [VS]
            rw [putA_nth h2.2.1, if_neg (fun q => hk ⟨o, ho, q.1⟩)]
          | inr p =>
            obtain ⟨b, j⟩ := p
            simp only [VS]
            rw [f3 b j hk]
      · intro j o' ho' hj e he hbd
        by_cases hji : j = i
        · subst hji
          rw [ho] at ho'; cases ho'
          exact getD_set_true (g2 e he hbd)
        · rw [getD_set_ne false (Ne.symm hji)] at hj
          exact getD_set_true (h8 j o' ho' hj e he hbd)
      · rw [Array.toList_setIfInBounds, List.count_set (by simpa using hli)]
        have : listed.toList[i]'(by simpa using hli) = false := by simpa using hfalse
        rw [this]
        have h9 : (false == false) = true := rfl
        have h10 : (true == false) = false := rfl
        simp only [h9, h10, if_true, Bool.false_eq_true, if_false]
        omega

theorem noneB_spec {x : Mk} (h : noneB x = true) : x.1 = [] ∧ x.2.1 = x.2.2 := by
  unfold noneB at h
  split at h
  · rename_i e
    exact ⟨e, Nat.eq_of_beq_eq_true h⟩
  · cases h
theorem quiet_left {x y : Mk} (h : noneB x = true) : clash x y = false ∧ inside x y = false := by
  obtain ⟨h1, h2⟩ := noneB_spec h
  refine ⟨by simp [clash, h1], ?_⟩
  simp only [inside, h2]
  rw [List.any_eq_false]
  intro e _ hq
  simp only [Bool.and_eq_true, Nat.ble_eq, Nat.blt_eq] at hq
  omega
theorem quiet_right {x y : Mk} (h : noneB y = true) : clash x y = false ∧ inside x y = false := by
  obtain ⟨h1, h2⟩ := noneB_spec h
  refine ⟨?_, by simp [inside, h1]⟩
  simp only [clash, h1, h2, List.any_nil, Bool.or_false]
  rw [List.any_eq_false]
  intro e _ hq
  simp only [Bool.and_eq_true, Nat.ble_eq, Nat.blt_eq] at hq
  omega
theorem quiet_reads {x y : Mk} (h : readsB x = true) (k : readsB y = true) : clash x y = false ∧ inside x y = false := by
  unfold readsB at h k
  simp only [Bool.and_eq_true, Nat.beq_eq, List.all_eq_true, Bool.not_eq_true'] at h k
  constructor
  · unfold clash
    rw [List.any_eq_false]
    intro e he hq
    simp only [Bool.or_eq_true, Bool.and_eq_true, Nat.ble_eq, Nat.blt_eq, List.any_eq_true] at hq
    rcases hq with hq | ⟨g, hg, ⟨⟨hq, _⟩, _⟩⟩
    · have := k.1
      omega
    · rcases hq with hq | hq
      · rw [h.2 e he] at hq; cases hq
      · rw [k.2 g hg] at hq; cases hq
  · unfold inside
    rw [List.any_eq_false]
    intro e _ hq
    simp only [Bool.and_eq_true, Nat.ble_eq, Nat.blt_eq] at hq
    have := h.1
    omega
theorem few_pair : ∀ {ms : List Mk} {i j : Nat} {x y : Mk}, fewB ms = true → i < j → ms[i]? = some x → ms[j]? = some y → noneB x = true ∨ noneB y = true
  | [], i, j, x, y, _, _, h, _ => by simp at h
  | m :: ms, i, j, x, y, hf, hij, hx, hy => by
    simp only [fewB] at hf
    cases j with
    | zero => omega
    | succ j =>
      simp only [List.getElem?_cons_succ] at hy
      split at hf
      · rename_i hm
        cases i with
        | zero =>
          simp only [List.getElem?_cons_zero, Option.some.injEq] at hx
          exact .inl (hx ▸ hm)
        | succ i =>
          simp only [List.getElem?_cons_succ] at hx
          exact few_pair hf (by omega) hx hy
      · exact .inr (List.all_eq_true.1 hf y (List.mem_of_getElem? hy))
theorem draw_sound (hor : OrcOK E P ∧ CntOK E P) (hc : SoundCall E P rec) (hy : SoundYield E P rec) (hl : ∀ r c tm ds, Local (rec r c tm ds)) (hm : P.follows .mixedOrders = true) {W : World} {ρ : Ren} {q : Option Nat} {Q : Exit → Act → World → Prop} {id : Nat} {a : Act} {tm tm' : Tm} {w : World} {n n' : Nat} {h h' : Heap} {l l' : Log}
    (ht : TR ρ tm a.tmps) (e : drawA P rec ops tm n h l = .ok tm' n' h' l') (hE : E W) (mo : Mo W ρ h w)
    (hQ : ∀ ρ' a' w', Ext ρ ρ' → TR ρ' tm' a'.tmps → a'.defers = a.defers → Mo W ρ' h' w' → Q .normal a' w') : (Code.region id ops true).wpIn (Fc q) 0 P Q a w := by
  refine wpIn_region_any hm ?_
  unfold drawA at e
  cases hap : apartAll ops with
  | false => simp only [hap] at e; exact (err_ok e).elim
  | true =>
    simp only [hap] at e
    obtain ⟨⟨tm1, ms⟩, n1, h1, l1, e1, e2⟩ := bind_ok e
    cases hw : wrongQ ops ms with
    | true => simp only [hw] at e2; exact (err_ok e2).elim
    | false =>
      simp only [hw] at e2
      obtain ⟨rfl, rfl, rfl, rfl⟩ := ret_ok e2
      obtain ⟨T, N, H, D, hT, hN, hH, hT', hH', hm1, hm2, hs⟩ := marks_tr _ _ _ _ _ _ _ _ _ _ _ e1
      simp only [Array.length_toList, List.length_nil, Nat.zero_add] at hT' hH' hm2
      unfold apartAll at hap
      simp only [Bool.and_eq_true] at hap
      obtain ⟨⟨_, ho⟩, hp⟩ := hap
      have hpair : ms.any formW = false ∧ ∀ i j, i < j → j < ops.size → ¬ ahead ops i j → clash (D i, N i, N (i + 1)) (D j, N j, N (j + 1)) = false ∧ inside (D i, N i, N (i + 1)) (D j, N j, N (j + 1)) = false := by
        unfold wrongQ at hw
        split at hw
        · rename_i hq
          refine ⟨hw, fun i j hij hj _ => ?_⟩
          have hx := hm2 i (by omega)
          have hy' := hm2 j hj
          simp only [Bool.or_eq_true] at hq
          rcases hq with hq | hq
          · rcases few_pair hq hij hx hy' with h | h
            · exact quiet_left h
            · exact quiet_right h
          · exact quiet_reads (List.all_eq_true.1 hq _ (List.mem_of_getElem? hx)) (List.all_eq_true.1 hq _ (List.mem_of_getElem? hy'))
        · unfold wrong at hw
          simp only [Bool.or_eq_false_iff] at hw
          obtain ⟨hf, hw⟩ := hw
          refine ⟨hf, fun i j hij hj hn => ?_⟩
          have := List.any_eq_false.1 hw (i, j) (mem_pairs.2 ⟨hij, hj, hn⟩)
          simp only [hm2 i (by omega), hm2 j hj, Bool.or_eq_true, not_or, Bool.not_eq_true] at this
          exact this
      obtain ⟨hf, hw'⟩ := hpair
      have tr : Tr P rec ops T N H D := by
        refine ⟨fun i o hi => hs i o (by simpa using hi), hl, ho, fun i j x y hij hx hy hn => ?_, fun i j hij hj hn => ?_, by rw [hT]; exact ht.2.1, fun k hk => by rw [hT] at hk ⊢; exact ht.high k hk, fun i hi => ?_⟩
        · have hlt : j < ops.size := (Array.getElem?_eq_some_iff.1 hy).1
          have := List.all_eq_true.1 hp (i, j) (mem_pairs.2 ⟨hij, hlt, hn⟩)
          simpa only [hx, hy] using this
        · exact hw' i j hij hj hn
        · have := List.any_eq_false.1 hf (D i, N i, N (i + 1)) (List.mem_of_getElem? (hm2 i hi))
          simpa using this
      have hrep : ∀ i, (Array.replicate ops.size false).getD i false = false := by
        intro i
        rw [Array.getD_eq_getD_getElem?, Array.getElem?_replicate]
        split <;> rfl
      rw [← hT'] at hQ
      rw [← hH'] at hQ
      refine any_sound hor hc hy tr hE (ρ := ρ) (W := W) (ds := a.defers) hQ ops.size _ a _ ⟨ρ, T 0, H 0, Ext.refl _, hT ▸ ht, rfl, hH ▸ mo.drew, rfl, ?_, by simp, ?_⟩ ?_
      · have hfun : (fun i => (Array.replicate ops.size false).getD i false = true) = fun _ => False := by
          funext i
          rw [hrep i]
          simp
        rw [hfun]
        exact Seen.begin _ (fun k => rfl) tr.H3
      · intro j o ho hj
        rw [hrep j] at hj
        cases hj
      · simp
end
end Ev
end Go.Proofs.YtacjgphfcailmaaGreatDoor
