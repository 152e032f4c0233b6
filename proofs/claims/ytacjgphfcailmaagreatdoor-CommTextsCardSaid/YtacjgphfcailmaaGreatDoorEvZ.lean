/-
  The same, with what is asked of the operations found by looking.
-/
import Derived.Test.YtacjgphfcailmaaGreatDoorEvV
namespace Go.Proofs.YtacjgphfcailmaaGreatDoor
open Go.RowKit
namespace Ev
set_option linter.unusedVariables false
set_option linter.unusedSimpArgs false

/-- what the types must be: the map's, its key's, its element's -/
structure CKeyT (P : Program) (t kt it : Nat) (fs : Array Field) : Prop where
  map : P.underlying t = some (.map kt it)
  key : P.underlying kt = some (.struct fs)
  zero : ∀ w, (zeroValue it).run P w = .ok (.int .i64 0) w
  held : P.stoodInHeld kt = false
  same : ∀ (x y : Int) (n v : Nat) (x' y' : Int) (n' v' : Nat), sameF P fs.toList 0 [.int .i64 x, .int .i64 y, .str n v, .int .i64 0] [.int .i64 x', .int .i64 y', .str n' v', .int .i64 0] =
    some ((x == x') && ((y == y') && ((Nat.beq n n' && Nat.beq (v % 256 ^ n) (v' % 256 ^ n')) && true)))
  chk : ∀ (em : Bool) (x y : Int) (s : ByteArray) (w : World), (Instr.checkKey em 10000 kt (cKey x y s)).run P w = .ok () w

theorem str_of (s : ByteArray) : ∃ n v, s = ⟨(strOf n v).toArray⟩ := by
  have h : VR ρ0 (.str s.data.toList.length (numOf s.data.toList)) (.string s) := vr_str s
  simp only [VR, Value.string.injEq] at h
  exact ⟨_, _, h⟩
theorem same_cKey (x y : Int) (s : ByteArray) : Instr.sameBits 10000 (cKey x y s) (cKey x y s) = true := by
  show Instr.sameBits (9999 + 1) (.agg _) (.agg _) = true
  generalize 9999 = n
  simp [Instr.sameBits, beq_toListBytes]
section
variable {P : Program} {t kt it : Nat} {fs : Array Field} (C : CKeyT P t kt it fs)
include C
theorem equal_key (x y : Int) (s : ByteArray) (x' y' : Int) (s' : ByteArray) (w : World) : (Op.equal kt (cKey x y s) (cKey x' y' s')).run P w = .ok ((x == x') && ((y == y') && (s.toList == s'.toList))) w := by
  obtain ⟨n, v, rfl⟩ := str_of s
  obtain ⟨n', v', rfl⟩ := str_of s'
  have hf : P.fieldsOf kt = fs := by simp [Program.fieldsOf, C.key]
  have h1 : VRL ρ0 [.int .i64 x, .int .i64 y, .str n v, .int .i64 0] [.int .i64 x, .int .i64 y, .string ⟨(strOf n v).toArray⟩, .int .i64 0] := .cons (by simp only [VR]) (.cons (by simp only [VR]) (.cons (by simp only [VR]) (.cons (by simp only [VR]) VRL.nil)))
  have h2 : VRL ρ0 [.int .i64 x', .int .i64 y', .str n' v', .int .i64 0] [.int .i64 x', .int .i64 y', .string ⟨(strOf n' v').toArray⟩, .int .i64 0] := .cons (by simp only [VR]) (.cons (by simp only [VR]) (.cons (by simp only [VR]) (.cons (by simp only [VR]) VRL.nil)))
  have := eqF_sound (P := P) (ρ := ρ0) 9998 (X := #[.int .i64 x, .int .i64 y, .string ⟨(strOf n v).toArray⟩, .int .i64 0]) (Y := #[.int .i64 x', .int .i64 y', .string ⟨(strOf n' v').toArray⟩, .int .i64 0]) w h1 h2 (fun i z hz => by simpa using hz) (fun i z hz => by simpa using hz) (C.same x y n v x' y' n' v')
  show (Op.equalIn (9999 + 1) kt _ _).run P w = _
  unfold cKey
  rw [run_equalIn_agg w 9999 kt _ _ (by rw [hf]; exact C.key) C.held, hf]
  rw [this]
  simp only [ByteArray.toList_mk, str_beq, Bool.and_true]
theorem asking_none (x y : Int) (s : ByteArray) (w : World) : ∀ (L : List MapEntry) (i : Nat), (∀ e ∈ L, Other x y s e) → (Instr.findAsking kt (cKey x y s) L i).run P w = .ok none w
  | [], i, _ => by simp [Instr.findAsking]
  | e :: L, i, h => by
    obtain ⟨x', y', s', q, h1, h2, h3⟩ := h e List.mem_cons_self
    have ih := asking_none x y s w L (i + 1) fun e' he => h e' (List.mem_cons_of_mem _ he)
    simp [Instr.findAsking, h1, equal_key C, h3, ih]
theorem asking_some (x y : Int) (s : ByteArray) (w : World) : ∀ (L : List MapEntry) (i j : Nat) (e0 : MapEntry), (∀ e ∈ L.take j, Other x y s e) → L[j]? = some e0 → e0.key = cKey x y s → (Instr.findAsking kt (cKey x y s) L i).run P w = .ok (some (i + j, e0.val)) w
  | [], i, j, e0, _, h, _ => by simp at h
  | e :: L, i, 0, e0, _, h, hk => by
    simp at h
    subst h
    simp [Instr.findAsking, hk, equal_key C]
  | e :: L, i, j + 1, e0, h, hj, hk => by
    obtain ⟨x', y', s', q, h1, h2, h3⟩ := h e (by simp)
    have ih := asking_some x y s w L (i + 1) j e0 (fun e' he => h e' (by simp [he])) (by simpa using hj) hk
    simp [Instr.findAsking, h1, equal_key C, h3, ih]
    omega
theorem findKey_asking (k : Value) (L : List MapEntry) (w : World) : (Instr.findKey kt k L).run P w = (Instr.findAsking kt k L).run P w := by
  cases L with
  | nil => simp [Instr.findKey, run_underlying C.key, Instr.findNow, Instr.findAsking]
  | cons e L =>
    have : Instr.findNow (.struct fs) k (e :: L) 0 = none := by
      simp only [Instr.findNow]
      have : Instr.sameNow (.struct fs) k e.key = none := by unfold Instr.sameNow; rfl
      rw [this]
    simp [Instr.findKey, run_underlying C.key, this]
variable {w : World} {m c : Nat} {E : Array MapEntry} {x y : Int} {s : ByteArray} (hm : w.heap[m]? = some (.map E c))
include hm
theorem lookup_new (h : ∀ e ∈ E.toList, Other x y s e) : (Instr.lookup t (.map (some m)) (cKey x y s) false).run P w = .ok (.int .i64 0) w := by
  simp [Instr.lookup, run_underlying C.map, run_getObj hm (by intros; simp), C.chk, findKey_asking C, asking_none C x y s w E.toList 0 h, C.zero]
theorem lookup_old {j : Nat} {e0 : MapEntry} (h : ∀ e ∈ E.toList.take j, Other x y s e) (h0 : E.toList[j]? = some e0) (hk : e0.key = cKey x y s) : (Instr.lookup t (.map (some m)) (cKey x y s) false).run P w = .ok e0.val w := by
  simp [Instr.lookup, run_underlying C.map, run_getObj hm (by intros; simp), C.chk, findKey_asking C, asking_some C x y s w E.toList 0 j e0 h h0 hk]
theorem entry_new (h : ∀ e ∈ E.toList, Other x y s e) : (Instr.mapEntry t (.map (some m)) (cKey x y s)).run P w = .ok (.tuple #[.int .i64 0, .int .i64 c]) { w with heap := w.heap.setIfInBounds m (.map (E.push ⟨cKey x y s, .int .i64 0, c⟩) (c + 1)) } := by
  simp [Instr.mapEntry, run_underlying C.map, run_getObj hm (by intros; simp), C.chk, findKey_asking C, asking_none C x y s w E.toList 0 h, C.zero, run_setObj hm (by intros; simp), goInt]
theorem entry_old {j : Nat} {e0 : MapEntry} (h : ∀ e ∈ E.toList.take j, Other x y s e) (h0 : E.toList[j]? = some e0) (hk : e0.key = cKey x y s) : (Instr.mapEntry t (.map (some m)) (cKey x y s)).run P w = .ok (.tuple #[e0.val, .int .i64 e0.born]) { w with heap := w.heap.setIfInBounds m (.map (E.modify j fun e => { e with key := cKey x y s }) c) } := by
  have hj : E[j]? = some e0 := by simpa using h0
  simp [Instr.mapEntry, run_underlying C.map, run_getObj hm (by intros; simp), C.chk, findKey_asking C, asking_some C x y s w E.toList 0 j e0 h h0 hk, hj, hk, Instr.keyThatStays, same_cKey, run_setObj hm (by intros; simp), goInt]
end
theorem find_born {l : List MapEntry} {j : Nat} {e0 : MapEntry} (h : l[j]? = some e0) (hn : ∀ e ∈ l.take j, e.born ≠ e0.born) : l.findIdx? (fun e => ((e.born : Nat) : Int) == ((e0.born : Nat) : Int)) = some j := by
  induction l generalizing j with
  | nil => simp at h
  | cons a r ih =>
    cases j with
    | zero =>
      simp only [List.getElem?_cons_zero, Option.some.injEq] at h
      subst h
      simp [List.findIdx?_cons]
    | succ j =>
      simp only [List.getElem?_cons_succ] at h
      have hne : (((a.born : Nat) : Int) == ((e0.born : Nat) : Int)) = false := by
        simp only [beq_eq_false_iff_ne, ne_eq, Int.natCast_inj]
        exact hn a (by simp)
      rw [List.findIdx?_cons, hne]
      simp [ih h fun e he => hn e (by simp [he])]
section
variable {P : Program} {t : Nat} {w : World} {m c : Nat} {E : Array MapEntry} {x y : Int} {s : ByteArray} {val : Value}
theorem store_at {j : Nat} {e0 : MapEntry} (hm : w.heap[m]? = some (.map E c)) (h0 : E.toList[j]? = some e0) (hn : ∀ e ∈ E.toList.take j, e.born ≠ e0.born) :
    (Instr.entryStore t (.map (some m)) (.int .i64 e0.born) val).run P w = .ok () { w with heap := w.heap.setIfInBounds m (.map (E.modify j fun e => { e with val := val }) c) } := by
  have hf : E.findIdx? (fun e => ((e.born : Nat) : Int) == ((e0.born : Nat) : Int)) = some j := by
    have := find_born h0 hn
    cases E
    simpa using this
  simp [Instr.entryStore, run_getObj hm (by intros; simp), asInt, asIntOf, hf, run_setObj hm (by intros; simp)]
theorem push_modify (a : MapEntry) : (E.push a).modify E.size (fun e => { e with val := val }) = E.push { a with val := val } := by
  apply Array.ext'
  rw [Array.toList_modify, Array.toList_push, Array.toList_push, ← Array.length_toList]
  generalize E.toList = l
  induction l with
  | nil => rfl
  | cons b r ih => simp [List.modify_succ_cons, ih]
theorem push_take (a : MapEntry) : (E.push a).toList.take E.size = E.toList := by
  rw [Array.toList_push, ← Array.length_toList]
  simp
theorem push_at (a : MapEntry) : (E.push a).toList[E.size]? = some a := by
  rw [Array.toList_push, ← Array.length_toList]
  simp
theorem modify_take (f : MapEntry → MapEntry) (j : Nat) : (E.modify j f).toList.take j = E.toList.take j := by
  rw [Array.toList_modify]
  generalize E.toList = l
  induction l generalizing j with
  | nil => cases j <;> simp
  | cons b r ih => cases j with
    | zero => simp
    | succ j => simp [List.modify_succ_cons, ih]
theorem modify_at (f : MapEntry → MapEntry) {j : Nat} {e0 : MapEntry} (h : E.toList[j]? = some e0) : (E.modify j f).toList[j]? = some (f e0) := by
  rw [Array.toList_modify]
  simp [List.getElem?_modify, h]
theorem modify_twice (f g : MapEntry → MapEntry) (j : Nat) : (E.modify j f).modify j g = E.modify j (fun e => g (f e)) := by
  apply Array.ext'
  rw [Array.toList_modify, Array.toList_modify, Array.toList_modify]
  generalize E.toList = l
  induction l generalizing j with
  | nil => cases j <;> simp
  | cons b r ih => cases j with
    | zero => simp
    | succ j => simp [List.modify_succ_cons, ih]
end
end Ev
end Go.Proofs.YtacjgphfcailmaaGreatDoor

namespace Go.Proofs.YtacjgphfcailmaaGreatDoor
open Go.RowKit
namespace Ev
set_option linter.unusedVariables false
set_option linter.unusedSimpArgs false

section
variable {P : Program} {ops : Array Oper} (val : Nat → Value) (wf : (Nat → Bool) → World) (a0 : Act)
/-- what is done has its result -/
def Vals (ops : Array Oper) (val : Nat → Value) (L : Nat → Bool) (a : Act) : Prop := ∀ (j : Nat) (o : Oper) (t : Nat), ops[j]? = some o → o.dst = some t → L j = true → a.tmps.getD t Go.undef = val j
/-- all else is kept -/
def Rest (ops : Array Oper) (a0 a : Act) : Prop := a.tmps.size = a0.tmps.size ∧ a.defers = a0.defers ∧ ∀ t, (∀ (i : Nat) (o : Oper), ops[i]? = some o → o.dst ≠ some t) → a.tmps.getD t Go.undef = a0.tmps.getD t Go.undef
theorem any_fixed (hm : P.follows .mixedOrders = true) (hg : ∀ (i : Nat) (o : Oper), ops[i]? = some o → o.guard = none)
    (hdist : ∀ (i j : Nat) (x y : Oper) (t : Nat), ops[i]? = some x → ops[j]? = some y → x.dst = some t → y.dst = some t → i = j) (hord : orderedB ops = true)
    (hsz : ∀ (i : Nat) (o : Oper) (t : Nat), ops[i]? = some o → o.dst = some t → t < a0.tmps.size) (hwf : ∀ L L' : Nat → Bool, (∀ i, i < ops.size → L i = L' i) → wf L = wf L')
    (step : ∀ (L : Nat → Bool) (i : Nat) (o : Oper) (a : Act), ops[i]? = some o → L i = false → (∀ e ∈ o.after, Region.binds .any e = true → L e.on = true) → Closed ops (fun j => L j = true) → Vals ops val L a → Rest ops a0 a →
      (execOp a.eval o).run P (wf L) = .ok (.value (val i)) (wf fun j => L j || j == i) ∨ (o.dst = none ∧ (execOp a.eval o).run P (wf L) = .ok .skip (wf fun j => L j || j == i)))
    {Q : Exit → Act → World → Prop} {id : Nat} {w0 : World} (hw : wf (fun _ => false) = w0.drew)
    (hQ : ∀ a, Vals ops val (fun _ => true) a → Rest ops a0 a → Q .normal a (wf fun _ => true)) : (Code.region id ops true).wp P Q a0 w0 := by
  refine wp_region_any hm ?_
  have main : ∀ (fuel : Nat) (listed : Array Bool) (a : Act) (w : World), w = wf (fun j => listed.getD j false) → Vals ops val (fun j => listed.getD j false) a → Rest ops a0 a → listed.size = ops.size → Closed ops (fun j => listed.getD j false = true) →
      listed.toList.count false ≤ fuel → wpAny P .any ops Q fuel listed a w := by
    have fin : ∀ (listed : Array Bool) (a : Act) (w : World), w = wf (fun j => listed.getD j false) → Vals ops val (fun j => listed.getD j false) a → Rest ops a0 a → listed.size = ops.size → (∀ i, i < ops.size → listed.getD i false = true) → Q .normal a w := by
      intro listed a w hw hv hr hs hall
      rw [hw, hwf _ (fun _ => true) (fun i hi => hall i hi)]
      exact hQ a (fun j o t h1 h2 _ => hv j o t h1 h2 (hall j (Array.getElem?_eq_some_iff.1 h1).1)) hr
    intro fuel
    induction fuel with
    | zero =>
      intro listed a w hw hv hr hs hc hcnt
      have hall : ∀ i, i < ops.size → listed.getD i false = true := by
        intro i hi
        have h0 : listed.toList.count false = 0 := by omega
        have hnm := List.count_eq_zero.1 h0
        have hli : i < listed.size := by omega
        cases hb : listed[i] with
        | true => simp [hli, hb]
        | false =>
          exfalso
          apply hnm
          rw [← hb]
          simp
      refine ⟨?_, fin listed a w hw hv hr hs hall⟩
      rw [List.eq_nil_iff_forall_not_mem]
      intro i hi
      rw [mem_ready] at hi
      obtain ⟨h1, o, ho, _⟩ := hi
      have hlt : i < ops.size := (Array.getElem?_eq_some_iff.1 ho).1
      have := hall i hlt
      rw [Array.getD_eq_getD_getElem?] at h1 this
      cases hx : listed[i]? with
      | none => rw [hx] at this; cases this
      | some b => rw [hx] at this h1; simp at this h1; rw [this] at h1; cases h1
    | succ fuel ih =>
      intro listed a w hw hv hr hs hc hcnt
      refine ⟨fun hrd => fin listed a w hw hv hr hs (listed_of hs hord hrd), fun i hi => ?_⟩
      rw [mem_ready] at hi
      obtain ⟨g1, o, ho, g2⟩ := hi
      have hlt : i < ops.size := (Array.getElem?_eq_some_iff.1 ho).1
      have hli : i < listed.size := by omega
      have hfalse : listed[i] = false := by simpa [hli] using g1
      have hL : listed.getD i false = false := by simp [hli, hfalse]
      have hstep := step (fun j => listed.getD j false) i o a ho hL (fun e he hb => g2 e he hb) hc hv hr
      have hfun : (fun j => listed.getD j false || j == i) = fun j => (listed.setIfInBounds i true).getD j false := by
        funext j
        by_cases hji : j = i
        · subst hji; simp [hli]
        · rw [getD_set_ne false (Ne.symm hji)]
          simp [hji]
      rw [hfun] at hstep
      have next : ∀ x : Value, (o.dst = none ∨ x = val i) → wpAny P .any ops Q fuel (listed.setIfInBounds i true) (a.put o.dst x) (wf fun j => (listed.setIfInBounds i true).getD j false) := by
        intro x hx
        refine ih _ _ _ rfl ?_ ?_ (by simp [hs]) ?_ ?_
        · intro j o' t h1 h2 h3
          cases hd : o.dst with
          | none =>
            simp only [Act.put]
            refine hv j o' t h1 h2 ?_
            have : j ≠ i := fun e => by subst e; rw [ho] at h1; cases h1; rw [hd] at h2; cases h2
            have h3' : (listed.setIfInBounds i true).getD j false = true := h3
            rwa [getD_set_ne false (Ne.symm this)] at h3'
          | some d =>
            have hxv : x = val i := hx.resolve_left (by rw [hd]; simp)
            simp only [Act.put, Array.getD_eq_getD_getElem?, Array.getElem?_setIfInBounds]
            by_cases hji : j = i
            · subst hji
              rw [ho] at h1
              cases h1
              rw [hd] at h2
              cases h2
              have := hsz j o t ho hd
              rw [← hr.1] at this
              simp [this, hxv]
            · have hne : ¬ d = t := fun e => hji (hdist j i o' o t h1 ho h2 (by rw [hd, e]))
              rw [if_neg hne]
              have h3' : (listed.setIfInBounds i true).getD j false = true := h3
              rw [getD_set_ne false (Ne.symm hji)] at h3'
              have := hv j o' t h1 h2 h3'
              rwa [Array.getD_eq_getD_getElem?] at this
        · obtain ⟨r1, r2, r3⟩ := hr
          cases hd : o.dst with
          | none => exact ⟨r1, r2, r3⟩
          | some d =>
            refine ⟨by simp [Act.put, r1], r2, fun t ht => ?_⟩
            have hne : ¬ d = t := fun e => ht i o ho (by rw [hd, e])
            simp only [Act.put, Array.getD_eq_getD_getElem?, Array.getElem?_setIfInBounds, if_neg hne]
            have := r3 t ht
            simpa [Array.getD_eq_getD_getElem?] using this
        · intro j o' ho' hj e he hbd
          by_cases hji : j = i
          · subst hji
            rw [ho] at ho'; cases ho'
            exact getD_set_true (g2 e he hbd)
          · have hj' : (listed.setIfInBounds i true).getD j false = true := hj
            rw [getD_set_ne false (Ne.symm hji)] at hj'
            exact getD_set_true (hc j o' ho' hj' e he hbd)
        · rw [Array.toList_setIfInBounds, List.count_set (by simpa using hli)]
          have : listed.toList[i]'(by simpa using hli) = false := by simpa using hfalse
          rw [this]
          have h9 : (false == false) = true := rfl
          have h10 : (true == false) = false := rfl
          simp only [h9, h10, if_true, Bool.false_eq_true, if_false]
          omega
      have hwn : Region.wanted o (yielded ops a.tmps) = true := by
        unfold Region.wanted
        rw [hg i o ho]
      unfold Go.wpOp
      simp only [ho, hwn, if_true, Oper.wp]
      left
      rw [hw]
      rcases hstep with h1 | ⟨hd, h1⟩
      · rw [h1]; exact next _ (.inr rfl)
      · rw [h1]; exact next _ (.inl hd)
  have hrep : ∀ i, (Array.replicate ops.size false).getD i false = false := by
    intro i
    rw [Array.getD_eq_getD_getElem?, Array.getElem?_replicate]
    split <;> rfl
  have hrep' : (fun j => (Array.replicate ops.size false).getD j false) = fun _ => false := funext hrep
  refine main ops.size _ a0 _ ?_ ?_ ⟨rfl, rfl, fun _ _ => rfl⟩ (by simp) ?_ (by simp)
  · rw [hrep', hw]; rfl
  · intro j o t _ _ h
    have h' : (Array.replicate ops.size false).getD j false = true := h
    rw [hrep j] at h'; cases h'
  · intro j o _ hj
    have h' : (Array.replicate ops.size false).getD j false = true := hj
    rw [hrep j] at h'
    cases h'
end
end Ev
end Go.Proofs.YtacjgphfcailmaaGreatDoor

namespace Go.Proofs.YtacjgphfcailmaaGreatDoor
open Go.RowKit
namespace Ev
set_option linter.unusedVariables false
set_option linter.unusedSimpArgs false

def edgeB (ops : Array Oper) (i j : Nat) : Bool := (ops[i]?).any fun o => o.after.any fun e => Nat.beq e.on j && Region.binds .any e
def noDst (ops : Array Oper) (t : Nat) : Bool := ops.all fun o => match o.dst with | some d => !Nat.beq d t | none => true
def dstIs (ops : Array Oper) (i t : Nat) : Bool := (ops[i]?).any fun o => match o.dst with | some d => Nat.beq d t | none => false
def plainB (ops : Array Oper) (n : Nat) : Bool := ops.all fun o => o.guard.isNone && (match o.dst with | some d => Nat.blt d n | none => true)
def apartB (ops : Array Oper) : Bool := (List.range ops.size).all fun i => (List.range ops.size).all fun j => Nat.beq i j || !((ops[i]?).any fun x => match x.dst with | some d => dstIs ops j d | none => false)

section
variable {P : Program} {ops : Array Oper} {val : Nat → Value} {wf : (Nat → Bool) → World} {a0 a : Act} {L : Nat → Bool}
theorem at_dst {i t : Nat} (h : dstIs ops i t = true) (hv : Vals ops val L a) (hL : L i = true) : a.tmps.getD t Go.undef = val i := by
  unfold dstIs at h
  cases ho : ops[i]? with
  | none => rw [ho] at h; cases h
  | some o =>
    rw [ho] at h
    simp only [Option.any_some] at h
    cases hd : o.dst with
    | none => rw [hd] at h; cases h
    | some d =>
      rw [hd] at h
      exact hv i o t ho (by rw [hd, Nat.eq_of_beq_eq_true h]) hL
theorem at_rest {t : Nat} (h : noDst ops t = true) (hr : Rest ops a0 a) : a.tmps.getD t Go.undef = a0.tmps.getD t Go.undef := by
  refine hr.2.2 t fun i o ho hd => ?_
  have := Array.all_eq_true.1 h i (Array.getElem?_eq_some_iff.1 ho).1
  rw [(Array.getElem?_eq_some_iff.1 ho).2, hd] at this
  simp at this
theorem edge_closed {i j : Nat} (h : edgeB ops i j = true) (hc : Closed ops (fun j => L j = true)) (hL : L i = true) : L j = true := by
  unfold edgeB at h
  cases ho : ops[i]? with
  | none => rw [ho] at h; cases h
  | some o =>
    rw [ho] at h
    simp only [Option.any_some, Array.any_eq_true, Bool.and_eq_true] at h
    obtain ⟨k, hk, h1, h2⟩ := h
    have := hc i o ho hL o.after[k] (by simp) h2
    rwa [Nat.eq_of_beq_eq_true h1] at this
theorem edge_ready {i j : Nat} {o : Oper} (h : edgeB ops i j = true) (ho : ops[i]? = some o) (hb : ∀ e ∈ o.after, Region.binds .any e = true → L e.on = true) : L j = true := by
  unfold edgeB at h
  rw [ho] at h
  simp only [Option.any_some, Array.any_eq_true, Bool.and_eq_true] at h
  obtain ⟨k, hk, h1, h2⟩ := h
  have := hb o.after[k] (by simp) h2
  rwa [Nat.eq_of_beq_eq_true h1] at this
theorem draws_fixed (val : Nat → Value) (wf : (Nat → Bool) → World) (a0 : Act) (hm : P.follows .mixedOrders = true) (hp : plainB ops a0.tmps.size = true) (hap : apartB ops = true) (hord : orderedB ops = true)
    (hwf : ∀ L L' : Nat → Bool, (∀ i, i < ops.size → L i = L' i) → wf L = wf L')
    (step : ∀ (L : Nat → Bool) (i : Nat) (o : Oper) (a : Act), ops[i]? = some o → L i = false → (∀ j, edgeB ops i j = true → L j = true) → (∀ i j, edgeB ops i j = true → L i = true → L j = true) →
      (∀ i t, dstIs ops i t = true → L i = true → a.tmps.getD t Go.undef = val i) → (∀ t, noDst ops t = true → a.tmps.getD t Go.undef = a0.tmps.getD t Go.undef) →
      (execOp a.eval o).run P (wf L) = .ok (.value (val i)) (wf fun j => L j || j == i) ∨ (o.dst = none ∧ (execOp a.eval o).run P (wf L) = .ok .skip (wf fun j => L j || j == i)))
    {Q : Exit → Act → World → Prop} {id : Nat} {w0 : World} (hw : wf (fun _ => false) = w0.drew)
    (hQ : ∀ a, Rest ops a0 a → Q .normal a (wf fun _ => true)) : (Code.region id ops true).wp P Q a0 w0 := by
  refine any_fixed val wf a0 hm (fun i o ho => ?_) (fun i j x y t hx hy h1 h2 => ?_) hord (fun i o t ho hd => ?_) hwf (fun L i o a ho hL hb hc hv hr => ?_) hw (fun a _ hr => hQ a hr)
  · have := Array.all_eq_true.1 hp i (Array.getElem?_eq_some_iff.1 ho).1
    rw [(Array.getElem?_eq_some_iff.1 ho).2] at this
    simp only [Bool.and_eq_true] at this
    simpa using this.1
  · have hi := (Array.getElem?_eq_some_iff.1 hx).1
    have hj := (Array.getElem?_eq_some_iff.1 hy).1
    have := List.all_eq_true.1 (List.all_eq_true.1 hap i (List.mem_range.2 hi)) j (List.mem_range.2 hj)
    simp only [Bool.or_eq_true] at this
    rcases this with h | h
    · exact Nat.eq_of_beq_eq_true h
    · exfalso
      rw [hx] at h
      simp only [Option.any_some, h1, dstIs, hy, h2] at h
      simp at h
  · have := Array.all_eq_true.1 hp i (Array.getElem?_eq_some_iff.1 ho).1
    rw [(Array.getElem?_eq_some_iff.1 ho).2, hd] at this
    simp only [Bool.and_eq_true] at this
    simpa [Nat.blt_eq] using this.2
  · exact step L i o a ho hL (fun j h => edge_ready h ho hb) (fun i j h => edge_closed h hc) (fun i t h hl => at_dst h hv hl) (fun t h => at_rest h hr)
end
end Ev
end Go.Proofs.YtacjgphfcailmaaGreatDoor
