/-
  Runs that are cut within a loop of a function that is called: the function's contract by parts, and the caller's part by that contract.
-/
import Derived.Test.YtmnlcockdbaibaaGreatDoorEvU
import Derived.LoopNIn
namespace Go.Proofs.YtmnlcockdbaibaaGreatDoor
open Go.RowKit
namespace Ev
open M
set_option linter.unusedVariables false
set_option linter.unusedSimpArgs false

/-- a call of the function, without arguments -/
def callB (F : Nat) (o : Oper) : Bool := match o.op, o.guard with
  | .call ⟨.value (.func f), args, _⟩, none => Nat.beq f F && args.toList.isEmpty
  | _, _ => false
/-- the last statement -/
noncomputable def oneB (P : Program) (rec : Rec) (F : Nat) (rs : List ResultVar) (c : Code) (tm : Tm) (n : Nat) (h : Heap) : Bool := match c with
  | .seq (.region _ ops false) .ret => match ops.toList with
    | o :: L => callB F o && (match opsA P rec ops L (putA tm o.dst (.bool true)) n h [] with
      | .ok tm' n' h' _ => yesB (resultA P tm' rs n' h' [])
      | .fail => false)
    | [] => false
  | _ => false
/-- parts of the code, and then the last statement -/
noncomputable def tailB (P : Program) (rec : Rec) (F k : Nat) (rs : List ResultVar) (c : Code) (tm : Tm) (n : Nat) (h : Heap) : Bool := match firstK rec k c tm n h [] with
  | .ok tm' n' h' _ => oneB P rec F rs (restK k c) tm' n' h'
  | .fail => false
/-- a memory of so many names: those of a list, the others dropped -/
noncomputable def memOf (n : Nat) (l : List (Nat × AB)) : Heap := List.rec (motive := fun _ => Heap) (drops n) (fun x _ ih => T.set x.2 40 ih x.1) l

section
variable {E : World → Prop} {P : Program} {rec : Rec} {ρ : Ren}
theorem call_true {q : Option Nat} {Q : Exit → Act → World → Prop} {ops : Array Oper} {i F : Nat} {o : Oper} {a : Act} {W w : World} {h : Heap} {fn : Func} {c : Code} (hi : ops[i]? = some o) (hc : callB F o = true) (hf : fnOf P F = some (fn, c)) (mo : Mo W ρ h w)
    (hF : Calls P F #[] w fun e w' => e = .returned (.bool true) ∧ Below w.heap.size w w') {K : Act → World → Prop} (hK : ∀ x w', Got W ρ (.bool true) h x w' → K (a.put o.dst x) w') : wpOpIn (Fc q) 0 P ops Q i K a w := by
  unfold callB at hc
  split at hc
  · rename_i f args ts hop hg
    simp only [Bool.and_eq_true, Nat.beq_eq] at hc
    obtain ⟨rfl, h0⟩ := hc
    have h0' : args = #[] := by
      apply Array.ext'
      cases hl : args.toList with
      | nil => rfl
      | cons x y => rw [hl] at h0; cases h0
    subst h0'
    have hwn : Region.wanted o (yielded ops a.tmps) = true := by
      unfold Region.wanted
      rw [hg]
    have hnd : ∀ c, o.op ≠ .defer c := by
      intro c hc
      rw [hop] at hc
      cases hc
    unfold Go.wpOpIn
    simp only [hi, hwn, if_true, Oper.wpIn]
    refine ⟨fun _ _ => trivial, ?_⟩
    rw [show (Fc q).round = q from rfl, Oper.semAt_eq q a.eval o hnd]
    have h1 : (execOp a.eval o).run P w = .ok (.enter f #[]) w := by
      unfold execOp
      rw [hop]
      simp [resolve, Act.eval, Deferred.ofValue, invoke, callFunc_run hf]
    rw [h1]
    refine ⟨fun h => (by cases h), ?_⟩
    have h3 : CallsIn Fence.wide 0 P f #[] w (fun e w' => e = .returned (.bool true) ∧ Below w.heap.size w w') := callsIn_wide.2 hF
    have h4 : CallsIn (Fc q) 0 P f #[] w (fun e w' => e = .returned (.bool true) ∧ Below w.heap.size w w') := h3
    refine h4.mono ?_
    rintro e w' ⟨rfl, hb⟩
    refine hK _ w' ⟨ρ, Ext.refl _, by simp only [VR], mo.grow ⟨hb.os, hb.tape, hb.output, hb.size, fun j hj => hb.block j (by have := mo.below.size; omega)⟩ (fun j hj => hb.block j hj)⟩
  · cases hc
theorem one_last (hor : OrcOK E P ∧ CntOK E P) (hc : SoundCall E P rec) (hy : SoundYield E P rec) {F : Nat} {fn fn2 : Func} {c2 : Code} {W : World} (hE : E W) {Q : Exit → Act → World → Prop} (hQ : FinQ P fn W Q) {c : Code} {tm : Tm} {n : Nat} {h : Heap} {a : Act} {w : World}
    (hf : fnOf P F = some (fn2, c2)) (hF : ∀ w, Below W.heap.size W w → Calls P F #[] w fun e w' => e = .returned (.bool true) ∧ Below w.heap.size w w')
    (hb : oneB P rec F fn.results.toList c tm n h = true) (mo : Mo W ρ h w) (ht : TR ρ tm a.tmps) (hd : a.defers = []) : c.wpIn (Fc none) 0 P Q a w := by
  unfold oneB at hb
  split at hb
  · rename_i id ops
    split at hb
    · rename_i o L hops
      simp only [Bool.and_eq_true] at hb
      obtain ⟨b1, b2⟩ := hb
      split at b2
      · rename_i tm' n' h' l' hr
        cases h2 : resultA P tm' fn.results.toList n' h' [] with
        | fail => rw [h2] at b2; cases b2
        | ok vs n3 h3 l3 =>
          rw [h2] at b2
          have ho : ∀ (j : Nat) (y : Oper), (o :: L)[j]? = some y → ops[j]? = some y := fun j y hj => by
            rw [← hops] at hj
            simpa using hj
          refine wpIn_seq (wpIn_region ?_)
          have hsz : ops.size = L.length + 1 := by
            have := congrArg List.length hops
            simpa using this
          rw [List.range_eq_range', hsz, List.range'_succ, wpOpsIn_cons]
          refine call_true (ho 0 o rfl) b1 hf mo (hF w mo.below) fun x w1 hg => ?_
          obtain ⟨ρ1, k1, k2, k3⟩ := hg
          refine opsA_sound hor hc hy hE L 1 (fun j y hj => by have := ho (j + 1) y (by simpa using hj); rwa [show j + 1 = 1 + j by omega] at this) (put_VRL o.dst (TR.mono k1 ht) k2) hr k3 fun ρ' a' w' g1 g2 g3 g4 => ?_
          refine wpIn_ret ?_
          obtain ⟨rfl, ys, g5, g6⟩ := resultA_sound g2 _ h2 g4
          have hv : vs = [.bool true] := by
            unfold yesB at b2
            split at b2
            · rename_i b _ _ _ q
              simp only [R.ok.injEq] at q
              rw [q.1, b2]
            · cases b2
          subst hv
          obtain ⟨y, zs, rfl, g7, g8⟩ := g5.cons_inv
          have g9 := g8.nil_inv
          simp only [VR] at g7
          subst g7 g9
          exact hQ _ a' w' (.inr rfl) (by rw [g3, put_defers]; exact hd) (results_run g6) g4.below
      · cases b2
    · cases hb
  · cases hb
theorem tail_sound (hor : OrcOK E P ∧ CntOK E P) (hs : SoundR E P rec) (k : Nat) {F : Nat} {fn fn2 : Func} {c2 : Code} {W : World} (hE : E W) {Q : Exit → Act → World → Prop} (hQ : FinQ P fn W Q) {c : Code} {tm : Tm} {n : Nat} {h : Heap} {a : Act} {w : World}
    (hf : fnOf P F = some (fn2, c2)) (hF : ∀ w, Below W.heap.size W w → Calls P F #[] w fun e w' => e = .returned (.bool true) ∧ Below w.heap.size w w')
    (hb : tailB P rec F k fn.results.toList c tm n h = true) (mo : Mo W ρ h w) (ht : TR ρ tm a.tmps) (hd : a.defers = []) : c.wpIn (Fc none) 0 P Q a w := by
  unfold tailB at hb
  split at hb
  · rename_i tm' n' h' l' hr
    refine first_sound hs hE k c _ hr mo ht hd fun ρ' a' w' _ q2 q3 q4 => ?_
    exact one_last hor (call_sound hs) (yield_sound hs) hE hQ hf hF hb q4 q2 q3
  · cases hb
end
end Ev
end Go.Proofs.YtmnlcockdbaibaaGreatDoor

namespace Go.Proofs.YtmnlcockdbaibaaGreatDoor
open Go.RowKit
namespace Ev
open M
set_option linter.unusedVariables false
set_option linter.unusedSimpArgs false

theorem roundsIn_mono {F : Fence} {n : Nat} {P : Program} {c : Code} {Q Q' : Exit → Act → World → Prop} (hq : ∀ e a w, Q e a w → Q' e a w) : ∀ {m : Nat} {a : Act} {w : World}, Code.roundsIn F n P c Q m a w → Code.roundsIn F n P c Q' m a w
  | 0, a, w, h => h
  | m + 1, a, w, h => by
    rw [roundsIn_succ] at h ⊢
    refine wpIn_mono h fun e a w q => ?_
    cases e with
    | normal => exact roundsIn_mono hq q
    | _ => exact hq _ _ _ q
/-- rounds of a loop that end as they should -/
noncomputable def roundsK (rec : Rec) (B : Code) : Nat → Tm → M Tm
  | 0, tm => ret tm
  | k + 1, tm => bnd (rec false B tm []) fun x => match x with
    | (.normal, tm, []) => roundsK rec B k tm
    | _ => err
/-- a for statement among the parts of a code: its begin, the number of its block, its round, and the parts behind -/
def forA : Code → Code
  | .seq (.seq a _) _ => a
  | c => c
def forId : Code → Nat
  | .seq (.seq _ (.block i _)) _ => i
  | _ => 0
def forB : Code → Code
  | .seq (.seq _ (.block _ (.loop b))) _ => b
  | c => c
def forR : Code → Code
  | .seq _ r => r
  | c => c
/-- parts, the begin of a for statement, and rounds of it -/
noncomputable def cut1 (rec : Rec) (k j : Nat) (c : Code) (tm : Tm) : M Tm := bnd (firstK rec k c tm) fun tm => bnd (rec false (forA (restK k c)) tm []) fun x => match x with
  | (.normal, tm, []) => roundsK rec (forB (restK k c)) j tm
  | _ => err
/-- the rounds that are left, the parts behind, and the results -/
noncomputable def fin1 (P : Program) (m : Nat) (c : Code) (rs : List ResultVar) (tm : Tm) : M (List AV) := bnd (evC P m false (.loop (forB c)) tm []) fun x => match x with
  | (.exit i, tm, []) => match Nat.beq i (forId c) with
    | true => bnd (evC P m false (forR c) tm []) fun y => match y with
      | (e, tm, []) => match e with
        | .exit _ => err
        | _ => resultA P tm rs
      | _ => err
    | false => err
  | _ => err
noncomputable def landV (r : R (List AV)) (v : AV) (h2 : Heap) : Bool := match r with
  | .ok vs _ h _ => eqAV (oneA vs) v && settles h h2
  | .fail => false
/-- how a function that returns v and leaves a memory is left -/
def FinG (P : Program) (fn : Func) (W : World) (ρ : Ren) (v : AV) (h' : Heap) (Q : Exit → Act → World → Prop) : Prop :=
  ∀ (x : Exit) (a : Act) (w : World), x = .normal ∨ x = .ret → a.defers = [] → (∃ y, (results fn a.tmps).run P w = .ok y w ∧ Got W ρ v h' y w) → Q x a w

section
variable {E : World → Prop} {P : Program} {rec : Rec} {ρ : Ren}
theorem rounds_sound (hs : SoundR E P rec) {W : World} (hE : E W) {Q : Exit → Act → World → Prop} {B : Code} {m : Nat} : ∀ (k : Nat) (tm : Tm) {n n' : Nat} {h h' : Heap} {l l' : Log} {tm' : Tm} {ρ : Ren} {a : Act} {w : World},
    roundsK rec B k tm n h l = .ok tm' n' h' l' → Mo W ρ h w → TR ρ tm a.tmps → a.defers = [] →
    (∀ ρ' a' w', Ext ρ ρ' → TR ρ' tm' a'.tmps → a'.defers = [] → Mo W ρ' h' w' → Code.roundsIn (Fc none) 0 P B Q m a' w') → Code.roundsIn (Fc none) 0 P B Q (k + m) a w
  | 0, tm, n, n', h, h', l, l', tm', ρ, a, w, e, mo, ht, hd, K => by
    simp only [roundsK] at e
    obtain ⟨rfl, rfl, rfl, rfl⟩ := ret_ok e
    rw [Nat.zero_add]
    exact K ρ a w (Ext.refl _) ht hd mo
  | k + 1, tm, n, n', h, h', l, l', tm', ρ, a, w, e, mo, ht, hd, K => by
    simp only [roundsK] at e
    obtain ⟨⟨e1, tm1, ds1⟩, n1, h1, l1, k1, k2⟩ := bind_ok e
    rw [show k + 1 + m = (k + m) + 1 by omega, roundsIn_succ]
    refine wpIn_mono (hs false B tm [] none W ρ n h l e1 tm1 ds1 n1 h1 l1 a w rfl k1 hE mo ht hd) ?_
    rintro x' a1 w1 ⟨ρ1, g1, rfl, g2, g3, g4⟩
    cases e1 <;> cases ds1 <;> simp only at k2 <;> first | exact (err_ok k2).elim | skip
    exact rounds_sound hs hE k tm1 k2 g4 g2 g3 fun ρ' a' w' q1 q2 q3 q4 => K ρ' a' w' (g1.trans q1) q2 q3 q4
theorem landB_ok {r : R Tm} {l2 : List AV} {n2 : Nat} {h2 : Heap} (hb : landB r l2 n2 h2 = true) : ∃ tm h l, r = .ok tm n2 h l ∧ settles h h2 = true ∧ ∀ ρ ts, TR ρ tm ts → TR ρ ⟨l2.length, fromL l2 0⟩ ts := by
  cases r with
  | fail => cases hb
  | ok tm' n' h' l' =>
    simp only [landB, Bool.and_eq_true, Nat.beq_eq, Nat.ble_eq] at hb
    obtain ⟨b1, b2, rfl, b4, b5⟩ := hb
    refine ⟨tm', h', l', rfl, b4, fun ρ ts q2 => q2.same b1.symm fun j => ?_⟩
    rw [nth_eq]
    simp only
    rw [fromL_get _ _ _ (by omega)]
    simp only [Nat.zero_le, if_true, Nat.sub_zero]
    by_cases hj : j < l2.length
    · have := eqAV_spec _ _ (List.all_eq_true.1 b2 j (List.mem_range.2 hj))
      rw [this]
      simp [List.getD_eq_getElem?_getD]
    · rw [List.getElem?_eq_none (by omega)]
      exact (q2.high j (by omega)).symm
theorem calls_chunks {f : Nat} {fn : Func} {c : Code} {args : List AV} {xs : List Value} {W w : World} {h h' : Heap} {v : AV} (hf : fnOf P f = some (fn, c)) (hk : max fn.ntmps args.length ≤ 4000) (hx : VRL ρ args xs) (mo : Mo W ρ h w)
    (K : ∀ (Q : Exit → Act → World → Prop) (a : Act), FinG P fn W ρ v h' Q → TR ρ ⟨max fn.ntmps args.length, fromL args 0⟩ a.tmps → a.defers = [] → c.wpIn (Fc none) 0 P Q a w) :
    Calls P f xs.toArray w (GotE W ρ v h') := by
  obtain ⟨hf1, hf2⟩ := fnOf_some hf
  refine (callsIn_wide (n := 0)).1 (callsIn_of_wp_marks hf1 hf2 trivial ?_)
  refine K _ { tmps := xs.toArray ++ Array.replicate (fn.ntmps - xs.toArray.size) undef, defers := [] } ?_ (by simpa using TR.new hx fn.ntmps hk) rfl
  rintro x a w1 hx1 hd ⟨y, hr, hg⟩
  rcases hx1 with rfl | rfl
  all_goals
    show LeavesInM Fence.wide 0 P fn a.tmps (GotE W ρ v h') a.defers .returning w1
    rw [hd]
    exact ⟨_, hr, y, rfl, hg⟩
/-- a function's contract in two parts, cut within a loop -/
theorem calls_two (hm : P.follows .mixedOrders = true) (hor : OrcOK E P ∧ CntOK E P) (k j m : Nat) {f : Nat} {fn : Func} {c : Code} {args l2 : List AV} {xs : List Value} {W w : World} {n n2 : Nat} {h h2 h3 : Heap} {v : AV}
    (hE : E W) (hf : fnOf P f = some (fn, c)) (hk : max fn.ntmps args.length ≤ 4000) (hx : VRL ρ args xs) (mo : Mo W ρ h w)
    (hsh : restK k c = .seq (.seq (forA (restK k c)) (.block (forId (restK k c)) (.loop (forB (restK k c))))) (forR (restK k c)))
    (h1 : landB (cut1 (evC P m) k j c ⟨max fn.ntmps args.length, fromL args 0⟩ n h []) l2 n2 h2 = true)
    (h5 : landV (fin1 P m (restK k c) fn.results.toList ⟨l2.length, fromL l2 0⟩ n2 h2 []) v h3 = true) : Calls P f xs.toArray w (GotE W ρ v h3) := by
  have hs := evC_sound hm hor m
  refine calls_chunks hf hk hx mo fun Q a hQ ht hd => ?_
  obtain ⟨tm1, hh, l1, e1, e2, e3⟩ := landB_ok h1
  obtain ⟨tma, na, ha, la, k1, k2⟩ := bind_ok e1
  obtain ⟨⟨e4, tmb, dsb⟩, nb, hb, lb, k3, k4⟩ := bind_ok k2
  refine first_sound hs hE k c _ k1 mo ht hd fun ρ1 a1 w1 x1 t1 d1 m1 => ?_
  rw [hsh]
  refine wpIn_seq (wpIn_seq (wpIn_mono (hs false _ tma [] none W ρ1 na ha la e4 tmb dsb nb hb lb a1 w1 rfl k3 hE m1 t1 d1) ?_))
  rintro x' a2 w2 ⟨ρ2, g1, rfl, g2, g3, g4⟩
  cases e4 <;> cases dsb <;> simp only at k4 <;> first | exact (err_ok k4).elim | skip
  refine wpIn_block (wpIn_loop_rounds (j + m) (rounds_sound hs hE j tmb k4 g4 g2 g3 fun ρ3 a3 w3 x3 t3 d3 m3 => ?_))
  have m3' := m3.settle e2
  have t3' := e3 _ _ t3
  cases hr : fin1 P m (restK k c) fn.results.toList ⟨l2.length, fromL l2 0⟩ n2 h2 [] with
  | fail => rw [hr] at h5; cases h5
  | ok vs n4 h4 l4 =>
    rw [hr] at h5
    simp only [landV, Bool.and_eq_true] at h5
    obtain ⟨h6, h7⟩ := h5
    have h6 := eqAV_spec _ _ h6
    obtain ⟨⟨e5, tm5, ds5⟩, n5, hp5, l5, k5, k6⟩ := bind_ok hr
    refine roundsIn_mono (Q := QP W ρ3 e5 tm5 ds5 hp5) ?_ (loop_sound hE (n' := n5) (l' := l5) m (fun i _ => evC_sound hm hor i) ρ3 _ [] n2 h2 [] a3 w3 (Ext.refl _) k5 m3' t3' d3)
    rintro x5 a5 w5 ⟨ρ5, q1, rfl, q2, q3, q4⟩
    cases e5 <;> cases ds5 <;> simp only at k6 <;> first | exact (err_ok k6).elim | skip
    rename_i i
    change Ok _ _ _ _ _ at k6
    split at k6
    · rename_i hi
      have hi : i = forId (restK k c) := Nat.eq_of_beq_eq_true hi
      obtain ⟨⟨e7, tm7, ds7⟩, n7, hp7, l7, k7, k8⟩ := bind_ok k6
      simp only [exitOf, Exit.inBlock, hi, if_true, Exit.then]
      refine wpIn_mono (hs false _ tm5 [] none W ρ5 n5 hp5 l5 e7 tm7 ds7 n7 hp7 l7 a5 w5 rfl k7 hE q4 q2 q3) ?_
      rintro x7 a7 w7 ⟨ρ7, p1, rfl, p2, p3, p4⟩
      cases ds7 <;> simp only at k8 <;> first | exact (err_ok k8).elim | skip
      cases e7 <;> simp only at k8 <;> first | exact (err_ok k8).elim | skip
      all_goals
        obtain ⟨rfl, ys, g5, g6⟩ := resultA_sound p2 _ k8 p4
        refine hQ _ a7 w7 ?_ p3 ⟨_, results_run g6, ρ7, ((x1.trans g1).trans x3).trans (q1.trans p1), ?_, p4.settle h7⟩
        · simp [exitOf]
        · rw [← h6]
          exact oneA_VR g5
    · exact (err_ok k6).elim

/-- a call of the function, whatever the arguments -/
def callO (F : Nat) (o : Oper) : Option (Array Operand) := match o.op, o.guard with
  | .call ⟨.value (.func f), args, _⟩, none => match Nat.beq f F with
    | true => some args
    | false => none
  | _, _ => none
theorem call_got {q : Option Nat} {Q : Exit → Act → World → Prop} {ops : Array Oper} {i F : Nat} {o : Oper} {as_ : Array Operand} {a : Act} {W w : World} {h h' : Heap} {v : AV} {tm : Tm} {args : List AV} {fn : Func} {c : Code} (hi : ops[i]? = some o) (hc : callO F o = some as_) (hf : fnOf P F = some (fn, c)) (mo : Mo W ρ h w)
    (ht : TR ρ tm a.tmps) (hev : evs (evA tm) as_.toList = some args) (hF : ∀ xs, VRL ρ args xs → Calls P F xs.toArray w (GotE W ρ v h')) {K : Act → World → Prop} (hK : ∀ x w', Got W ρ v h' x w' → K (a.put o.dst x) w') : wpOpIn (Fc q) 0 P ops Q i K a w := by
  unfold callO at hc
  split at hc
  · rename_i f args' ts hop hg
    split at hc
    · rename_i hff
      have hff := Nat.eq_of_beq_eq_true hff
      subst hff
      cases hc
      have hwn : Region.wanted o (yielded ops a.tmps) = true := by
        unfold Region.wanted
        rw [hg]
      have hnd : ∀ c, o.op ≠ .defer c := by
        intro c hc
        rw [hop] at hc
        cases hc
      have hxs := evs_VRL (evRel_act ht mo.glob) hev
      have hq : (List.map a.eval as_.toList).toArray = as_.map a.eval := by apply Array.ext'; simp
      unfold Go.wpOpIn
      simp only [hi, hwn, if_true, Oper.wpIn]
      refine ⟨fun _ _ => trivial, ?_⟩
      rw [show (Fc q).round = q from rfl, Oper.semAt_eq q a.eval o hnd]
      have h1 : (execOp a.eval o).run P w = .ok (.enter f (as_.map a.eval)) w := by
        unfold execOp
        rw [hop]
        simp [resolve, Act.eval, Deferred.ofValue, invoke, callFunc_run hf]
      rw [h1]
      refine ⟨fun h => (by cases h), ?_⟩
      have h2 := hF _ hxs
      rw [hq] at h2
      have h3 : CallsIn Fence.wide 0 P f (as_.map a.eval) w (GotE W ρ v h') := callsIn_wide.2 h2
      have h4 : CallsIn (Fc q) 0 P f (as_.map a.eval) w (GotE W ρ v h') := h3
      refine h4.mono ?_
      rintro e w' ⟨x, rfl, hg⟩
      exact hK x w' hg
    · cases hc
  · cases hc
/-- the operations of a region ahead of the p-th, and behind it -/
def opsOf : Code → Array Oper
  | .seq (.region _ ops false) _ => ops
  | _ => #[]
def idOf : Code → Nat
  | .seq (.region i _ false) _ => i
  | _ => 0
def restOf : Code → Code
  | .seq _ r => r
  | c => c
noncomputable def preM (P : Program) (rec : Rec) (p : Nat) (c : Code) (tm : Tm) : M Tm := opsA P rec (opsOf c) ((opsOf c).toList.take p) tm
noncomputable def argsB (p F : Nat) (c : Code) (tm : Tm) (args : List AV) : Bool := match (opsOf c).toList[p]? with
  | some o => match callO F o with
    | some l => match evs (evA tm) l.toList with
      | some r => eqAVL r args
      | none => false
    | none => false
  | none => false
noncomputable def postB (P : Program) (rec : Rec) (p : Nat) (rs : List ResultVar) (c : Code) (tm : Tm) (v : AV) (n : Nat) (h : Heap) : Bool := match (opsOf c).toList[p]? with
  | some o => match opsA P rec (opsOf c) ((opsOf c).toList.drop (p + 1)) (putA tm o.dst v) n h [] with
    | .ok tm' n' h' _ => endB P rs (rec false (restOf c) tm' [] n' h' [])
    | .fail => false
  | none => false
theorem mid_call (hor : OrcOK E P ∧ CntOK E P) (hs : SoundR E P rec) (p : Nat) {F : Nat} {fn fn2 : Func} {c2 : Code} {W : World} (hE : E W) {Q : Exit → Act → World → Prop} (hQ : FinQ P fn W Q) {c : Code} {tm : Tm} {n n2 n3 : Nat} {h h2 h3 : Heap} {l2 args : List AV} {v : AV} {a : Act} {w : World}
    (hf : fnOf P F = some (fn2, c2)) (hsh : c = .seq (.region (idOf c) (opsOf c) false) (restOf c))
    (hF : ∀ ρ w xs, Mo W ρ h2 w → VRL ρ args xs → Calls P F xs.toArray w (GotE W ρ v h3))
    (b1 : landB (preM P rec p c tm n h []) l2 n2 h2 = true) (b2 : argsB p F c ⟨l2.length, fromL l2 0⟩ args = true) (b3 : postB P rec p fn.results.toList c ⟨l2.length, fromL l2 0⟩ v n3 h3 = true)
    (mo : Mo W ρ h w) (ht : TR ρ tm a.tmps) (hd : a.defers = []) : c.wpIn (Fc none) 0 P Q a w := by
  obtain ⟨tm1, h1, l1, e1, e2, e3⟩ := landB_ok b1
  unfold argsB at b2
  unfold postB at b3
  cases ho : (opsOf c).toList[p]? with
  | none => rw [ho] at b2; cases b2
  | some o =>
    rw [ho] at b2 b3
    simp only at b2 b3
    split at b2
    · rename_i as_ hco
      split at b2
      · rename_i r hev
        have hr := eqAVL_spec _ _ b2
        subst hr
        split at b3
        · rename_i tm' n' h' l' hpost
          rw [hsh]
          refine wpIn_seq (wpIn_region ?_)
          have hp : p < (opsOf c).toList.length := (List.getElem?_eq_some_iff.1 ho).1
          have hlen : (opsOf c).size = ((opsOf c).toList.take p).length + (((opsOf c).toList.drop (p + 1)).length + 1) := by
            simp only [List.length_take, List.length_drop, Array.length_toList] at hp ⊢
            omega
          have htake : ((opsOf c).toList.take p).length = p := by rw [List.length_take]; omega
          have hgo : ∀ (rest : List Nat) {ρ : Ren} {a : Act} {tm tm' : Tm} {w : World} {n n' : Nat} {h h' : Heap} {l l' : Log} (i : Nat) (L : List Oper) {K : Exit → Act → World → Prop},
              (∀ j o, L[j]? = some o → (opsOf c)[i + j]? = some o) → TR ρ tm a.tmps → opsA P rec (opsOf c) L tm n h l = .ok tm' n' h' l' → Mo W ρ h w →
              (∀ ρ' a' w', Ext ρ ρ' → TR ρ' tm' a'.tmps → a'.defers = a.defers → Mo W ρ' h' w' → wpOpsIn (Fc none) 0 P (opsOf c) K rest a' w') → wpOpsIn (Fc none) 0 P (opsOf c) K (List.range' i L.length ++ rest) a w := by
            intro rest ρ a tm tm' w n n' h h' l l' i L K
            induction L generalizing ρ a tm w n h l i with
            | nil =>
              intro _ ht e mo hK
              rw [opsA_nil] at e
              obtain ⟨rfl, rfl, rfl, rfl⟩ := ret_ok e
              exact hK ρ a w (Ext.refl _) ht rfl mo
            | cons y L ih =>
              intro hop ht e mo hK
              rw [opsA_cons] at e
              obtain ⟨tmx, nx, hx, lx, ex1, ex2⟩ := bind_ok e
              obtain ⟨vx, ex3, rfl⟩ := stepA_ok ex1
              simp only [List.length_cons, List.range'_succ, List.cons_append]
              rw [wpOpsIn_cons]
              refine stepV_sound hor (call_sound hs) (yield_sound hs) (hop 0 y rfl) ht ex3 hE mo fun x w' hg => ?_
              obtain ⟨ρ1, k1, k2, k3⟩ := hg
              refine ih (i + 1) (fun j o hj => by have := hop (j + 1) o (by simpa using hj); rwa [show i + (j + 1) = i + 1 + j by omega] at this) (put_VRL y.dst (TR.mono k1 ht) k2) ex2 k3 fun ρ' a' w'' g1 g2 g3 g4 => ?_
              exact hK ρ' a' w'' (k1.trans g1) g2 (g3.trans (put_defers _ _ _)) g4
          rw [List.range_eq_range', hlen, ← List.range'_append_1]
          refine hgo _ 0 ((opsOf c).toList.take p) (fun j y hj => ?_) ht e1 mo fun ρ1 a1 w1 x1 t1 d1 m1 => ?_
          · have hj' := (List.getElem?_eq_some_iff.1 hj).1
            rw [List.getElem?_take_of_lt (by omega)] at hj
            simpa using hj
          have t1' := e3 _ _ t1
          have m1' := m1.settle e2
          rw [htake, Nat.zero_add, List.range'_succ, wpOpsIn_cons]
          refine call_got (by simpa using ho) hco hf m1' t1' hev (fun xs hxs => hF ρ1 w1 xs m1' hxs) fun x w2 hg => ?_
          obtain ⟨ρ2, x2, v2, m2⟩ := hg
          have := hgo [] (p + 1) ((opsOf c).toList.drop (p + 1)) (K := Exit.then ((restOf c).wpIn (Fc none) 0 P Q) Q) (fun j y hj => by
            rw [List.getElem?_drop] at hj
            simpa using hj) (put_VRL o.dst (TR.mono x2 t1') v2) hpost m2 fun ρ3 a3 w3 x3 t3 d3 m3 => ?_
          · rw [List.append_nil] at this
            exact this
          · exact last hs hE hQ b3 m3 t3 (by rw [d3, put_defers, d1]; exact hd)
        · cases b3
      · cases b2
    · cases b2
end
end Ev
end Go.Proofs.YtmnlcockdbaibaaGreatDoor
