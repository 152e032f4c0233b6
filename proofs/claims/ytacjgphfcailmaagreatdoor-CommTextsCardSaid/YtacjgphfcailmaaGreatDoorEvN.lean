/-
  The small machine's operations are the model's.
-/
import Derived.Test.YtacjgphfcailmaaGreatDoorEvM
import Derived.OrdersIn
import Derived.LoopNIn
import Derived.RangeFuncLeaves
import Derived.RangeFuncRecord
namespace Go.Proofs.YtacjgphfcailmaaGreatDoor
open Go.RowKit
namespace Ev
set_option linter.unusedVariables false
set_option linter.unusedSimpArgs false

/-- frames of functions, and of rounds -/
def Fc (o : Option Nat) : Fence := { Fence.wide with round := o }

section
variable {E : World → Prop} {P : Program} {ρ : Ren}

def Got (W : World) (ρ : Ren) (v : AV) (h' : Heap) (x : Value) (w' : World) : Prop := ∃ ρ', Ext ρ ρ' ∧ VR ρ' v x ∧ Mo W ρ' h' w'
def GotE (W : World) (ρ : Ren) (v : AV) (h' : Heap) (e : Ending) (w' : World) : Prop := ∃ x, e = .returned x ∧ Got W ρ v h' x w'

/-- how an operation comes out: a value, a call, a round -/
def OpS (E : World → Prop) (P : Program) (ρ : Ren) (m : M AV) (s : Sem Next) : Prop :=
  ∀ W, E W → ∀ n h l v n' h' l' w, m n h l = .ok v n' h' l' → Mo W ρ h w →
    (∃ x w', Got W ρ v h' x w' ∧ (s.run P w = .ok (.value x) w' ∨ (x = undef ∧ s.run P w = .ok .skip w')))
    ∨ (∃ f args, s.run P w = .ok (.enter f args) w ∧ Calls P f args w (GotE W ρ v h'))
    ∨ (∃ b f tmps asg body, s.run P w = .ok (.round b f tmps asg body) w ∧ RoundIn Fence.wide 0 P b f tmps asg body w (GotE W ρ v h'))

theorem OpS.err {s : Sem Next} : OpS E P ρ M.err s := fun W _ n h l v n' h' l' w e m => (err_ok e).elim
theorem OpS.of_sim {m : M AV} {s : Sem Value} (h : Sim P ρ m s) : OpS E P ρ m (do pure (.value (← s))) := by
  intro W hE n h0 l v n' h' l' w e mo
  obtain ⟨ρ', x, w', h1, h2, h3, h4⟩ := h W n h0 l v n' h' l' w e mo
  exact .inl ⟨x, w', ⟨ρ', h1, h2, h3⟩, .inl (by simp [h4])⟩
theorem OpS.of_simU {m : M AV} {s : Sem Unit} (h : SimU P ρ m s) : OpS E P ρ m (do s; pure .skip) := by
  intro W hE n h0 l v n' h' l' w e mo
  obtain ⟨w', rfl, h3, h4⟩ := h W n h0 l v n' h' l' w e mo
  exact .inl ⟨undef, w', ⟨ρ, Ext.refl _, VR.undef, h3⟩, .inr ⟨rfl, by simp [h4]⟩⟩
theorem OpS.opt {o : Option AV} {s : Sem Value} (h : ∀ v, o = some v → Yl P ρ v s) : OpS E P ρ (M.opt o) (do pure (.value (← s))) := OpS.of_sim (Sim.of h)
theorem OpS.pureOpt {o : Option AV} {x : Value} (h : ∀ v, o = some v → VR ρ v x) : OpS E P ρ (M.opt o) (pure (.value x)) := by
  intro W hE n h0 l v n' h' l' w e mo
  obtain ⟨h1, rfl, rfl, rfl⟩ := opt_ok e
  exact .inl ⟨x, w, ⟨ρ, Ext.refl _, h v h1, mo⟩, .inl (by simp)⟩
theorem OpS.pureRet {v : AV} {x : Value} (h : VR ρ v x) : OpS E P ρ (M.ret v) (pure (.value x)) := by
  intro W hE n h0 l v n' h' l' w e mo
  obtain ⟨rfl, rfl, rfl, rfl⟩ := ret_ok e
  exact .inl ⟨x, w, ⟨ρ, Ext.refl _, h, mo⟩, .inl (by simp)⟩

theorem OpS.congr {m : M AV} {s s' : Sem Next} (h : OpS E P ρ m s') (e : ∀ w, s.run P w = s'.run P w) : OpS E P ρ m s := by
  intro W hE n h0 l v n' h' l' w k mo
  rw [e w]
  exact h W hE n h0 l v n' h' l' w k mo
/-- calls and rounds -/
def SoundCall (E : World → Prop) (P : Program) (rec : Rec) : Prop :=
  ∀ (ρ : Ren) (f : Nat) (args : List AV) (xs : List Value), VRL ρ args xs → ∀ W, E W → ∀ n h l v n' h' l' w, callA P rec f args n h l = .ok v n' h' l' → Mo W ρ h w → Calls P f xs.toArray w (GotE W ρ v h')
def SoundYield (E : World → Prop) (P : Program) (rec : Rec) : Prop :=
  ∀ (ρ : Ren) (b : Nat) (lc : Loc) (args : List AV) (xs : List Value), ρ b = some lc → VRL ρ args xs → ∀ W, E W → ∀ n h l v n' h' l' w, yieldA rec b args n h l = .ok v n' h' l' → Mo W ρ h w →
    ∃ f tmps asg body, (Instr.yield lc.blk xs.toArray).run P w = .ok (.round lc.blk f tmps asg body) w ∧ RoundIn Fence.wide 0 P lc.blk f tmps asg body w (GotE W ρ v h')

theorem callFunc_run {f : Nat} {fn : Func} {c : Code} (h : fnOf P f = some (fn, c)) (args : Array Value) (w : World) : (callFunc f args).run P w = .ok (.enter f args) w := by
  unfold fnOf at h
  cases hf : P.funcs[f]? with
  | none => rw [hf] at h; cases h
  | some g =>
    rw [hf] at h
    simp only at h
    split at h
    · cases h
    · rename_i hn
      split at h
      · rename_i b hb
        simp only [Option.some.injEq, Prod.mk.injEq] at h
        obtain ⟨rfl, rfl⟩ := h
        have hn' : ¬ g.name = "runtime.NumGoroutine" := by simpa using hn
        simp [callFunc, hf, hn', hb]
      · cases h
theorem find_count {fn : Func} (h1 : fn.name = "internal/bytealg.CountString") (h2 : fn.origin = "") : Extern.find fn = some Extern.BytealgCount.count ∧ Extern.findNext fn = none := by
  unfold Extern.find Extern.findNext
  rw [h1, h2]
  exact ⟨by kernel_rfl, by kernel_rfl⟩
theorem find_index {fn : Func} (h1 : fn.name = "internal/bytealg.IndexByteString") (h2 : fn.origin = "") : Extern.find fn = some Extern.BytealgIndexByte.indexByte ∧ Extern.findNext fn = none := by
  unfold Extern.find Extern.findNext
  rw [h1, h2]
  exact ⟨by kernel_rfl, by kernel_rfl⟩
/-- contracts of the functions whose answers are known -/
def OrcOK (E : World → Prop) (P : Program) : Prop :=
  ∀ (f : Nat) (fn : Func) (c : Code) (args : List AV) (v : AV) (ρ : Ren) (xs : List Value) (W w : World), P.funcs[f]? = some fn → fn.body = some c → orcN fn.name args = some v → VRL ρ args xs → E W → Below W.heap.size W w →
    Calls P f xs.toArray w fun e w' => ∃ x, e = .returned x ∧ VR ρ v x ∧ Below w.heap.size w w'
/-- contracts of the functions that count -/
def CntOK (E : World → Prop) (P : Program) : Prop :=
  ∀ (f : Nat) (fn : Func) (c : Code) (args : List AV) (ρ : Ren) (xs : List Value) (W w : World) (n n' : Nat) (h h' : Heap) (l l' : Log) (v : AV), P.funcs[f]? = some fn → fn.body = some c → isCount fn.name = true → VRL ρ args xs → E W →
    countA P f args n h l = .ok v n' h' l' → Mo W ρ h w → Calls P f xs.toArray w (GotE W ρ v h')
theorem fnOf_some {f : Nat} {fn : Func} {c : Code} (h : fnOf P f = some (fn, c)) : P.funcs[f]? = some fn ∧ fn.body = some c := by
  unfold fnOf at h
  split at h
  · rename_i g hg
    split at h
    · cases h
    · split at h
      · rename_i b hb
        simp only [Option.some.injEq, Prod.mk.injEq] at h
        obtain ⟨rfl, rfl⟩ := h
        exact ⟨hg, hb⟩
      · cases h
  · cases h
theorem ext_sound (ho : OrcOK E P) {f : Nat} {args : List AV} {xs : List Value} {v : AV} (h : extA P f args = some v) (hx : VRL ρ args xs) :
    (∃ x, VR ρ v x ∧ ∀ w, (callFunc f xs.toArray).run P w = .ok (.value x) w) ∨
    ((∃ fn c, fnOf P f = some (fn, c)) ∧ ∀ W w, E W → Below W.heap.size W w → Calls P f xs.toArray w fun e w' => ∃ x, e = .returned x ∧ VR ρ v x ∧ Below w.heap.size w w') := by
  unfold extA at h
  split at h
  · rename_i fn c hf
    have hf' := fnOf_some hf
    exact .inr ⟨⟨fn, c, hf⟩, fun W w hE hb => ho f fn c args v ρ xs W w hf'.1 hf'.2 h hx hE hb⟩
  · left
    split at h
    · rename_i fn hf
      split at h
      · cases h
      · rename_i hb
        unfold extN at h
        split at h
        · cases h
        · rename_i ho
          have ho : fn.origin = "" := by simpa using ho
          split at h
          · rename_i n s c hn
            have hn : fn.name = "internal/bytealg.CountString" := by simpa using hn
            cases h
            obtain ⟨x1, y1, rfl, k1, k2⟩ := hx.cons_inv
            obtain ⟨x2, y2, rfl, k3, k4⟩ := k2.cons_inv
            have k5 := k4.nil_inv
            simp only [VR] at k1 k3
            subst k1 k3 k5
            refine ⟨.int .i64 (Lib.countByte (strOf n s) c.toNat.toUInt8 : Nat), by simp only [VR], fun w => ?_⟩
            rw [run_callFunc_extern hf (by rw [hn]; decide) (by simp [hb]) (find_count hn ho).2 (find_count hn ho).1, Lib.run_countString]
            simp
          · split at h
            · rename_i n s c hn _
              have hn : fn.name = "internal/bytealg.IndexByteString" := by simpa using hn
              cases h
              obtain ⟨x1, y1, rfl, k1, k2⟩ := hx.cons_inv
              obtain ⟨x2, y2, rfl, k3, k4⟩ := k2.cons_inv
              have k5 := k4.nil_inv
              simp only [VR] at k1 k3
              subst k1 k3 k5
              refine ⟨.int .i64 (Lib.indexByte (strOf n s) c.toNat.toUInt8), by simp only [VR], fun w => ?_⟩
              rw [run_callFunc_extern hf (by rw [hn]; decide) (by simp [hb]) (find_index hn ho).2 (find_index hn ho).1, Lib.run_indexByteString]
              simp
            · cases h
    · cases h
theorem callA_fn {rec : Rec} {f n n' : Nat} {args : List AV} {h h' : Heap} {l l' : Log} {v : AV} (e : callA P rec f args n h l = .ok v n' h' l') : ∃ fn c, fnOf P f = some (fn, c) := by
  unfold callA at e
  change Ok _ _ _ _ _ at e
  split at e
  · rename_i fn c hf
    exact ⟨fn, c, hf⟩
  · exact (err_ok e).elim

variable {rec : Rec}
theorem builtin_sound {b : Builtin} {ts : Array Nat} {args : List AV} {xs : Array Value} {ty : Nat} {cs : Array Bool} (ha : VRL ρ args xs.toList) : OpS E P ρ (builtinA P b ts.toList args) (builtin b ts ty cs xs) := by
  unfold builtinA builtin
  cases b <;> first
    | exact OpS.err
    | exact OpS.of_sim (append_sound ha)
    | exact OpS.of_sim (len_sound ha)
    | exact OpS.of_sim (cap_sound ha)
    | exact OpS.of_sim (copy_sound ha)
    | exact OpS.of_sim (delete_sound ha)
    | exact OpS.of_sim (clear_sound ha)
    | exact OpS.of_sim (P := P) (s := Builtin.min_ ts ty xs) (min_sound (mx := false) (ts := ts) (ty := ty) ha)
    | exact OpS.of_sim (P := P) (s := Builtin.max_ ts ty xs) (min_sound (mx := true) (ts := ts) (ty := ty) ha)

theorem map_sound {t : Nat} {r : Option Value} (h : r = none ∨ ∃ k n a b, r = some (.int k n) ∧ P.underlying t = some (.map a b)) : Sim P ρ (M.bnd (Ev.alloc (.mp [] 0)) fun b => M.ret (.map b)) (Instr.makeMap t r) := by
  intro W n h0 l v n' h' l' w e mo
  obtain ⟨b, n1, h1, l1, e1, e2⟩ := bind_ok e
  obtain ⟨rfl, rfl, rfl, rfl⟩ := ret_ok e2
  obtain ⟨rfl, rfl, hk, hn, rfl, rfl⟩ := alloc_ok e1
  obtain ⟨ρ', g1, g2, g3⟩ := mo.fresh (x := .mp [] 0) (o := .map #[] 0) 0 hk hn ⟨#[], rfl, by simp [ERL]⟩
  refine ⟨ρ', .map (some w.heap.size), _, g1, ?_, g3, ?_⟩
  · simp only [VR]
    exact ⟨_, g2, rfl⟩
  · rcases h with rfl | ⟨k, q, a, c, rfl, hd⟩
    · simp [Instr.makeMap]
    · simp [Instr.makeMap, run_underlying hd, asInt, asIntOf]

theorem evOp_sound (ho : OrcOK E P ∧ CntOK E P) (hc : SoundCall E P rec) (hy : SoundYield E P rec) {ev : Operand → Option AV} {rv : Operand → Value} (he : EvRel ρ ev rv) (o : Oper) : OpS E P ρ (evOp P rec ev o.op) (execOp rv o) := by
  unfold execOp
  cases o.op <;> simp only [evOp_move, evOp_assign, evOp_pick, evOp_alloc, evOp_box, evOp_build, evOp_buildSlice, evOp_insert, evOp_load, evOp_store, evOp_ready, evOp_waits, evOp_nilCheck, evOp_binOp, evOp_unOp, evOp_convert, evOp_sliceToArrayPointer, evOp_makeInterface, evOp_makeFunc, evOp_makeMap, evOp_makeChan, evOp_makeSlice, evOp_slice, evOp_fieldAddr, evOp_field, evOp_indexAddr, evOp_index, evOp_lookup, evOp_mapUpdate, evOp_mapEntry, evOp_entryStore, evOp_range, evOp_next, evOp_entry, evOp_typeAssert, evOp_extract, evOp_call, evOp_go, evOp_defer, evOp_panic, evOp_send, evOp_recv, evOp_select, op_move, op_assign, op_pick, op_alloc, op_box, op_build, op_buildSlice, op_insert, op_load, op_store, op_nilCheck, op_binOp, op_unOp, op_convert, op_makeInterface, op_makeFunc, op_makeMap, op_makeSlice, op_slice, op_fieldAddr, op_field, op_indexAddr, op_index, op_lookup, op_mapUpdate, op_range, op_next, op_entry, op_extract, op_call] <;> first | exact OpS.err | skip
  case move x => exact OpS.pureOpt fun v h => he _ _ h
  case assign x => exact OpS.pureOpt fun v h => he _ _ h
  case pick c a b =>
    split
    · rename_i h
      have := he _ _ h
      simp only [VR] at this
      rw [this]
      exact OpS.pureOpt fun v h => he _ _ h
    · rename_i h
      have := he _ _ h
      simp only [VR] at this
      rw [this]
      exact OpS.pureOpt fun v h => he _ _ h
    · exact OpS.err
  case alloc t =>
    split
    · rename_i z hz
      exact OpS.of_sim (alloc_sound hz)
    · exact OpS.err
  case box t x =>
    split
    · rename_i v h
      split
      · exact OpS.of_sim (box_sound (he _ _ h))
      · exact OpS.err
    · exact OpS.err
  case build t ps =>
    split
    · rename_i l h
      refine OpS.opt fun v e => build_sound (ps := l) ?_ e
      have := evParts_PRL he h
      simpa using this
    · exact OpS.err
  case buildSlice t n ps =>
    split
    · rename_i l h
      refine OpS.of_sim (buildSlice_sound (ps := l) ?_)
      have := evParts_PRL he h
      simpa using this
    · exact OpS.err
  case load t a =>
    split
    · rename_i b q h
      exact OpS.of_sim (loadA_sound (he _ _ h))
    · exact OpS.err
  case store t a x =>
    split
    · rename_i b q v h1 h2
      exact OpS.of_simU (storeA_sound (he _ _ h1) (he _ _ h2))
    · exact OpS.err
  case nilCheck x =>
    split
    · exact OpS.err
    · exact OpS.err
    · exact OpS.err
    · rename_i v n1 n2 n3 h
      have h0 := he _ _ h
      have h1 := h0
      cases v <;> simp only [VR] at h1 <;> first
        | exact absurd rfl n1
        | exact absurd rfl n2
        | exact absurd rfl n3
        | (rw [h1] at h0 ⊢; exact OpS.pureRet h0)
        | (obtain ⟨l, x0, cap, hh, h1, h2⟩ := h1; rw [h1] at h0 ⊢; exact OpS.pureRet h0)
        | (obtain ⟨y, hh, h1⟩ := h1; rw [h1] at h0 ⊢; exact OpS.pureRet h0)
        | (obtain ⟨y, g, fa, fb, hh, h1, hh2⟩ := h1; rw [h1] at h0 ⊢; exact OpS.pureRet h0)
    · exact OpS.err
  case binOp op t x y s =>
    split
    · rename_i a b h1 h2
      exact OpS.of_sim (binA_sound (he _ _ h1) (he _ _ h2))
    · exact OpS.err
  case unOp op t x =>
    split
    · rename_i a h
      exact OpS.opt fun v e => unA_sound (he _ _ h) e
    · exact OpS.err
  case convert s d x =>
    split
    · rename_i a h
      exact OpS.of_sim (convA_sound (he _ _ h))
    · exact OpS.err
  case makeInterface t x =>
    split
    · rename_i a d h hd
      split
      · rename_i hi
        refine OpS.of_sim (Sim.ret (x := .iface t (rv x)) (by simp only [VR]; exact ⟨_, he _ _ h, rfl⟩) fun w => ?_)
        cases d <;> simp [ifaceT] at hi <;> simp [Instr.makeInterface, run_underlying hd]
      · exact OpS.err
    · exact OpS.err
  case makeFunc fn first cap =>
    cases fn <;> simp only <;> first | exact OpS.err | skip
    rename_i fid
    split
    · rename_i l hb h1 h2
      have hf : first.map rv = #[] := by
        have := (evs_VRL he h1).nil_inv
        apply Array.ext'
        simpa using this
      refine OpS.of_sim (Sim.ret (x := .func (.func fid) #[] (cap.map rv)) ?_ fun w => by simp [Instr.makeFunc, hf])
      simp only [VR]
      have := evs_VRL he h2
      exact ⟨_, _, _, _, this, rfl, fun _ => ⟨rfl, rfl, by apply Array.ext'; simp⟩, fun h => by rw [hb] at h; cases h⟩
    · rename_i c l hb h1 h2
      have hf : cap.map rv = #[] := by
        have := (evs_VRL he h2).nil_inv
        apply Array.ext'
        simpa using this
      have hlt : Nat.blt (fid + 1000000) 1000000 = false := by
        cases hq : Nat.blt (fid + 1000000) 1000000
        · rfl
        · rw [Nat.blt_eq] at hq; omega
      refine OpS.of_sim (Sim.ret (x := .func (.func fid) (first.map rv) #[]) ?_ fun w => by simp [Instr.makeFunc, hf])
      simp only [VR]
      have := evs_VRL he h1
      exact ⟨_, _, _, _, this, rfl, fun h => (by rw [hlt] at h; cases h), fun _ => ⟨by omega, by apply Array.ext'; simp, rfl⟩⟩
    · exact OpS.err
  case makeMap t r =>
    cases r with
    | none => exact OpS.of_sim (map_sound (.inl rfl))
    | some x =>
      simp only
      split
      · rename_i k n a b h1 h2
        have h3 := he _ _ h1
        simp only [VR] at h3
        refine OpS.of_sim (map_sound (.inr ⟨k, n, a, b, by simp [h3], h2⟩))
      · exact OpS.err
  case makeSlice t l c =>
    split
    · rename_i a b h1 h2
      exact OpS.of_sim (makeSlice_sound (he _ _ h1) (he _ _ h2))
    · exact OpS.err
  case slice t x lo hi mx =>
    split
    · rename_i a b c d h1 h2 h3 h4
      unfold sliceM
      split
      · rename_i v e
        exact OpS.opt (o := some v) fun v' e' => by cases e'; exact sliceA_sound (he _ _ h1) (evO_OR he h2) (evO_OR he h3) (evO_OR he h4) e
      · exact OpS.of_sim (sliceX_sound (he _ _ h1) (evO_OR he h2) (evO_OR he h3) (evO_OR he h4))
    · exact OpS.err
  case fieldAddr t x i =>
    split
    · rename_i b q h
      exact OpS.opt fun v e => fieldA_sound (he _ _ h) e
    · exact OpS.err
  case field t x i =>
    split
    · rename_i cs fs h hd
      split
      · rename_i f hf
        exact OpS.opt fun v e => field_sound (he _ _ h) hd hf e
      · exact OpS.err
    · exact OpS.err
  case indexAddr t x i =>
    split
    · rename_i a b h1 h2
      exact OpS.opt fun v e => indexAddrA_sound (he _ _ h1) (he _ _ h2) e
    · exact OpS.err
  case index t x i =>
    split
    · rename_i a b h1 h2
      exact OpS.opt fun v e => indexA_sound (he _ _ h1) (he _ _ h2) e
    · exact OpS.err
  case lookup t x i ok =>
    split
    · rename_i a b h1 h2
      exact OpS.of_sim (lookup_sound (he _ _ h1) (he _ _ h2))
    · exact OpS.err
  case mapUpdate t m k v =>
    split
    · rename_i a b c h1 h2 h3
      exact OpS.of_simU (update_sound (he _ _ h1) (he _ _ h2) (he _ _ h3))
    · exact OpS.err
  case insert t m k v =>
    split
    · rename_i a b c h1 h2 h3
      exact OpS.of_simU (update_sound (he _ _ h1) (he _ _ h2) (he _ _ h3))
    · exact OpS.err
  case extract x i =>
    split
    · rename_i vs h
      refine OpS.opt fun v e => ?_
      have h1 := he _ _ h
      simp only [VR] at h1
      obtain ⟨xs, h2, h3⟩ := h1
      obtain ⟨y, h4, h5⟩ := h2.get e
      exact ⟨y, h5, fun w => by simp [h3, Instr.extract, h4]⟩
    · exact OpS.err
  case range t x =>
    split
    · rename_i a h
      exact OpS.of_sim (rangeMap_sound (he _ _ h))
    · exact OpS.err
  case next x q =>
    cases q <;> simp only
    · split
      · rename_i a h
        exact OpS.of_sim (next_sound (he _ _ h))
      · exact OpS.err
    · exact OpS.err
  case entry x =>
    split
    · rename_i a h
      exact OpS.of_sim (entry_sound (he _ _ h))
    · exact OpS.err
  case call c =>
    obtain ⟨callee, aas, ts⟩ := c
    cases callee <;> simp only <;> first | exact OpS.err | skip
    case value f =>
      split
      · rename_i f' cap l h1 h2
        have h3 := he _ _ h1
        simp only [VR] at h3
        obtain ⟨xs, gg, fa, fb, h4, h5, hfv⟩ := h3
        have h6 := evs_VRL he h2
        split
        case h_2 =>
          rename_i hblt
          obtain ⟨hgg, rfl, rfl⟩ := hfv.2 hblt
          rw [hgg] at h5
          have hq : (xs ++ List.map rv aas.toList).toArray = xs.toArray ++ (aas.map rv) := by apply Array.ext'; simp
          intro W hE n h l0 v n' h' l' w e mo
          obtain ⟨fn, c, hf⟩ := callA_fn e
          refine .inr (.inl ⟨f' - 1000000, xs.toArray ++ (aas.map rv), ?_, ?_⟩)
          · simp [resolve, h5, Deferred.ofValue, invoke, callFunc_run hf]
          · have := hc ρ (f' - 1000000) _ _ (h4.append h6) _ hE _ _ _ _ _ _ _ _ e mo
            rw [hq] at this
            exact this
        rename_i hblt
        obtain ⟨hgg, rfl, rfl⟩ := hfv.1 hblt
        rw [hgg] at h5
        have hq : (List.map rv aas.toList ++ xs).toArray = (aas.map rv) ++ xs.toArray := by apply Array.ext'; simp
        split
        · rename_i v0 hext
          rcases ext_sound ho.1 hext (h6.append h4) with ⟨x, g1, g2⟩ | ⟨⟨fn, c, hf⟩, g2⟩
          · refine (OpS.pureRet g1).congr fun w => ?_
            have := g2 w
            rw [hq] at this
            simp [resolve, h5, Deferred.ofValue, invoke, this]
          · intro W hE n h l0 v n' h' l' w e mo
            obtain ⟨rfl, rfl, rfl, rfl⟩ := ret_ok e
            refine .inr (.inl ⟨f', (aas.map rv) ++ xs.toArray, ?_, ?_⟩)
            · simp [resolve, h5, Deferred.ofValue, invoke, callFunc_run hf]
            · have := g2 W w hE mo.below
              rw [hq] at this
              refine this.mono ?_
              rintro e1 w1 ⟨x, rfl, q1, q2⟩
              exact ⟨x, rfl, ρ, Ext.refl _, q1, mo.grow ⟨q2.os, q2.tape, q2.output, q2.size, fun j hj => q2.block j (by have := mo.below.size; omega)⟩ (fun j hj => q2.block j hj)⟩
        split
        · rename_i act hact
          unfold orcM at hact
          split at hact
          · rename_i fn c hf
            split at hact
            · rename_i hcnt
              cases hact
              have hf' := fnOf_some hf
              intro W hE n h l0 v n' h' l' w e mo
              refine .inr (.inl ⟨f', (aas.map rv) ++ xs.toArray, ?_, ?_⟩)
              · simp [resolve, h5, Deferred.ofValue, invoke, callFunc_run hf]
              · have := ho.2 f' fn c _ ρ _ W w n n' h h' l0 l' v hf'.1 hf'.2 hcnt (h6.append h4) hE e mo
                rw [hq] at this
                exact this
            · cases hact
          · cases hact
        intro W hE n h l0 v n' h' l' w e mo
        obtain ⟨fn, c, hf⟩ := callA_fn e
        refine .inr (.inl ⟨f', (aas.map rv) ++ xs.toArray, ?_, ?_⟩)
        · simp [resolve, h5, Deferred.ofValue, invoke, callFunc_run hf]
        · have := hc ρ f' _ _ (h6.append h4) _ hE _ _ _ _ _ _ _ _ e mo
          rw [hq] at this
          exact this
      · rename_i b l h1 h2
        have h3 := he _ _ h1
        simp only [VR] at h3
        obtain ⟨lc, h4, h5⟩ := h3
        have h6 := evs_VRL he h2
        intro W hE n h l0 v n' h' l' w e mo
        obtain ⟨f, tmps, asg, body, k1, k2⟩ := hy ρ b lc _ _ h4 h6 _ hE _ _ _ _ _ _ _ _ e mo
        refine .inr (.inr ⟨lc.blk, f, tmps, asg, body, ?_, k2⟩)
        have hq : (List.map rv aas.toList).toArray = aas.map rv := by apply Array.ext'; simp
        rw [hq] at k1
        simp [resolve, h5, Deferred.ofValue, invoke, k1]
      · exact OpS.err
    case builtin b =>
      split
      · rename_i l h
        have h6 := evs_VRL he h
        have h7 : VRL ρ l (aas.map rv).toList := by simpa using h6
        have := builtin_sound (E := E) (P := P) (b := b) (ts := ts) (ty := o.type) (cs := aas.map fun | .const _ => true | _ => false) h7
        refine this.congr fun w => ?_
        simp only [resolve, Sem.run_bind, Sem.run_pure, Result.andThen_ok]
        rfl
      · exact OpS.err
end
end Ev
end Go.Proofs.YtacjgphfcailmaaGreatDoor
