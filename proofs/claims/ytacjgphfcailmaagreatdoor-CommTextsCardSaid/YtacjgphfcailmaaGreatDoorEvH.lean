/-
  The small machine's arithmetic, comparisons, fields, elements and slices are the model's.
-/
import Derived.Test.YtacjgphfcailmaaGreatDoorEvG
namespace Go.Proofs.YtacjgphfcailmaaGreatDoor
open Go.RowKit
namespace Ev
set_option linter.unusedVariables false
set_option linter.unusedSimpArgs false

section
variable {P : Program} {ρ : Ren}

/-- what a plain operation yields -/
def Yl (P : Program) (ρ : Ren) (v : AV) (s : Sem Value) : Prop := ∃ x, VR ρ v x ∧ ∀ w, s.run P w = .ok x w
theorem Yl.mk {v : AV} {s : Sem Value} (x : Value) (h : VR ρ v x) (hs : ∀ w, s.run P w = .ok x w) : Yl P ρ v s := ⟨x, h, hs⟩
theorem Sim.of {o : Option AV} {s : Sem Value} (h : ∀ v, o = some v → Yl P ρ v s) : Sim P ρ (M.opt o) s := Sim.opt h

theorem intOp_sound {op : BinOp} {k : IntKind} {a b : Int} {v : AV} (t : Nat) (h1 : op ≠ .shl) (h2 : op ≠ .shr) (e : intOp op k a b = some v) : Yl P ρ v (binOp op t (.int k a) (.int k b)) := by
  cases op <;> simp only [intOp, int_add, int_sub, int_mul, int_quo, int_rem, int_and, int_or, int_xor, int_andNot, int_eql, int_neq, int_lss, int_leq, int_gtr, int_geq] at e
  case shl => exact absurd rfl h1
  case shr => exact absurd rfl h2
  case quo =>
    split at e
    · cases e
    · rename_i hb
      cases e
      have hb : b ≠ 0 := by simpa using hb
      exact .mk (.int k (k.wrap (a.tdiv b))) (by simp only [VR]) fun w => by simp [binOp, Op.intDiv, hb]
  case rem =>
    split at e
    · cases e
    · rename_i hb
      cases e
      have hb : b ≠ 0 := by simpa using hb
      exact .mk (.int k (a.tmod b)) (by simp only [VR]) fun w => by simp [binOp, Op.intDiv, hb]
  case add => cases e; exact .mk (.int k (k.wrap (a + b))) (by simp only [VR]) fun w => by simp [binOp, Op.intArith]
  case sub => cases e; exact .mk (.int k (k.wrap (a - b))) (by simp only [VR]) fun w => by simp [binOp, Op.intArith]
  case mul => cases e; exact .mk (.int k (k.wrap (a * b))) (by simp only [VR]) fun w => by simp [binOp, Op.intArith]
  case and => cases e; exact .mk (.int k (k.wrap ((BitVec.ofInt k.bits a &&& BitVec.ofInt k.bits b).toNat : Nat))) (by simp only [VR]) fun w => by simp [binOp, Op.intBits]
  case or => cases e; exact .mk (.int k (k.wrap ((BitVec.ofInt k.bits a ||| BitVec.ofInt k.bits b).toNat : Nat))) (by simp only [VR]) fun w => by simp [binOp, Op.intBits]
  case xor => cases e; exact .mk (.int k (k.wrap ((BitVec.ofInt k.bits a ^^^ BitVec.ofInt k.bits b).toNat : Nat))) (by simp only [VR]) fun w => by simp [binOp, Op.intBits]
  case andNot => cases e; exact .mk (.int k (k.wrap ((BitVec.ofInt k.bits a &&& ~~~BitVec.ofInt k.bits b).toNat : Nat))) (by simp only [VR]) fun w => by simp [binOp, Op.intBits]
  case eql => cases e; exact .mk (.bool (a == b)) (by simp only [VR]) fun w => by simp [binOp, Op.intCmp]
  case neq => cases e; exact .mk (.bool (!(a == b))) (by simp only [VR]) fun w => by simp [binOp, Op.intCmp, bne]
  case lss => cases e; exact .mk (.bool (decide (a < b))) (by simp only [VR]) fun w => by simp [binOp, Op.intCmp]
  case leq => cases e; exact .mk (.bool (decide (a ≤ b))) (by simp only [VR]) fun w => by simp [binOp, Op.intCmp]
  case gtr => cases e; exact .mk (.bool (decide (b < a))) (by simp only [VR]) fun w => by simp [binOp, Op.intCmp]
  case geq => cases e; exact .mk (.bool (decide (b ≤ a))) (by simp only [VR]) fun w => by simp [binOp, Op.intCmp]
theorem shiftOp_sound {op : BinOp} {k j : IntKind} {a b : Int} {v : AV} (t : Nat) (h1 : op = .shl ∨ op = .shr) (e : shiftOp op k a b = some v) : Yl P ρ v (binOp op t (.int k a) (.int j b)) := by
  unfold shiftOp at e
  split at e
  · cases e
  · rename_i hb
    have hb : ¬ b < 0 := by simpa using hb
    rcases h1 with rfl | rfl
    · cases e; exact .mk (.int k (k.wrap (a * 2 ^ (min b.toNat k.bits)))) (by simp only [VR]) fun w => by simp [binOp, Op.shift, hb]
    · cases e; exact .mk (.int k (a.fdiv (2 ^ (min b.toNat k.bits)))) (by simp only [VR]) fun w => by simp [binOp, Op.shift, hb]
theorem str_size (n v : Nat) : (ByteArray.mk (strOf n v).toArray).size = n := by
  show (strOf n v).toArray.size = n
  simp [strOf_length]
theorem strOp_sound {op : BinOp} {n v m u : Nat} {r : AV} (t : Nat) (e : strOp op n v m u = some r) : Yl P ρ r (binOp op t (.string ⟨(strOf n v).toArray⟩) (.string ⟨(strOf m u).toArray⟩)) := by
  cases op <;> simp only [strOp] at e
  case add =>
    split at e
    · rename_i hb
      cases e
      have hb := Nat.le_of_ble_eq_true hb
      refine .mk (.string ⟨(strOf (n + m) (v % 256 ^ n + u * 256 ^ n)).toArray⟩) (by simp only [VR]) fun w => ?_
      have h1 : ¬ (((n + m : Nat) : Int) > IntKind.i64.max) := by
        have : IntKind.i64.max = 9223372036854775807 := by decide
        rw [this]
        omega
      have h2 : (ByteArray.mk (strOf n v).toArray) ++ (ByteArray.mk (strOf m u).toArray) = ⟨(strOf (n + m) (v % 256 ^ n + u * 256 ^ n)).toArray⟩ := by
        apply ByteArray.ext
        rw [ByteArray.data_append, strOf_append]
        simp
      simp only [binOp, Op.stringOp, str_size, if_neg h1, h2]
      rfl
    · cases e
  case eql => cases e; exact .mk (.bool (Nat.beq n m && Nat.beq (v % 256 ^ n) (u % 256 ^ m))) (by simp only [VR]) fun w => by simp only [binOp, Op.stringOp, ByteArray.toList_mk, str_beq]; rfl
  case neq => cases e; exact .mk (.bool (!(Nat.beq n m && Nat.beq (v % 256 ^ n) (u % 256 ^ m)))) (by simp only [VR]) fun w => by simp only [binOp, Op.stringOp, ByteArray.toList_mk, str_beq]; rfl
  case lss => cases e; exact .mk (.bool (lessL (strOf n v) (strOf m u))) (by simp only [VR]) fun w => by simp only [binOp, Op.stringOp, ByteArray.toList_mk, lessL_eq]; rfl
  case leq => cases e; exact .mk (.bool (!lessL (strOf m u) (strOf n v))) (by simp only [VR]) fun w => by simp only [binOp, Op.stringOp, ByteArray.toList_mk, ← lessL_eq, lessL_total]; rfl
  case gtr => cases e; exact .mk (.bool (lessL (strOf m u) (strOf n v))) (by simp only [VR]) fun w => by simp only [binOp, Op.stringOp, ByteArray.toList_mk, ← lessL_eq, lessL_total, Bool.not_not]; rfl
  case geq => cases e; exact .mk (.bool (!lessL (strOf n v) (strOf m u))) (by simp only [VR]) fun w => by simp only [binOp, Op.stringOp, ByteArray.toList_mk, lessL_eq]; rfl
  all_goals cases e

theorem guard_run {op : BinOp} {t : Nat} {xo yo : Operand} {x y : Value} (h1 : x = .nilIface → y = .nilIface → False) (h2 : ∀ a b, x = .agg a → y = .agg b → P.eqGuardType P.depth t = false) (w : World) : (eqGuard op t xo yo x y).run P w = .ok () w := by
  unfold eqGuard
  cases op <;> first | rfl | skip
  all_goals
    cases x <;> first | rfl | skip
    · cases y <;> first | rfl | exact absurd rfl (h1 rfl)
    · cases y <;> first | rfl | skip
      rename_i a b
      simp [h2 a b rfl rfl]

theorem sameA_key {d : TypeDesc} {a b : AV} {x y : Value} {r : Bool} (ha : VR ρ a x) (hb : VR ρ b y) (hka : keyT d a = true) (hkb : keyT d b = true) (e : sameA a b = some r) :
    (∃ k j p q, d = .int k ∧ x = .int j p ∧ y = .int j q ∧ r = (p == q)) ∨ (∃ p q : ByteArray, d = .string ∧ x = .string p ∧ y = .string q ∧ r = (p.toList == q.toList)) ∨ (∃ p q, d = .bool ∧ x = .bool p ∧ y = .bool q ∧ r = (p == q)) := by
  cases a <;> cases b <;> simp only [sameA] at e <;> first | (cases e; done) | skip
  case bool.bool p q =>
    simp only [VR] at ha hb
    cases e
    cases d <;> simp [keyT] at hka
    exact .inr (.inr ⟨p, q, rfl, ha, hb, rfl⟩)
  case int.int j p k q =>
    simp only [VR] at ha hb
    split at e
    · rename_i hjk
      have hjk : j = k := by simpa using hjk
      subst hjk
      cases e
      cases d <;> simp [keyT] at hka
      exact .inl ⟨_, j, p, q, rfl, ha, hb, rfl⟩
    · cases e
  case str.str n v m u =>
    simp only [VR] at ha hb
    cases e
    cases d <;> simp [keyT] at hka
    exact .inr (.inl ⟨_, _, rfl, ha, hb, by simp only [ByteArray.toList_mk, str_beq]⟩)
theorem part_flat {t : Nat} {d : TypeDesc} {C : Array Value} {off : Nat} {x : Value} (hd : P.underlying t = some d) (ha : aggT d = false) (hx : C[off]? = some x) (w : World) : (part t C off).run P w = .ok x w := by
  simp [part, run_agg hd, ha, hx]
theorem key_flat {d : TypeDesc} {a : AV} (h : keyT d a = true) : aggT d = false := by
  cases d <;> cases a <;> simp [keyT] at h <;> rfl
theorem eqF_sound (dep : Nat) {X Y : Array Value} (w : World) : ∀ {fs : List Field} {o : Nat} {a b : List AV} {xs ys : List Value} {r : Bool}, VRL ρ a xs → VRL ρ b ys → (∀ (i : Nat) (x : Value), xs[i]? = some x → X[o + i]? = some x) → (∀ (i : Nat) (x : Value), ys[i]? = some x → Y[o + i]? = some x) →
    sameF P fs o a b = some r → (Op.eqFields (dep + 1) X Y fs).run P w = .ok r w
  | [], o, [], [], xs, ys, r, ha, hb, hX, hY, e => by
    simp only [sameF] at e
    cases e
    simp [Op.eqFields]
  | f :: fs, o, a :: l, b :: m, xs, ys, r, ha, hb, hX, hY, e => by
    obtain ⟨x, xs', rfl, hx, hxs⟩ := ha.cons_inv
    obtain ⟨y, ys', rfl, hy, hys⟩ := hb.cons_inv
    simp only [sameF] at e
    split at e
    · rename_i d hd
      split at e
      · rename_i hc
        simp only [Bool.and_eq_true, Bool.not_eq_true', Nat.beq_eq, beq_eq_false_iff_ne] at hc
        obtain ⟨⟨⟨hn, ho⟩, hka⟩, hkb⟩ := hc
        split at e
        · rename_i p q hp hq
          cases e
          have h1 := hX 0 x rfl
          have h2 := hY 0 y rfl
          simp only [Nat.add_zero, ← ho] at h1 h2
          have p1 := part_flat (P := P) hd (key_flat hka) h1 w
          have p2 := part_flat (P := P) hd (key_flat hka) h2 w
          have ih := eqF_sound dep (fs := fs) (X := X) (Y := Y) w hxs hys (fun i z hz => by have := hX (i + 1) z (by simpa using hz); rwa [show o + (i + 1) = o + 1 + i by omega] at this)
            (fun i z hz => by have := hY (i + 1) z (by simpa using hz); rwa [show o + (i + 1) = o + 1 + i by omega] at this) hq
          have heq : (Op.equalIn (dep + 1) f.type x y).run P w = .ok p w := by
            rcases sameA_key hx hy hka hkb hp with ⟨k, j, p', q', rfl, rfl, rfl, rfl⟩ | ⟨p', q', rfl, rfl, rfl, rfl⟩ | ⟨p', q', rfl, rfl, rfl, rfl⟩
            · exact run_equalIn_int w dep f.type j k p' q' hd
            · exact run_equalIn_string w dep f.type p' q' hd
            · exact run_equalIn_bool' w dep f.type p' q' hd
          simp only [Op.eqFields, if_pos hn, Sem.run_bind, p1, p2, Result.andThen_ok, heq]
          cases p
          · simp
          · simp [ih]
        · cases e
      · cases e
    · cases e
  | [], o, _ :: _, b, xs, ys, r, ha, hb, hX, hY, e => by simp [sameF] at e
  | [], o, [], _ :: _, xs, ys, r, ha, hb, hX, hY, e => by simp [sameF] at e
  | _ :: _, o, [], b, xs, ys, r, ha, hb, hX, hY, e => by simp [sameF] at e
  | _ :: _, o, _ :: _, [], xs, ys, r, ha, hb, hX, hY, e => by simp [sameF] at e

/-- two values that are equal, or not: the model says so too; and the guard ahead of it lets them through -/
theorem equalA_sound {t : Nat} {a b : AV} {x y : Value} {r : Bool} (ha : VR ρ a x) (hb : VR ρ b y) (hni : ∀ j p, a ≠ .int j p) (hns : ∀ j p, a ≠ .str j p) (e : equalA P t a b = some r) :
    (∀ w, (binOp .eql t x y).run P w = .ok (.bool r) w) ∧ (∀ w, (binOp .neq t x y).run P w = .ok (.bool (!r)) w) ∧ ∀ op xo yo w, (eqGuard op t xo yo x y).run P w = .ok () w := by
  unfold equalA at e
  split at e
  · rename_i d hd
    have key : ∀ (x y : Value), (∀ (j : IntKind) (p : Int), x ≠ .int j p) → (∀ n w, (Op.equalIn (n + 2) t x y).run P w = .ok r w) → (binOp .eql t x y = (do pure (.bool (← Op.equal t x y)))) → (binOp .neq t x y = (do pure (.bool (!(← Op.equal t x y))))) → (x = .nilIface → y = .nilIface → False) →
        (∀ a b, x = .agg a → y = .agg b → P.eqGuardType P.depth t = false) →
        (∀ w, (binOp .eql t x y).run P w = .ok (.bool r) w) ∧ (∀ w, (binOp .neq t x y).run P w = .ok (.bool (!r)) w) ∧ ∀ op xo yo w, (eqGuard op t xo yo x y).run P w = .ok () w := by
      intro x y _ h0 h2 h3 h4 h5
      have h1 : ∀ w, (Op.equal t x y).run P w = .ok r w := fun w => h0 9998 w
      refine ⟨fun w => ?_, fun w => ?_, fun op xo yo w => guard_run h4 h5 w⟩
      · rw [h2]; simp [h1 w]
      · rw [h3]; simp [h1 w]
    unfold equalD at e
    split at e <;> first | (cases e; done) | simp only [VR] at ha hb
    case h_16 fs a b =>
      obtain ⟨xs, ha, rfl⟩ := ha
      obtain ⟨ys, hb, rfl⟩ := hb
      split at e
      · rename_i hc
        simp only [Bool.and_eq_true, Bool.not_eq_true'] at hc
        have hf : P.fieldsOf t = fs := by simp [Program.fieldsOf, hd]
        refine key _ _ (by intros; simp) (fun n w => ?_) rfl rfl (by intros; simp_all) (fun _ _ _ _ => hc.2)
        · have := eqF_sound (P := P) (ρ := ρ) n (X := xs.toArray) (Y := ys.toArray) w ha hb (fun i x h => by simpa using h) (fun i x h => by simpa using h) e
          rw [run_equalIn_agg w (n + 1) t _ _ (by rw [hf]; exact hd) hc.1, hf]
          exact this
      · cases e
    all_goals
      cases e
      first
        | (obtain ⟨l, hl1, rfl⟩ := ha; subst hb; refine key _ _ (by intros; simp) (fun n w => by rw [Op.equalIn]; simp only [Sem.run_bind, run_underlying hd, Result.andThen_ok]; rfl) rfl rfl (by intros; simp_all) (by intros; simp_all))
        | (obtain ⟨l, hl1, rfl⟩ := hb; subst ha; refine key _ _ (by intros; simp) (fun n w => by rw [Op.equalIn]; simp only [Sem.run_bind, run_underlying hd, Result.andThen_ok]; rfl) rfl rfl (by intros; simp_all) (by intros; simp_all))
        | (obtain ⟨l, x0, c0, hl1, rfl, hl2⟩ := ha; subst hb; refine key _ _ (by intros; simp) (fun n w => by rw [Op.equalIn]; simp only [Sem.run_bind, run_underlying hd, Result.andThen_ok]; rfl) rfl rfl (by intros; simp_all) (by intros; simp_all))
        | (obtain ⟨l, x0, c0, hl1, rfl, hl2⟩ := hb; subst ha; refine key _ _ (by intros; simp) (fun n w => by rw [Op.equalIn]; simp only [Sem.run_bind, run_underlying hd, Result.andThen_ok]; rfl) rfl rfl (by intros; simp_all) (by intros; simp_all))
        | (obtain ⟨l, x0, c0, z0, hl1, rfl, hl2⟩ := ha; subst hb; refine key _ _ (by intros; simp) (fun n w => by rw [Op.equalIn]; simp only [Sem.run_bind, run_underlying hd, Result.andThen_ok]; rfl) rfl rfl (by intros; simp_all) (by intros; simp_all))
        | (obtain ⟨l, x0, c0, z0, hl1, rfl, hl2⟩ := hb; subst ha; refine key _ _ (by intros; simp) (fun n w => by rw [Op.equalIn]; simp only [Sem.run_bind, run_underlying hd, Result.andThen_ok]; rfl) rfl rfl (by intros; simp_all) (by intros; simp_all))
        | (subst ha; subst hb; refine key _ _ (by intros; simp) (fun n w => by rw [Op.equalIn]; simp only [Sem.run_bind, run_underlying hd, Result.andThen_ok]; rfl) rfl rfl (by intros; simp_all) (by intros; simp_all))
  · cases e
end
end Ev
end Go.Proofs.YtacjgphfcailmaaGreatDoor
