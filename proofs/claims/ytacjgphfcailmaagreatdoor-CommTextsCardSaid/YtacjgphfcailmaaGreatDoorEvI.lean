/-
  The small machine's comparisons of addresses, conversions, fields, elements, slices and new rows are the model's.
-/
import Derived.Test.YtacjgphfcailmaaGreatDoorEvH
namespace Go.Proofs.YtacjgphfcailmaaGreatDoor
open Go.RowKit
namespace Ev
set_option linter.unusedVariables false
set_option linter.unusedSimpArgs false

section
variable {P : Program} {ρ : Ren}

theorem sameAddr_other {w : World} {p q i j : Nat} {C D : Array Value} {e f : Nat} (h1 : w.heap[p]? = some (.cells C e (0, 0))) (h2 : w.heap[q]? = some (.cells D f (0, 0))) (hne : p ≠ q) :
    (sameAddr ⟨p, i, none⟩ ⟨q, j, none⟩).run P w = .ok false w := by
  simp [sameAddr, noView, viewAt, mayBeOne, stringish, World.frozen?, World.shape?, h1, h2, hne]
theorem sameAddr_same {w : World} {p i j : Nat} : (sameAddr ⟨p, i, none⟩ ⟨p, j, none⟩).run P w = .ok (Nat.beq i j) w := by
  have : ((⟨p, i, none⟩ : Addr) == ⟨p, j, none⟩) = Nat.beq i j := by
    rw [Bool.eq_iff_iff]
    simp
  simp [sameAddr, this]
theorem form_ok {W w : World} {h h' : Heap} {b n n' : Nat} {l l' : Log} {r : Nat × Nat × Nat × Bool × Bool} (m : Mo W ρ h w) (e : form b n h l = .ok r n' h' l') :
    n' = n ∧ h' = h ∧ ∃ lc e0 s0 cs opn ro C, r = (e0, s0, cs.length, opn, ro) ∧ ro = false ∧ h.get b = some (.row e0 s0 cs opn false) ∧ ρ b = some lc ∧ w.heap[lc.blk]? = some (.cells C e0 (0, 0)) := by
  unfold Ev.form at e
  split at e
  · rename_i e0 s0 cs opn hb
    simp only [R.ok.injEq] at e
    obtain ⟨rfl, rfl, rfl, rfl⟩ := e
    obtain ⟨lc, hρ, hbr⟩ := m.loc hb
    obtain ⟨C, hC, _⟩ := hbr
    exact ⟨rfl, rfl, lc, e0, s0, cs, opn, false, C, rfl, rfl, hb, hρ, hC⟩
  · cases e

theorem eqPtr_sound {t b o c p : Nat} {x y : Value} (hx : VR ρ (.ptr b o) x) (hy : VR ρ (.ptr c p) y) :
    ∀ W n h l r n' h' l' w, equalM P t (.ptr b o) (.ptr c p) n h l = .ok r n' h' l' → Mo W ρ h w → h' = h ∧ (∀ k, (Op.equalIn (k + 1) t x y).run P w = .ok r w) := by
  intro W n h l r n' h' l' w e m
  simp only [VR] at hx hy
  obtain ⟨lb, hb, rfl⟩ := hx
  obtain ⟨lc, hc, rfl⟩ := hy
  simp only [equalM] at e
  cases hd : P.underlying t with
  | none => simp only [hd] at e; exact (err_ok e).elim
  | some d =>
    simp only [hd] at e
    cases d <;> first | exact (err_ok e).elim | skip
    rename_i el
    simp only at e
    cases hs : sizeA P el with
    | none => simp only [hs] at e; exact (err_ok e).elim
    | some s =>
      simp only [hs] at e
      cases s with
      | zero => exact (err_ok e).elim
      | succ s =>
        simp only at e
        obtain ⟨f1, n1, h1, l1, e1, e2⟩ := bind_ok e
        obtain ⟨f2, n2, h2, l2, e3, e4⟩ := bind_ok e2
        obtain ⟨rfl, rfl, rfl, rfl⟩ := ret_ok e4
        obtain ⟨-, rfl, l3, e5, s5, c5, o5, r5, C5, -, -, g5, q5, k5⟩ := form_ok m e1
        obtain ⟨-, rfl, l6, e6, s6, c6, o6, r6, C6, -, -, g6, q6, k6⟩ := form_ok m e3
        rw [hb] at q5; cases q5
        rw [hc] at q6; cases q6
        refine ⟨rfl, fun k => ?_⟩
        rw [Op.equalIn]
        simp only [Sem.run_bind, run_underlying hd, Result.andThen_ok, run_size hs, Sem.run_ite, ne_eq, Nat.add_eq_zero_iff, Nat.one_ne_zero, and_false, not_false_eq_true, if_true]
        by_cases hbc : b = c
        · subst hbc
          rw [hb] at hc
          cases hc
          rw [sameAddr_same]
          congr 1
          rw [Bool.eq_iff_iff]
          simp
        · have hne : lb.blk ≠ lc.blk := fun he => hbc (m.inj _ _ _ _ _ _ g5 g6 rfl rfl hb hc he)
          rw [sameAddr_other k5 k6 hne]
          congr 1
          have : Nat.beq b c = false := by rw [← Bool.not_eq_true, Nat.beq_eq]; exact hbc
          simp [this]

theorem binA_sound {op : BinOp} {t : Nat} {a b : AV} {x y : Value} {xo yo : Operand} (ha : VR ρ a x) (hb : VR ρ b y) : Sim P ρ (binA P op t a b) (do eqGuard op t xo yo x y; binOp op t x y) := by
  unfold binA
  split
  · rename_i j p k q
    simp only [VR] at ha hb
    subst ha; subst hb
    have hg : ∀ w, (eqGuard op t xo yo (.int j p) (.int k q)).run P w = .ok () w := fun w => guard_run (by intros; simp_all) (by intros; simp_all) w
    split
    · refine Sim.of fun v e => ?_
      obtain ⟨z, h1, h2⟩ := shiftOp_sound (P := P) (ρ := ρ) (j := k) t (.inl rfl) e
      exact ⟨z, h1, fun w => by simp [hg w, h2 w]⟩
    · refine Sim.of fun v e => ?_
      obtain ⟨z, h1, h2⟩ := shiftOp_sound (P := P) (ρ := ρ) (j := k) t (.inr rfl) e
      exact ⟨z, h1, fun w => by simp [hg w, h2 w]⟩
    · rename_i n1 n2
      split
      · rename_i hjk
        have hjk : j = k := by simpa using hjk
        subst hjk
        refine Sim.of fun v e => ?_
        obtain ⟨z, h1, h2⟩ := intOp_sound (P := P) (ρ := ρ) t n1 n2 e
        exact ⟨z, h1, fun w => by simp [hg w, h2 w]⟩
      · exact Sim.err
  · rename_i n v m u
    simp only [VR] at ha hb
    subst ha; subst hb
    refine Sim.of fun r e => ?_
    obtain ⟨z, h1, h2⟩ := strOp_sound (P := P) (ρ := ρ) t e
    exact ⟨z, h1, fun w => by
      have hg : (eqGuard op t xo yo (.string ⟨(strOf n v).toArray⟩) (.string ⟨(strOf m u).toArray⟩)).run P w = .ok () w := guard_run (by intros; simp_all) (by intros; simp_all) w
      simp [hg, h2 w]⟩
  · rename_i ni ns
    have core : ∀ W n h l r n' h' l' w, equalM P t a b n h l = .ok r n' h' l' → Mo W ρ h w → Mo W ρ h' w ∧ (binOp .eql t x y).run P w = .ok (.bool r) w ∧ (binOp .neq t x y).run P w = .ok (.bool (!r)) w ∧ (eqGuard op t xo yo x y).run P w = .ok () w := by
      intro W n h l r n' h' l' w e m
      by_cases hp : ∃ q o c p, a = .ptr q o ∧ b = .ptr c p
      · obtain ⟨q, o, c, p, rfl, rfl⟩ := hp
        obtain ⟨rfl, hk⟩ := eqPtr_sound ha hb _ _ _ _ _ _ _ _ _ e m
        simp only [VR] at ha hb
        obtain ⟨lb, hb1, rfl⟩ := ha
        obtain ⟨lc, hc1, rfl⟩ := hb
        have h9 : (Op.equal t (.pointer (some ⟨lb.blk, lb.d + o, none⟩)) (.pointer (some ⟨lc.blk, lc.d + p, none⟩))).run P w = .ok r w := hk 9999
        refine ⟨m, ?_, ?_, guard_run (by intros; simp_all) (by intros; simp_all) w⟩
        · show (do pure (.bool (← Op.equal t _ _)) : Sem Value).run P w = _
          simp [h9]
        · show (do pure (.bool (!(← Op.equal t _ _))) : Sem Value).run P w = _
          simp [h9]
      · have e' : M.opt (equalA P t a b) n h l = .ok r n' h' l' := by
          unfold equalM at e
          split at e
          · exact absurd ⟨_, _, _, _, rfl, rfl⟩ hp
          · exact e
        obtain ⟨e1, rfl, rfl, rfl⟩ := opt_ok e'
        have hni : ∀ j p, a ≠ .int j p := by
          rintro j p rfl
          simp only [equalA] at e1
          split at e1
          · rename_i d _
            unfold equalD at e1
            split at e1 <;> simp_all
          · cases e1
        have hns : ∀ j p, a ≠ .str j p := by
          rintro j p rfl
          simp only [equalA] at e1
          split at e1
          · rename_i d _
            unfold equalD at e1
            split at e1 <;> simp_all
          · cases e1
        obtain ⟨k1, k2, k3⟩ := equalA_sound ha hb hni hns e1
        exact ⟨m, k1 w, k2 w, k3 op xo yo w⟩
    split
    · intro W n h l v n' h' l' w e m
      obtain ⟨r, n1, h1, l1, e1, e2⟩ := bind_ok e
      obtain ⟨rfl, rfl, rfl, rfl⟩ := ret_ok e2
      obtain ⟨m', k1, k2, k3⟩ := core _ _ _ _ _ _ _ _ _ e1 m
      exact ⟨ρ, .bool r, w, Ext.refl _, by simp only [VR], m', by simp [k3, k1]⟩
    · intro W n h l v n' h' l' w e m
      obtain ⟨r, n1, h1, l1, e1, e2⟩ := bind_ok e
      obtain ⟨rfl, rfl, rfl, rfl⟩ := ret_ok e2
      obtain ⟨m', k1, k2, k3⟩ := core _ _ _ _ _ _ _ _ _ e1 m
      exact ⟨ρ, .bool (!r), w, Ext.refl _, by simp only [VR], m', by simp [k3, k2]⟩
    · exact Sim.err

theorem unA_sound {op : UnOp} {a v : AV} {x : Value} (ha : VR ρ a x) (e : unA op a = some v) : Yl P ρ v (Op.unary op x) := by
  unfold unA at e
  split at e
  · rename_i k n
    simp only [VR] at ha
    subst ha
    cases e
    exact .mk (.int k (k.wrap (0 - n))) (by simp only [VR]) fun w => by simp [Op.unary, Op.intArith]
  · rename_i k n
    simp only [VR] at ha
    subst ha
    cases e
    exact .mk (.int k (k.wrap ((BitVec.ofInt k.bits (if k.signed then -1 else k.max) ^^^ BitVec.ofInt k.bits n).toNat : Nat))) (by simp only [VR]) fun w => by simp [Op.unary, Op.intBits]
  · rename_i b
    simp only [VR] at ha
    subst ha
    cases e
    exact .mk (.bool (!b)) (by simp only [VR]) fun w => by simp [Op.unary]
  · cases e

theorem convA_sound {s d : Nat} {a : AV} {x : Value} (ha : VR ρ a x) : Sim P ρ (convA P s d a) (convert s d x) := by
  unfold convA
  split
  · rename_i q k j n h1 h2
    simp only [VR] at ha
    subst ha
    exact Sim.ret (x := .int k (k.wrap n)) (by simp only [VR]) fun w => by simp [convert, run_underlying h1, run_underlying h2, Conv.intToInt]
  · rename_i q n v h1 h2
    simp only [VR] at ha
    subst ha
    exact Sim.ret (x := .string ⟨(strOf n v).toArray⟩) (by simp only [VR]) fun w => by cases q <;> simp [convert, run_underlying h1, run_underlying h2]
  · rename_i h1 h2
    simp only [VR] at ha
    subst ha
    split
    · rename_i h3
      exact Sim.ret (x := .string .empty) (by simp only [VR]; rfl) fun w => by simp [convert, run_underlying h1, run_underlying h2, run_underlying h3, Conv.bytesToString]
    · exact Sim.err
  · exact Sim.err

theorem partA_sound {t off : Nat} {cs : List AV} {xs : List Value} {v : AV} (h : VRL ρ cs xs) (e : partA P t cs off = some v) : Yl P ρ v (part t xs.toArray off) := by
  unfold partA at e
  split at e
  · rename_i d s hd hs
    split at e
    · rename_i ha
      cases e
      refine .mk (.agg (xs.toArray.extract off (off + s))) ?_ fun w => by simp [part, run_agg hd, ha, run_size hs]
      simp only [VR]
      refine ⟨_, (h.drop off).take s, ?_⟩
      congr 1
      apply Array.ext'
      rw [Array.toList_extract, List.extract_eq_take_drop]
      simp
    · rename_i ha
      obtain ⟨x, hx, hv⟩ := h.get e
      exact .mk x hv fun w => by simp [part, run_agg hd, ha, hx]
  · cases e
theorem field_sound {t i : Nat} {cs : List AV} {fs : Array Field} {f : Field} {x : Value} {v : AV} (h : VR ρ (.agg cs) x) (hd : P.underlying t = some (.struct fs)) (hf : fs.toList[i]? = some f) (e : partA P f.type cs f.offset = some v) : Yl P ρ v (Instr.field t x i) := by
  simp only [VR] at h
  obtain ⟨xs, hv, rfl⟩ := h
  obtain ⟨y, h1, h2⟩ := partA_sound hv e
  have hf' : fs[i]? = some f := by simpa using hf
  exact ⟨y, h1, fun w => by simp [Instr.field, run_underlying hd, hf', asAgg, h2 w]⟩
theorem fieldA_sound {t b o i : Nat} {x : Value} {v : AV} (h : VR ρ (.ptr b o) x) (e : fieldA P t b o i = some v) : Yl P ρ v (Instr.fieldAt t x i) := by
  simp only [VR] at h
  obtain ⟨l, hl, rfl⟩ := h
  unfold fieldA at e
  split at e
  · rename_i fs hd
    split at e
    · rename_i f hf
      split at e
      · rename_i s hs
        cases e
        have hf' : fs[i]? = some f := by simpa using hf
        refine .mk (.pointer (some ⟨l.blk, l.d + (o + f.offset), none⟩)) (by simp only [VR]; exact ⟨l, hl, rfl⟩) fun w => ?_
        simp [Instr.fieldAt, run_underlying hd, hf', Instr.sureAddr, fieldPlace, run_size hs, Addr.add_lit, Nat.add_assoc]
      · cases e
    · cases e
  · cases e
theorem indexAddrA_sound {t : Nat} {a i v : AV} {x y : Value} (ha : VR ρ a x) (hi : VR ρ i y) (e : indexAddrA P t a i = some v) : Yl P ρ v (Instr.indexAt t x y) := by
  unfold indexAddrA at e
  split at e
  · rename_i k j
    simp only [VR] at hi
    subst hi
    split at e
    · rename_i el b o len opn c hd
      split at e
      · rename_i s hs hc
        cases e
        simp only [Bool.and_eq_true, decide_eq_true_eq] at hc
        simp only [VR] at ha
        obtain ⟨l, x0, cap, hl, rfl, hle, hx0, -⟩ := ha
        have hcap : cap ≠ 0 := by omega
        have := hx0 hcap
        subst this
        refine .mk (.pointer (some ⟨l.blk, l.d + (o + j.toNat * s), none⟩)) (by simp only [VR]; exact ⟨l, hl, rfl⟩) fun w => ?_
        simp [Instr.indexAt, run_underlying hd, asIntOf, hc, run_size hs, Addr.add_lit, Nat.add_assoc]
      · cases e
    · rename_i len el b o hd
      split at e
      · rename_i s hs hc
        cases e
        simp only [Bool.and_eq_true, decide_eq_true_eq] at hc
        simp only [VR] at ha
        obtain ⟨l, hl, rfl⟩ := ha
        refine .mk (.pointer (some ⟨l.blk, l.d + (o + j.toNat * s), none⟩)) (by simp only [VR]; exact ⟨l, hl, rfl⟩) fun w => ?_
        simp [Instr.indexAt, run_underlying hd, asIntOf, Instr.sureAddr, hc, run_size hs, Addr.add_lit, Nat.add_assoc]
      · cases e
    · cases e
  · cases e
theorem indexA_sound {t : Nat} {a i v : AV} {x y : Value} (ha : VR ρ a x) (hi : VR ρ i y) (e : indexA P t a i = some v) : Yl P ρ v (Instr.index t x y) := by
  unfold indexA at e
  split at e
  · rename_i k j
    simp only [VR] at hi
    subst hi
    split at e
    · rename_i n u hd
      split at e
      · rename_i hc
        cases e
        simp only [Bool.and_eq_true, decide_eq_true_eq] at hc
        simp only [VR] at ha
        subst ha
        refine .mk (.int .u8 (u / 256 ^ j.toNat % 256 : Nat)) (by simp only [VR]) fun w => ?_
        have hj : j.toNat < n := by omega
        have hg : (ByteArray.mk (strOf n u).toArray)[j.toNat]? = some (UInt8.ofNat (u / 256 ^ j.toNat % 256)) := by
          rw [ByteArray.getElem?_lt' _ _ (by rw [str_size]; exact hj)]
          have := strOf_get n u j.toNat hj
          rw [List.getElem?_eq_some_iff] at this
          obtain ⟨h1, h2⟩ := this
          congr 1
        simp [Instr.index, run_underlying hd, asIntOf, hc, hg]
      · cases e
    · rename_i len el cs hd
      split at e
      · rename_i s hs hc
        simp only [Bool.and_eq_true, decide_eq_true_eq] at hc
        simp only [VR] at ha
        obtain ⟨xs, hv, rfl⟩ := ha
        obtain ⟨z, h1, h2⟩ := partA_sound hv e
        exact ⟨z, h1, fun w => by simp [Instr.index, run_underlying hd, asIntOf, hc, run_size hs, h2 w]⟩
      · cases e
    · cases e
  · cases e
end
end Ev
end Go.Proofs.YtacjgphfcailmaaGreatDoor
