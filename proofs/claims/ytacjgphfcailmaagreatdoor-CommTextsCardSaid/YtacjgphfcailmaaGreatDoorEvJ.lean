/-
  The small machine's slices and new rows are the model's.
-/
import Derived.Test.YtacjgphfcailmaaGreatDoorEvI
namespace Go.Proofs.YtacjgphfcailmaaGreatDoor
open Go.RowKit
namespace Ev
set_option linter.unusedVariables false
set_option linter.unusedSimpArgs false

section
variable {P : Program} {ρ : Ren}

def OR (ρ : Ren) : Option AV → Option Value → Prop
  | none, v => v = none
  | some a, v => ∃ x, v = some x ∧ VR ρ a x
theorem evO_OR {ev : Operand → Option AV} {rv : Operand → Value} (h : EvRel ρ ev rv) {x : Option Operand} {r : Option AV} (e : evO ev x = some r) : OR ρ r (x.map rv) := by
  cases x with
  | none => simp [evO] at e; subst e; rfl
  | some x =>
    simp only [evO] at e
    cases hx : ev x with
    | none => rw [hx] at e; cases e
    | some a =>
      rw [hx] at e
      cases e
      exact ⟨_, rfl, h _ _ hx⟩
/-- a bound is what is left out, or a number -/
def BS (d l : Nat) (v : Option Value) : Prop := (v = none ∧ l = d) ∨ ∃ k i, v = some (.int k i) ∧ 0 ≤ i ∧ l = i.toNat
theorem boundA_BS {d l : Nat} {o : Option AV} {v : Option Value} (h : OR ρ o v) (e : boundA d o = some l) : BS d l v := by
  unfold boundA at e
  split at e
  · cases e
    exact .inl ⟨h, rfl⟩
  · rename_i k i
    split at e
    · rename_i hi
      cases e
      obtain ⟨x, rfl, hx⟩ := h
      simp only [VR] at hx
      subst hx
      exact .inr ⟨k, i, rfl, by simpa using hi, rfl⟩
    · cases e
  · cases e
theorem bound_run {k : IntKind} {i : Int} {y : Nat} {code : BoundsCode} (h0 : 0 ≤ i) (h1 : i.toNat ≤ y) (w : World) : (Instr.sliceBound (.int k i) y code).run P w = .ok i.toNat w := by
  have : i ≤ y := by omega
  simp [Instr.sliceBound, asIntOf, h0, this]
theorem bounds_run {isS : Bool} {len cap l h m : Nat} {lo hi mx : Option Value} (hm : BS cap m mx) (hh : BS len h hi) (hl : BS 0 l lo) (c1 : l ≤ h) (c2 : h ≤ m) (c3 : m ≤ cap) (hx : mx ≠ none → hi ≠ none) (w : World) :
    (Instr.sliceBounds isS len cap lo hi mx).run P w = .ok (l, h, m) w := by
  rcases hm with ⟨rfl, rfl⟩ | ⟨k, i, rfl, h0, rfl⟩
  · rcases hh with ⟨rfl, rfl⟩ | ⟨k', i', rfl, h0', rfl⟩
    · rcases hl with ⟨rfl, rfl⟩ | ⟨k2, i2, rfl, h2, rfl⟩
      · simp [Instr.sliceBounds]
      · simp [Instr.sliceBounds, bound_run h2 c1]
    · rcases hl with ⟨rfl, rfl⟩ | ⟨k2, i2, rfl, h2, rfl⟩
      · simp [Instr.sliceBounds, bound_run h0' c2]
      · simp [Instr.sliceBounds, bound_run h0' c2, bound_run h2 c1]
  · rcases hh with ⟨rfl, rfl⟩ | ⟨k', i', rfl, h0', rfl⟩
    · exact absurd rfl (hx (by simp))
    · rcases hl with ⟨rfl, rfl⟩ | ⟨k2, i2, rfl, h2, rfl⟩
      · simp [Instr.sliceBounds, bound_run h0 c3, bound_run h0' c2]
      · simp [Instr.sliceBounds, bound_run h0 c3, bound_run h0' c2, bound_run h2 c1]
theorem slice_VR {b o s l h m cap : Nat} {lc : Loc} {x0 : Nat} (hρ : ρ b = some lc) (hx : cap ≠ 0 → x0 = lc.d + o) (c1 : l ≤ h) (c2 : h ≤ m) (c3 : m ≤ cap) {opn' : Bool} {c' : Nat} (h1 : opn' = false → m - l = c') (h2 : opn' = true → m - l + c' = lc.cap) :
    VR ρ (.slice b (o + l * s) (h - l) opn' c') (.slice (if m = l then some ⟨lc.blk, x0, none⟩ else (some (⟨lc.blk, x0, none⟩ : Addr)).map (·.add (l * s))) (h - l) (m - l)) := by
  simp only [VR]
  by_cases hml : m = l
  · subst hml
    refine ⟨lc, x0, m - m, hρ, by simp, by omega, fun hn => absurd (Nat.sub_self m) hn, h1, h2⟩
  · refine ⟨lc, x0 + l * s, m - l, hρ, by simp [hml, Addr.add_lit], by omega, fun _ => ?_, h1, h2⟩
    rw [hx (by omega)]
    omega
theorem sliceA_sound {t : Nat} {a v : AV} {x : Value} {lo hi mx : Option AV} {lo' hi' mx' : Option Value} (ha : VR ρ a x) (hlo : OR ρ lo lo') (hhi : OR ρ hi hi') (hmx : OR ρ mx mx') (e : sliceA P t a lo hi mx = some v) : Yl P ρ v (Instr.sliceAt t x lo' hi' mx') := by
  unfold sliceA at e
  split at e
  · rename_i n u hd
    simp only [VR] at ha
    subst ha
    split at e
    · rename_i l h hl hh
      split at e
      · rename_i hc
        cases e
        simp only [Bool.and_eq_true, Nat.ble_eq] at hc
        obtain rfl : mx' = none := hmx
        refine .mk (.string ⟨(strOf (h - l) (u / 256 ^ l)).toArray⟩) (by simp only [VR]) fun w => ?_
        have hb := bounds_run (P := P) (isS := false) (len := n) (cap := n) (m := n) (mx := none) (.inl ⟨rfl, rfl⟩) (boundA_BS hhi hh) (boundA_BS hlo hl) hc.1 hc.2 (Nat.le_refl _) (by simp) w
        have he : (ByteArray.mk (strOf n u).toArray).extract l h = ⟨(strOf (h - l) (u / 256 ^ l)).toArray⟩ := by
          apply ByteArray.ext
          rw [ByteArray.data_extract, strOf_extract n u l h hc.1 hc.2]
          apply Array.ext'
          rw [Array.toList_extract, List.extract_eq_take_drop]
        simp [Instr.sliceAt, Instr.slice, run_underlying hd, str_size, hb, he]
      · cases e
    · cases e
  · rename_i el hd
    simp only [VR] at ha
    subst ha
    split at e
    · rename_i s hs hl hh hm
      have hx : mx' ≠ none → hi' ≠ none := by
        intro h1 h2
        subst h2
        cases mx with
        | none => exact h1 hmx
        | some q =>
          cases hi with
          | none => simp at e
          | some q' => obtain ⟨y, h3, _⟩ := hhi; cases h3
      obtain rfl : v = .nils := by
        cases mx <;> cases hi <;> simp at e <;> exact e.symm
      refine .mk (.slice none 0 0) (by simp only [VR]) fun w => ?_
      have hb := bounds_run (P := P) (isS := true) (len := 0) (cap := 0) (m := 0) (boundA_BS hmx hm) (boundA_BS hhi hh) (boundA_BS hlo hl) (Nat.le_refl _) (Nat.le_refl _) (Nat.le_refl _) hx w
      simp [Instr.sliceAt, Instr.slice, run_underlying hd, hb, run_size hs]
    · cases e
  · rename_i el b o len opn c hd
    simp only [VR] at ha
    obtain ⟨lc, x0, cap, hρ, rfl, hle, hx0, he1, he2⟩ := ha
    split at e
    · rename_i s l h hs hl hh
      split at e
      · split at e
        · rename_i hc
          cases e
          simp only [Bool.and_eq_true, Nat.ble_eq, Bool.or_eq_true, Bool.not_eq_true'] at hc
          obtain rfl : mx' = none := hmx
          have hcap : h ≤ cap := by
            rcases hc.2 with h1 | ⟨h1, h2⟩
            · omega
            · rw [he1 h1]; exact h2
          refine .mk _ (slice_VR (ρ := ρ) (s := s) (m := cap) (opn' := opn) hρ hx0 hc.1 hcap (Nat.le_refl _) (fun q => ?_) (fun q => ?_)) fun w => ?_
          · subst q
            simp [he1 rfl]
          · subst q
            have := he2 rfl
            have := hc.1
            simp
            omega
          · have hb := bounds_run (P := P) (isS := true) (len := len) (cap := cap) (m := cap) (mx := none) (.inl ⟨rfl, rfl⟩) (boundA_BS hhi hh) (boundA_BS hlo hl) hc.1 hcap (Nat.le_refl _) (by simp) w
            simp [Instr.sliceAt, Instr.slice, run_underlying hd, hb, run_size hs]
        · cases e
      · split at e
        · rename_i q1 q2 m2 q3 hm
          split at e
          · rename_i hc
            cases e
            simp only [Bool.and_eq_true, Nat.ble_eq, Bool.or_eq_true, Bool.not_eq_true'] at hc
            have hcap : m2 ≤ cap := by
              rcases hc.2 with h1 | ⟨h1, h2⟩
              · omega
              · rw [he1 h1]; exact h2
            refine .mk _ (slice_VR (ρ := ρ) (s := s) (m := m2) (opn' := false) hρ hx0 hc.1.1 hc.1.2 hcap (fun q => rfl) (fun q => by cases q)) fun w => ?_
            have hb := bounds_run (P := P) (isS := true) (len := len) (cap := cap) (m := m2) (by
                have hq := boundA_BS (d := 0) hmx hm
                rcases hq with ⟨h1, h2⟩ | h1
                · obtain ⟨y, h3, _⟩ := hmx
                  rw [h1] at h3
                  cases h3
                · exact .inr h1) (boundA_BS hhi hh) (boundA_BS hlo hl) hc.1.1 hc.1.2 hcap (fun _ => by
                obtain ⟨y, h3, _⟩ := hhi
                rw [h3]
                simp) w
            simp [Instr.sliceAt, Instr.slice, run_underlying hd, hb, run_size hs]
          · cases e
        · cases e
    · cases e
  · rename_i n el b o hd
    simp only [VR] at ha
    obtain ⟨lc, hρ, rfl⟩ := ha
    split at e
    · rename_i s l h hs hl hh
      split at e
      · rename_i hc
        cases e
        simp only [Bool.and_eq_true, Nat.ble_eq] at hc
        obtain rfl : mx' = none := hmx
        have hv := slice_VR (ρ := ρ) (s := s) (h := h) (m := n) (cap := n) (opn' := false) (c' := n - l) (x0 := lc.d + o) hρ (fun _ => rfl) hc.1 hc.2 (Nat.le_refl _) (fun q => rfl) (fun q => by cases q)
        refine .mk _ hv fun w => ?_
        have hb := bounds_run (P := P) (isS := false) (len := n) (cap := n) (m := n) (mx := none) (.inl ⟨rfl, rfl⟩) (boundA_BS hhi hh) (boundA_BS hlo hl) hc.1 hc.2 (Nat.le_refl _) (by simp) w
        by_cases q : n = l
        · subst q
          simp [Instr.sliceAt, run_underlying hd, Instr.sureAddr, hb, run_size hs]
        · simp [Instr.sliceAt, run_underlying hd, Instr.sureAddr, hb, run_size hs, q]
      · cases e
    · cases e
  · cases e

/-- beyond the length: the cells are known, so there is room -/
theorem sliceX_sound {t : Nat} {a : AV} {x : Value} {lo hi mx : Option AV} {lo' hi' mx' : Option Value} (ha : VR ρ a x) (hlo : OR ρ lo lo') (hhi : OR ρ hi hi') (hmx : OR ρ mx mx') : Sim P ρ (sliceX P t a lo hi mx) (Instr.sliceAt t x lo' hi' mx') := by
  unfold sliceX
  split
  · rename_i el b o len c hd
    simp only [VR] at ha
    obtain ⟨lc, x0, cap, hρ, rfl, hle, hx0, he1, he2⟩ := ha
    obtain rfl : mx' = none := hmx
    split
    · rename_i s l h hs hl hh
      intro W n hp lg v n' hp' lg' w e mo
      obtain ⟨f, n1, h1, l1, e1, e2⟩ := bind_ok e
      obtain ⟨rfl, rfl, lf, e0, s0, cs, op, ro, C, rfl, rfl, hg, hρ2, hC⟩ := form_ok mo e1
      obtain rfl : lc = lf := Option.some.inj (hρ.symm.trans hρ2)
      simp only at e2
      change Ok _ _ _ _ _ at e2
      split at e2
      · rename_i hc
        simp only [Bool.and_eq_true, Nat.ble_eq, Nat.beq_eq] at hc
        obtain ⟨c1, c2, c3, rfl⟩ := hc
        split at e2
        · obtain ⟨rfl, rfl, rfl, rfl⟩ := ret_ok e2
          obtain ⟨C', hC', hcells, _, hopn⟩ := mo.blk _ _ _ hg hρ
          obtain rfl : C = C' := by
            rw [hC] at hC'
            simpa using hC'
          have hcs : cs.length ≤ lc.cap * s0 := by
            have hz := hopn rfl
            rcases Nat.eq_zero_or_pos cs.length with h0 | h0
            · omega
            · obtain ⟨y, hy, _⟩ := hcells (cs.length - 1) cs[cs.length - 1] (List.getElem?_eq_getElem (by omega))
              have := (Array.getElem?_eq_some_iff.1 hy).1
              omega
          have hch : c + h ≤ lc.cap := Nat.le_of_mul_le_mul_right (Nat.le_trans c2 hcs) c3
          have hq : cap + c = lc.cap := he2 trivial
          have hcap : h ≤ cap := by omega
          refine ⟨ρ, _, w, Ext.refl _, slice_VR (ρ := ρ) (s := s0) (m := cap) (opn' := true) hρ hx0 c1 hcap (Nat.le_refl _) (fun q => by cases q) (fun _ => by omega), mo, ?_⟩
          have hb := bounds_run (P := P) (isS := true) (len := len) (cap := cap) (m := cap) (mx := none) (.inl ⟨rfl, rfl⟩) (boundA_BS hhi hh) (boundA_BS hlo hl) c1 hcap (Nat.le_refl _) (by simp) w
          simp [Instr.sliceAt, Instr.slice, run_underlying hd, hb, run_size hs]
        · exact (err_ok e2).elim
      · exact (err_ok e2).elim
    · exact Sim.err
  · exact Sim.err

/-! ### New rows -/
theorem wrap_small {n : Int} (h0 : 0 ≤ n) (h1 : n ≤ 1000000000) : IntKind.i64.wrap n = n := by
  have hb : IntKind.i64.bits = 64 := rfl
  have hs : IntKind.i64.signed = true := rfl
  unfold IntKind.wrap
  rw [hb, hs]
  have : n % 2 ^ 64 = n := by omega
  simp only [this]
  rw [if_neg]
  simp
  omega
theorem box_sound {t : Nat} {a : AV} {x : Value} (hx : VR ρ a x) : Sim P ρ (M.bnd (newA P t (cellsA a) false) fun b => M.ret (.ptr b 0)) (Instr.box t x) := by
  intro W n h l v n' h' l' w e m
  obtain ⟨b, n1, h1, l1, e1, e2⟩ := bind_ok e
  obtain ⟨rfl, rfl, rfl, rfl⟩ := ret_ok e2
  obtain ⟨ρ', k1, k2, _, k3⟩ := newA_sound (P := P) (cellsA_VRL hx) _ _ _ _ _ _ _ _ _ e1 m
  refine ⟨ρ', _, _, k1, k2, k3, ?_⟩
  simp [Instr.box, newVar, newRow]
theorem alloc_sound {t : Nat} {z : AV} (hz : zeroA P t = some z) : Sim P ρ (M.bnd (newA P t (cellsA z) false) fun b => M.ret (.ptr b 0)) (Instr.alloc t true (.tuple #[])) := by
  obtain ⟨zv, hzv, hzr⟩ := run_zero hz
  intro W n h l v n' h' l' w e m
  obtain ⟨ρ', x, w', k1, k2, k3, k4⟩ := box_sound (P := P) (t := t) (hzv ρ) _ _ _ _ _ _ _ _ _ e m
  refine ⟨ρ', x, w', k1, k2, k3, ?_⟩
  simp only [Instr.box] at k4
  simp only [Instr.alloc, Sem.run_bind, hzr w, Result.andThen_ok]
  exact k4
theorem makeSlice_sound {t : Nat} {a b : AV} {x y : Value} (ha : VR ρ a x) (hb : VR ρ b y) : Sim P ρ (makeSliceA P t a b) (Instr.makeSlice t x y) := by
  unfold makeSliceA
  split
  · rename_i el k ln j c hd
    simp only [VR] at ha hb
    subst ha; subst hb
    split
    · rename_i s by_ z hs hby hz
      split
      · rename_i hc
        simp only [Bool.and_eq_true, decide_eq_true_eq, Nat.ble_eq, Nat.beq_eq] at hc
        obtain ⟨⟨⟨⟨⟨c1, c2⟩, c3⟩, c4⟩, c5⟩, c6⟩ := hc
        obtain ⟨zv, hzv, hzr⟩ := run_zero hz
        intro W n h l v n' h' l' w e m
        obtain ⟨b, n1, h1, l1, e1, e2⟩ := bind_ok e
        obtain ⟨rfl, rfl, rfl, rfl⟩ := ret_ok e2
        have hzz := zeros_VRL (hzv ρ) c5 c6 c.toNat
        obtain ⟨ρ', k1, k2, k5, k3⟩ := newA_sound (P := P) hzz _ _ _ _ _ _ _ _ _ e1 m
        rw [Array.toArray_toList] at k3
        refine ⟨ρ', .slice (some ⟨w.heap.size, 0, none⟩) ln.toNat c.toNat, _, k1, ?_, k3, ?_⟩
        · simp only [VR]
          exact ⟨_, 0, c.toNat, k5, rfl, by omega, by simp, fun _ => rfl, fun q => by cases q⟩
        · cases hi : P.info? el with
          | none => rw [hi] at hby; cases hby
          | some i =>
            have hby' : i.bytes = by_ := by rw [hi] at hby; simpa using hby
            have hs' : i.size = s := by simpa [sizeA, hi] using hs
            have w1 := wrap_small c1 (by omega)
            have w2 := wrap_small (n := c) (by omega) (by omega)
            have hty : ∀ w, (typeInfo el).run P w = .ok i w := fun w => by simp [typeInfo, hi]
            have b1 : (i.bytes : Int) * c ≤ 10000 * 100000 := Int.mul_le_mul (by omega) (by omega) (by omega) (by omega)
            have b2 : ¬ ((281474976710656 : Int) < (i.bytes : Int) * c) := by omega
            have b3 : ¬ c < 0 := by omega
            have b4 : ¬ ln < 0 := by omega
            have b5 : ¬ ln > c := by omega
            by_cases hz0 : c.toNat * s = 0
            · have hc0 : c.toNat = 0 := by
                rcases Nat.mul_eq_zero.1 hz0 with h | h
                · exact h
                · omega
              simp [Instr.makeSlice, run_underlying hd, asInt, asIntOf, hty, w1, w2, b2, b3, b4, b5, run_size hs, hc0, newRow]
              have hr : Array.range 0 = (#[] : Array Nat) := rfl
              simp [hr]
            · have hc0 : ¬ c.toNat = 0 := fun h => hz0 (by rw [h, Nat.zero_mul])
              simp [Instr.makeSlice, run_underlying hd, asInt, asIntOf, hty, w1, w2, b2, b3, b4, b5, run_size hs, hz0, hzr, newRow]
      · exact Sim.err
    · exact Sim.err
  · exact Sim.err
theorem buildSlice_sound {t len : Nat} {ps : List (Nat × AV)} {rs : Array (Nat × Value)} (h : PRL ρ ps rs.toList) : Sim P ρ (buildSliceA P t len ps) (Instr.buildSlice t len rs) := by
  unfold buildSliceA
  split
  · rename_i el hd
    split
    · rename_i s z hs hz
      split
      · rename_i hc
        simp only [Bool.and_eq_true, Nat.ble_eq, Nat.beq_eq] at hc
        obtain ⟨⟨⟨c1, c2⟩, c3⟩, c4⟩ := hc
        obtain ⟨zv, hzv, hzr⟩ := run_zero hz
        split
        · rename_i cs hf
          have hzz := zeros_VRL (hzv ρ) c1 c2 len
          obtain ⟨C', g1, g2⟩ := fill_sound (place := fun i => some (i * s, s)) (fun i q hq => hq) h hzz hf
          intro W n h l v n' h' l' w e m
          obtain ⟨b, n1, h1, l1, e1, e2⟩ := bind_ok e
          obtain ⟨rfl, rfl, rfl, rfl⟩ := ret_ok e2
          obtain ⟨ρ', k1, k2, k5, k3⟩ := newA_sound (P := P) g2 _ _ _ _ _ _ _ _ _ e1 m
          refine ⟨ρ', .slice (some ⟨w.heap.size, 0, none⟩) len len, _, k1, ?_, k3, ?_⟩
          · simp only [VR]
            exact ⟨_, 0, len, k5, rfl, Nat.le_refl _, by simp, fun _ => rfl, fun q => by cases q⟩
          · have hbig : ¬ len * s > 2 ^ 24 := by
              have : len * s ≤ 10000 * 1000 := Nat.mul_le_mul c3 c4
              omega
            have hbig' : ¬ 16777216 < len * s := by omega
            have g1' : Instr.fill (fun i => some (i * s, s)) ((Array.range (len * s)).map (zv.cells[· % zv.cells.size]!)) rs.toList = some C' := g1
            by_cases hz0 : len * s = 0
            · have : (Array.range (len * s)).map ((#[] : Array Value)[· % (#[] : Array Value).size]!) = (Array.range (len * s)).map (zv.cells[· % zv.cells.size]!) := by rw [hz0]; simp
              simp only [Instr.buildSlice, Sem.run_bind, run_underlying hd, Result.andThen_ok, run_size hs, Sem.run_ite, if_neg hbig, Sem.run_pure, if_pos hz0, this, g1', newRow, run_newObj]
              simp
            · simp only [Instr.buildSlice, Sem.run_bind, run_underlying hd, Result.andThen_ok, run_size hs, Sem.run_ite, if_neg hbig, Sem.run_pure, if_neg hz0, hzr, g1', newRow, run_newObj]
              simp
        · exact Sim.err
      · exact Sim.err
    · exact Sim.err
  · exact Sim.err
end
end Ev
end Go.Proofs.YtacjgphfcailmaaGreatDoor
