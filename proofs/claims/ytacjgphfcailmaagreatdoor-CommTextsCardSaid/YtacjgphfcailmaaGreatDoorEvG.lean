/-
  The small machine's plain operations are the model's.
-/
import Derived.Test.YtacjgphfcailmaaGreatDoorEvF
namespace Go.Proofs.YtacjgphfcailmaaGreatDoor
open Go.RowKit
namespace Ev
set_option linter.unusedVariables false
set_option linter.unusedSimpArgs false

/-! ### Strings -/
theorem strOf_length : ∀ n v, (strOf n v).length = n
  | 0, _ => rfl
  | n + 1, v => by simp [strOf, strOf_length n]
theorem strOf_get : ∀ n v i, i < n → (strOf n v)[i]? = some (UInt8.ofNat (v / 256 ^ i % 256))
  | 0, _, _, h => by omega
  | n + 1, v, 0, _ => by simp [strOf]
  | n + 1, v, i + 1, h => by
    simp only [strOf, List.getElem?_cons_succ]
    rw [strOf_get n _ i (by omega), Nat.div_div_eq_div_mul, Nat.pow_succ, Nat.mul_comm 256]
theorem strOf_mod : ∀ n v, strOf n (v % 256 ^ n) = strOf n v
  | 0, _ => rfl
  | n + 1, v => by
    have h1 : v % 256 ^ (n + 1) % 256 = v % 256 := by rw [Nat.pow_succ, Nat.mul_comm, Nat.mod_mul_right_mod]
    have h2 : v % 256 ^ (n + 1) / 256 = v / 256 % 256 ^ n := by rw [Nat.pow_succ, Nat.mul_comm, Nat.mod_mul_right_div_self]
    simp only [strOf, h1, h2, strOf_mod n]
theorem strOf_append : ∀ n m v w, strOf (n + m) (v % 256 ^ n + w * 256 ^ n) = strOf n v ++ strOf m w
  | 0, m, v, w => by simp [strOf, Nat.mod_one]
  | n + 1, m, v, w => by
    have h1 : (v % 256 ^ (n + 1) + w * 256 ^ (n + 1)) % 256 = v % 256 := by
      rw [Nat.pow_succ, ← Nat.mul_assoc, Nat.add_mul_mod_self_right, Nat.mul_comm (256 ^ n) 256, Nat.mod_mul_right_mod]
    have h2 : (v % 256 ^ (n + 1) + w * 256 ^ (n + 1)) / 256 = v / 256 % 256 ^ n + w * 256 ^ n := by
      rw [Nat.pow_succ, ← Nat.mul_assoc, Nat.add_mul_div_right _ _ (by omega), Nat.mul_comm (256 ^ n) 256, Nat.mod_mul_right_div_self]
    rw [show n + 1 + m = (n + m) + 1 by omega]
    simp only [strOf, h1, h2, strOf_append n m, List.cons_append]
theorem strOf_inj : ∀ n v w, strOf n v = strOf n w → v % 256 ^ n = w % 256 ^ n
  | 0, v, w, _ => by simp [Nat.mod_one]
  | n + 1, v, w, h => by
    simp only [strOf, List.cons.injEq] at h
    have h1 : v % 256 = w % 256 := by
      have := congrArg UInt8.toNat h.1
      simpa using this
    have h2 := strOf_inj n _ _ h.2
    rw [Nat.pow_succ, Nat.mul_comm, Nat.mod_mul, Nat.mod_mul, h1, h2]
theorem str_beq (n v m w : Nat) : ((strOf n v) == (strOf m w)) = (Nat.beq n m && Nat.beq (v % 256 ^ n) (w % 256 ^ m)) := by
  rw [Bool.eq_iff_iff]
  simp only [beq_iff_eq, Bool.and_eq_true, Nat.beq_eq]
  constructor
  · intro h
    have hn : n = m := by
      have := congrArg List.length h
      simpa [strOf_length] using this
    subst hn
    exact ⟨rfl, strOf_inj n v w h⟩
  · rintro ⟨rfl, h⟩
    rw [← strOf_mod n v, h, strOf_mod]
theorem strOf_extract (n v l h : Nat) (h1 : l ≤ h) (h2 : h ≤ n) : strOf (h - l) (v / 256 ^ l) = ((strOf n v).drop l).take (h - l) := by
  apply List.ext_getElem?
  intro i
  by_cases hi : i < h - l
  · rw [strOf_get _ _ _ hi, List.getElem?_take, if_pos hi, List.getElem?_drop, strOf_get _ _ _ (by omega), Nat.div_div_eq_div_mul, ← Nat.pow_add]
  · rw [List.getElem?_take, if_neg hi, List.getElem?_eq_none (by rw [strOf_length]; omega)]
theorem lessL_eq : ∀ a b, lessL a b = Op.bytesLess a b
  | [], [] => rfl
  | _ :: _, [] => rfl
  | [], _ :: _ => rfl
  | a :: x, b :: y => by
    simp only [lessL, Op.bytesLess, lessL_eq x y]
    have e1 : Nat.blt a.toNat b.toNat = decide (a < b) := by
      rw [Bool.eq_iff_iff]
      simp [Nat.blt_eq, UInt8.lt_iff_toNat_lt]
    have e2 : Nat.beq a.toNat b.toNat = (a == b) := by
      rw [Bool.eq_iff_iff]
      simp only [Nat.beq_eq, beq_iff_eq]
      exact ⟨fun h => UInt8.toNat_inj.1 h, fun h => h ▸ rfl⟩
    rw [e1, e2]
    cases decide (a < b) <;> cases (a == b) <;> simp
theorem lessL_total : ∀ a b, (lessL a b || (a == b)) = !lessL b a
  | [], [] => rfl
  | _ :: _, [] => by simp [lessL]
  | [], _ :: _ => by simp [lessL]
  | a :: x, b :: y => by
    have ih := lessL_total x y
    simp only [lessL]
    rcases Nat.lt_trichotomy a.toNat b.toNat with h | h | h
    · have e1 : Nat.blt a.toNat b.toNat = true := by simpa [Nat.blt_eq] using h
      have e2 : Nat.blt b.toNat a.toNat = false := by rw [← Bool.not_eq_true, Nat.blt_eq]; omega
      have e3 : Nat.beq b.toNat a.toNat = false := by rw [← Bool.not_eq_true, Nat.beq_eq]; omega
      simp [e1, e2, e3]
    · have hab : a = b := UInt8.toNat_inj.1 h
      subst hab
      have e1 : Nat.blt a.toNat a.toNat = false := by rw [← Bool.not_eq_true, Nat.blt_eq]; omega
      have e3 : Nat.beq a.toNat a.toNat = true := by rw [Nat.beq_eq]
      simp only [e1, e3]
      simpa using ih
    · have e1 : Nat.blt b.toNat a.toNat = true := by simpa [Nat.blt_eq] using h
      have e2 : Nat.blt a.toNat b.toNat = false := by rw [← Bool.not_eq_true, Nat.blt_eq]; omega
      have e3 : Nat.beq a.toNat b.toNat = false := by rw [← Bool.not_eq_true, Nat.beq_eq]; omega
      have e4 : (a == b) = false := by
        rw [← Bool.not_eq_true, beq_iff_eq]
        rintro rfl
        omega
      simp [e1, e2, e3, e4]

section
variable {P : Program} {ρ : Ren}

/-- operands -/
def EvRel (ρ : Ren) (ev : Operand → Option AV) (rv : Operand → Value) : Prop := ∀ x a, ev x = some a → VR ρ a (rv x)
theorem evRel_act {tm : Tm} {a : Act} (h : TR ρ tm a.tmps) (hg : ∀ g, g < 64 → ρ g = some ⟨g, 0, 0⟩) : EvRel ρ (evA tm) a.eval := by
  intro x v hx
  cases x with
  | tmp t =>
    simp only [evA, Option.some.injEq] at hx
    subst hx
    simpa [Act.eval] using h.nth t
  | const c =>
    simp only [evA] at hx
    exact ofValue_VR hx
  | global g =>
    simp only [evA] at hx
    split at hx
    · rename_i hb
      simp only [Option.some.injEq] at hx
      subst hx
      simp only [VR]
      exact ⟨_, hg g (by simpa [Nat.blt_eq] using hb), rfl⟩
    · cases hx
  | func f =>
    simp only [evA] at hx
    split at hx
    · rename_i hb
      simp only [Option.some.injEq] at hx
      subst hx
      simp only [VR, Act.eval]
      exact ⟨[], f, #[], #[], VRL.nil, rfl, fun _ => ⟨rfl, rfl, rfl⟩, fun h => by rw [hb] at h; cases h⟩
    · cases hx
theorem evs_VRL {ev : Operand → Option AV} {rv : Operand → Value} (h : EvRel ρ ev rv) : ∀ {l : List Operand} {r : List AV}, evs ev l = some r → VRL ρ r (l.map rv)
  | [], r, e => by simp [evs] at e; subst e; exact VRL.nil
  | x :: l, r, e => by
    simp only [evs] at e
    split at e
    · rename_i a b h1 h2
      simp at e
      subst e
      exact .cons (h _ _ h1) (evs_VRL h h2)
    · cases e

/-! ### Build -/
theorem cells_set_get (off : Nat) : ∀ (vs : List Value) (k : Nat) (cs : Array Value) (q : Nat), ((vs.zipIdx k).foldl (fun (cs : Array Value) (x : Value × Nat) => cs.setIfInBounds (off + x.2) x.1) cs)[q]? =
      if off + k ≤ q ∧ q < off + k + vs.length ∧ q < cs.size then vs[q - (off + k)]? else cs[q]?
  | [], k, cs, q => by simp; intro h1 h2; omega
  | v :: vs, k, cs, q => by
    simp only [List.zipIdx_cons, List.foldl_cons]
    rw [cells_set_get off vs (k + 1) _ q]
    simp only [Array.size_setIfInBounds, List.length_cons]
    by_cases c1 : off + (k + 1) ≤ q ∧ q < off + (k + 1) + vs.length ∧ q < cs.size
    · rw [if_pos c1, if_pos (by omega)]
      rw [show q - (off + k) = (q - (off + (k + 1))) + 1 by omega]
      simp
    · rw [if_neg c1]
      by_cases c2 : q = off + k
      · subst c2
        by_cases c3 : off + k < cs.size
        · rw [if_pos (by omega)]
          simp [Array.getElem?_setIfInBounds, c3]
        · rw [if_neg (by omega)]
          simp [Array.getElem?_setIfInBounds, c3]
      · rw [Array.getElem?_setIfInBounds_ne (by omega)]
        by_cases c3 : off + k ≤ q ∧ q < off + k + (vs.length + 1) ∧ q < cs.size
        · omega
        · rw [if_neg c3]
theorem cells_set_size (off : Nat) : ∀ (vs : List Value) (k : Nat) (cs : Array Value), ((vs.zipIdx k).foldl (fun (cs : Array Value) (x : Value × Nat) => cs.setIfInBounds (off + x.2) x.1) cs).size = cs.size
  | [], k, cs => rfl
  | v :: vs, k, cs => by
    simp only [List.zipIdx_cons, List.foldl_cons]
    rw [cells_set_size off vs (k + 1)]
    simp
theorem VRL.get' {av : List AV} {xs : List Value} {i : Nat} {x : Value} (h : VRL ρ av xs) (hi : xs[i]? = some x) : ∃ a, av[i]? = some a ∧ VR ρ a x := by
  have hl := h.length
  have hlt : i < xs.length := (List.getElem?_eq_some_iff.1 hi).1
  have ha : av[i]? = some av[i] := by simp [hl, hlt]
  obtain ⟨y, hy, hv⟩ := h.get ha
  rw [hi] at hy
  cases hy
  exact ⟨_, ha, hv⟩
/-- parts -/
def PRL (ρ : Ren) : List (Nat × AV) → List (Nat × Value) → Prop
  | [], xs => xs = []
  | (i, a) :: l, xs => ∃ x r, xs = (i, x) :: r ∧ VR ρ a x ∧ PRL ρ l r
theorem evParts_PRL {ev : Operand → Option AV} {rv : Operand → Value} (h : EvRel ρ ev rv) : ∀ {l : List (Nat × Operand)} {r : List (Nat × AV)}, evParts ev l = some r → PRL ρ r (l.map fun x => (x.1, rv x.2))
  | [], r, e => by simp [evParts] at e; subst e; rfl
  | (i, x) :: l, r, e => by
    simp only [evParts] at e
    split at e
    · rename_i a b h1 h2
      simp at e
      subst e
      simp only [PRL, List.map_cons]
      exact ⟨_, _, rfl, h _ _ h1, evParts_PRL h h2⟩
    · cases e
theorem fill_sound {pl place : Nat → Option (Nat × Nat)} (hp : ∀ i q, pl i = some q → place i = some q) : ∀ {ps : List (Nat × AV)} {rs : List (Nat × Value)} {cs cs' : List AV} {C : Array Value}, PRL ρ ps rs → VRL ρ cs C.toList → fillA pl cs ps = some cs' →
    ∃ C', Instr.fill place C rs = some C' ∧ VRL ρ cs' C'.toList
  | [], rs, cs, cs', C, h, hv, e => by
    simp only [PRL] at h
    subst h
    simp [fillA] at e
    subst e
    exact ⟨C, rfl, hv⟩
  | (i, a) :: ps, rs, cs, cs', C, h, hv, e => by
    simp only [PRL] at h
    obtain ⟨x, r, rfl, hx, hr⟩ := h
    simp only [fillA] at e
    cases hpl : pl i with
    | none => rw [hpl] at e; cases e
    | some q =>
      obtain ⟨off, size⟩ := q
      rw [hpl] at e
      simp only at e
      split at e
      · rename_i hc
        simp only [Bool.and_eq_true, Nat.beq_eq, Nat.ble_eq] at hc
        have hcv := cellsA_VRL hx
        have hl1 := hcv.length
        have hl2 := hv.length
        simp at hl1 hl2
        simp only [Instr.fill, hp _ _ hpl]
        rw [if_neg (by simp; omega)]
        refine fill_sound hp hr ?_ e
        have hz : x.cells.zipIdx.foldl (fun cs (x : Value × Nat) => cs.setIfInBounds (off + x.2) x.1) C = (x.cells.toList.zipIdx 0).foldl (fun (cs : Array Value) (x : Value × Nat) => cs.setIfInBounds (off + x.2) x.1) C := by
          rw [← Array.foldl_toList, Array.toList_zipIdx]
        have hz' : x.cells.zipIdx.foldl (fun cs (c, j) => cs.setIfInBounds (off + j) c) C = (x.cells.toList.zipIdx 0).foldl (fun (cs : Array Value) (x : Value × Nat) => cs.setIfInBounds (off + x.2) x.1) C := hz
        rw [hz']
        refine VRL.mk ?_ fun j b y hb hy => ?_
        · have h9 := cells_set_size off x.cells.toList 0 C
          rw [← Array.length_toList] at h9
          rw [set_length (by omega)]
          omega
        · rw [set_view (by omega)] at hb
          rw [Array.getElem?_toList, cells_set_get] at hy
          simp only [Nat.add_zero, Array.length_toList] at hy
          by_cases c : off ≤ j ∧ j < off + (cellsA a).length
          · rw [if_pos c] at hb
            rw [if_pos (by omega)] at hy
            obtain ⟨y', h1, h2⟩ := hcv.get hb
            rw [hy] at h1
            cases h1
            exact h2
          · rw [if_neg c] at hb
            rw [if_neg (by omega)] at hy
            obtain ⟨y', h1, h2⟩ := hv.get hb
            rw [Array.getElem?_toList, hy] at h1
            cases h1
            exact h2
      · cases e
theorem run_places (fs : List Field) (h : fs.all (fun f => (P.info? f.type).isSome) = true) (w : World) :
    (fs.mapM (fun f => (do pure (f.offset, ← sizeOf f.type) : Sem (Nat × Nat)))).run P w = .ok (fs.map fun f => (f.offset, (sizeA P f.type).getD 0)) w := by
  induction fs with
  | nil => rfl
  | cons f fs ih =>
    simp only [List.all_cons, Bool.and_eq_true] at h
    obtain ⟨i, hi⟩ := Option.isSome_iff_exists.1 h.1
    have hs : (sizeOf f.type).run P w = .ok i.size w := by simp [sizeOf, typeInfo, hi]
    simp only [List.mapM_cons, Sem.run_bind, hs, Result.andThen_ok, Sem.run_pure, ih h.2, List.map_cons]
    simp [sizeA, hi]
theorem build_sound {t : Nat} {ps : List (Nat × AV)} {rs : Array (Nat × Value)} (h : PRL ρ ps rs.toList) {v : AV} (e : buildA P t ps = some v) : ∃ x, VR ρ v x ∧ ∀ w, (Instr.build t rs).run P w = .ok x w := by
  unfold buildA at e
  split at e
  · rename_i z fs hz hd
    split at e
    · rename_i hall
      obtain ⟨zv, hzv, hzr⟩ := run_zero hz
      cases hf : fillA (fun i => (fs.toList[i]?).bind fun f => (sizeA P f.type).map fun s => (f.offset, s)) (cellsA z) ps with
      | none => rw [hf] at e; cases e
      | some cs =>
        rw [hf] at e
        simp at e
        subst e
        have hp : ∀ (i : Nat) (q : Nat × Nat), ((fs.toList[i]?).bind fun (f : Field) => (sizeA P f.type).map fun s => (f.offset, s)) = some q → (fs.map fun (f : Field) => (f.offset, (sizeA P f.type).getD 0))[i]? = some q := by
          intro i q hq
          cases hfi : fs.toList[i]? with
          | none => rw [hfi] at hq; cases hq
          | some f =>
            rw [hfi] at hq
            simp only [Option.bind_some] at hq
            cases hs : sizeA P f.type with
            | none => rw [hs] at hq; cases hq
            | some s =>
              rw [hs] at hq
              simp at hq
              subst hq
              have : fs[i]? = some f := by simpa using hfi
              simp [this, hs]
        obtain ⟨C', h1, h2⟩ := fill_sound hp h (cellsA_VRL (hzv ρ)) hf
        refine ⟨.agg C', by simp only [VR]; exact ⟨C'.toList, h2, by simp⟩, fun w => ?_⟩
        have hpl := run_places fs.toList hall w
        have hmm : (fs.mapM (fun f => (do pure (f.offset, ← sizeOf f.type) : Sem (Nat × Nat)))).run P w = .ok (fs.map fun f => (f.offset, (sizeA P f.type).getD 0)) w := by
          rw [Array.mapM_eq_mapM_toList]
          simp only [Sem.run_map, hpl, Result.andThen_ok]
          congr 1
          apply Array.ext'
          simp
        simp only [Instr.build, Sem.run_bind, hzr w, Result.andThen_ok, run_underlying hd, hmm, h1]
        rfl
    · cases e
  · rename_i z n el hz hd
    obtain ⟨zv, hzv, hzr⟩ := run_zero hz
    split at e
    · rename_i s hs
      cases hf : fillA (fun i => some (i * s, s)) (cellsA z) ps with
      | none => rw [hf] at e; cases e
      | some cs =>
        rw [hf] at e
        simp at e
        subst e
        obtain ⟨C', h1, h2⟩ := fill_sound (place := fun i => some (i * s, s)) (fun i q hq => hq) h (cellsA_VRL (hzv ρ)) hf
        refine ⟨.agg C', by simp only [VR]; exact ⟨C'.toList, h2, by simp⟩, fun w => ?_⟩
        simp only [Instr.build, Sem.run_bind, hzr w, Result.andThen_ok, run_underlying hd, run_size hs w, h1]
        rfl
    · cases e
  · cases e
theorem rep_length (z : List AV) : ∀ n, (rep z n).length = n * z.length
  | 0 => by simp [rep]
  | n + 1 => by simp [rep, rep_length z n, Nat.add_mul, Nat.add_comm]
theorem rep_get (z : List AV) : ∀ n i, i < n * z.length → (rep z n)[i]? = z[i % z.length]?
  | 0, i, h => by simp at h
  | n + 1, i, h => by
    simp only [rep]
    by_cases c : i < z.length
    · rw [List.getElem?_append_left c, Nat.mod_eq_of_lt c]
    · have h2 : i - z.length < n * z.length := by rw [Nat.add_mul, Nat.one_mul] at h; omega
      rw [List.getElem?_append_right (by omega), rep_get z n (i - z.length) h2, Nat.mod_eq_sub_mod (a := i) (by omega)]
/-- a row of zeros -/
theorem zeros_VRL {z : AV} {x : Value} (h : VR ρ z x) {s : Nat} (hs : (cellsA z).length = s) (h1 : 1 ≤ s) (n : Nat) : VRL ρ (rep (cellsA z) n) ((Array.range (n * s)).map (x.cells[· % x.cells.size]!)).toList := by
  have hv := cellsA_VRL h
  have hl := hv.length
  simp at hl
  refine VRL.mk (by simp [rep_length, hs]) fun i a y ha hy => ?_
  have hlt : i < n * s := by
    have := (List.getElem?_eq_some_iff.1 ha).1
    rw [rep_length, hs] at this
    exact this
  rw [rep_get _ _ _ (by rw [hs]; exact hlt)] at ha
  obtain ⟨y', h2, h3⟩ := hv.get ha
  rw [Array.getElem?_toList, Array.getElem?_map] at hy
  simp [hlt] at hy
  subst hy
  have hm : i % (cellsA z).length < x.cells.size := by
    rw [← hl]
    exact Nat.mod_lt _ (by omega)
  rw [hl] at h2 hm
  simp [hm] at h2 ⊢
  rw [h2]
  exact h3
end
end Ev
end Go.Proofs.YtacjgphfcailmaaGreatDoor
