/-
  The small machine's steps on memory are the model's.
-/
import Derived.Test.YtacjgphfcailmaaGreatDoorEvE
namespace Go.Proofs.YtacjgphfcailmaaGreatDoor
open Go.RowKit
namespace Ev
set_option linter.unusedVariables false
set_option linter.unusedSimpArgs false

/-- what comes out of a step -/
def Ok {α : Type} (m : M α) (n : Nat) (h : Heap) (l : Log) (r : R α) : Prop := m n h l = r
theorem bind_ok {α β : Type} {m : M α} {f : α → M β} {n n2 : Nat} {h h2 : Heap} {l l2 : Log} {y : β} (e : M.bnd m f n h l = .ok y n2 h2 l2) :
    ∃ x n1 h1 l1, m n h l = .ok x n1 h1 l1 ∧ f x n1 h1 l1 = .ok y n2 h2 l2 := by
  simp only [bnd_eq] at e
  cases e1 : m n h l with
  | fail => rw [e1] at e; cases e
  | ok x n1 h1 l1 => rw [e1] at e; exact ⟨x, n1, h1, l1, rfl, e⟩
theorem ret_ok {α : Type} {x y : α} {n n2 : Nat} {h h2 : Heap} {l l2 : Log} (e : M.ret x n h l = .ok y n2 h2 l2) : x = y ∧ n = n2 ∧ h = h2 ∧ l = l2 := by
  simp only [M.ret, R.ok.injEq] at e
  exact e
theorem err_ok {α : Type} {y : α} {n n2 : Nat} {h h2 : Heap} {l l2 : Log} (e : (M.err (α := α)) n h l = .ok y n2 h2 l2) : False := by
  simp [M.err] at e
theorem opt_ok {α : Type} {x : Option α} {y : α} {n n2 : Nat} {h h2 : Heap} {l l2 : Log} (e : M.opt x n h l = .ok y n2 h2 l2) : x = some y ∧ n = n2 ∧ h = h2 ∧ l = l2 := by
  cases x with
  | none => simp [M.opt, M.err] at e
  | some x => obtain ⟨rfl, h1⟩ := ret_ok e; exact ⟨rfl, h1⟩

/-- what the small machine yields, the model yields -/
def Sim (P : Program) (ρ : Ren) (m : M AV) (s : Sem Value) : Prop :=
  ∀ W n h l v n' h' l' w, m n h l = .ok v n' h' l' → Mo W ρ h w → ∃ ρ' x w', Ext ρ ρ' ∧ VR ρ' v x ∧ Mo W ρ' h' w' ∧ s.run P w = .ok x w'

section
variable {P : Program} {ρ : Ren}
theorem Sim.ret {v : AV} {x : Value} {s : Sem Value} (hv : VR ρ v x) (hs : ∀ w, s.run P w = .ok x w) : Sim P ρ (M.ret v) s := by
  intro W n h l v' n' h' l' w e m
  obtain ⟨rfl, rfl, rfl, rfl⟩ := ret_ok e
  exact ⟨ρ, x, w, Ext.refl _, hv, m, hs w⟩
theorem Sim.err {s : Sem Value} : Sim P ρ M.err s := fun W n h l v' n' h' l' w e m => (err_ok e).elim
theorem Sim.opt {o : Option AV} {s : Sem Value} (hv : ∀ v, o = some v → ∃ x, VR ρ v x ∧ ∀ w, s.run P w = .ok x w) : Sim P ρ (M.opt o) s := by
  cases o with
  | none => exact Sim.err
  | some v =>
    obtain ⟨x, h1, h2⟩ := hv v rfl
    exact Sim.ret h1 h2

theorem VRL.choose {f : Nat → Option Value} : ∀ {av : List AV}, (∀ (i : Nat) (a : AV), av[i]? = some a → ∃ x, f i = some x ∧ VR ρ a x) → ∃ xs, VRL ρ av xs ∧ ∀ (i : Nat) (x : Value), xs[i]? = some x → f i = some x := by
  intro av
  induction av generalizing f with
  | nil => exact fun _ => ⟨[], VRL.nil, fun i x h => by simp at h⟩
  | cons a av ih =>
    intro h
    obtain ⟨x, h1, h2⟩ := h 0 a rfl
    obtain ⟨xs, h3, h4⟩ := ih (f := fun i => f (i + 1)) (fun i b hb => h (i + 1) b (by simpa using hb))
    refine ⟨x :: xs, .cons h2 h3, fun i y hy => ?_⟩
    cases i with
    | zero => simp at hy; subst hy; exact h1
    | succ i => exact h4 i y (by simpa using hy)

theorem cell_row {w : World} {g o : Nat} {C : Array Value} {e : TypeId} {fr : Nat × Nat} (hg : w.heap[g]? = some (.cells C e fr)) : w.cell? ⟨g, o, none⟩ = C[o]? := by
  simp [World.cell?, hg]

theorem getR_sound {W w : World} {h h' : Heap} {b o n k k' : Nat} {lg lg' : Log} {cs : List AV} {l : Loc} (m : Mo W ρ h w) (hρ : ρ b = some l) (e : getR b o n k h lg = .ok cs k' h' lg') :
    h' = h ∧ cs.length = n ∧ ∃ xs, VRL ρ cs xs ∧ ∀ (i : Nat) (x : Value), xs[i]? = some x → w.cell? ⟨l.blk, l.d + o + i, none⟩ = some x := by
  unfold Ev.getR at e
  split at e
  · rename_i e0 s0 cs0 opn ro hb
    split at e
    · rename_i hl
      simp only [R.ok.injEq] at e
      obtain ⟨rfl, rfl, rfl, rfl⟩ := e
      have hlen : ((cs0.drop o).take n).length = n := by simpa using hl
      have hbr := m.blk _ _ _ hb hρ
      have hbr' : ∃ C t z, w.heap[l.blk]? = some (.cells C t z) ∧ ∀ i a, cs0[i]? = some a → ∃ x, C[l.d + i]? = some x ∧ VR ρ a x := by
        cases ro with
        | true => exact hbr
        | false =>
          obtain ⟨C, h1, h2, _⟩ := hbr
          exact ⟨C, _, _, h1, h2⟩
      obtain ⟨C, _, _, hC, hcells⟩ := hbr'
      refine ⟨rfl, hlen, ?_⟩
      refine VRL.choose (f := fun i => w.cell? ⟨l.blk, l.d + o + i, none⟩) fun i a ha => ?_
      have hi : cs0[o + i]? = some a := by
        rw [List.getElem?_take] at ha
        split at ha
        · simpa [List.getElem?_drop] using ha
        · cases ha
      obtain ⟨x, h1, h2⟩ := hcells (o + i) a hi
      exact ⟨x, by rw [cell_row hC, Nat.add_assoc]; exact h1, h2⟩
    · cases e
  · cases e
theorem loadCells_of {w : World} {g o n : Nat} {xs : List Value} (hn : xs.length = n) (h : ∀ (i : Nat) (x : Value), xs[i]? = some x → w.cell? ⟨g, o + i, none⟩ = some x) :
    (loadCells ⟨g, o, none⟩ n).run P w = .ok xs.toArray w := by
  subst hn
  refine run_loadCells_list w _ xs fun j v hv => ?_
  rw [Addr.add_lit]
  exact h j v hv

theorem row_le {ρ : Ren} {l : Loc} {C : Array Value} {cs : List AV} {s : Nat} {opn : Bool} (h1 : ∀ (i : Nat) (a : AV), cs[i]? = some a → ∃ x, C[l.d + i]? = some x ∧ VR ρ a x)
    (h2 : opn = false → l.d = 0 ∧ C.size = cs.length) (h3 : opn = true → l.d + l.cap * s = C.size) {i : Nat} (hi : i ≤ cs.length) : l.d + i ≤ C.size := by
  cases i with
  | zero => cases opn with
    | false => have := h2 rfl; omega
    | true => have := h3 rfl; omega
  | succ i =>
    have : cs[i]? = some cs[i] := by simp
    obtain ⟨x, hx, _⟩ := h1 i _ this
    have := (Array.getElem?_eq_some_iff.1 hx).1
    omega

theorem setR_sound {W w : World} {h h' : Heap} {b o k k' : Nat} {lg lg' : Log} {vs : List AV} {xs : List Value} {l : Loc} {u : Unit} (m : Mo W ρ h w) (hρ : ρ b = some l) (e : setR b o vs k h lg = .ok u k' h' lg')
    (hv : VRL ρ vs xs) (h1 : ∀ u ∈ xs, u.oneCell' = true) : ∃ w', (storeCells ⟨l.blk, l.d + o, none⟩ xs).run P w = .ok () w' ∧ Mo W ρ h' w' := by
  unfold Ev.setR at e
  split at e
  · rename_i e0 s0 cs opn hb
    split at e
    · rename_i hs
      obtain ⟨hs1, hs2⟩ := (Bool.and_eq_true _ _).mp hs
      have hs' := small_of hs2
      have hl := Nat.le_of_ble_eq_true hs1
      simp only [R.ok.injEq] at e
      obtain ⟨_, rfl, rfl, rfl⟩ := e
      obtain ⟨C, hC, hcells, hx, ho⟩ := m.blk _ _ _ hb hρ
      have hle := hv.length
      have hb1 : l.d + (o + vs.length) ≤ C.size := row_le hcells hx ho hl
      have hb2 : l.d + o + xs.length ≤ C.size := by omega
      refine ⟨_, run_storeCells_at P l.blk (l.d + o) e0 xs 0 C w hC (by simpa using hb2) h1, ?_⟩
      simp only [Nat.add_zero]
      have hsz : (C.toList.take (l.d + o) ++ xs ++ C.toList.drop (l.d + o + xs.length)).length = C.size := by simp; omega
      refine m.write (y := .row e0 s0 cs opn false) hs' hb hρ rfl rfl rfl ?_ (fun j hj => setRow_other w _ _ _ hj) ⟨rfl, rfl, rfl, by simp, fun j hj => ?_⟩
      · rw [setRow_heap w _ _ _ _ _ hC]
        refine ⟨_, rfl, fun i a hi => ?_, fun hq => ?_, fun hq => ?_⟩
        · rw [set_view hl] at hi
          have hget : ∀ q, (C.toList.take (l.d + o) ++ xs ++ C.toList.drop (l.d + o + xs.length))[q]? = if q < l.d + o then C[q]? else if q < l.d + o + xs.length then xs[q - (l.d + o)]? else C[q]? := by
            intro q
            have ht : (C.toList.take (l.d + o)).length = l.d + o := by simp; omega
            by_cases c1 : q < l.d + o
            · rw [List.append_assoc, List.getElem?_append_left (by omega), if_pos c1, List.getElem?_take, if_pos c1]
              simp
            · rw [List.append_assoc, List.getElem?_append_right (by omega), ht, if_neg c1]
              by_cases c2 : q < l.d + o + xs.length
              · rw [List.getElem?_append_left (by omega), if_pos c2]
              · rw [List.getElem?_append_right (by omega), if_neg c2, List.getElem?_drop]
                rw [show l.d + o + xs.length + (q - (l.d + o) - xs.length) = q by omega]
                simp
          simp only [List.getElem?_toArray, hget]
          split at hi
          · rename_i c
            obtain ⟨x, hx1, hx2⟩ := hv.get hi
            refine ⟨x, ?_, hx2⟩
            rw [if_neg (by omega), if_pos (by omega)]
            rw [show l.d + i - (l.d + o) = i - o by omega]
            exact hx1
          · rename_i c
            obtain ⟨x, hx1, hx2⟩ := hcells i a hi
            refine ⟨x, ?_, hx2⟩
            by_cases c1 : l.d + i < l.d + o
            · rw [if_pos c1]; exact hx1
            · rw [if_neg c1, if_neg (by omega)]; exact hx1
        · have := hx hq
          refine ⟨this.1, ?_⟩
          rw [List.size_toArray, hsz, set_length hl]
          exact this.2
        · rw [List.size_toArray, hsz]
          exact ho hq
      · have := m.new _ _ _ hb hρ rfl
        exact setRow_other w _ _ _ (by omega)
    · cases e
  · cases e

theorem alloc_ok {x : AB} {k k' b : Nat} {h h' : Heap} {lg lg' : Log} (e : alloc x k h lg = .ok b k' h' lg') : b = k ∧ k' = k + 1 ∧ k + 1 < 2 ^ 40 ∧ h.get k = none ∧ h' = T.set x 40 h k ∧ lg' = lg := by
  unfold Ev.alloc at e
  split at e
  · rename_i hs
    split at e
    · rename_i hb
      simp only [R.ok.injEq] at e
      obtain ⟨rfl, rfl, rfl, rfl⟩ := e
      exact ⟨rfl, rfl, small_of hs, hb, rfl, rfl⟩
    · cases e
  · cases e
/-- a new row -/
theorem row_sound {W w : World} {h h' : Heap} {k k' b : Nat} {lg lg' : Log} {t s : Nat} {cs : List AV} {xs : List Value} {opn : Bool} (m : Mo W ρ h w) (e : alloc (.row t s cs opn false) k h lg = .ok b k' h' lg')
    (more : Array Value) (cap : Nat) (hv : VRL ρ cs xs) (hx : opn = false → more = #[]) (ho : opn = true → cap * s = xs.length + more.size) :
    ∃ ρ', Ext ρ ρ' ∧ ρ' b = some ⟨w.heap.size, 0, cap⟩ ∧ Mo W ρ' h' (w.alloc (.cells (xs.toArray ++ more) t)) := by
  obtain ⟨rfl, rfl, hk, hn, rfl, rfl⟩ := alloc_ok e
  refine m.fresh cap hk hn ⟨_, rfl, fun i a hi => ?_, fun hq => ?_, fun hq => ?_⟩
  · obtain ⟨x, h1, h2⟩ := hv.get hi
    refine ⟨x, ?_, h2⟩
    have hlt : i < xs.length := (List.getElem?_eq_some_iff.1 h1).1
    rw [Nat.zero_add, Array.getElem?_append_left (by simpa using hlt)]
    simpa using h1
  · refine ⟨rfl, ?_⟩
    rw [hx hq]
    simp [hv.length]
  · simp [ho hq]

/-! ### Types -/
theorem run_size {t s : Nat} (h : sizeA P t = some s) (w : World) : (sizeOf t).run P w = .ok s w := by
  unfold sizeA at h
  cases hi : P.info? t with
  | none => rw [hi] at h; cases h
  | some i =>
    rw [hi] at h
    simp at h
    subst h
    simp [sizeOf, typeInfo, hi]
theorem run_agg {t : Nat} {d : TypeDesc} (h : P.underlying t = some d) (w : World) : (isAgg t).run P w = .ok (aggT d) w := by
  cases d <;> simp [isAgg, run_underlying h, aggT]
theorem run_zero {t : Nat} {z : AV} (h : zeroA P t = some z) : ∃ x, (∀ ρ, VR ρ z x) ∧ ∀ w, (zeroValue t).run P w = .ok x w := by
  unfold zeroA at h
  cases hi : P.info? t with
  | none => rw [hi] at h; cases h
  | some i =>
    rw [hi] at h
    simp only [Option.bind_some] at h
    cases hz : i.zero with
    | none => rw [hz] at h; cases h
    | some x =>
      rw [hz] at h
      exact ⟨x, fun ρ => ofValue_VR h, fun w => by simp [zeroValue, typeInfo, hi, hz]⟩

theorem loadA_sound {t b o : Nat} {p : Value} (hp : VR ρ (.ptr b o) p) : Sim P ρ (loadA P t b o) (Instr.loadAt t p) := by
  simp only [VR] at hp
  obtain ⟨lc, hρ, rfl⟩ := hp
  unfold loadA
  split
  · rename_i s d hs hd
    split
    · rename_i ha
      intro W n h l v n' h' l' w e m
      obtain ⟨cs, n1, h1, l1, e1, e2⟩ := bind_ok e
      obtain ⟨rfl, rfl, rfl, rfl⟩ := ret_ok e2
      obtain ⟨rfl, hn, xs, hv, hc⟩ := getR_sound m hρ e1
      refine ⟨ρ, .agg xs.toArray, w, Ext.refl _, by simp only [VR]; exact ⟨xs, hv, rfl⟩, m, ?_⟩
      have := loadCells_of (P := P) (n := s) (by rw [← hv.length]; exact hn) hc
      simp [Instr.loadAt, Instr.sureAddr, loadVar, run_agg hd, ha, run_size hs, this]
    · rename_i ha
      intro W n h l v n' h' l' w e m
      obtain ⟨cs, n1, h1, l1, e1, e2⟩ := bind_ok e
      obtain ⟨rfl, hn, xs, hv, hc⟩ := getR_sound m hρ e1
      cases cs with
      | nil => simp at hn
      | cons v0 cs =>
        cases cs with
        | cons _ _ => simp at hn
        | nil =>
          obtain ⟨rfl, rfl, rfl, rfl⟩ := ret_ok e2
          obtain ⟨x, ys, rfl, hx, hy⟩ := hv.cons_inv
          have := hc 0 x rfl
          simp only [Nat.add_zero] at this
          refine ⟨ρ, x, w, Ext.refl _, hx, m, ?_⟩
          simp [Instr.loadAt, Instr.sureAddr, loadVar, run_agg hd, ha, run_load, this]
  · exact Sim.err
/-- what stores -/
def SimU (P : Program) (ρ : Ren) (m : M AV) (s : Sem Unit) : Prop :=
  ∀ W n h l v n' h' l' w, m n h l = .ok v n' h' l' → Mo W ρ h w → ∃ w', v = undefA ∧ Mo W ρ h' w' ∧ s.run P w = .ok () w'
theorem SimU.err {s : Sem Unit} : SimU P ρ M.err s := fun W n h l v' n' h' l' w e m => (err_ok e).elim
theorem storeA_sound {t b o : Nat} {a : AV} {p x : Value} (hp : VR ρ (.ptr b o) p) (hx : VR ρ a x) : SimU P ρ (storeA P t b o a) (Instr.storeAt t p x) := by
  simp only [VR] at hp
  obtain ⟨lc, hρ, rfl⟩ := hp
  unfold storeA
  split
  · rename_i s hs
    split
    · rename_i hc
      intro W n h l v n' h' l' w e m
      simp only [Bool.and_eq_true, Nat.beq_eq] at hc
      obtain ⟨u, n1, h1, l1, e1, e2⟩ := bind_ok e
      obtain ⟨rfl, rfl, rfl, rfl⟩ := ret_ok e2
      have hv := cellsA_VRL hx
      obtain ⟨w', h1, h2⟩ := setR_sound (P := P) m hρ e1 hv (plains_one hv hc.2)
      have hsz : x.cells.size = s := by
        have := hv.length
        simp at this
        omega
      refine ⟨w', rfl, h2, ?_⟩
      simp [Instr.storeAt, Instr.sureAddr, storeVar, run_size hs, hsz, h1]
    · exact SimU.err
  · exact SimU.err
theorem newA_sound {t : Nat} {cs : List AV} {xs : List Value} (hv : VRL ρ cs xs) :
    ∀ W n h l b n' h' l' w, newA P t cs false n h l = .ok b n' h' l' → Mo W ρ h w → ∃ ρ', Ext ρ ρ' ∧ VR ρ' (.ptr b 0) (.pointer (some ⟨w.heap.size, 0, none⟩)) ∧ ρ' b = some ⟨w.heap.size, 0, 0⟩ ∧ Mo W ρ' h' (w.alloc (.cells xs.toArray t)) := by
  intro W n h l b n' h' l' w e m
  unfold newA at e
  cases hs : sizeA P t with
  | none => simp only [hs] at e; exact (err_ok e).elim
  | some s =>
    simp only [hs] at e
    obtain ⟨ρ', h1, h2, h3⟩ := row_sound m e #[] 0 hv (fun _ => rfl) (fun h => by cases h)
    refine ⟨ρ', h1, ?_, h2, by simpa using h3⟩
    simp only [VR]
    exact ⟨_, h2, by simp⟩
end
end Ev
end Go.Proofs.YtacjgphfcailmaaGreatDoor
