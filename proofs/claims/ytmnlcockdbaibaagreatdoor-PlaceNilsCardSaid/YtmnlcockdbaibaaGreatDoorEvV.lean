/-
  Functions that count in a map, by the contract of the one that the program has: what the small machine does for them is what they do.
-/
import Derived.Test.YtmnlcockdbaibaaGreatDoorEvU
namespace Go.Proofs.YtmnlcockdbaibaaGreatDoor
open Go.RowKit
namespace Ev
open M
set_option linter.unusedVariables false
set_option linter.unusedSimpArgs false

/-- a key: from, to, kind, and 0 -/
def cKey (x y : Int) (s : ByteArray) : Value := .agg #[.int .i64 x, .int .i64 y, .string s, .int .i64 0]
/-- an entry of another key -/
def Other (x y : Int) (s : ByteArray) (e : MapEntry) : Prop := ∃ x' y' s' q, e.key = cKey x' y' s' ∧ e.val = .int .i64 q ∧ ((x == x') && ((y == y') && (s.toList == s'.toList))) = false
/-- the same memory and the same world without -/
def EqW (w w' : World) : Prop := w'.heap = w.heap ∧ w'.os = w.os ∧ w'.tape = w.tape ∧ w'.output = w.output
theorem Mo.eqW {W w w' : World} {ρ : Ren} {h : Heap} (m : Mo W ρ h w) (e : EqW w w') : Mo W ρ h w' := by
  obtain ⟨e1, e2, e3, e4⟩ := e
  refine m.grow ⟨e2, e3, e4, by rw [e1]; exact Nat.le_refl _, fun k _ => by rw [e1]⟩ fun k _ => by rw [e1]
/-- the contract of a function that counts -/
structure CountAt (P : Program) (F K : Nat) : Prop where
  same : ∀ (p : Value) (s : ByteArray) (x : Int) (w : World), Calls P F #[p, .string s, .int .i64 x, .int .i64 x] w fun e w' => e = .returned (.tuple #[]) ∧ EqW w w'
  new : ∀ (blk off : Nat) (s : ByteArray) (x y : Int) (m c : Nat) (E : Array MapEntry) (w : World), x ≠ y → w.cell? ⟨blk, off + K, none⟩ = some (.map (some m)) → w.heap[m]? = some (.map E c) →
    (∀ e ∈ E.toList, Other x y s e) → (∀ e ∈ E.toList, e.born ≠ c) →
    Calls P F #[.pointer (some ⟨blk, off, none⟩), .string s, .int .i64 x, .int .i64 y] w fun e w' => e = .returned (.tuple #[]) ∧ EqW { w with heap := w.heap.setIfInBounds m (.map (E.push ⟨cKey x y s, .int .i64 1, c⟩) (c + 1)) } w'
  old : ∀ (blk off : Nat) (s : ByteArray) (x y q : Int) (m c j : Nat) (e0 : MapEntry) (E : Array MapEntry) (w : World), x ≠ y → w.cell? ⟨blk, off + K, none⟩ = some (.map (some m)) → w.heap[m]? = some (.map E c) →
    (∀ e ∈ E.toList.take j, Other x y s e) → E.toList[j]? = some e0 → e0.key = cKey x y s → e0.val = .int .i64 q → (∀ e ∈ E.toList.take j, e.born ≠ e0.born) →
    Calls P F #[.pointer (some ⟨blk, off, none⟩), .string s, .int .i64 x, .int .i64 y] w fun e w' => e = .returned (.tuple #[]) ∧ EqW { w with heap := w.heap.setIfInBounds m (.map (E.modify j fun e => { e with key := cKey x y s, val := .int .i64 (IntKind.i64.wrap (q + 1)) }) c) } w'

section
variable {E : World → Prop} {P : Program} {ρ : Ren}
theorem cKey_VR {x y : Int} {n v : Nat} : VR ρ (.agg [.int .i64 x, .int .i64 y, .str n v, .int .i64 0]) (cKey x y ⟨(strOf n v).toArray⟩) := by
  simp only [VR]
  exact ⟨[_, _, _, _], .cons (by simp only [VR]) (.cons (by simp only [VR]) (.cons (by simp only [VR]) (.cons (by simp only [VR]) VRL.nil))), rfl⟩
theorem entry_form {e : MapEntry} {x' y' q : Int} {n' v' : Nat} (hk : VR ρ (.agg [.int .i64 x', .int .i64 y', .str n' v', .int .i64 0]) e.key) (hv : VR ρ (.int .i64 q) e.val) :
    e.key = cKey x' y' ⟨(strOf n' v').toArray⟩ ∧ e.val = .int .i64 q := by
  simp only [VR] at hk hv
  obtain ⟨xs, h1, h2⟩ := hk
  obtain ⟨a1, l1, rfl, g1, h3⟩ := h1.cons_inv
  obtain ⟨a2, l2, rfl, g2, h4⟩ := h3.cons_inv
  obtain ⟨a3, l3, rfl, g3, h5⟩ := h4.cons_inv
  obtain ⟨a4, l4, rfl, g4, h6⟩ := h5.cons_inv
  have g5 := h6.nil_inv
  simp only [VR] at g1 g2 g3 g4
  subst g1 g2 g3 g4 g5
  exact ⟨h2, hv⟩
/-- what the small machine finds -/
theorem findC_spec {x y : Int} {n v : Nat} : ∀ {es : List (AV × AV × Nat)} {L : List MapEntry} {i : Nat} {r : Option (Nat × Int × Nat)}, ERL ρ es L → findC x y n v es i = some r →
    (r = none ∧ ∀ e ∈ L, Other x y ⟨(strOf n v).toArray⟩ e) ∨
    ∃ j q born e0 k0, r = some (i + j, q, born) ∧ L[j]? = some e0 ∧ (∀ e ∈ L.take j, Other x y ⟨(strOf n v).toArray⟩ e) ∧ e0.key = cKey x y ⟨(strOf n v).toArray⟩ ∧ e0.val = .int .i64 q ∧ e0.born = born ∧ es[j]? = some (k0, .int .i64 q, born)
  | [], L, i, r, h, e => by
    simp only [ERL] at h
    subst h
    simp only [findC, Option.some.injEq] at e
    subst e
    exact .inl ⟨rfl, by simp⟩
  | (k, u, b) :: es, L, i, r, h, e => by
    simp only [ERL] at h
    obtain ⟨en, L', rfl, h1, h2, h3, h⟩ := h
    unfold findC at e
    split at e
    · rename_i heq
      cases heq
    · rename_i x' y' n' v' q born es' heq
      cases heq
      obtain ⟨f1, f2⟩ := entry_form h1 h2
      split at e
      · rename_i hc
        cases e
        simp only [Bool.and_eq_true, Nat.beq_eq] at hc
        obtain ⟨c1, c2, c3, c4⟩ := hc
        have c1 := eq_of_beq c1
        have c2 := eq_of_beq c2
        subst c1 c2 c3
        have hstr : strOf n v = strOf n v' := by
          have := str_beq n v n v'
          simp [c4] at this
          exact this
        refine .inr ⟨0, q, b, en, _, rfl, rfl, by simp, ?_, f2, h3, rfl⟩
        rw [f1, hstr]
      · rename_i hc
        have hoth : Other x y ⟨(strOf n v).toArray⟩ en := by
          refine ⟨x', y', _, q, f1, f2, ?_⟩
          simp only [ByteArray.toList_mk, str_beq]
          exact hc
        rcases findC_spec h e with ⟨rfl, g⟩ | ⟨j, q', born', e0, k0, rfl, g1, g2, g3, g4, g5, g6⟩
        · refine .inl ⟨rfl, fun e' he' => ?_⟩
          rcases List.mem_cons.1 he' with rfl | he'
          · exact hoth
          · exact g e' he'
        · refine .inr ⟨j + 1, q', born', e0, k0, by simp; omega, by simpa using g1, fun e' he' => ?_, g3, g4, g5, by simpa using g6⟩
          rw [List.take_succ_cons] at he'
          rcases List.mem_cons.1 he' with rfl | he'
          · exact hoth
          · exact g2 e' he'
    · cases e
/-- the fields of the record that counts -/
theorem cnt_of {F K : Nat} (hone : onceB P "(*purlieu/engine.World).count" F = true) (hoff : countOff P F = some K) (hc : CountAt P F K) : CntOK E P := by
  intro f fn c args ρ xs W w n n' h h' l l' v hf hb hcnt hx hE e mo
  have hF : f = F := once hone hf (by simpa [isCount] using hcnt)
  subst hF
  unfold countA at e
  split at e
  · rename_i b o n1 v1 x y
    obtain ⟨a1, l1, rfl, g1, h3⟩ := hx.cons_inv
    obtain ⟨a2, l2, rfl, g2, h4⟩ := h3.cons_inv
    obtain ⟨a3, l3, rfl, g3, h5⟩ := h4.cons_inv
    obtain ⟨a4, l4, rfl, g4, h6⟩ := h5.cons_inv
    have g5 := h6.nil_inv
    simp only [VR] at g1 g2 g3 g4
    subst g2 g3 g4 g5
    obtain ⟨lb, hρ, rfl⟩ := g1
    change Ok _ _ _ _ _ at e
    split at e
    · rename_i hxy
      have hxy := eq_of_beq hxy
      subst hxy
      obtain ⟨rfl, rfl, rfl, rfl⟩ := ret_ok e
      refine (hc.same _ _ _ _).mono ?_
      rintro e' w' ⟨rfl, ha⟩
      exact ⟨_, rfl, ρ, Ext.refl _, by simp only [VR]; exact ⟨[], VRL.nil, rfl⟩, mo.eqW ha⟩
    · rename_i hxy
      have hxy : x ≠ y := by simpa using hxy
      rw [hoff] at e
      simp only at e
      obtain ⟨cs, n2, h2, l2, e1, e2⟩ := bind_ok e
      obtain ⟨rfl, hn, ys, hv, hcell⟩ := getR_sound mo hρ e1
      change Ok _ _ _ _ _ at e2
      split at e2
      · rename_i m
        obtain ⟨z, n3, h3', l3, e3, e4⟩ := bind_ok e2
        obtain ⟨rfl, rfl, hg⟩ := getB_ok e3
        cases z <;> first | exact (err_ok e4).elim | skip
        rename_i es clk
        simp only at e4
        obtain ⟨y1, ys1, rfl, k1, k2⟩ := hv.cons_inv
        simp only [VR] at k1
        obtain ⟨lm, hm, rfl⟩ := k1
        have hcw := hcell 0 _ rfl
        rw [Nat.add_zero, ← Nat.add_assoc] at hcw
        obtain ⟨M, hM, hr⟩ := mo.blk _ _ _ hg hm
        cases hfc : findC x y n1 v1 es 0 with
        | none => simp only [hfc] at e4; exact (err_ok e4).elim
        | some r =>
          simp only [hfc] at e4
          rcases findC_spec hr hfc with ⟨rfl, q1⟩ | ⟨j, q, born, e0, k0, rfl, q1, q2, q3, q4, q5, q6⟩
          · simp only at e4
            change Ok _ _ _ _ _ at e4
            split at e4
            · rename_i hall
              obtain ⟨_, n5, h5', l5, e5, e6⟩ := bind_ok e4
              obtain ⟨rfl, rfl, rfl, rfl⟩ := ret_ok e6
              obtain ⟨rfl, rfl, _, hbb⟩ := setB_ok e5
              obtain ⟨w', k3, k4⟩ := setObj_sound (P := P) (x := .mp (es ++ [(.agg [.int .i64 x, .int .i64 y, .str n1 v1, .int .i64 0], .int .i64 1, clk)]) (clk + 1)) (o' := .map (M.push ⟨cKey x y ⟨(strOf n1 v1).toArray⟩, .int .i64 1, clk⟩) (clk + 1)) mo hbb hg hm rfl rfl rfl hM (by intros; simp)
                ⟨_, rfl, by rw [Array.toList_push]; exact hr.append (by simp only [ERL]; exact ⟨_, _, rfl, cKey_VR, by simp only [VR], rfl, rfl⟩)⟩
              have hw' : w' = { w with heap := w.heap.setIfInBounds lm.blk (.map (M.push ⟨cKey x y ⟨(strOf n1 v1).toArray⟩, .int .i64 1, clk⟩) (clk + 1)) } := by
                rw [run_setObj hM (by intros; simp)] at k3
                cases k3
                rfl
              have hborn : ∀ e ∈ M.toList, e.born ≠ clk := by
                have := hr.all (p := fun e => !Nat.beq e.2.2 clk) (q := fun e => !Nat.beq e.born clk) fun k v b e he => by subst he; rfl
                rw [this] at hall
                intro e he hq
                have := List.all_eq_true.1 hall e he
                rw [hq, Nat.beq_refl] at this
                cases this
              refine (hc.new lb.blk (lb.d + o) _ x y lm.blk clk M w hxy hcw hM q1 hborn).mono ?_
              rintro e' w2 ⟨rfl, ha⟩
              exact ⟨_, rfl, ρ, Ext.refl _, by simp only [VR]; exact ⟨[], VRL.nil, rfl⟩, (show Mo _ _ _ _ from hw' ▸ k4).eqW ha⟩
            · exact (err_ok e4).elim
          · simp only [Nat.zero_add] at e4
            change Ok _ _ _ _ _ at e4
            split at e4
            · rename_i hall
              obtain ⟨_, n5, h5', l5, e5, e6⟩ := bind_ok e4
              obtain ⟨rfl, rfl, rfl, rfl⟩ := ret_ok e6
              obtain ⟨rfl, rfl, _, hbb⟩ := setB_ok e5
              obtain ⟨w', k3, k4⟩ := setObj_sound (P := P) (x := .mp (setAt (.agg [.int .i64 x, .int .i64 y, .str n1 v1, .int .i64 0], .int .i64 (IntKind.i64.wrap (q + 1)), born) es j) clk)
                (o' := .map (M.modify j fun e => { e with key := cKey x y ⟨(strOf n1 v1).toArray⟩, val := .int .i64 (IntKind.i64.wrap (q + 1)) }) clk) mo hbb hg hm rfl rfl rfl hM (by intros; simp)
                ⟨_, rfl, by rw [Array.toList_modify]; exact hr.setAt cKey_VR (by simp only [VR]) j q6⟩
              have hw' : w' = { w with heap := w.heap.setIfInBounds lm.blk (.map (M.modify j fun e => { e with key := cKey x y ⟨(strOf n1 v1).toArray⟩, val := .int .i64 (IntKind.i64.wrap (q + 1)) }) clk) } := by
                rw [run_setObj hM (by intros; simp)] at k3
                cases k3
                rfl
              have hborn : ∀ e ∈ M.toList.take j, e.born ≠ e0.born := by
                have := (hr.take j).all (p := fun e => !Nat.beq e.2.2 born) (q := fun e => !Nat.beq e.born born) fun k v b e he => by subst he; rfl
                rw [this] at hall
                intro e he hq
                have := List.all_eq_true.1 hall e he
                rw [hq, q5, Nat.beq_refl] at this
                cases this
              refine (hc.old lb.blk (lb.d + o) _ x y q lm.blk clk j e0 M w hxy hcw hM q2 q1 q3 q4 hborn).mono ?_
              rintro e' w2 ⟨rfl, ha⟩
              exact ⟨_, rfl, ρ, Ext.refl _, by simp only [VR]; exact ⟨[], VRL.nil, rfl⟩, (show Mo _ _ _ _ from hw' ▸ k4).eqW ha⟩
            · exact (err_ok e4).elim
      · exact (err_ok e2).elim
  · exact (err_ok e).elim
end
end Ev
end Go.Proofs.YtmnlcockdbaibaaGreatDoor
