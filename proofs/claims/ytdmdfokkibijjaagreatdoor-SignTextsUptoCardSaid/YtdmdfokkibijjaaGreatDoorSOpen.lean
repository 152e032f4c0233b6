/-
  Layer 9: the arguments opened: formals, signatures, lists of both; and what the reach gives for the names.
-/
import Derived.Test.YtdmdfokkibijjaaGreatDoorSFrame
import Derived.Test.YtdmdfokkibijjaaGreatDoorRows
import Derived.Deep.Slices
import Derived.Deep.Fields
import Derived.ChangeSame
import Derived.Carry
import Derived.SizedLaws
namespace Go.Proofs.YtdmdfokkibijjaaGreatDoor
open Go.ChangeShapes Go.WideShapes Go.Deep Go.RowKit
open Sgn

theorem cellsFormal : Tryz.prog.cellsOf 35 = 2 := by kernel_rfl
theorem cellsSign : Tryz.prog.cellsOf 25 = 3 := by kernel_rfl
theorem cellsStr : Tryz.prog.cellsOf 9 = 1 := by kernel_rfl
theorem cellsInt : Tryz.prog.cellsOf 3 = 1 := by kernel_rfl
theorem cellsFs : Tryz.prog.cellsOf 23 = 1 := by kernel_rfl
theorem string_of_list (s : ByteArray) : (⟨s.data.toList.toArray⟩ : ByteArray) = s := by cases s; simp
theorem add_none (b off n : Nat) : (⟨b, off, none⟩ : Addr).add n = ⟨b, off + n, none⟩ := by
  simp only [Addr.add]
  split <;> simp_all
theorem gatherP {α : Type} {R : Nat → α → Prop} : ∀ (n : Nat), (∀ i, i < n → ∃ x, R i x) → ∃ xs : List α, xs.length = n ∧ ∀ i (h : i < xs.length), R i xs[i]
  | 0, _ => ⟨[], rfl, fun i h => by cases h⟩
  | n + 1, h => by
    obtain ⟨xs, hl, hx⟩ := gatherP n (fun i hi => h i (by omega))
    obtain ⟨x, hxn⟩ := h n (by omega)
    refine ⟨xs ++ [x], by simp [hl], fun i hi => ?_⟩
    by_cases hin : i < xs.length
    · rw [List.getElem_append_left hin]; exact hx i hin
    · have : i = xs.length := by simp at hi; omega
      subst this
      simpa [hl] using hxn

section
variable {H : Type} {enc : TypeId × Value → H} {w : World} {base : Nat} {spare : Nat → Bool} {held : Bool}

theorem weightsAll_mem {P : Program} {e : TypeId} : ∀ {l : List (DataW H)} {d : DataW H} {n : Nat}, d ∈ l → n ∈ d.weights P e → n ∈ DataW.weightsAll P e l
  | x :: l, d, n, hd, hn => by
    simp only [DataW.weightsAll, List.mem_append]
    rcases List.mem_cons.1 hd with rfl | hd
    · exact .inl hn
    · exact .inr (weightsAll_mem hd hn)

def FormalAt (w : World) (a : Addr) (i : Nat) (f : F) : Prop :=
  w.cell? (a.add (i * 2)) = some (.string f.k) ∧ w.cell? (a.add (i * 2 + 1)) = some (.int .i64 f.n)

set_option maxRecDepth 100000 in
theorem open_formals_cells {fuel : Nat} {cs : List Value} {x : DataW H × List MemPlace} (hf : DataW.trod enc Tryz.prog w base spare held fuel 23 cs = some x) : ∃ (v : Value) (fs : List F), cs = [v] ∧ FSl w v fs := by
  rcases open_slice Tryz.underlying23 hf with ⟨h0, hx⟩ | ⟨a, len', cap', m, n, D, Pl, hcs, hb, hl, hm, hmm, hx, hi⟩
  · exact ⟨_, [], h0, none, 0, rfl, Nat.le_refl _, Nat.zero_le _, fun h => by cases h⟩
  · have hlm : len' ≤ m := by rw [hmm]; split <;> omega
    have hone : ∀ i, i < len' → ∃ f : F, FormalAt w a i f := by
      intro i hil
      obtain ⟨cs', hc, ht'⟩ := hi i (by omega)
      rw [cellsFormal] at hc
      obtain ⟨ys, n', hn', hy, hlen, hyl, hfl⟩ := DataW.trod_struct Tryz.underlying35 ht'
      obtain ⟨_, hcl, hat⟩ := World.cells?_some hc
      match cs', hlen.trans cellsFormal with
      | [c0, c1], _ =>
        match ys, hyl with
        | [y0, y1], _ =>
          have f0 : DataW.trod enc Tryz.prog w base spare held n' 9 [c0] = some y0 := by simpa [cellsStr] using hfl 0 _ rfl
          have f1 : DataW.trod enc Tryz.prog w base spare held n' 3 [c1] = some y1 := by simpa [cellsInt] using hfl 1 _ rfl
          obtain ⟨kb, e0, g0, _⟩ := DataW.trod_string Tryz.underlying9 f0
          obtain ⟨z, e1, g1, _⟩ := DataW.trod_int Tryz.underlying3 f1
          simp only [List.cons.injEq, and_true] at e0 e1
          subst e0 e1
          have a0 := hat 0 (by simp)
          have a1 := hat 1 (by simp)
          rw [Go.Deep.add_add] at a0 a1
          exact ⟨⟨kb, z⟩, by simpa using a0, by simpa using a1⟩
    obtain ⟨fs, hlen, hc⟩ := gatherP len' hone
    refine ⟨_, fs, hcs, some a, cap', by rw [hlen], by omega, hm, fun hpos => ?_⟩
    obtain ⟨b, off, spot⟩ := a
    obtain rfl : spot = none := by
      have := World.cell?_spot (hc 0 hpos).1
      simpa [Addr.add] using this
    exact ⟨b, off, rfl, fun i hi => ⟨by simpa only [add_none] using (hc i hi).1, by simpa only [add_none, Nat.add_assoc] using (hc i hi).2⟩⟩

set_option maxRecDepth 100000 in
theorem open_formals {b0 : Nat} {v : Value} {d : DataW H} {p : List MemPlace} (hv : Value.okWide Tryz.prog w .any b0 23 v) (h : DataW.Trod enc Tryz.prog w base spare held 23 v d p) : ∃ fs, FSl w v fs := by
  obtain ⟨A, len, cap, rfl⟩ := okWide_slice Tryz.underlying23 hv
  obtain ⟨fuel, hf⟩ := h
  obtain ⟨v', fs, e, hF⟩ := open_formals_cells hf
  simp only [Value.cells, List.cons.injEq, and_true] at e
  subst e
  exact ⟨fs, hF⟩

set_option maxRecDepth 100000 in
/-- one signature's cells -/
theorem open_sign_cells {fuel : Nat} {cs : List Value} {x : DataW H × List MemPlace} (hf : DataW.trod enc Tryz.prog w base spare held fuel 25 cs = some x) :
    ∃ (nm res : ByteArray) (v : Value) (fs : List F), cs = [.string nm, v, .string res] ∧ FSl w v fs ∧ nm.data.toList.length ∈ x.1.weights Tryz.prog 25 := by
  obtain ⟨ys, n', hn', hy, hlen, hyl, hfl⟩ := DataW.trod_struct Tryz.underlying25 hf
  match cs, hlen.trans cellsSign with
  | [c0, c1, c2], _ =>
    match ys, hyl with
    | [y0, y1, y2], _ =>
      have f0 : DataW.trod enc Tryz.prog w base spare held n' 9 [c0] = some y0 := by simpa [cellsStr] using hfl 0 _ rfl
      have f1 : DataW.trod enc Tryz.prog w base spare held n' 23 [c1] = some y1 := by simpa [cellsFs] using hfl 1 _ rfl
      have f2 : DataW.trod enc Tryz.prog w base spare held n' 9 [c2] = some y2 := by simpa [cellsStr] using hfl 2 _ rfl
      obtain ⟨nb, e0, g0, _⟩ := DataW.trod_string Tryz.underlying9 f0
      obtain ⟨v, fs, e1, hF⟩ := open_formals_cells f1
      obtain ⟨rb, e2, g2, _⟩ := DataW.trod_string Tryz.underlying9 f2
      simp only [List.cons.injEq, and_true] at e0 e1 e2
      subst e0 e1 e2
      refine ⟨nb, rb, c1, fs, rfl, hF, ?_⟩
      have hd : x.1 = .agg [y0.1, y1.1, y2.1] := by simpa using congrArg Prod.fst hy
      rw [hd, g0]
      simp only [DataW.weights, Tryz.underlying25]
      simp [DataW.weightsEach, DataW.weights]

theorem size_le {s : ByteArray} {ws : List Nat} (h : s.data.toList.length ∈ ws) (hw : ∀ n ∈ ws, n ≤ reachBytes) : s.size ≤ 4611686018427387904 := by
  have h1 := hw _ h
  have h2 := reachBytes_lt
  have h3 : s.size = s.data.toList.length := by rw [Array.length_toList]; rfl
  omega

set_option maxRecDepth 100000 in
/-- a signature by value -/
theorem open_sign {b0 : Nat} {v : Value} {d : DataW H} {p : List MemPlace} (hv : Value.okWide Tryz.prog w .any b0 25 v) (h : DataW.Trod enc Tryz.prog w base spare held 25 v d p) (hw : ∀ n ∈ d.weights Tryz.prog 25, n ≤ reachBytes) :
    ∃ g, GV w v g ∧ g.name.size ≤ 4611686018427387904 := by
  obtain ⟨cs, rfl, hsz⟩ := okWide_struct Tryz.underlying25 hv
  obtain ⟨fuel, hf⟩ := h
  obtain ⟨nm, res, x, fs, e, hF, hm⟩ := open_sign_cells hf
  have e' : cs.toList = [.string nm, x, .string res] := e
  obtain rfl : cs = #[.string nm, x, .string res] := by cases cs; simp_all
  exact ⟨⟨nm, fs, res⟩, ⟨x, rfl, hF⟩, size_le hm hw⟩

set_option maxRecDepth 100000 in
/-- a formal by value -/
theorem open_formal {b0 : Nat} {v : Value} {d : DataW H} {p : List MemPlace} (hv : Value.okWide Tryz.prog w .any b0 35 v) (h : DataW.Trod enc Tryz.prog w base spare held 35 v d p) :
    ∃ f : F, v = .agg #[.string f.k, .int .i64 f.n] := by
  obtain ⟨cs, rfl, hsz⟩ := okWide_struct Tryz.underlying35 hv
  obtain ⟨fuel, hf⟩ := h
  obtain ⟨ys, n', hn', hy, hlen, hyl, hfl⟩ := DataW.trod_struct Tryz.underlying35 hf
  obtain ⟨c0, c1, rfl⟩ : ∃ c0 c1, cs = #[c0, c1] := by
    rw [cellsFormal] at hsz
    match cs, hsz with
    | ⟨[c0, c1]⟩, _ => exact ⟨c0, c1, rfl⟩
  match ys, hyl with
  | [y0, y1], _ =>
    have f0 : DataW.trod enc Tryz.prog w base spare held n' 9 [c0] = some y0 := by simpa [cellsStr, Value.cells] using hfl 0 _ rfl
    have f1 : DataW.trod enc Tryz.prog w base spare held n' 3 [c1] = some y1 := by simpa [cellsInt, Value.cells] using hfl 1 _ rfl
    obtain ⟨kb, e0, g0, _⟩ := DataW.trod_string Tryz.underlying9 f0
    obtain ⟨z, e1, g1, _⟩ := DataW.trod_int Tryz.underlying3 f1
    simp only [List.cons.injEq, and_true] at e0 e1
    subst e0 e1
    exact ⟨⟨kb, z⟩, rfl⟩

def SignAt (w : World) (a : Addr) (ws : List Nat) (i : Nat) (g : G) : Prop :=
  ∃ x, w.cell? (a.add (i * 3)) = some (.string g.name) ∧ w.cell? (a.add (i * 3 + 1)) = some x ∧ w.cell? (a.add (i * 3 + 2)) = some (.string g.res) ∧ FSl w x g.fs ∧ g.name.data.toList.length ∈ ws

set_option maxRecDepth 100000 in
theorem open_signs {b0 : Nat} {v : Value} {d : DataW H} {p : List MemPlace} (hv : Value.okWide Tryz.prog w .any b0 36 v) (h : DataW.Trod enc Tryz.prog w base spare held 36 v d p) (hw : ∀ n ∈ d.weights Tryz.prog 36, n ≤ reachBytes) :
    ∃ gs, GSl w v gs ∧ ∀ g ∈ gs, g.name.size ≤ 4611686018427387904 := by
  obtain ⟨A, len, cap, rfl⟩ := okWide_slice Tryz.underlying36 hv
  obtain ⟨fuel, hf⟩ := h
  rcases open_slice Tryz.underlying36 hf with ⟨h0, hx⟩ | ⟨a, len', cap', m, n, D, Pl, hcs, hb, hl, hm, hmm, hx, hi⟩
  · simp only [Value.cells, List.cons.injEq, Value.slice.injEq, and_true] at h0
    obtain ⟨rfl, rfl, rfl⟩ := h0
    exact ⟨[], ⟨none, 0, rfl, Nat.le_refl _, Nat.zero_le _, fun h => by cases h⟩, fun g hg => by cases hg⟩
  · simp only [Value.cells, List.cons.injEq, Value.slice.injEq, and_true] at hcs
    obtain ⟨rfl, rfl, rfl⟩ := hcs
    simp only [Prod.mk.injEq] at hx
    obtain ⟨rfl, _⟩ := hx
    have hlm : len ≤ m := by rw [hmm]; split <;> omega
    have hone : ∀ i, i < len → ∃ g : G, SignAt w a (DataW.weightsAll Tryz.prog 25 ((List.range len).map D)) i g := by
      intro i hil
      obtain ⟨cs', hc, ht'⟩ := hi i (by omega)
      rw [cellsSign] at hc
      obtain ⟨_, hcl, hat⟩ := World.cells?_some hc
      obtain ⟨nm, res, x, fs, rfl, hF, hmem⟩ := open_sign_cells ht'
      have a0 := hat 0 (by simp)
      have a1 := hat 1 (by simp)
      have a2 := hat 2 (by simp)
      rw [Go.Deep.add_add] at a0 a1 a2
      exact ⟨⟨nm, fs, res⟩, x, by simpa using a0, by simpa using a1, by simpa using a2, hF, weightsAll_mem (List.mem_map.2 ⟨i, List.mem_range.2 hil, rfl⟩) hmem⟩
    obtain ⟨gs, hlen, hc⟩ := gatherP len hone
    have hwa : ∀ n ∈ DataW.weightsAll Tryz.prog 25 ((List.range len).map D), n ≤ reachBytes := fun n hn => hw n (by simp only [DataW.weights, Tryz.underlying36]; simp [hn])
    refine ⟨gs, ⟨some a, cap, by rw [hlen], by omega, hm, fun hpos => ?_⟩, fun g hg => ?_⟩
    · obtain ⟨b, off, spot⟩ := a
      obtain ⟨_, hc0, _⟩ := hc 0 hpos
      obtain rfl : spot = none := by
        have := World.cell?_spot hc0
        simpa [Addr.add] using this
      refine ⟨b, off, rfl, fun i hi => ?_⟩
      obtain ⟨x, h1, h2, h3, h4, _⟩ := hc i hi
      exact ⟨x, by simpa only [add_none] using h1, by simpa only [add_none, Nat.add_assoc] using h2, by simpa only [add_none, Nat.add_assoc] using h3, h4⟩
    · obtain ⟨i, hi, rfl⟩ := List.getElem_of_mem hg
      obtain ⟨x, _, _, _, _, hm⟩ := hc i hi
      exact size_le hm hwa
end

end Go.Proofs.YtdmdfokkibijjaaGreatDoor
