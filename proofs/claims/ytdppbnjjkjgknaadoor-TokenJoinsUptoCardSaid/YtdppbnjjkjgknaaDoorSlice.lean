/-
  What the frames of the statements on lists of tokens share: the list opened to its tokens, and what the bound on the bulk gives.
-/
import Derived.Test.YtdppbnjjkjgknaaDoorW24
import Derived.Test.YtdppbnjjkjgknaaDoorFrame
import Derived.Test.YtdppbnjjkjgknaaDoorRows
import Derived.Deep.Slices
import Derived.Deep.Fields
import Derived.ChangeSame
import Derived.Carry
namespace Go.Proofs.YtdppbnjjkjgknaaDoor
open Go.ChangeShapes Go.WideShapes Go.Deep Go.RowKit
open Tok

theorem cellsTok : Tryd.prog.cellsOf 30 = 3 := by kernel_rfl
theorem cellsStr : Tryd.prog.cellsOf 9 = 1 := by kernel_rfl
theorem cellsInt : Tryd.prog.cellsOf 3 = 1 := by kernel_rfl
theorem string_of_list (s : ByteArray) : (⟨s.data.toList.toArray⟩ : ByteArray) = s := by cases s; simp
theorem add_none (b off n : Nat) : (⟨b, off, none⟩ : Addr).add n = ⟨b, off + n, none⟩ := by
  simp only [Addr.add]
  split <;> simp_all
theorem lens_snoc (xs : List (List UInt8)) (y : List UInt8) : Lib.lens (xs ++ [y]) = Lib.lens xs + y.length := by
  simp [Lib.lens]
theorem bulk_append {H : Type} (l r : List (DataW H)) : Rows.uptoBulkAll (l ++ r) = Rows.uptoBulkAll l + Rows.uptoBulkAll r := by
  induction l with
  | nil => simp [Rows.uptoBulkAll]
  | cons x l ih => simp only [List.cons_append, Rows.uptoBulkAll, ih]; omega

section
variable {H : Type} {enc : TypeId × Value → H} {w : World} {base : Nat} {spare : Nat → Bool} {held : Bool}

/-- one token's three cells and its datum -/
def TokAt (w : World) (a : Addr) (D : Nat → DataW H) (i : Nat) (t : T) : Prop :=
  w.cell? (a.add (i * 3)) = some (.string ⟨t.kind.toArray⟩) ∧ w.cell? (a.add (i * 3 + 1)) = some (.string ⟨t.text.toArray⟩) ∧ w.cell? (a.add (i * 3 + 2)) = some (.int .i64 t.at_) ∧
    t.text.length + 1 ≤ Rows.uptoBulk (D i)

theorem gather {a : Addr} {D : Nat → DataW H} : ∀ (n : Nat), (∀ i, i < n → ∃ t : T, TokAt w a D i t) →
    ∃ ts : List T, ts.length = n ∧ (∀ i (h : i < ts.length), TokAt w a D i ts[i]) ∧ weight ts ≤ Rows.uptoBulkAll ((List.range n).map D)
  | 0, _ => ⟨[], rfl, (fun i h => by cases h), by simp [weight, texts, Lib.lens]⟩
  | n + 1, h => by
    obtain ⟨ts, hl, hc, hw⟩ := gather n (fun i hi => h i (by omega))
    obtain ⟨t, ht⟩ := h n (by omega)
    refine ⟨ts ++ [t], by simp [hl], fun i hi => ?_, ?_⟩
    · by_cases hin : i < ts.length
      · rw [List.getElem_append_left hin]; exact hc i hin
      · have : i = ts.length := by simp at hi; omega
        subst this
        simpa [hl] using ht
    · have e : weight (ts ++ [t]) = weight ts + t.text.length + 1 := by
        simp only [weight, texts, List.map_append, List.map_cons, List.map_nil, lens_snoc, List.length_append, List.length_cons, List.length_nil]
        omega
      rw [e, List.range_succ, List.map_append, bulk_append]
      have := ht.2.2.2
      simp only [List.map_cons, List.map_nil, Rows.uptoBulkAll]
      omega

set_option maxRecDepth 100000 in
theorem open_tokens {b0 : Nat} {v : Value} {d : DataW H} {p : List MemPlace} (hv : Value.okWide Tryd.prog w .any b0 22 v) (h : DataW.Trod enc Tryd.prog w base spare held 22 v d p) :
    ∃ ts : List T, TokSl w v ts ∧ weight ts ≤ Rows.uptoBulk d := by
  obtain ⟨A, len, cap, rfl⟩ := okWide_slice Tryd.underlying22 hv
  obtain ⟨fuel, hf⟩ := h
  rcases open_slice Tryd.underlying22 hf with ⟨h0, hx⟩ | ⟨a, len', cap', m, n, D, Pl, hcs, hb, hl, hm, hmm, hx, hi⟩
  · simp only [Value.cells, List.cons.injEq, Value.slice.injEq, and_true] at h0
    obtain ⟨rfl, rfl, rfl⟩ := h0
    exact ⟨[], ⟨none, 0, rfl, Nat.le_refl _, Nat.zero_le _, fun h => by cases h⟩, by simp [weight, texts, Lib.lens]⟩
  · simp only [Value.cells, List.cons.injEq, Value.slice.injEq, and_true] at hcs
    obtain ⟨rfl, rfl, rfl⟩ := hcs
    simp only [Prod.mk.injEq] at hx
    obtain ⟨rfl, _⟩ := hx
    have hlm : len ≤ m := by rw [hmm]; split <;> omega
    have hone : ∀ i, i < len → ∃ t : T, TokAt w a D i t := by
      intro i hil
      obtain ⟨cs', hc, ht'⟩ := hi i (by omega)
      rw [cellsTok] at hc
      obtain ⟨ys, n', hn', hy, hlen, hyl, hfl⟩ := DataW.trod_struct Tryd.underlying30 ht'
      obtain ⟨_, hcl, hat⟩ := World.cells?_some hc
      match cs', hlen.trans cellsTok with
      | [c0, c1, c2], _ =>
        match ys, hyl with
        | [y0, y1, y2], _ =>
          have f0 : DataW.trod enc Tryd.prog w base spare held n' 9 [c0] = some y0 := by simpa [cellsStr] using hfl 0 _ rfl
          have f1 : DataW.trod enc Tryd.prog w base spare held n' 9 [c1] = some y1 := by simpa [cellsStr] using hfl 1 _ rfl
          have f2 : DataW.trod enc Tryd.prog w base spare held n' 3 [c2] = some y2 := by simpa [cellsInt] using hfl 2 _ rfl
          obtain ⟨kb, e0, g0, _⟩ := DataW.trod_string Tryd.underlying9 f0
          obtain ⟨tb, e1, g1, _⟩ := DataW.trod_string Tryd.underlying9 f1
          obtain ⟨z, e2, g2, _⟩ := DataW.trod_int Tryd.underlying3 f2
          simp only [List.cons.injEq, and_true] at e0 e1 e2
          subst e0 e1 e2
          have a0 := hat 0 (by simp)
          have a1 := hat 1 (by simp)
          have a2 := hat 2 (by simp)
          rw [Go.Deep.add_add] at a0 a1 a2
          refine ⟨⟨kb.data.toList, tb.data.toList, z⟩, by simpa [string_of_list] using a0, by simpa [string_of_list] using a1, by simpa using a2, ?_⟩
          have hd : D i = .agg [y0.1, y1.1, y2.1] := by simpa using congrArg Prod.fst hy
          rw [hd, g0, g1, g2]
          simp only [Rows.uptoBulk, Rows.uptoBulkAll]
          omega
    obtain ⟨ts, hlen, hc, hwt⟩ := gather len hone
    refine ⟨ts, ⟨some a, cap, by rw [hlen], by omega, hm, fun hpos => ?_⟩, ?_⟩
    · obtain ⟨b, off, spot⟩ := a
      obtain rfl : spot = none := by
        have := World.cell?_spot (hc 0 hpos).1
        simpa [Addr.add] using this
      exact ⟨b, off, rfl, fun i hi => ⟨by simpa only [add_none] using (hc i hi).1, by simpa only [add_none, Nat.add_assoc] using (hc i hi).2.1, by simpa only [add_none, Nat.add_assoc] using (hc i hi).2.2.1⟩⟩
    · simp only [Rows.uptoBulk]; omega
end

theorem bulk_small {H : Type} {d : DataW H} (hk : Rows.uptoSmall H [d] = true) : Rows.uptoBulk d ≤ 1048576 := by
  have h : Rows.uptoBulkAll [d] ≤ 1048576 := of_decide_eq_true hk
  simp only [Rows.uptoBulkAll] at h
  omega

end Go.Proofs.YtdppbnjjkjgknaaDoor
