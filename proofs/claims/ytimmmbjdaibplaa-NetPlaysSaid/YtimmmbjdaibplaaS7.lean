/-
  Layer 17: append of a slice of the caller's onto a fresh one: append([]T{}, l...).
-/
import Derived.Test.YtimmmbjdaibplaaS6
import Derived.Deep.Upon
namespace Go.Proofs.Ytimmmbjdaibplaa
open Go.RowKit
open Nt
set_option linter.unusedVariables false
set_option linter.unusedSimpArgs false

section
variable {P : Program} (w : World)
theorem run_append_all (t ty e : TypeId) (i : TypeInfo) (z : Value) (size bytes : Nat) (ht : P.underlying t = some (.slice e)) (hi : P.info? e = some i) (hz : i.zero = some z)
    (hsize : i.size = size) (hby : i.bytes = bytes) (hzs : z.cells.size = size) (hsz : 0 < size)
    (g0 c0 : Nat) (hown : Loose w e size (.slice (some ⟨g0, 0, none⟩) 0 c0) 0 [])
    (x : Value) (m : Nat) (news : List Value) (hx : Loose w e size x m news) (h1 : ∀ u ∈ news, u.oneCell' = true)
    (h63 : m ≤ maxLen) (hbytes : m * bytes ≤ 140737488355328) :
    ∃ g cap w', (Builtin.append_ #[t, t] ty #[.slice (some ⟨g0, 0, none⟩) 0 c0, x]).run P w = .ok (.slice (some ⟨g, 0, none⟩) m cap) w' ∧ Loose w' e size (.slice (some ⟨g, 0, none⟩) m cap) m news ∧ w.grownBy w' (some g0) ∧ (g = g0 ∨ g = w.heap.size) := by
  rcases hx.2 with ⟨rfl, rfl⟩ | ⟨g', cap', cur', rfl, _⟩
  · have hn : news = [] := List.eq_nil_of_length_eq_zero (by simpa using hx.1)
    subst hn
    have hr := run_append_nothing (P := P) w t t ty e i ht hi (some ⟨g0, 0, none⟩) 0 c0 (Nat.zero_le _) (.slice none 0 0) (Src.ofNil _ ht 0)
    exact ⟨g0, c0, w, hr, hown, World.grownBy.refl _ _, .inl rfl⟩
  · obtain ⟨g, cap, w', hr, h2, h3, h4, h5⟩ := run_append_loose (P := P) w t ty e i z size bytes ht hi hz hsize hby hzs hsz (.slice (some ⟨g0, 0, none⟩) 0 c0) 0 [] hown ⟨g', 0, none⟩ m cap' news hx.1 (fun j u hu => by rw [addr_plus, Nat.zero_add]; exact hx.cellAt hu) h1 (by omega) (by rw [Nat.zero_add]; exact hbytes) (.inl (by simp)) w.heap.size rfl
    rw [Nat.zero_add] at hr h2
    refine ⟨g, cap, w', hr, by simpa using h2, h3, ?_⟩
    rcases h4 with h | h
    · exact .inl (by simpa [Value.ownBlock] using h.symm)
    · exact .inr h
theorem wpList_append_all {ops : Array Oper} {rest : List Oper} {o : Oper} {a : Act} {Q : Exit → Act → World → Prop} (hgd : o.guard = none) (s x : Operand) (t : TypeId)
    (ho : o.op = .call { callee := .builtin .append, args := #[s, x], argTypes := #[t, t] })
    (e : TypeId) (i : TypeInfo) (z : Value) (size bytes : Nat) (ht : P.underlying t = some (.slice e)) (hi : P.info? e = some i) (hz : i.zero = some z)
    (hsize : i.size = size) (hby : i.bytes = bytes) (hzs : z.cells.size = size) (hsz : 0 < size)
    (g0 c0 : Nat) (hs : a.eval s = .slice (some ⟨g0, 0, none⟩) 0 c0) (hown : Loose w e size (.slice (some ⟨g0, 0, none⟩) 0 c0) 0 [])
    (xv : Value) (m : Nat) (news : List Value) (hx : a.eval x = xv) (hxo : Loose w e size xv m news) (h1 : ∀ u ∈ news, u.oneCell' = true)
    (h63 : m ≤ maxLen) (hbytes : m * bytes ≤ 140737488355328)
    (h : ∀ g cap w', Loose w' e size (.slice (some ⟨g, 0, none⟩) m cap) m news → w.grownBy w' (some g0) → (g = g0 ∨ g = w.heap.size) → wpList P ops Q rest (a.put o.dst (.slice (some ⟨g, 0, none⟩) m cap)) w') : wpList P ops Q (o :: rest) a w := by
  refine wpList_plain hgd fun K hK => ?_
  obtain ⟨g, cap, w', hr, h2, h3, h4⟩ := run_append_all (P := P) w t o.type e i z size bytes ht hi hz hsize hby hzs hsz g0 c0 hown xv m news hxo h1 h63 hbytes
  unfold Oper.wp execOp
  simp only [ho, resolve, invoke, builtin, Sem.run_bind, Sem.run_pure, Result.andThen_ok, List.map_toArray, List.map_cons, List.map_nil, hs, hx, hr]
  exact hK _ _ (h g cap w' h2 h3 h4)
theorem step_append_all {ops : Array Oper} {o : Oper} {a : Act} {K : Act → World → Prop} {Q : Exit → Act → World → Prop} {E : Prop} (hgd : o.guard = none) (s x : Operand) (t : TypeId)
    (ho : o.op = .call { callee := .builtin .append, args := #[s, x], argTypes := #[t, t] })
    (e : TypeId) (i : TypeInfo) (z : Value) (size bytes : Nat) (ht : P.underlying t = some (.slice e)) (hi : P.info? e = some i) (hz : i.zero = some z)
    (hsize : i.size = size) (hby : i.bytes = bytes) (hzs : z.cells.size = size) (hsz : 0 < size)
    (g0 c0 : Nat) (hs : a.eval s = .slice (some ⟨g0, 0, none⟩) 0 c0) (hown : Loose w e size (.slice (some ⟨g0, 0, none⟩) 0 c0) 0 [])
    (xv : Value) (m : Nat) (news : List Value) (hx : a.eval x = xv) (hxo : Loose w e size xv m news) (h1 : ∀ u ∈ news, u.oneCell' = true)
    (h63 : m ≤ maxLen) (hbytes : m * bytes ≤ 140737488355328)
    (h : ∀ g cap w', Loose w' e size (.slice (some ⟨g, 0, none⟩) m cap) m news → w.grownBy w' (some g0) → (g = g0 ∨ g = w.heap.size) → K (a.put o.dst (.slice (some ⟨g, 0, none⟩) m cap)) w') :
    if Region.wanted o (yielded ops a.tmps) = true then Oper.wp P o a w K Q else E := by
  have hw : Region.wanted o (yielded ops a.tmps) = true := by simp [Region.wanted, hgd]
  rw [if_pos hw]
  obtain ⟨g, cap, w', hr, h2, h3, h4⟩ := run_append_all (P := P) w t o.type e i z size bytes ht hi hz hsize hby hzs hsz g0 c0 hown xv m news hxo h1 h63 hbytes
  unfold Oper.wp execOp
  simp only [ho, resolve, invoke, builtin, Sem.run_bind, Sem.run_pure, Result.andThen_ok, List.map_toArray, List.map_cons, List.map_nil, hs, hx, hr]
  exact h g cap w' h2 h3 h4
end
end Go.Proofs.Ytimmmbjdaibplaa
