/-
  The walk of token.Tokens.
-/
import Derived.Test.YtdppbnjjkjgknaaDoorW5
import Derived.Laws.OwnMore
namespace Go.Proofs.YtdppbnjjkjgknaaDoor
open Go.RowKit
open Tok

theorem tokInfo : (Tryd.prog.info? 30).map (fun i => (i.zero, i.size, i.bytes)) = some (some (.agg #[.string ⟨#[]⟩, .string ⟨#[]⟩, .int .i64 0]), 3, 40) := by kernel_rfl

theorem grown_of_below {w w' : World} (h : Below w.heap.size w w') (row : Option Nat) : w.grownBy w' row := ⟨h.os, h.tape, h.output, h.size, fun i hi _ => h.block i hi⟩
theorem ownsRow_below {w w' : World} {base : Nat} {e : TypeId} {size : Nat} {v : Value} {n : Nat} {xs : List Value} (h : w.ownsRow base e size v n xs) (hb : Below w.heap.size w w') : w'.ownsRow base e size v n xs :=
  h.kept (grown_of_below hb none) (by cases v.ownBlock <;> simp)

theorem cells_new' (w : World) (cs : Array Value) (t : TypeId) (j : Nat) (u : Value) (h : cs.toList[j]? = some u) {b : Nat} (hb : w.heap.size = b) : (w.alloc (.cells cs t)).cell? ((⟨b, 0, none⟩ : Addr).add j) = some u := by
  subst hb
  have e : (w.alloc (.cells cs t)).heap[w.heap.size]? = some (.cells cs t) := by
    show (w.heap.push (.cells cs t))[w.heap.size]? = _
    simp
  have hj : cs[j]? = some u := by simpa using h
  have ea : (⟨w.heap.size, 0, none⟩ : Addr).add j = ⟨w.heap.size, j, none⟩ := by
    unfold Addr.add
    by_cases h0 : j = 0
    · rw [if_pos h0, h0]
    · rw [if_neg h0]; simp
  rw [ea]
  unfold World.cell?
  simp only [e]
  simpa using hj
theorem T.cells_one (t : T) : ∀ u ∈ t.cells, u.oneCell' = true := by
  intro u hu
  simp only [T.cells, List.mem_cons, List.not_mem_nil, or_false] at hu
  rcases hu with rfl | rfl | rfl <;> rfl

/-- what Tokens hands back -/
def TokensEnd (s : ByteArray) (w w' : World) (e : Ending) : Prop :=
  (10000 < s.size ∧ e = .returned (.tuple #[.slice none 0 0, .int .i64 4])) ∨
  (s.size ≤ 10000 ∧ tokens s.data.toList = none ∧ e = .returned (.tuple #[.slice none 0 0, .int .i64 10])) ∨
  (s.size ≤ 10000 ∧ ∃ ts v, tokens s.data.toList = some ts ∧ e = .returned (.tuple #[v, .int .i64 0]) ∧ w'.ownsRow w.heap.size 30 3 v ts.length (flat ts))

/-- the loop's relation on what has been read: so far ts, and the rest begins at k with no gap -/
def Read (s : ByteArray) (ts : List T) (k : Nat) : Prop := tokens s.data.toList = (restN (s.data.toList.drop k) k).map (ts ++ ·)
theorem Read.start (s : ByteArray) : Read s [] (gap s.data.toList) := by
  unfold Read tokens
  rw [toksN_rest]
  simp
theorem Read.done {s : ByteArray} {ts : List T} {k : Nat} (h : Read s ts k) (hk : s.size ≤ k) : tokens s.data.toList = some ts := by
  unfold Read at h
  rw [h, drop_end s k hk]
  simp [restN]
theorem drop_ne (s : ByteArray) (k : Nat) (hk : k < s.size) : s.data.toList.drop k ≠ [] := by
  rw [drop_cons s k hk]; simp
theorem Read.fail {s : ByteArray} {ts : List T} {k : Nat} (h : Read s ts k) (hk : k < s.size) (hf : first (s.data.toList.drop k) = none) : tokens s.data.toList = none := by
  unfold Read at h
  rw [h]
  unfold restN
  rw [if_neg (drop_ne s k hk), hf]; rfl
theorem Read.step {s : ByteArray} {ts : List T} {k : Nat} (h : Read s ts k) (hk : k < s.size) {kd t : List UInt8} (hf : first (s.data.toList.drop k) = some (kd, t)) :
    Read s (ts ++ [⟨kd, t, k⟩]) (k + t.length + gap (s.data.toList.drop (k + t.length))) := by
  unfold Read at h ⊢
  rw [h]
  conv => lhs; unfold restN
  rw [if_neg (drop_ne s k hk), hf]
  simp only [List.drop_drop]
  rw [toksN_rest, List.drop_drop]
  cases restN (s.data.toList.drop (k + t.length + gap (s.data.toList.drop (k + t.length)))) (k + t.length + gap (s.data.toList.drop (k + t.length))) <;> simp

theorem tokens_long (s : ByteArray) (w : World) (h : 10000 < s.size) :
    Calls Tryd.prog 11 #[.string s] w fun e w' => TokensEnd s w w' e ∧ Below w.heap.size w w' := by
  go_enter Tryd.func11, Tryd.ntmps11
  go_wp2
  go_ret2
  exact ⟨.inl ⟨h, rfl⟩, Below.refl _ _⟩

set_option maxRecDepth 100000 in
set_option maxHeartbeats 1000000 in
theorem tokens_short (s : ByteArray) (w : World) (hT : Tab w) (h : s.size ≤ 10000) :
    Calls Tryd.prog 11 #[.string s] w fun e w' => TokensEnd s w w' e ∧ Below w.heap.size w w' := by
  obtain ⟨i0, hi, hz0, hz1, hz2⟩ := info_parts tokInfo
  have HT := hide' hT
  clear hT
  go_enter Tryd.func11, Tryd.ntmps11
  go_wp2_with fail
  refine (gap_any _ _ (by omega)).mono ?_
  rintro e w' ⟨rfl, rfl⟩
  have hg := gap_le s.data.toList
  rw [← Lib.size_eq] at hg
  go_wp2_with fail
  go_loopw [4, 5] (fun v a wr => ∃ (k : Nat) (ts : List T), k ≤ s.size ∧ a = .int .i64 k ∧ ts.length ≤ k ∧ wr.ownsRow w.heap.size 30 3 v ts.length (flat ts) ∧ Below w.heap.size w wr ∧ Hid (Read s ts k)) (fun _ a _ => s.size - (intOf a).toNat)
  case atStart => exact ⟨_, [], hg, rfl, Nat.zero_le _, World.ownsRow_nil _ _ _ _, Below.refl _ _, Read.start s⟩
  case round =>
    obtain ⟨k, ts, hk, rfl, hlen, hown, hnx, hr⟩ := hrel
    by_cases hlt : k < s.size
    · have hes := ext_end_size s k
      go_wp2_with fail
      refine (first_any _ _ (HT.out.on hnx) (by omega)).mono ?_
      rintro e w1 ⟨hf, hb1⟩
      rcases hf with ⟨kd, t, hf, rfl⟩ | ⟨hf, k1, t1, rfl⟩
      · rw [ext_end] at hf
        have ht := first_text hf
        rw [List.length_drop, ← Lib.size_eq] at ht
        obtain ⟨-, ht0, ht1⟩ := ht
        have hst := hide' (hr.out.step hlt hf)
        have hown1 := ownsRow_below hown hb1
        have hnx1 : Below w.heap.size w w1 := hnx.trans (hb1.mono hnx.size)
        clear hr hf hown hes
        go_wp2_with (at_builtin; go_must (refine wpList_append_own _ rfl _ _ 22 rfl w.heap.size 30 i0 _ 3 40 Tryd.underlying22 hi hz0 hz1 hz2 rfl (by decide) _ _ _ rfl ((hown1.alloc _).alloc _) ⟨w1.heap.size + 1, 0, none⟩ 1 1 (T.cells ⟨kd, t, k⟩) rfl rfl ?c1 ?c2 ?c3 ?c4 ?c5 ?_))
        case c1 =>
          intro j u hu
          exact cells_new' (w1.alloc _) _ _ j u hu (by simp)
        case c2 => exact T.cells_one _
        case c3 => unfold maxLen; omega
        case c4 => omega
        case c5 => have := hnx1.size; simp; omega
        intro v' w2 hown2 hg2 _
        have hc1 : w2.cell? ⟨w1.heap.size, 1, none⟩ = some (.string ⟨t.toArray⟩) := by
          refine hg2.cell ?_ (fun e => ?_)
          · rw [World.cell?_alloc_lt _ _ _ (by simp)]
            exact cells_new' w1 _ _ 1 _ rfl rfl
          · have := (hown1.lt _ e.symm).2
            simp at this
        have hb2 : Below w.heap.size w w2 := by
          refine Below.grown ?_ hg2 (by have := hnx1.size; simp; omega) (fun k hk => (hown1.lt k hk).1)
          exact (hnx1.alloc hnx1.size _).alloc (by have := hnx1.size; simp; omega) _
        have hsz : k + t.length ≤ s.size := by omega
        have hes := ext_end_size s (k + t.length)
        clear hown1 hg2 hb1 hnx hnx1
        go_wp2_with fail
        refine (gap_any _ _ (by omega)).mono ?_
        rintro e w3 ⟨rfl, rfl⟩
        have hgl := gap_le (s.extract (k + t.length) s.size).data.toList
        rw [← Lib.size_eq] at hgl
        rw [← ext_end] at hst
        obtain ⟨g, hg⟩ : ∃ g, g = gap (s.extract (k + t.length) s.size).data.toList := ⟨_, rfl⟩
        rw [← hg] at hgl hst ⊢
        clear hg
        go_wp2_with fail
        go_roundw
        case rel => exact ⟨k + t.length + g, _, by omega, by first | rfl | (congr 1; omega), by simp; omega, by rw [flat_snoc]; simpa using hown2, hb2, hst⟩
        case measure => simp [intOf]; omega
      · rw [ext_end] at hf
        have hfin := hide' (hr.out.fail hlt hf)
        clear hr hf hes hown
        go_wp2_with fail
        go_ret2
        exact ⟨.inr (.inl ⟨h, hfin.out, rfl⟩), (hnx.trans (hb1.mono hnx.size)).alloc (by have := hnx.size; have := hb1.size; omega) _⟩
    · have hfin := hide' (hr.out.done (by omega))
      clear hr
      go_wp2_with fail
      go_ret2
      exact ⟨.inr (.inr ⟨h, ts, _, hfin.out, rfl, hown⟩), hnx⟩

end Go.Proofs.YtdppbnjjkjgknaaDoor
