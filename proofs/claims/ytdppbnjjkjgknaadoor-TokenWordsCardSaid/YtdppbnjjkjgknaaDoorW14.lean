/-
  Slices of tokens that read as lists; the walks of Same and same.
-/
import Derived.Test.YtdppbnjjkjgknaaDoorW13
namespace Go.Proofs.YtdppbnjjkjgknaaDoor
open Go.RowKit
open Tok
set_option linter.unusedVariables false

/-- the cells of the tokens at an address -/
def TokCells (w : World) (b off : Nat) (ts : List T) : Prop :=
  ∀ i (h : i < ts.length), w.cell? ⟨b, off + i * 3, none⟩ = some (.string ⟨ts[i].kind.toArray⟩) ∧ w.cell? ⟨b, off + i * 3 + 1, none⟩ = some (.string ⟨ts[i].text.toArray⟩) ∧ w.cell? ⟨b, off + i * 3 + 2, none⟩ = some (.int .i64 ts[i].at_)
/-- a slice of tokens that reads as a list -/
def TokSl (w : World) (v : Value) (ts : List T) : Prop :=
  ∃ A cap, v = .slice A ts.length cap ∧ ts.length ≤ cap ∧ cap ≤ maxLen ∧ (0 < ts.length → ∃ b off, A = some ⟨b, off, none⟩ ∧ TokCells w b off ts)

theorem cell_lt {w : World} {a : Addr} {u : Value} (h : w.cell? a = some u) : a.block < w.heap.size := by
  unfold World.cell? at h
  rcases Nat.lt_or_ge a.block w.heap.size with hlt | hge
  · exact hlt
  · rw [Array.getElem?_eq_none hge] at h; simp at h
theorem TokCells.on {w w' : World} {b off : Nat} {ts : List T} (h : TokCells w b off ts) (hb : Below w.heap.size w w') : TokCells w' b off ts := by
  intro i hi
  obtain ⟨h1, h2, h3⟩ := h i hi
  exact ⟨(hb.cell (cell_lt h1)).trans h1, (hb.cell (cell_lt h2)).trans h2, (hb.cell (cell_lt h3)).trans h3⟩
theorem TokSl.on {w w' : World} {v : Value} {ts : List T} (h : TokSl w v ts) (hb : Below w.heap.size w w') : TokSl w' v ts := by
  obtain ⟨A, cap, h1, h2, h3, h4⟩ := h
  exact ⟨A, cap, h1, h2, h3, fun h => let ⟨b, off, e, hc⟩ := h4 h; ⟨b, off, e, hc.on hb⟩⟩
theorem TokSl.drewN {w : World} {v : Value} {ts : List T} (h : TokSl w v ts) (n : Nat) : TokSl (w.drewN n) v ts := h
theorem TokSl.nil (w : World) : TokSl w (.slice none 0 0) [] := ⟨none, 0, rfl, Nat.le_refl _, Nat.zero_le _, fun h => absurd h (by simp)⟩
theorem TokSl.own {w : World} {base : Nat} {v : Value} {ts : List T} (h : w.ownsRow base 30 3 v ts.length (flat ts)) : TokSl w v ts := by
  rcases h.2 with ⟨rfl, h0⟩ | ⟨g, cap, cur, rfl, _, hh, hnc, hm, hsz, htk⟩
  · have : ts = [] := List.eq_nil_of_length_eq_zero h0
    subst this
    exact TokSl.nil w
  · refine ⟨_, cap, rfl, hnc, hm, fun _ => ⟨g, 0, rfl, fun i hi => ?_⟩⟩
    have hc := fun j (hj : j < ts.length * 3) => h.cellAt j hj
    refine ⟨?_, ?_, ?_⟩
    · rw [show 0 + i * 3 = 3 * i + 0 from by omega, hc _ (by omega), flat_at ts i hi 0 (by omega)]; rfl
    · rw [show 0 + i * 3 + 1 = 3 * i + 1 from by omega, hc _ (by omega), flat_at ts i hi 1 (by omega)]; rfl
    · rw [show 0 + i * 3 + 2 = 3 * i + 2 from by omega, hc _ (by omega), flat_at ts i hi 2 (by omega)]; rfl

def kt (t : T) : List UInt8 × List UInt8 := (t.kind, t.text)
theorem kt_at {a b : List T} (h : a.map kt = b.map kt) (i : Nat) (hi : i < a.length) : ∃ hj : i < b.length, b[i].kind = a[i].kind ∧ b[i].text = a[i].text := by
  have hl : a.length = b.length := by simpa using congrArg List.length h
  refine ⟨by omega, ?_⟩
  have h1 : (a.map kt)[i]? = (b.map kt)[i]? := by rw [h]
  rw [List.getElem?_map, List.getElem?_map, List.getElem?_eq_getElem hi, List.getElem?_eq_getElem (by omega)] at h1
  simp only [Option.map_some, Option.some.injEq, kt, Prod.mk.injEq] at h1
  exact ⟨h1.1.symm, h1.2.symm⟩

set_option maxHeartbeats 1000000 in
theorem rSame_true (a b : List T) (va vb : Value) (w : World) (ha : TokSl w va a) (hb : TokSl w vb b) (he : a.map kt = b.map kt) :
    Calls Tryd.prog 20 #[va, vb] w fun e w' => e = .returned (.bool true) ∧ ∃ n, w' = w.drewN n := by
  have hl : a.length = b.length := by simpa using congrArg List.length he
  obtain ⟨A, ca, rfl, hca, hma, hA⟩ := ha
  obtain ⟨B, cb, rfl, hcb, hmb, hB⟩ := hb
  have hmax : maxLen = 9223372036854775807 := rfl
  rw [hmax] at hma hmb
  rw [← hl] at hcb hB ⊢
  rcases Nat.eq_zero_or_pos a.length with h0 | h0
  · rw [h0]
    clear hA hB hcb hca hl he h0 hmax
    go_enter Tryd.func20, Tryd.ntmps20
    go_wp2
    refine wp_loop_rounds 1 ?_
    rw [rounds_succ]
    go_wp2
    go_ret
    exact ⟨rfl, 0, rfl⟩
  · obtain ⟨ba, oa, rfl, hCA⟩ := hA h0
    obtain ⟨bb, ob, rfl, hCB⟩ := hB h0
    have HA := hide' hCA
    have HB := hide' hCB
    have HE := hide' he
    clear hA hB hCA hCB he hmax hl
    go_enter Tryd.func20, Tryd.ntmps20
    go_wp2
    go_loopw [5] (fun i wr => ∃ (k n : Nat), k ≤ a.length ∧ i = .int .i64 k ∧ wr = w.drewN n) (fun i _ => a.length - (intOf i).toNat)
    case atStart => exact ⟨0, 0, Nat.zero_le _, rfl, rfl⟩
    case round =>
      obtain ⟨k, n, hk, rfl, rfl⟩ := hrel
      by_cases hlt : k < a.length
      · obtain ⟨hkb, e1, e2⟩ := kt_at HE.out k hlt
        obtain ⟨a1, a2, _⟩ := HA.out k hlt
        obtain ⟨b1, b2, _⟩ := HB.out k hkb
        rw [e1] at b1
        rw [e2] at b2
        clear e1 e2
        obtain ⟨x, hx⟩ : ∃ x : ByteArray, x = ⟨a[k].kind.toArray⟩ := ⟨_, rfl⟩
        obtain ⟨y, hy⟩ : ∃ y : ByteArray, y = ⟨a[k].text.toArray⟩ := ⟨_, rfl⟩
        rw [← hx] at a1 b1
        rw [← hy] at a2 b2
        have t1 : (x.toList == x.toList) = true := by simp
        have t2 : (y.toList == y.toList) = true := by simp
        clear hx hy
        go_wp2_with fail
        go_quiet (fail)
        go_wp2
        go_roundw
        case rel => exact ⟨k + 1, _, by omega, by go_num, rfl⟩
        case measure => simp [intOf]; omega
      · go_wp2_with fail
        go_ret
        exact ⟨rfl, _, rfl⟩

end Go.Proofs.YtdppbnjjkjgknaaDoor
