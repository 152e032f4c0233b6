/-
  The walk of Join of the reference of layer 1.
-/
import Derived.Test.YtdppbnjjkjgknaaDoorW21
namespace Go.Proofs.YtdppbnjjkjgknaaDoor
open Go.RowKit
open Tok
set_option linter.unusedVariables false

/-- what has been joined of the first tokens -/
def Joined (ts : List T) (k : Nat) (cb : ByteArray) : Prop := cb.data.toList = Lib.join (texts (ts.take k)) [32]
theorem join_snoc : ∀ (xs : List (List UInt8)) (y : List UInt8), xs ≠ [] → Lib.join (xs ++ [y]) [32] = Lib.join xs [32] ++ [32] ++ y
  | [], _, h => absurd rfl h
  | x :: r, y, _ => by
    rw [List.cons_append, Lib.join_cons, Lib.join_cons]
    unfold Lib.joinTail
    simp
theorem Joined.first {ts : List T} {cb : ByteArray} {y : ByteArray} (h : Joined ts 0 cb) (hk : 0 < ts.length) (hy : y.data.toList = ts[0].text) : Joined ts 1 (cb ++ y) := by
  unfold Joined at h ⊢
  rw [app_data, h, hy, texts_snoc ts 0 hk]
  simp [texts, Lib.join_nil, Lib.join_one]
theorem Joined.more {ts : List T} {k : Nat} {cb : ByteArray} {y : ByteArray} (h : Joined ts k cb) (hk0 : 0 < k) (hk : k < ts.length) (hy : y.data.toList = ts[k].text) : Joined ts (k + 1) (cb ++ ⟨#[32]⟩ ++ y) := by
  unfold Joined at h ⊢
  rw [app_data, app_data, h, hy, texts_snoc ts k hk, join_snoc]
  intro e
  have := congrArg List.length e
  unfold texts at this
  rw [List.length_map, List.length_take, List.length_nil] at this
  omega
theorem lens_take (ts : List T) (k : Nat) : Lib.lens (texts (ts.take k)) ≤ Lib.lens (texts ts) := by
  have := Lib.lens_take_le (texts ts) k
  unfold texts at this ⊢
  rw [List.map_take]; exact this
theorem Joined.size {ts : List T} {k : Nat} {cb : ByteArray} (h : Joined ts k cb) : cb.size ≤ weight ts := by
  unfold Joined at h
  rw [Lib.size_eq, h]
  have h1 := join_le (texts (ts.take k))
  have h2 := lens_take ts k
  unfold weight
  have h3 : (texts (ts.take k)).length ≤ ts.length := by unfold texts; rw [List.length_map, List.length_take]; omega
  omega

set_option maxHeartbeats 2000000 in
set_option maxRecDepth 100000 in
theorem rJoin_any (ts : List T) (va : Value) (w : World) (hsl : TokSl w va ts) (hwt : weight ts ≤ 4000000) :
    Calls Tryd.prog 19 #[va] w fun e w' => JoinEnd ts e ∧ Below w.heap.size w w' := by
  obtain ⟨A, cap, rfl, hca, hma, hA⟩ := hsl
  have hmax : maxLen = 9223372036854775807 := rfl
  rw [hmax] at hma
  have hlw : ts.length ≤ weight ts := by unfold weight; omega
  have hcl : 0 < ts.length → ∃ b off, A = some ⟨b, off, none⟩ ∧ TokCells w b off ts := hA
  clear hA hmax
  rcases Nat.eq_zero_or_pos ts.length with h0 | h0
  · obtain rfl : ts = [] := List.eq_nil_of_length_eq_zero h0
    clear hcl
    go_enter Tryd.func19, Tryd.ntmps19
    go_wp2_with fail
    refine wp_loop_rounds 1 ?_
    rw [rounds_succ]
    go_wp2_with fail
    go_ret2
    exact ⟨.inl ⟨(fun t ht => by cases ht), rfl⟩, Below.refl _ _⟩
  · obtain ⟨b, off, rfl, hCA⟩ := hcl h0
    have HA := hide' hCA
    clear hcl hCA
    go_enter Tryd.func19, Tryd.ntmps19
    go_wp2_with fail
    go_loopw [4, 5] (fun v i wr => ∃ (k : Nat) (cb : ByteArray), k ≤ ts.length ∧ i = .int .i64 k ∧ v = .string cb ∧ Hid (Joined ts k cb) ∧ Hid (AllValid (ts.take k)) ∧ Below w.heap.size w wr) (fun _ i _ => ts.length - (intOf i).toNat)
    case atStart => exact ⟨0, ⟨#[]⟩, Nat.zero_le _, rfl, rfl, by show _ = _; simp [texts, Lib.join_nil], (fun t ht => by simp at ht), Below.refl _ _⟩
    case round =>
      obtain ⟨k, cb, hk, rfl, rfl, hj, hav, hnx⟩ := hrel
      have hcs := hj.out.size
      by_cases hlt : k < ts.length
      · obtain ⟨x1, x2, x3⟩ := (HA.out.on hnx) k hlt
        have htl := text_le hlt
        obtain ⟨kb, hkb⟩ : ∃ kb : ByteArray, kb = ⟨ts[k].kind.toArray⟩ := ⟨_, rfl⟩
        obtain ⟨tb, htb⟩ : ∃ tb : ByteArray, tb = ⟨ts[k].text.toArray⟩ := ⟨_, rfl⟩
        obtain ⟨n, hn⟩ : ∃ n : Int, n = ts[k].at_ := ⟨_, rfl⟩
        have htl2 : tb.size ≤ 4000000 := by
          have : tb.size = ts[k].text.length := by rw [htb]; simp [ByteArray.size]
          omega
        have hvi : Hid (valid kb tb = true ↔ first ts[k].text = some (ts[k].kind, ts[k].text)) := by
          rw [hkb, htb]; exact valid_iff
        have htx : Hid (tb.data.toList = ts[k].text) := by rw [htb]; rfl
        rw [← hkb] at x1
        rw [← htb] at x2
        rw [← hn] at x3
        clear hkb htb hn htl HA
        cases hv : valid kb tb
        · have hbad : Hid (¬ AllValid ts) := by
            intro ha
            have := hvi.out.2 (ha ts[k] (List.getElem_mem hlt))
            rw [hv] at this; cases this
          go_wp2_with fail
          refine (rValid_any _ _ _ _ (by omega)).mono ?_
          rintro e w2 ⟨rfl, hb2⟩
          rw [hv]
          go_wp2_with fail
          go_ret2
          exact ⟨.inr ⟨hbad.out, rfl⟩, hnx.trans (hb2.mono hnx.size)⟩
        · have hav' := hide' (allValid_snoc ts k hlt hav.out (hvi.out.1 hv))
          rcases Nat.eq_zero_or_pos k with hk0 | hk0
          · subst hk0
            have hj' := hide' (hj.out.first hlt htx.out)
            simp only [Nat.zero_mul, Nat.add_zero] at x1 x2 x3
            clear hj hav hvi htx
            go_wp2_with fail
            refine (rValid_any _ _ _ _ (by omega)).mono ?_
            rintro e w2 ⟨rfl, hb2⟩
            rw [hv]
            have d2 := (hb2.cell (cell_lt x2)).trans x2
            have hb3 : Below w.heap.size w w2 := hnx.trans (hb2.mono hnx.size)
            clear hb2 x1 x2 x3
            go_wp2_with fail
            go_roundw
            case rel => exact ⟨1, _, by omega, rfl, rfl, hj', hav', hb3⟩
            case measure => simp [intOf]; omega
          · have hj' := hide' (hj.out.more hk0 hlt htx.out)
            clear hj hav hvi htx
            go_wp2_with fail
            refine (rValid_any _ _ _ _ (by omega)).mono ?_
            rintro e w2 ⟨rfl, hb2⟩
            rw [hv]
            have d2 := (hb2.cell (cell_lt x2)).trans x2
            have hb3 : Below w.heap.size w w2 := hnx.trans (hb2.mono hnx.size)
            have hsz : (cb ++ ⟨#[32]⟩ : ByteArray).size = cb.size + 1 := by
              rw [Lib.size_eq, app_data, List.length_append, ← Lib.size_eq]; rfl
            clear hb2 x1 x2 x3
            go_wp2_with fail
            go_roundw
            case rel => exact ⟨k + 1, _, by omega, by go_num, rfl, hj', hav', hb3⟩
            case measure => simp [intOf]; omega
      · have hke : k = ts.length := by omega
        have hav2 : AllValid ts := by
          have := hav.out
          rw [hke, List.take_length] at this
          exact this
        have hj2 : cb = ⟨(Lib.join (texts ts) [32]).toArray⟩ := by
          have := hj.out
          unfold Joined at this
          rw [hke, List.take_length] at this
          rw [← this]
        have HAV := hide' hav2
        have HJ := hide' hj2
        clear hj hav hav2 hj2 hke HA
        go_wp2_with fail
        go_ret2
        exact ⟨.inl ⟨HAV.out, by rw [← HJ.out]; rfl⟩, hnx⟩

end Go.Proofs.YtdppbnjjkjgknaaDoor
