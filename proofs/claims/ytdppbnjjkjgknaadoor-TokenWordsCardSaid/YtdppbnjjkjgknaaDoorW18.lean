/-
  The walk of Join of package token.
-/
import Derived.Test.YtdppbnjjkjgknaaDoorW17
namespace Go.Proofs.YtdppbnjjkjgknaaDoor
open Go.RowKit
open Tok
set_option linter.unusedVariables false

def AllValid (ts : List T) : Prop := ∀ t ∈ ts, first t.text = some (t.kind, t.text)
def texts (ts : List T) : List (List UInt8) := ts.map (·.text)
/-- how many bytes the texts have, and how many they are -/
def weight (ts : List T) : Nat := Lib.lens (texts ts) + ts.length
theorem join_le : ∀ (xs : List (List UInt8)), (Lib.join xs [32]).length ≤ Lib.lens xs + xs.length
  | [] => by simp [Lib.join_nil]
  | x :: r => by
    rw [Lib.join_cons]
    have h : ∀ r : List (List UInt8), (Lib.joinTail [32] r).length = Lib.lens r + r.length := by
      intro r
      induction r with
      | nil => rfl
      | cons y r ih =>
        unfold Lib.joinTail Lib.lens at ih ⊢
        simp only [List.map_cons, List.flatten_cons, List.length_append, List.length_cons, List.length_nil, List.sum_cons, ih]
        omega
    rw [List.length_append, h r]
    unfold Lib.lens
    simp only [List.map_cons, List.sum_cons, List.length_cons]
    omega
theorem text_le {ts : List T} {k : Nat} (h : k < ts.length) : ts[k].text.length ≤ weight ts := by
  unfold weight Lib.lens texts
  have : ∀ (l : List Nat) (x : Nat), x ∈ l → x ≤ l.sum := by
    intro l x hx
    induction l with
    | nil => cases hx
    | cons y r ih =>
      rw [List.sum_cons]
      rcases List.mem_cons.1 hx with rfl | h
      · omega
      · have := ih h; omega
  have h2 := this ((ts.map (·.text)).map (·.length)) ts[k].text.length (by
    rw [List.map_map]; exact List.mem_map.2 ⟨ts[k], List.getElem_mem h, rfl⟩)
  omega

/-- what Join hands back -/
def JoinEnd (ts : List T) (e : Ending) : Prop :=
  (AllValid ts ∧ e = .returned (.tuple #[.string ⟨(Lib.join (texts ts) [32]).toArray⟩, .int .i64 0])) ∨ (¬ AllValid ts ∧ e = .returned (.tuple #[.string ⟨#[]⟩, .int .i64 3]))

theorem texts_snoc (ts : List T) (k : Nat) (h : k < ts.length) : texts (ts.take (k + 1)) = texts (ts.take k) ++ [ts[k].text] := by
  unfold texts
  rw [List.take_add_one, List.getElem?_eq_getElem h, List.map_append]; rfl
theorem allValid_snoc (ts : List T) (k : Nat) (h : k < ts.length) (ha : AllValid (ts.take k)) (hv : first ts[k].text = some (ts[k].kind, ts[k].text)) : AllValid (ts.take (k + 1)) := by
  unfold AllValid at ha ⊢
  rw [List.take_add_one, List.getElem?_eq_getElem h]
  intro t ht
  rcases List.mem_append.1 ht with h1 | h1
  · exact ha t h1
  · obtain rfl : t = ts[k] := by simpa using h1
    exact hv
theorem valid_iff {k t : List UInt8} : valid ⟨k.toArray⟩ ⟨t.toArray⟩ = true ↔ first t = some (k, t) := by
  unfold valid
  simp

theorem join_own (l : List (List UInt8)) (v : Value) (base : Nat) (w : World) (hown : w.ownsRow base 9 1 v l.length (strs l)) (hN : l.length ≤ 140737488355328) (hlen : (Lib.join l [32]).length ≤ 140737488355328) :
    Calls Tryd.prog 33 #[v, .string ⟨#[32]⟩] w fun e w' => e = .returned (.string ⟨(Lib.join l [32]).toArray⟩) ∧ Below w.heap.size w w' := by
  rcases Nat.eq_zero_or_pos l.length with h0 | h0
  · obtain rfl : l = [] := List.eq_nil_of_length_eq_zero h0
    have hv : ∃ A c, v = .slice A 0 c := by
      rcases hown.2 with ⟨rfl, _⟩ | ⟨g, cap, cur, rfl, _⟩
      · exact ⟨_, _, rfl⟩
      · exact ⟨_, _, rfl⟩
    obtain ⟨A, c, rfl⟩ := hv
    exact (Tryd.strings_Join_none A c ⟨#[32]⟩ w).mono fun e w' ⟨h1, h2⟩ => ⟨h1, h2 ▸ Below.refl _ _⟩
  · obtain ⟨g, cap, rfl, hnc, hm, hcell⟩ := own_cell hown h0
    have hxs : (l.map fun x => (⟨x.toArray⟩ : ByteArray)).map (·.data.toList) = l := by
      rw [List.map_map]
      conv => rhs; rw [← List.map_id l]
      congr 1
    have hlt : g < w.heap.size := by
      have := cell_lt ((hcell 0 h0).trans (strs_at l 0 h0))
      exact this
    have := Tryd.strings_Join g 0 cap (l.map fun x => (⟨x.toArray⟩ : ByteArray)) ⟨#[32]⟩ w ?_ hlt (by rw [List.length_map]; exact hN) (by rw [List.length_map]; exact hnc) (by rw [hxs]; exact hlen)
    · rw [hxs, List.length_map] at this
      exact this
    · intro j x hx
      rw [List.getElem?_map, Option.map_eq_some_iff] at hx
      obtain ⟨y, hy, rfl⟩ := hx
      obtain ⟨hj, rfl⟩ := List.getElem?_eq_some_iff.1 hy
      rw [Nat.zero_add, hcell j hj, strs_at l j hj]

set_option maxHeartbeats 2000000 in
set_option maxRecDepth 100000 in
theorem join_any (ts : List T) (va : Value) (w : World) (hT : Tab w) (hsl : TokSl w va ts) (hwt : weight ts ≤ 4000000) :
    Calls Tryd.prog 18 #[va] w fun e w' => JoinEnd ts e ∧ Below w.heap.size w w' := by
  obtain ⟨i0, hi, hz0, hz1, hz2⟩ := info_parts strInfo
  obtain ⟨A, cap, rfl, hca, hma, hA⟩ := hsl
  have hmax : maxLen = 9223372036854775807 := rfl
  rw [hmax] at hma
  have hlw : ts.length ≤ weight ts := by unfold weight; omega
  have HT := hide' hT
  have hjl : (Lib.join (texts ts) [32]).length ≤ 140737488355328 := by
    have := join_le (texts ts)
    unfold weight at hwt
    have h2 : (texts ts).length = ts.length := by simp [texts]
    omega
  have hTL : (texts ts).length = ts.length := by simp [texts]
  have HJ := hide' hjl
  have HTL := hide' hTL
  have hcl : 0 < ts.length → ∃ b off, A = some ⟨b, off, none⟩ ∧ TokCells w b off ts := hA
  clear hT hA hjl hmax hTL
  rcases Nat.eq_zero_or_pos ts.length with h0 | h0
  · obtain rfl : ts = [] := List.eq_nil_of_length_eq_zero h0
    have HJN := hide' (join_own [] (.slice none 0 0) 0 w (World.ownsRow_nil _ _ _ _) (by simp) (by simp [Lib.join_nil]))
    clear hcl
    go_enter Tryd.func18, Tryd.ntmps18
    go_wp2_with fail
    refine wp_loop_rounds 1 ?_
    rw [rounds_succ]
    go_wp2_with fail
    refine HJN.out.mono ?_
    rintro e w2 ⟨rfl, hb2⟩
    go_wp2_with fail
    go_ret2
    exact ⟨.inl ⟨(fun t ht => by cases ht), rfl⟩, hb2⟩
  · obtain ⟨b, off, rfl, hCA⟩ := hcl h0
    have HA := hide' hCA
    clear hcl hCA
    go_enter Tryd.func18, Tryd.ntmps18
    go_wp2_with fail
    go_loopw [4, 9] (fun v i wr => ∃ (k : Nat), k ≤ ts.length ∧ i = .int .i64 k ∧ wr.ownsRow w.heap.size 9 1 v k (strs (texts (ts.take k))) ∧ Hid (AllValid (ts.take k)) ∧ Below w.heap.size w wr) (fun _ i _ => ts.length - (intOf i).toNat)
    case atStart => exact ⟨0, Nat.zero_le _, rfl, World.ownsRow_nil _ _ _ _, (fun t ht => by simp at ht), Below.refl _ _⟩
    case round =>
      obtain ⟨k, hk, rfl, hown, hav, hnx⟩ := hrel
      by_cases hlt : k < ts.length
      · obtain ⟨x1, x2, x3⟩ := (HA.out.on hnx) k hlt
        have htl := text_le hlt
        obtain ⟨kb, hkb⟩ : ∃ kb : ByteArray, kb = ⟨ts[k].kind.toArray⟩ := ⟨_, rfl⟩
        obtain ⟨tb, htb⟩ : ∃ tb : ByteArray, tb = ⟨ts[k].text.toArray⟩ := ⟨_, rfl⟩
        obtain ⟨n, hn⟩ : ∃ n : Int, n = ts[k].at_ := ⟨_, rfl⟩
        have htl2 : tb.size ≤ 4000000 := by
          have : tb.size = ts[k].text.length := by rw [htb]; simp [ByteArray.size]
          omega
        have hvi : Hid (valid kb tb = true ↔ first ts[k].text = some (ts[k].kind, ts[k].text)) := by
          rw [hkb, htb]; exact valid_iff
        have htx : Hid (tb.data.toList = ts[k].text) := by rw [htb]; rfl
        rw [← hkb] at x1
        rw [← htb] at x2
        rw [← hn] at x3
        clear hkb htb hn htl HA
        have HTA := hide' ((HT.out.on hnx).alloc (.cells #[.string kb, .string tb, .int .i64 n] 30))
        cases hv : valid kb tb
        · have hbad : Hid (¬ AllValid ts) := by
            intro ha
            have := hvi.out.2 (ha ts[k] (List.getElem_mem hlt))
            rw [hv] at this; cases this
          go_wp2_with fail
          refine (valid_any _ _ _ _ (by exact HTA.out) (by omega)).mono ?_
          rintro e w2 ⟨rfl, hb2⟩
          rw [hv]
          go_wp2_with fail
          go_ret2
          exact ⟨.inr ⟨hbad.out, rfl⟩, hnx.trans (Below.trans ((Below.refl _ _).alloc hnx.size _) (hb2.mono (by have := hnx.size; simp; omega)))⟩
        · go_wp2_with fail
          refine (valid_any _ _ _ _ (by exact HTA.out) (by omega)).mono ?_
          rintro e w2 ⟨rfl, hb2⟩
          rw [hv]
          have d1 : w2.cell? ⟨wr.heap.size, 1, none⟩ = some (.string tb) := (hb2.cell (by simp)).trans (cells_new' wr #[.string kb, .string tb, .int .i64 n] 30 1 _ rfl rfl)
          have hbr : Below wr.heap.size wr w2 := Below.trans (((Below.refl _ _).alloc (Nat.le_refl _) _)) (hb2.mono (B' := wr.heap.size) (by simp))
          have hown2 := ownsRow_below hown hbr
          have hb3 : Below w.heap.size w w2 := hnx.trans (hbr.mono hnx.size)
          have hav' := hide' (allValid_snoc ts k hlt hav.out (hvi.out.1 hv))
          have hsn := hide' (texts_snoc ts k hlt)
          clear hb2 hbr hown hnx hav x1 x2 x3 hvi HTA
          go_wp2_with (at_builtin; go_must (refine wpList_append_own _ rfl _ _ 46 rfl w.heap.size 9 i0 _ 1 16 Tryd.underlying46 hi hz0 hz1 hz2 rfl (by decide) _ _ _ rfl (hown2.alloc _) ⟨w2.heap.size, 0, none⟩ 1 1 [.string tb] rfl rfl ?c1 ?c2 ?c3 ?c4 ?c5 ?_))
          case c1 =>
            intro j u hu
            exact cells_new' w2 _ _ j u hu rfl
          case c2 => intro u hu; simp at hu; subst hu; rfl
          case c3 => unfold maxLen; omega
          case c4 => omega
          case c5 => have := hb3.size; simp; omega
          intro v' w4 hown4 hg4 _
          have hb4 : Below w.heap.size w w4 := (hb3.alloc hb3.size _).grown hg4 (by have := hb3.size; simp; omega) (fun k hk => (hown2.lt k hk).1)
          have hown5 : w4.ownsRow w.heap.size 9 1 v' (k + 1) (strs (texts (ts.take (k + 1)))) := by
            rw [hsn.out, ← htx.out, strs_snoc]
            exact hown4
          clear hown4 hg4 hown2 hb3 hsn htx d1
          go_wp2_with fail
          go_roundw
          case rel => exact ⟨k + 1, by omega, by go_num, hown5, hav', hb4⟩
          case measure => simp [intOf]; omega
      · have hke : k = ts.length := by omega
        have hav2 : AllValid ts := by
          have := hav.out
          rw [hke, List.take_length] at this
          exact this
        have hown2 : wr.ownsRow w.heap.size 9 1 u4 (texts ts).length (strs (texts ts)) := by
          have := hown
          rw [hke, List.take_length] at this
          rw [HTL.out]
          exact this
        have hN : (texts ts).length ≤ 140737488355328 := by rw [HTL.out]; omega
        have HJN := hide' (join_own (texts ts) u4 w.heap.size wr hown2 hN HJ.out)
        have HAV := hide' hav2
        clear hown hav hav2 hown2 hke HA hN
        go_wp2_with fail
        refine HJN.out.mono ?_
        rintro e w2 ⟨rfl, hb2⟩
        go_wp2_with fail
        go_ret2
        exact ⟨.inl ⟨HAV.out, rfl⟩, hnx.trans (hb2.mono hnx.size)⟩

end Go.Proofs.YtdppbnjjkjgknaaDoor
