/-
  Layer 9: the walk of SignOrder.
-/
import Derived.Test.YtdmdfokkibijjaaDoorSW24
namespace Go.Proofs.YtdmdfokkibijjaaDoor
open Go.RowKit
open Sgn
set_option linter.unusedVariables false
set_option linter.unusedSimpArgs false

/-- the cells of a list of signatures, in a row -/
def GRow (w : World) (xs : List Value) (gs : List G) : Prop :=
  xs.length = 3 * gs.length ∧ ∀ i (h : i < gs.length), ∃ x, xs[i * 3]? = some (.string gs[i].name) ∧ xs[i * 3 + 1]? = some x ∧ xs[i * 3 + 2]? = some (.string gs[i].res) ∧ FSl w x gs[i].fs
theorem GRow.nil (w : World) : GRow w [] [] := ⟨rfl, fun i h => by cases h⟩
theorem GRow.snoc {w : World} {xs : List Value} {gs : List G} (h : GRow w xs gs) {g : G} {x : Value} (hx : FSl w x g.fs) : GRow w (xs ++ [.string g.name, x, .string g.res]) (gs ++ [g]) := by
  refine ⟨by simp [h.1]; omega, fun i hi => ?_⟩
  by_cases hin : i < gs.length
  · obtain ⟨y, h1, h2, h3, h4⟩ := h.2 i hin
    have hl := h.1
    refine ⟨y, ?_, ?_, ?_, ?_⟩
    · rw [List.getElem_append_left hin, List.getElem?_append_left (by omega)]; exact h1
    · rw [List.getElem?_append_left (by omega)]; exact h2
    · rw [List.getElem_append_left hin, List.getElem?_append_left (by omega)]; exact h3
    · rw [List.getElem_append_left hin]; exact h4
  · have he : i = gs.length := by simp at hi; omega
    subst he
    have hl := h.1
    refine ⟨x, ?_, ?_, ?_, ?_⟩
    · rw [List.getElem?_append_right (by omega), List.getElem_append_right (Nat.le_refl _)]
      simp [hl, show gs.length * 3 - 3 * gs.length = 0 by omega]
    · rw [List.getElem?_append_right (by omega)]
      simp [hl, show gs.length * 3 + 1 - 3 * gs.length = 1 by omega]
    · rw [List.getElem?_append_right (by omega), List.getElem_append_right (Nat.le_refl _)]
      simp [hl, show gs.length * 3 + 2 - 3 * gs.length = 2 by omega]
    · rw [List.getElem_append_right (Nat.le_refl _)]
      simpa using hx
theorem signInfo : (Tryd.prog.info? 37).map (fun i => (i.zero, i.size, i.bytes)) = some (some (.agg #[.string ⟨#[]⟩, .slice none 0 0, .string ⟨#[]⟩]), 3, 56) := by kernel_rfl
theorem GSl.own {w w0 : World} {base : Nat} {v : Value} {xs : List Value} {gs : List G} (h : w.ownsRow base 37 3 v gs.length xs) (hg : GRow w0 xs gs) (hb : Below w0.heap.size w0 w) : GSl w v gs := by
  rcases h.2 with ⟨rfl, h0⟩ | ⟨g, cap, cur, rfl, _, hh, hnc, hm, hsz, htk⟩
  · have : gs = [] := by
      have h1 := hg.1
      cases gs with
      | nil => rfl
      | cons a b => simp at h0
    subst this
    exact ⟨none, 0, rfl, Nat.le_refl _, Nat.zero_le _, fun h => by cases h⟩
  · refine ⟨_, cap, rfl, hnc, hm, fun _ => ⟨g, 0, rfl, fun i hi => ?_⟩⟩
    obtain ⟨x, h1, h2, h3, h4⟩ := hg.2 i hi
    have hl := hg.1
    refine ⟨x, ?_, ?_, ?_, h4.on hb⟩
    · rw [Nat.zero_add, h.cellAt (i * 3) (by omega), h1]
    · rw [Nat.zero_add, h.cellAt (i * 3 + 1) (by omega), h2]
    · rw [Nat.zero_add, h.cellAt (i * 3 + 2) (by omega), h3]

theorem turned_at (l : List G) (k : Nat) (hk : k < l.length) : l.reverse.take (k + 1) = l.reverse.take k ++ [l[l.length - 1 - k]] := by
  rw [List.take_succ_eq_append_getElem (by simpa using hk), List.getElem_reverse]

set_option maxHeartbeats 8000000 in
set_option maxRecDepth 100000 in
theorem order_walk (l : List G) (nm : ByteArray) (ac : List F) (v u : Value) (w : World) (HT : Hid (Tab w)) (HS : Hid (∀ g ∈ l, g.name.size ≤ 4611686018427387904)) (hv : GSl w v l) (hu : FSl w u ac) :
    Calls Tryd.prog 4 #[v, .string nm, u] w fun e w' => e = .returned (.bool true) ∧ Below w.heap.size w w' := by
  have HV := hide' hv
  have HU := hide' hu
  have HM := hide' (Many_any l v w hv)
  have HF := fun w1 (hb : Below w.heap.size w w1) => hide' (First_any w1 (hide' (HT.out.on hb)))
  obtain ⟨B, cap2, rfl, hcb, hmb, hB⟩ := hu
  obtain ⟨A, cap, rfl, hca, hma, hA⟩ := hv
  have HA := hide' hA
  have hmax : maxLen = 9223372036854775807 := rfl
  rw [hmax] at hmb hma
  clear hB hA hmax
  cases hm : manyG l <;> rw [hm] at HM
  · have hl := manyG_len hm
    by_cases h50 : 50 < ac.length
    · have h50' : decide ((50 : Int) < (ac.length : Int)) = true := decide_eq_true (by omega)
      clear HS HV HU hm
      go_enter Tryd.func4, Tryd.ntmps4
      go_wp2_with fail
      refine HM.out.mono ?_
      rintro e w1 ⟨rfl, hb1⟩
      have HF1 := HF w1 hb1
      clear HM HF HT
      go_wp2_with fail
      refine HF1.out.mono ?_
      rintro e w2 ⟨rfl, hb2⟩
      have hb3 := hb1.trans (hb2.mono hb1.size)
      clear HF1 hb1 hb2
      go_wp2_with fail
      go_ret
      exact ⟨rfl, hb3⟩
    · have h50' : decide ((50 : Int) < (ac.length : Int)) = false := decide_eq_false (by omega)
      obtain ⟨i0, hi, hz0, hz1, hz2⟩ := info_parts signInfo
      go_enter Tryd.func4, Tryd.ntmps4
      go_wp2_with fail
      refine HM.out.mono ?_
      rintro e w1 ⟨rfl, hb1⟩
      have HB1 := hide' hb1
      clear HM hm hb1
      go_wp2_with fail
      go_loopw [7, 8] (fun t i wr => ∃ (k : Nat) (xs : List Value), k ≤ l.length ∧ i = .int .i64 k ∧ wr.ownsRow w1.heap.size 37 3 t k xs ∧ Below w1.heap.size w1 wr ∧ Hid (GRow w1 xs (l.reverse.take k))) (fun _ i _ => l.length - (intOf i).toNat)
      case atStart => exact ⟨0, [], Nat.zero_le _, rfl, World.ownsRow_nil _ _ _ _, Below.refl _ _, GRow.nil _⟩
      case round =>
        obtain ⟨k, xs, hk, rfl, hown, hnx, hG⟩ := hrel
        by_cases hlt : k < l.length
        · obtain ⟨b, off, rfl, hCA⟩ := HA.out (by omega)
          obtain ⟨j, hj⟩ : ∃ j, l.length - 1 - k = j := ⟨_, rfl⟩
          have hjl : j < l.length := by omega
          have hta := turned_at l k hlt
          simp only [hj] at hta
          have hji : (l.length : Int) - 1 - (k : Int) = (j : Int) := by omega
          obtain ⟨x, y1, y2, y3, y4⟩ := (hCA.on HB1.out) j hjl
          have hG2 := hide' ((hta ▸ (hG.out.snoc y4) : GRow w1 (xs ++ [.string l[j].name, x, .string l[j].res]) (l.reverse.take (k + 1))))
          obtain ⟨A'', cap'', rfl, r3, r4, r5⟩ := y4
          have z1 := (hnx.cell (cell_lt y1)).trans y1
          have z2 := (hnx.cell (cell_lt y2)).trans y2
          have z3 := (hnx.cell (cell_lt y3)).trans y3
          obtain ⟨fs, hfs⟩ : ∃ t, l[j].fs = t := ⟨_, rfl⟩
          obtain ⟨name, hname⟩ : ∃ t, l[j].name = t := ⟨_, rfl⟩
          obtain ⟨res, hres⟩ : ∃ t, l[j].res = t := ⟨_, rfl⟩
          simp only [hfs, hname, hres] at z1 z2 z3 r3 r4 hG2
          have hj0 : (0 : Int) ≤ (j : Int) := by omega
          have hj1 : (j : Int) < (l.length : Int) := by omega
          clear hfs hname hres r5 y1 y2 y3 hta hCA hG HA hj
          go_wp2_with (at_builtin; go_must (refine wpList_append_own _ rfl _ _ 22 rfl w1.heap.size 37 i0 _ 3 56 Tryd.underlying22 hi hz0 hz1 hz2 rfl (by decide) _ _ _ rfl (hown.alloc _) ⟨wr.heap.size, 0, none⟩ 1 1 [.string name, .slice A'' fs.length cap'', .string res] rfl rfl ?c1 ?c2 ?c3 ?c4 ?c5 ?_))
          case c1 => intro j u hu; exact cells_new' wr _ _ j u hu rfl
          case c2 => intro u hu; simp at hu; rcases hu with rfl | rfl | rfl <;> rfl
          case c3 => unfold maxLen; omega
          case c4 => omega
          case c5 => have := hnx.size; simp; omega
          intro v'' w5 hown5 hg5 _
          have hb5 := (hnx.alloc hnx.size (.cells #[.string name, .slice A'' fs.length cap'', .string res] 37)).grown hg5 (by have := hnx.size; simp; omega) (fun k hk => (hown.lt k hk).1)
          go_wp2_with fail
          go_roundw
          case rel => exact ⟨k + 1, _, by omega, by go_num, hown5, hb5, hG2⟩
          case measure => simp [intOf]; omega
        · have hke : k = l.length := by omega
          subst hke
          have hb2 := HB1.out.trans (hnx.mono HB1.out.size)
          have hG' : GRow w1 xs l.reverse := by
            have h := hG.out
            rwa [List.take_of_length_le (by simp)] at h
          have hGS := hide' (GSl.own (gs := l.reverse) (by rw [List.length_reverse]; exact hown) hG' hnx)
          have HS' : Hid (∀ g ∈ l.reverse, g.name.size ≤ 4611686018427387904) := fun g hg => HS.out g (by simpa using hg)
          have hlr : l.reverse.length ≤ 1000 := by simpa using hl
          obtain ⟨o1, o2, o3, o4⟩ := order_law l nm ac
          have HR1 := hide' (Resolve_v l nm ac _ _ wr (hide' (HT.out.on hb2)) HS (HV.out.on hb2) (HU.out.on hb2) hl)
          have HR2 := fun w2 (hb : Below wr.heap.size wr w2) => hide' (Resolve_v l.reverse nm ac _ _ w2 (hide' (HT.out.on (hb2.trans (hb.mono hb2.size)))) HS' (hGS.out.on hb) (HU.out.on (hb2.trans (hb.mono hb2.size))) hlr)
          have HC1 := fun w2 (hb : Below wr.heap.size wr w2) => hide' (Candidates_v l nm ac _ _ w2 (hide' (HT.out.on (hb2.trans (hb.mono hb2.size)))) HS (HV.out.on (hb2.trans (hb.mono hb2.size))) (HU.out.on (hb2.trans (hb.mono hb2.size))) hl)
          have HC2 := fun w2 (hb : Below wr.heap.size wr w2) => hide' (Candidates_v l.reverse nm ac _ _ w2 (hide' (HT.out.on (hb2.trans (hb.mono hb2.size)))) HS' (hGS.out.on hb) (HU.out.on (hb2.trans (hb.mono hb2.size))) hlr)
          have HFw := fun w2 (hb : Below wr.heap.size wr w2) => HF w2 (hb2.trans (hb.mono hb2.size))
          have HB2 := hide' hb2
          unfold CandW at HC1 HC2
          unfold ResW at HR1 HR2
          rw [o1] at HR2
          rw [o2] at HR2
          obtain ⟨is, his⟩ : ∃ t, (candV l nm ac).1 = t := ⟨_, rfl⟩
          obtain ⟨is', his'⟩ : ∃ t, (candV l.reverse nm ac).1 = t := ⟨_, rfl⟩
          obtain ⟨e1, he1⟩ : ∃ t, (candV l nm ac).2 = t := ⟨_, rfl⟩
          obtain ⟨e1', he1'⟩ : ∃ t, (candV l.reverse nm ac).2 = t := ⟨_, rfl⟩
          obtain ⟨z, hz⟩ : ∃ t, (resV l nm ac).1 = t := ⟨_, rfl⟩
          obtain ⟨z', hz'⟩ : ∃ t, (resV l.reverse nm ac).1 = t := ⟨_, rfl⟩
          obtain ⟨bs, hbs⟩ : ∃ t, (resV l nm ac).2.1 = t := ⟨_, rfl⟩
          obtain ⟨e2, he2⟩ : ∃ t, (resV l nm ac).2.2 = t := ⟨_, rfl⟩
          rw [his, he1] at HC1
          rw [his', he1'] at HC2
          rw [hz, hbs, he2] at HR1
          rw [hz', hbs, he2] at HR2
          rw [his, his'] at o3
          rw [he2, hz, hz'] at o4
          have O3 := hide' o3
          have O4 := hide' o4
          clear his his' he1 he1' hz hz' hbs he2 o1 o2 o3 o4 hown hnx hG hG' hb2 HF HT HS HV HU HA HS' hGS
          go_wp2_with fail
          refine HR1.out.mono ?_
          rintro e w2 ⟨v2, rfl, hB2, hc2⟩
          have H := HR2 w2 hc2
          clear HR1 HR2
          go_wp2_with fail
          refine H.out.mono ?_
          rintro e w3 ⟨v3, rfl, hB3, hc3⟩
          have hc3' := hc2.trans (hc3.mono hc2.size)
          have H2 := hide' (SameBools_eq bs v2 v3 w3 (hB2.out.on hc3) hB3.out)
          clear H hc2 hc3 hB2
          go_wp2_with fail
          refine H2.out.mono ?_
          rintro e w4 ⟨rfl, hc4⟩
          have hc4' := hc3'.trans (hc4.mono hc3'.size)
          have H3 := HC1 w4 hc4'
          clear H2 hc4 hc3' HC1 hB3
          go_wp2_with fail
          refine H3.out.mono ?_
          rintro e w5 ⟨v5, rfl, hI5, hc5⟩
          have hc5' := hc4'.trans (hc5.mono hc4'.size)
          have H4 := HC2 w5 hc5'
          clear H3 hc5 hc4' HC2
          go_wp2_with fail
          refine H4.out.mono ?_
          rintro e w6 ⟨v6, rfl, hI6, hc6⟩
          have hc6' := hc5'.trans (hc6.mono hc5'.size)
          obtain ⟨A5, cap5, rfl, -, -, -⟩ := hI5.out
          obtain ⟨A6, cap6, rfl, -, -, -⟩ := hI6.out
          rw [O3.out]
          have H5 := HFw w6 hc6'
          have HE6 := hide' (HB2.out.trans (hc6'.mono HB2.out.size))
          clear H4 hc6 hc5' hI5 hI6 HFw
          by_cases h0 : e2 = 0
          · subst h0
            obtain ⟨p1, p2, p3⟩ := O4.out rfl
            have P3 := hide' p3
            clear p3 O4
            have q1 : decide (0 ≤ z) = true := decide_eq_true p1
            have q2 : decide (z < (l.length : Int)) = true := decide_eq_true p2
            have q3 : (z' == (l.length : Int) - 1 - z) = true := by rw [beq_iff_eq]; exact P3.out
            go_wp2_with fail
            refine H5.out.mono ?_
            rintro e w7 ⟨rfl, hc7⟩
            have hend := HE6.out.trans (hc7.mono HE6.out.size)
            clear H5
            go_wp2_with fail
            go_ret
            exact ⟨rfl, hend⟩
          · have q0 : (e2 != 0) = true := by rw [bne_iff_ne]; exact h0
            clear h0 O4
            go_wp2_with fail
            refine H5.out.mono ?_
            rintro e w7 ⟨rfl, hc7⟩
            have hend := HE6.out.trans (hc7.mono HE6.out.size)
            clear H5
            go_wp2_with fail
            go_ret
            exact ⟨rfl, hend⟩
  · clear HV HU HS HT hm HA
    go_enter Tryd.func4, Tryd.ntmps4
    go_wp2_with fail
    refine HM.out.mono ?_
    rintro e w1 ⟨rfl, hb1⟩
    have HF1 := HF w1 hb1
    clear HM HF
    go_wp2_with fail
    refine HF1.out.mono ?_
    rintro e w2 ⟨rfl, hb2⟩
    have hb3 := hb1.trans (hb2.mono hb1.size)
    clear HF1 hb1 hb2
    go_wp2_with fail
    go_ret
    exact ⟨rfl, hb3⟩

end Go.Proofs.YtdmdfokkibijjaaDoor
