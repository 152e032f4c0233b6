/-
  The walks of Valid of layer 9, of the program and of the document's answer.
-/
import Derived.Test.YtdmdfokkibijjaaGreatDoorSMem
namespace Go.Proofs.YtdmdfokkibijjaaGreatDoor
open Go.RowKit
open Sgn
set_option linter.unusedVariables false
set_option linter.unusedSimpArgs false

theorem okRes_cases (r : ByteArray) : ((r.toList == [105, 110, 116]) = true ∧ okRes r = true) ∨ ((r.toList == [105, 110, 116]) = false ∧ (r.toList == [98, 111, 111, 108]) = true ∧ okRes r = true) ∨
    ((r.toList == [105, 110, 116]) = false ∧ (r.toList == [98, 111, 111, 108]) = false ∧ (r.toList == [110, 111, 110, 101]) = true ∧ okRes r = true) ∨
    ((r.toList == [105, 110, 116]) = false ∧ (r.toList == [98, 111, 111, 108]) = false ∧ (r.toList == [110, 111, 110, 101]) = false ∧ okRes r = false) := by
  unfold okRes
  cases (r.toList == [105, 110, 116]) <;> cases (r.toList == [98, 111, 111, 108]) <;> cases (r.toList == [110, 111, 110, 101]) <;> simp
theorem validG_no (g : G) (k : Nat) (hk : k < g.fs.length) (h : isFormal g.fs[k].k g.fs[k].n = false) : validG g = false := by
  unfold validG
  rw [all_fail _ g.fs k hk h]; rfl
theorem validG_yes (g : G) (h : ∀ f ∈ g.fs.take g.fs.length, isFormal f.k f.n = true) : validG g = (okRes g.res && Tok.isName g.name.data.toList && decide (g.fs.length ≤ 6)) := by
  unfold validG
  rw [all_done (fun f => isFormal f.k f.n) g.fs g.fs.length (Nat.le_refl _) h]; rfl

theorem fin6 (n : Nat) : Ending.returned (.bool (decide ((n : Int) ≤ 6))) = Ending.returned (.bool (decide (n ≤ 6))) := by
  congr 2; rw [decide_eq_decide]; omega

set_option maxHeartbeats 4000000 in
set_option maxRecDepth 100000 in
theorem Valid_any (g : G) (v : Value) (w : World) (hT : Tab w) (hv : GV w v g) (hs : g.name.size ≤ 4611686018427387904) :
    Calls Tryz.prog 20 #[v] w fun e w' => e = .returned (.bool (validG g)) ∧ Below w.heap.size w w' := by
  obtain ⟨x, rfl, A, cap, rfl, hca, hma, hA⟩ := hv
  obtain ⟨name, fs, res⟩ := g
  have HN := fun k hk h => hide' (validG_no ⟨name, fs, res⟩ k hk h)
  have HY := fun h => hide' (validG_yes ⟨name, fs, res⟩ h)
  obtain ⟨V, hV⟩ : ∃ V, validG ⟨name, fs, res⟩ = V := ⟨_, rfl⟩
  rw [hV] at HN HY ⊢
  clear hV
  simp only at hca hma hA hs HN HY
  have HT := hide' hT
  have HA : Hid (0 < fs.length → ∃ b off, A = some ⟨b, off, none⟩ ∧ FCells w b off fs) := hA
  have hmax : maxLen = 9223372036854775807 := rfl
  rw [hmax] at hma
  clear hA hmax hT
  have c0 : ∀ w1, Below (w.alloc (.cells #[.string name, .slice A fs.length cap, .string res] 25)).heap.size (w.alloc (.cells #[.string name, .slice A fs.length cap, .string res] 25)) w1 → w1.cell? ⟨w.heap.size, 0, none⟩ = some (.string name) := fun w1 hb => (hb.cell (by simp)).trans (cells_new' w #[.string name, .slice A fs.length cap, .string res] 25 0 _ rfl rfl)
  have c1 : ∀ w1, Below (w.alloc (.cells #[.string name, .slice A fs.length cap, .string res] 25)).heap.size (w.alloc (.cells #[.string name, .slice A fs.length cap, .string res] 25)) w1 → w1.cell? ⟨w.heap.size, 1, none⟩ = some (.slice A fs.length cap) := fun w1 hb => (hb.cell (by simp)).trans (cells_new' w #[.string name, .slice A fs.length cap, .string res] 25 1 _ rfl rfl)
  have c2 : ∀ w1, Below (w.alloc (.cells #[.string name, .slice A fs.length cap, .string res] 25)).heap.size (w.alloc (.cells #[.string name, .slice A fs.length cap, .string res] 25)) w1 → w1.cell? ⟨w.heap.size, 2, none⟩ = some (.string res) := fun w1 hb => (hb.cell (by simp)).trans (cells_new' w #[.string name, .slice A fs.length cap, .string res] 25 2 _ rfl rfl)
  go_enter Tryz.func20, Tryz.ntmps20
  have d00 := c0 _ (Below.refl _ _)
  have d10 := c1 _ (Below.refl _ _)
  go_wp2_with fail
  go_loopw [9] (fun i wr => ∃ (k : Nat), k ≤ fs.length ∧ i = .int .i64 k ∧ Below (w.alloc (.cells #[.string name, .slice A fs.length cap, .string res] 25)).heap.size (w.alloc (.cells #[.string name, .slice A fs.length cap, .string res] 25)) wr ∧ Hid (∀ f ∈ fs.take k, isFormal f.k f.n = true)) (fun i _ => fs.length - (intOf i).toNat)
  case atStart => exact ⟨0, Nat.zero_le _, rfl, Below.refl _ _, (fun f hf => by simp at hf)⟩
  case round =>
    obtain ⟨k, hk, rfl, hnx, hd⟩ := hrel
    clear d00 d10
    have d0 := c0 _ hnx
    have d1 := c1 _ hnx
    have d2 := c2 _ hnx
    by_cases hlt : k < fs.length
    · obtain ⟨b, off, rfl, hCA⟩ := HA.out (by omega)
      obtain ⟨x1, x2⟩ := (hCA.on (box_below hnx)) k hlt
      have HF := fun u => hide' (IsFormal_any fs[k].k fs[k].n u)
      cases hq : isFormal fs[k].k fs[k].n
      · have hfin := (HN k hlt hq).out
        subst hfin
        rw [hq] at HF
        generalize fs[k].k = fk at *
        generalize fs[k].n = fn at *
        clear HN HY hCA HA
        go_wp2_with fail
        refine (HF _).out.mono ?_
        rintro e w1 ⟨rfl, hb⟩
        have hb1 : Below wr.heap.size wr w1 := box_below hb
        go_wp2_with fail
        go_ret
        exact ⟨rfl, (box_below hnx).trans (hb1.mono (box_below hnx).size)⟩
      · have hd' := hide' (all_upto (fun f => isFormal f.k f.n) fs k hlt hd.out hq)
        rw [hq] at HF
        clear HN HY hCA hq hd
        go_wp2_with fail
        refine (HF _).out.mono ?_
        rintro e w1 ⟨rfl, hb⟩
        have hb1 : Below wr.heap.size wr w1 := box_below hb
        have hnx1 := hnx.trans (hb1.mono hnx.size)
        clear hb hb1 hnx HF x1 x2
        go_wp2_with fail
        go_roundw
        case rel => exact ⟨k + 1, by omega, by go_num, hnx1, hd'⟩
        case measure => simp [intOf]; omega
    · have hke : k = fs.length := by omega
      have hfin := (HY (by rw [← hke]; exact hd.out)).out
      have HI := fun u (h : Tab u) => hide' (isName_any name u h hs)
      have hTr := HT.out.on (box_below hnx)
      clear HN HY HA hd

      rcases okRes_cases res with ⟨r1, hr⟩ | ⟨r1, r2, hr⟩ | ⟨r1, r2, r3, hr⟩ | ⟨r1, r2, r3, hr⟩
      all_goals rw [hr] at hfin; clear hr
      iterate 3
        · cases hn : Tok.isName name.data.toList <;> rw [hn] at HI hfin <;> clear hn
          · rw [Bool.true_and, Bool.false_and] at hfin
            subst hfin
            go_wp2_with fail
            refine (HI _ hTr).out.mono ?_
            rintro e w1 ⟨rfl, hb⟩
            have hnx1 := hnx.trans (hb.mono hnx.size)
            clear hb hnx
            go_wp2_with fail
            go_ret
            exact ⟨rfl, box_below hnx1⟩
          · rw [Bool.true_and, Bool.true_and] at hfin
            have HV := hide' hfin
            clear hfin
            go_wp2_with fail
            refine (HI _ hTr).out.mono ?_
            rintro e w1 ⟨rfl, hb⟩
            have hnx1 := hnx.trans (hb.mono hnx.size)
            have q1 := c1 _ hnx1
            have q2 := c2 _ hnx1
            clear hb hnx
            go_wp2_with fail
            go_ret
            exact ⟨by rw [HV.out]; exact fin6 _, box_below hnx1⟩
      · rw [Bool.false_and, Bool.false_and] at hfin
        subst hfin
        go_wp2_with fail
        go_ret
        exact ⟨rfl, box_below hnx⟩

set_option maxHeartbeats 4000000 in
set_option maxRecDepth 100000 in
theorem rValid9_any (g : G) (v : Value) (w : World) (hT : Tab w) (hv : GV w v g) (hs : g.name.size ≤ 4611686018427387904) :
    Calls Tryz.prog 23 #[v] w fun e w' => e = .returned (.bool (validG g)) ∧ Below w.heap.size w w' := by
  obtain ⟨x, rfl, A, cap, rfl, hca, hma, hA⟩ := hv
  obtain ⟨name, fs, res⟩ := g
  have HN := fun k hk h => hide' (validG_no ⟨name, fs, res⟩ k hk h)
  have HY := fun h => hide' (validG_yes ⟨name, fs, res⟩ h)
  obtain ⟨V, hV⟩ : ∃ V, validG ⟨name, fs, res⟩ = V := ⟨_, rfl⟩
  rw [hV] at HN HY ⊢
  clear hV
  simp only at hca hma hA hs HN HY
  have HT := hide' hT
  have HA : Hid (0 < fs.length → ∃ b off, A = some ⟨b, off, none⟩ ∧ FCells w b off fs) := hA
  have hmax : maxLen = 9223372036854775807 := rfl
  rw [hmax] at hma
  clear hA hmax hT
  have c0 : ∀ w1, Below (w.alloc (.cells #[.string name, .slice A fs.length cap, .string res] 25)).heap.size (w.alloc (.cells #[.string name, .slice A fs.length cap, .string res] 25)) w1 → w1.cell? ⟨w.heap.size, 0, none⟩ = some (.string name) := fun w1 hb => (hb.cell (by simp)).trans (cells_new' w #[.string name, .slice A fs.length cap, .string res] 25 0 _ rfl rfl)
  have c1 : ∀ w1, Below (w.alloc (.cells #[.string name, .slice A fs.length cap, .string res] 25)).heap.size (w.alloc (.cells #[.string name, .slice A fs.length cap, .string res] 25)) w1 → w1.cell? ⟨w.heap.size, 1, none⟩ = some (.slice A fs.length cap) := fun w1 hb => (hb.cell (by simp)).trans (cells_new' w #[.string name, .slice A fs.length cap, .string res] 25 1 _ rfl rfl)
  have c2 : ∀ w1, Below (w.alloc (.cells #[.string name, .slice A fs.length cap, .string res] 25)).heap.size (w.alloc (.cells #[.string name, .slice A fs.length cap, .string res] 25)) w1 → w1.cell? ⟨w.heap.size, 2, none⟩ = some (.string res) := fun w1 hb => (hb.cell (by simp)).trans (cells_new' w #[.string name, .slice A fs.length cap, .string res] 25 2 _ rfl rfl)
  go_enter Tryz.func23, Tryz.ntmps23
  have d00 := c0 _ (Below.refl _ _)
  have d10 := c1 _ (Below.refl _ _)
  go_wp2_with fail
  go_loopw [3] (fun i wr => ∃ (k : Nat), k ≤ fs.length ∧ i = .int .i64 k ∧ Below (w.alloc (.cells #[.string name, .slice A fs.length cap, .string res] 25)).heap.size (w.alloc (.cells #[.string name, .slice A fs.length cap, .string res] 25)) wr ∧ Hid (∀ f ∈ fs.take k, isFormal f.k f.n = true)) (fun i _ => fs.length - (intOf i).toNat)
  case atStart => exact ⟨0, Nat.zero_le _, rfl, Below.refl _ _, (fun f hf => by simp at hf)⟩
  case round =>
    obtain ⟨k, hk, rfl, hnx, hd⟩ := hrel
    clear d00 d10
    have d0 := c0 _ hnx
    have d1 := c1 _ hnx
    have d2 := c2 _ hnx
    by_cases hlt : k < fs.length
    · obtain ⟨b, off, rfl, hCA⟩ := HA.out (by omega)
      obtain ⟨x1, x2⟩ := (hCA.on (box_below hnx)) k hlt
      have HF := fun u => hide' (rIsFormal_any fs[k].k fs[k].n u)
      cases hq : isFormal fs[k].k fs[k].n
      · have hfin := (HN k hlt hq).out
        subst hfin
        rw [hq] at HF
        generalize fs[k].k = fk at *
        generalize fs[k].n = fn at *
        clear HN HY hCA HA
        go_wp2_with fail
        refine (HF _).out.mono ?_
        rintro e w1 ⟨rfl, hb⟩
        have hb1 : Below wr.heap.size wr w1 := hb
        go_wp2_with fail
        go_ret
        exact ⟨rfl, (box_below hnx).trans (hb1.mono (box_below hnx).size)⟩
      · have hd' := hide' (all_upto (fun f => isFormal f.k f.n) fs k hlt hd.out hq)
        rw [hq] at HF
        clear HN HY hCA hq hd
        go_wp2_with fail
        refine (HF _).out.mono ?_
        rintro e w1 ⟨rfl, hb⟩
        have hb1 : Below wr.heap.size wr w1 := hb
        have hnx1 := hnx.trans (hb1.mono hnx.size)
        clear hb hb1 hnx HF x1 x2
        go_wp2_with fail
        go_roundw
        case rel => exact ⟨k + 1, by omega, by go_num, hnx1, hd'⟩
        case measure => simp [intOf]; omega
    · have hke : k = fs.length := by omega
      have hfin := (HY (by rw [← hke]; exact hd.out)).out
      have HI := fun u => hide' (rIsName_any name u hs)
      have hTr := HT.out.on (box_below hnx)
      clear HN HY HA hd

      cases hn : Tok.isName name.data.toList <;> rw [hn] at HI hfin <;> clear hn
      · rw [Bool.and_false, Bool.false_and] at hfin
        subst hfin
        go_wp2_with fail
        refine (HI _).out.mono ?_
        rintro e w1 ⟨rfl, hb⟩
        have hnx1 := hnx.trans (hb.mono hnx.size)
        clear hb hnx
        go_wp2_with fail
        go_ret
        exact ⟨rfl, box_below hnx1⟩
      · rw [Bool.and_true] at hfin
        cases h6 : decide (fs.length ≤ 6)
        · rw [h6, Bool.and_false] at hfin
          subst hfin
          have h6' : ¬ fs.length ≤ 6 := by simpa using h6
          clear h6
          go_wp2_with fail
          refine (HI _).out.mono ?_
          rintro e w1 ⟨rfl, hb⟩
          have hnx1 := hnx.trans (hb.mono hnx.size)
          have q1 := c1 _ hnx1
          have q2 := c2 _ hnx1
          clear hb hnx
          go_wp2_with fail
          go_ret
          exact ⟨rfl, box_below hnx1⟩
        · rw [h6, Bool.and_true] at hfin
          have h6' : fs.length ≤ 6 := by simpa using h6
          clear h6
          rcases okRes_cases res with ⟨r1, hr⟩ | ⟨r1, r2, hr⟩ | ⟨r1, r2, r3, hr⟩ | ⟨r1, r2, r3, hr⟩
          all_goals
            rw [hr] at hfin; clear hr
            subst hfin
            go_wp2_with fail
            refine (HI _).out.mono ?_
            rintro e w1 ⟨rfl, hb⟩
            have hnx1 := hnx.trans (hb.mono hnx.size)
            have q1 := c1 _ hnx1
            have q2 := c2 _ hnx1
            clear hb hnx
            go_wp2_with fail
            go_ret
            exact ⟨rfl, box_below hnx1⟩

end Go.Proofs.YtdmdfokkibijjaaGreatDoor
