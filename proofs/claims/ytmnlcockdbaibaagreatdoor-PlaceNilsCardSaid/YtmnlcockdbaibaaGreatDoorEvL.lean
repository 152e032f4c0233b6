/-
  The small machine's copy and append are the model's.
-/
import Derived.Test.YtmnlcockdbaibaaGreatDoorEvK
namespace Go.Proofs.YtmnlcockdbaibaaGreatDoor
open Go.RowKit
namespace Ev
set_option linter.unusedVariables false
set_option linter.unusedSimpArgs false

section
variable {P : Program} {ρ : Ren}

theorem bytesA_VRL : ∀ n v, VRL ρ (bytesA n v) ((strOf n v).map fun b => Value.int .u8 b.toNat)
  | 0, _ => VRL.nil
  | n + 1, v => by
    simp only [bytesA, strOf, List.map_cons]
    refine .cons ?_ (bytesA_VRL n (v / 256))
    simp only [VR]
    congr 1
    have : v % 256 < 256 := Nat.mod_lt _ (by omega)
    simp
theorem lenA_run {a : AV} {x : Value} {n : Nat} (ha : VR ρ a x) (h : lenA a = some n) (w : World) : (Builtin.lenOf x).run P w = .ok n w := by
  cases a <;> simp [lenA] at h <;> simp only [VR] at ha
  · subst h; subst ha
    simp [Builtin.lenOf, str_size]
  · subst h; subst ha
    simp [Builtin.lenOf]
  · obtain ⟨lc, x0, cap, _, rfl, _⟩ := ha
    subst h
    simp [Builtin.lenOf]
theorem firstA_sound {W w : World} {h h' : Heap} {a : AV} {x : Value} {size n m k k' : Nat} {lg lg' : Log} {cs : List AV} (mo : Mo W ρ h w) (ha : VR ρ a x) (hl : lenA a = some m) (hn : n ≤ m) (e : firstA size n a k h lg = .ok cs k' h' lg') :
    h' = h ∧ ∃ xs, VRL ρ cs xs ∧ (∀ w', (∀ p, w'.cell? p = w.cell? p) → (Builtin.firstCells size n x).run P w' = .ok xs.toArray w') := by
  cases a <;> simp [lenA] at hl <;> simp only [VR] at ha <;> simp only [firstA] at e
  · rename_i q v
    cases size with
    | zero => exact (err_ok e).elim
    | succ s =>
      cases s with
      | succ s => exact (err_ok e).elim
      | zero =>
        obtain ⟨rfl, rfl, rfl, rfl⟩ := ret_ok e
        subst ha; subst hl
        refine ⟨rfl, _, bytesA_VRL n v, fun w' _ => ?_⟩
        simp only [Builtin.firstCells, Sem.run_pure]
        congr 1
        apply Array.ext'
        have he : (ByteArray.mk (strOf q v).toArray).extract 0 n = ⟨(strOf n v).toArray⟩ := by
          apply ByteArray.ext
          rw [ByteArray.data_extract]
          apply Array.ext'
          rw [Array.toList_extract, List.extract_eq_take_drop]
          have := strOf_extract q v 0 n (Nat.zero_le _) hn
          simp at this ⊢
          exact this.symm
        rw [he]
        simp
  · obtain ⟨rfl, rfl, rfl, rfl⟩ := ret_ok e
    subst ha
    exact ⟨rfl, [], VRL.nil, fun w' _ => by simp [Builtin.firstCells]⟩
  · rename_i b o len opn c
    obtain ⟨lc, x0, cap, hρ, rfl, hle, hx, _⟩ := ha
    subst hl
    cases n with
    | zero =>
      obtain ⟨rfl, rfl, rfl, rfl⟩ := ret_ok e
      refine ⟨rfl, [], VRL.nil, fun w' _ => ?_⟩
      have := loadCells_of (P := P) (w := w') (g := lc.blk) (o := x0) (n := 0) (xs := []) rfl (by simp)
      simpa [Builtin.firstCells] using this
    | succ n =>
      obtain ⟨rfl, h1, xs, hv, hc⟩ := getR_sound mo hρ e
      have := hx (by omega)
      subst this
      refine ⟨rfl, xs, hv, fun w' hw => ?_⟩
      have := loadCells_of (P := P) (w := w') (g := lc.blk) (o := lc.d + o) (n := (n + 1) * size) (xs := xs) (by rw [← hv.length]; exact h1) (fun i x hi => by rw [hw]; exact hc i x hi)
      simpa [Builtin.firstCells] using this
theorem copy_sound {ts : Array Nat} {args : List AV} {xs : Array Value} {ty : Nat} (ha : VRL ρ args xs.toList) : Sim P ρ (copyA P ts.toList args) (Builtin.copy_ ts ty xs) := by
  unfold copyA
  split
  · rename_i dt ts' d a hts
    have ht : ts[0]? = some dt := by rw [← Array.getElem?_toList, hts]; rfl
    obtain ⟨x, xs1, hx1, hx, hr1⟩ := ha.cons_inv
    obtain ⟨y, xs2, rfl, hy, hr2⟩ := hr1.cons_inv
    have hx0 : xs[0]? = some x := by rw [← Array.getElem?_toList, hx1]; rfl
    have hx2 : xs[1]? = some y := by rw [← Array.getElem?_toList, hx1]; rfl
    split
    · rename_i el hd
      split
      · rename_i size m n b o len opn c hs hm hn
        simp only [lenA, Option.some.injEq] at hn
        subst hn
        have hly := lenA_run (P := P) hy hm
        intro W k h l u k' h' l' w e mo
        obtain ⟨cs, n1, h1, l1, e1, e2⟩ := bind_ok e
        obtain ⟨rfl, zs, hz, hzr⟩ := firstA_sound (P := P) mo hy hm (Nat.min_le_left _ _) e1
        have hzr' : (Builtin.firstCells size (min m len) y).run P w = .ok zs.toArray w := hzr w (fun _ => rfl)
        simp only [VR] at hx
        obtain ⟨lc, x0, cap, hρ, rfl, hle, hx9, _⟩ := hx
        cases hc : (cs.all plainA && Nat.beq cs.length (min m len * size)) with
        | false => rw [hc] at e2; exact (err_ok e2).elim
        | true =>
          rw [hc] at e2
          simp only [Bool.and_eq_true, Nat.beq_eq] at hc
          have hlz := hz.length
          cases hk : min m len with
          | zero =>
            have hk' : Nat.min m len = 0 := hk
            rw [hk] at e2 hc hzr'
            obtain ⟨rfl, rfl, rfl, rfl⟩ := ret_ok e2
            have hz0 : zs = [] := List.eq_nil_of_length_eq_zero (by omega)
            subst hz0
            refine ⟨ρ, .int .i64 0, w, Ext.refl _, by simp only [VR], mo, ?_⟩
            simp [Builtin.copy_, ht, hx0, hx2, run_underlying hd, hly, run_size hs, hk', hzr', storeCells, goInt]
          | succ q =>
            have hk' : Nat.min m len = q + 1 := hk
            rw [hk] at e2 hc hzr'
            obtain ⟨_, n2, h2, l2, e3, e4⟩ := bind_ok e2
            obtain ⟨rfl, rfl, rfl, rfl⟩ := ret_ok e4
            have hcap : cap ≠ 0 := by
              have : min m len ≤ len := Nat.min_le_right _ _
              omega
            have := hx9 hcap
            subst this
            obtain ⟨w', k1, k2⟩ := setR_sound (P := P) mo hρ e3 hz (plains_one hz hc.1)
            refine ⟨ρ, .int .i64 (q + 1 : Nat), w', Ext.refl _, by simp only [VR], k2, ?_⟩
            simp [Builtin.copy_, ht, hx0, hx2, run_underlying hd, hly, run_size hs, hk', hzr', k1, goInt]
      · rename_i size m n hs hm hn
        simp only [lenA, Option.some.injEq] at hn
        subst hn
        have hly := lenA_run (P := P) hy hm
        simp only [VR] at hx
        subst hx
        refine Sim.ret (x := .int .i64 0) (by simp only [VR]) fun w => ?_
        have hf : (Builtin.firstCells size 0 y).run P w = .ok #[] w := by
          cases a <;> simp [lenA] at hm <;> simp only [VR] at hy
          · subst hy
            simp [Builtin.firstCells]
          · subst hy
            simp [Builtin.firstCells]
          · obtain ⟨lc, x0, cap, _, rfl, _⟩ := hy
            have := loadCells_of (P := P) (w := w) (g := lc.blk) (o := x0) (n := 0) (xs := []) rfl (by simp)
            simpa [Builtin.firstCells] using this
        simp [Builtin.copy_, ht, hx0, hx2, run_underlying hd, hly, run_size hs, hf, goInt]
      · exact Sim.err
    · exact Sim.err
  · exact Sim.err
end
end Ev
end Go.Proofs.YtmnlcockdbaibaaGreatDoor
