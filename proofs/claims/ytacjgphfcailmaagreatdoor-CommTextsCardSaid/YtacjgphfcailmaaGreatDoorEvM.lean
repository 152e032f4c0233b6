/-
  The small machine's append is the model's.
-/
import Derived.Test.YtacjgphfcailmaaGreatDoorEvK
namespace Go.Proofs.YtacjgphfcailmaaGreatDoor
open Go.RowKit
namespace Ev
set_option linter.unusedVariables false
set_option linter.unusedSimpArgs false

section
variable {P : Program} {ρ : Ren}

theorem bytesA_VRL : ∀ n v, VRL ρ (bytesA n v) ((strOf n v).map fun b => Value.int .u8 b.toNat)
  | 0, _ => VRL.nil
  | n + 1, v => by
    simp only [bytesA, strOf, List.map_cons]
    refine .cons ?_ (bytesA_VRL n (v / 256))
    simp only [VR]
    congr 1
    have : v % 256 < 256 := Nat.mod_lt _ (by omega)
    simp
theorem lenA_run {a : AV} {x : Value} {n : Nat} (ha : VR ρ a x) (h : lenA a = some n) (w : World) : (Builtin.lenOf x).run P w = .ok n w := by
  cases a <;> simp [lenA] at h <;> simp only [VR] at ha
  · subst h; subst ha
    simp [Builtin.lenOf, str_size]
  · subst h; subst ha
    simp [Builtin.lenOf]
  · obtain ⟨lc, x0, cap, _, rfl, _⟩ := ha
    subst h
    simp [Builtin.lenOf]
theorem firstA_sound {W w : World} {h h' : Heap} {a : AV} {x : Value} {size n m k k' : Nat} {lg lg' : Log} {cs : List AV} (mo : Mo W ρ h w) (ha : VR ρ a x) (hl : lenA a = some m) (hn : n ≤ m) (e : firstA size n a k h lg = .ok cs k' h' lg') :
    h' = h ∧ ∃ xs, VRL ρ cs xs ∧ (∀ w', (∀ p, w'.cell? p = w.cell? p) → (Builtin.firstCells size n x).run P w' = .ok xs.toArray w') := by
  cases a <;> simp [lenA] at hl <;> simp only [VR] at ha <;> simp only [firstA] at e
  · rename_i q v
    cases size with
    | zero => exact (err_ok e).elim
    | succ s =>
      cases s with
      | succ s => exact (err_ok e).elim
      | zero =>
        obtain ⟨rfl, rfl, rfl, rfl⟩ := ret_ok e
        subst ha; subst hl
        refine ⟨rfl, _, bytesA_VRL n v, fun w' _ => ?_⟩
        simp only [Builtin.firstCells, Sem.run_pure]
        congr 1
        apply Array.ext'
        have he : (ByteArray.mk (strOf q v).toArray).extract 0 n = ⟨(strOf n v).toArray⟩ := by
          apply ByteArray.ext
          rw [ByteArray.data_extract]
          apply Array.ext'
          rw [Array.toList_extract, List.extract_eq_take_drop]
          have := strOf_extract q v 0 n (Nat.zero_le _) hn
          simp at this ⊢
          exact this.symm
        rw [he]
        simp
  · obtain ⟨rfl, rfl, rfl, rfl⟩ := ret_ok e
    subst ha
    exact ⟨rfl, [], VRL.nil, fun w' _ => by simp [Builtin.firstCells]⟩
  · rename_i b o len opn c
    obtain ⟨lc, x0, cap, hρ, rfl, hle, hx, _⟩ := ha
    subst hl
    cases n with
    | zero =>
      obtain ⟨rfl, rfl, rfl, rfl⟩ := ret_ok e
      refine ⟨rfl, [], VRL.nil, fun w' _ => ?_⟩
      have := loadCells_of (P := P) (w := w') (g := lc.blk) (o := x0) (n := 0) (xs := []) rfl (by simp)
      simpa [Builtin.firstCells] using this
    | succ n =>
      obtain ⟨rfl, h1, xs, hv, hc⟩ := getR_sound mo hρ e
      have := hx (by omega)
      subst this
      refine ⟨rfl, xs, hv, fun w' hw => ?_⟩
      have := loadCells_of (P := P) (w := w') (g := lc.blk) (o := lc.d + o) (n := (n + 1) * size) (xs := xs) (by rw [← hv.length]; exact h1) (fun i x hi => by rw [hw]; exact hc i x hi)
      simpa [Builtin.firstCells] using this
theorem copy_sound {ts : Array Nat} {args : List AV} {xs : Array Value} {ty : Nat} (ha : VRL ρ args xs.toList) : Sim P ρ (copyA P ts.toList args) (Builtin.copy_ ts ty xs) := by
  unfold copyA
  split
  · rename_i dt ts' d a hts
    have ht : ts[0]? = some dt := by rw [← Array.getElem?_toList, hts]; rfl
    obtain ⟨x, xs1, hx1, hx, hr1⟩ := ha.cons_inv
    obtain ⟨y, xs2, rfl, hy, hr2⟩ := hr1.cons_inv
    have hx0 : xs[0]? = some x := by rw [← Array.getElem?_toList, hx1]; rfl
    have hx2 : xs[1]? = some y := by rw [← Array.getElem?_toList, hx1]; rfl
    split
    · rename_i el hd
      split
      · rename_i size m n b o len opn c hs hm hn
        simp only [lenA, Option.some.injEq] at hn
        subst hn
        have hly := lenA_run (P := P) hy hm
        intro W k h l u k' h' l' w e mo
        obtain ⟨cs, n1, h1, l1, e1, e2⟩ := bind_ok e
        obtain ⟨rfl, zs, hz, hzr⟩ := firstA_sound (P := P) mo hy hm (Nat.min_le_left _ _) e1
        have hzr' : (Builtin.firstCells size (min m len) y).run P w = .ok zs.toArray w := hzr w (fun _ => rfl)
        simp only [VR] at hx
        obtain ⟨lc, x0, cap, hρ, rfl, hle, hx9, _⟩ := hx
        cases hc : (cs.all plainA && Nat.beq cs.length (min m len * size)) with
        | false => rw [hc] at e2; exact (err_ok e2).elim
        | true =>
          rw [hc] at e2
          simp only [Bool.and_eq_true, Nat.beq_eq] at hc
          have hlz := hz.length
          cases hk : min m len with
          | zero =>
            have hk' : Nat.min m len = 0 := hk
            rw [hk] at e2 hc hzr'
            obtain ⟨rfl, rfl, rfl, rfl⟩ := ret_ok e2
            have hz0 : zs = [] := List.eq_nil_of_length_eq_zero (by omega)
            subst hz0
            refine ⟨ρ, .int .i64 0, w, Ext.refl _, by simp only [VR], mo, ?_⟩
            simp [Builtin.copy_, ht, hx0, hx2, run_underlying hd, hly, run_size hs, hk', hzr', storeCells, goInt]
          | succ q =>
            have hk' : Nat.min m len = q + 1 := hk
            rw [hk] at e2 hc hzr'
            obtain ⟨_, n2, h2, l2, e3, e4⟩ := bind_ok e2
            obtain ⟨rfl, rfl, rfl, rfl⟩ := ret_ok e4
            have hcap : cap ≠ 0 := by
              have : min m len ≤ len := Nat.min_le_right _ _
              omega
            have := hx9 hcap
            subst this
            obtain ⟨w', k1, k2⟩ := setR_sound (P := P) mo hρ e3 hz (plains_one hz hc.1)
            refine ⟨ρ, .int .i64 (q + 1 : Nat), w', Ext.refl _, by simp only [VR], k2, ?_⟩
            simp [Builtin.copy_, ht, hx0, hx2, run_underlying hd, hly, run_size hs, hk', hzr', k1, goInt]
      · rename_i size m n hs hm hn
        simp only [lenA, Option.some.injEq] at hn
        subst hn
        have hly := lenA_run (P := P) hy hm
        simp only [VR] at hx
        subst hx
        refine Sim.ret (x := .int .i64 0) (by simp only [VR]) fun w => ?_
        have hf : (Builtin.firstCells size 0 y).run P w = .ok #[] w := by
          cases a <;> simp [lenA] at hm <;> simp only [VR] at hy
          · subst hy
            simp [Builtin.firstCells]
          · subst hy
            simp [Builtin.firstCells]
          · obtain ⟨lc, x0, cap, _, rfl, _⟩ := hy
            have := loadCells_of (P := P) (w := w) (g := lc.blk) (o := x0) (n := 0) (xs := []) rfl (by simp)
            simpa [Builtin.firstCells] using this
        simp [Builtin.copy_, ht, hx0, hx2, run_underlying hd, hly, run_size hs, hf, goInt]
      · exact Sim.err
    · exact Sim.err
  · exact Sim.err
end
end Ev
end Go.Proofs.YtacjgphfcailmaaGreatDoor

namespace Go.Proofs.YtacjgphfcailmaaGreatDoor
open Go.RowKit
namespace Ev
set_option linter.unusedVariables false
set_option linter.unusedSimpArgs false

section
variable {P : Program} {ρ : Ren}

theorem Mo.other {W w w' : World} {h : Heap} {B : Nat} (m : Mo W ρ h w) (hk : ∀ j, j ≠ B → w'.heap[j]? = w.heap[j]?) (hn : ∀ c y lc, h.get c = some y → live y = true → ρ c = some lc → lc.blk ≠ B)
    (hb : Below W.heap.size W w') : Mo W ρ h w' where
  below := hb
  dom := m.dom
  blk c y l h1 h2 := by
    have := m.blk c y l h1 h2
    cases hl : live y with
    | true => rw [hk _ (hn c y l h1 hl h2)]; exact this
    | false => cases y <;> simp [live] at hl; trivial
  inj := m.inj
  new := m.new
  glob := m.glob

theorem firstA_len {size n k k' : Nat} {b o len c : Nat} {opn : Bool} {h h' : Heap} {lg lg' : Log} {cs : List AV} (e : firstA size n (.slice b o len opn c) k h lg = .ok cs k' h' lg') : cs.length = n * size := by
  simp only [firstA] at e
  cases n with
  | zero => obtain ⟨rfl, _⟩ := ret_ok e; simp
  | succ n =>
    simp only [Ev.getR] at e
    split at e
    · split at e
      · rename_i hl
        simp only [R.ok.injEq] at e
        obtain ⟨rfl, _⟩ := e
        simpa using hl
      · cases e
    · cases e

theorem firstA_row {size n k k' : Nat} {b o len c : Nat} {opn : Bool} {h h' : Heap} {lg lg' : Log} {cs : List AV} {fe fs : Nat} {fcs : List AV} {fopn fro : Bool} (hb : h.get b = some (.row fe fs fcs fopn fro))
    (e : firstA size n (.slice b o len opn c) k h lg = .ok cs k' h' lg') (i : Nat) (a : AV) (hi : cs[i]? = some a) : fcs[o + i]? = some a := by
  simp only [firstA] at e
  cases n with
  | zero => obtain ⟨rfl, _⟩ := ret_ok e; simp at hi
  | succ n =>
    simp only [Ev.getR, hb] at e
    split at e
    · rename_i hl
      simp only [R.ok.injEq] at e
      obtain ⟨rfl, _⟩ := e
      rw [List.getElem?_take] at hi
      split at hi
      · simpa [List.getElem?_drop] using hi
      · cases hi
    · cases e

/-- what an append knows of its type -/
structure ElemOf (P : Program) (e size by_ : Nat) (z : AV) (i : TypeInfo) (zv : Value) : Prop where
  hi : P.info? e = some i
  hs : i.size = size
  hb : i.bytes = by_
  hz : i.zero = some zv
  hv : ∀ ρ, VR ρ z zv
  hl : zv.cells.size = size
  h1 : 1 ≤ size
  h2 : by_ ≤ 10000
theorem elemOf {e size by_ : Nat} {z : AV} (h1 : sizeA P e = some size) (h2 : (P.info? e).map (·.bytes) = some by_) (h3 : zeroA P e = some z) (c1 : 1 ≤ size) (c2 : by_ ≤ 10000) (c3 : (cellsA z).length = size) : ∃ i zv, ElemOf P e size by_ z i zv := by
  unfold sizeA at h1
  unfold zeroA at h3
  cases hi : P.info? e with
  | none => rw [hi] at h1; cases h1
  | some i =>
    rw [hi] at h1 h2 h3
    simp only [Option.map_some, Option.some.injEq] at h1 h2
    simp only [Option.bind_some] at h3
    cases hz : i.zero with
    | none => rw [hz] at h3; cases h3
    | some zv =>
      rw [hz] at h3
      have hv : ∀ ρ, VR ρ z zv := fun ρ => ofValue_VR h3
      refine ⟨i, zv, hi, h1, h2, hz, hv, ?_, c1, c2⟩
      have := (cellsA_VRL (hv (fun _ => none))).length
      simp at this
      omega

/-- there is no room: a new row behind a draw -/
theorem grown_sound {W w : World} {h h' : Heap} {k k' b : Nat} {lg lg' : Log} {e size by_ : Nat} {z : AV} {i : TypeInfo} {zv : Value} {cs : List AV} {xs : List Value} (E : ElemOf P e size by_ z i zv) (m : Mo W ρ h w)
    (ea : newA P e cs true k h lg = .ok b k' h' lg') (hv : VRL ρ cs xs) (need cap : Nat) (hn : xs.length = need * size) :
    ∃ ρ', Ext ρ ρ' ∧ VR ρ' (.slice b 0 need true 0) (.slice (some ⟨w.heap.size, 0, none⟩) need (grownCap w need cap e)) ∧
      Mo W ρ' h' (w.drew.alloc (.cells (xs.toArray ++ Builtin.zeroCells zv.cells (grownCap w need cap e - need)) e)) := by
  unfold newA at ea
  have hs : sizeA P e = some size := by simp [sizeA, E.hi, E.hs]
  simp only [hs] at ea
  have hge := grownCap_ge w need cap e
  obtain ⟨ρ', h1, h2, h3⟩ := row_sound m.drew ea (Builtin.zeroCells zv.cells (grownCap w need cap e - need)) (grownCap w need cap e) hv (fun q => by cases q) (fun _ => by
    rw [size_zeroCells, E.hl, hn, ← Nat.add_mul]
    congr 1
    omega)
  refine ⟨ρ', h1, ?_, h3⟩
  simp only [VR]
  exact ⟨_, 0, _, h2, rfl, hge, fun _ => rfl, fun q => (by cases q), fun _ => rfl⟩

theorem src_of {W w : World} {h h' : Heap} {a : AV} {x : Value} {xt : Nat} {xd : TypeDesc} {size n k k' : Nat} {lg lg' : Log} {cs : List AV} (mo : Mo W ρ h w) (ha : VR ρ a x) (hxd : P.underlying xt = some xd) (hk : sliceOrStr xd = true)
    (hl : lenA a = some n) (hlen : cs.length = n * size) (hp : cs.all plainA = true) (e : firstA size n a k h lg = .ok cs k' h' lg') : h' = h ∧ ∃ xs, VRL ρ cs xs ∧ Src P size xt x n xs w := by
  obtain ⟨rfl, xs, h1, h2⟩ := firstA_sound (P := P) mo ha hl (Nat.le_refl _) e
  refine ⟨rfl, xs, h1, ?_, fun w' => lenA_run ha hl w', h2 w (fun _ => rfl), h2 w.drew (fun _ => rfl), by rw [← h1.length]; exact hlen, plains_one h1 hp⟩
  cases xd <;> simp [sliceOrStr] at hk
  · exact .inr hxd
  · exact .inl ⟨_, hxd⟩

theorem fits_of {need old by_ : Nat} (h : old < need) (hn : need ≤ 1200000) (hb : by_ ≤ 10000) : Builtin.nextslicecap need old * by_ ≤ 281474976710656 := by
  refine growslice_fits h ?_
  calc need * by_ ≤ 1200000 * 10000 := Nat.mul_le_mul hn hb
    _ ≤ 140737488355328 := by decide

theorem room_run {w w' : World} {t xt ty e size by_ : Nat} {z : AV} {i : TypeInfo} {zv x : Value} {b off sLen sCap n : Nat} {xs : List Value} (E : ElemOf P e size by_ z i zv) (ht : P.underlying t = some (.slice e)) (hs : Src P size xt x n xs w)
    (hroom : sLen + n ≤ sCap) (hst : (storeCells ⟨b, off + sLen * size, none⟩ xs).run P w = .ok () w') :
    (Builtin.append_ #[t, xt] ty #[.slice (some ⟨b, off, none⟩) sLen sCap, x]).run P w = .ok (.slice (some ⟨b, off, none⟩) (sLen + n) sCap) w' := by
  have hi := E.hi
  have hsz := E.hs
  subst hsz
  rcases hs.kind with ⟨e', hk⟩ | hk <;> simp [Builtin.append_, run_underlying ht, run_underlying hk, sizeOf, typeInfo, hi, hs.len, hroom, hs.cells, Addr.add_lit, hst]
theorem grow_run {w : World} {t xt ty e size by_ : Nat} {z : AV} {i : TypeInfo} {zv x : Value} {base : Option Addr} {sLen sCap n : Nat} {olds xs : List Value} (E : ElemOf P e size by_ z i zv) (ht : P.underlying t = some (.slice e)) (hs : Src P size xt x n xs w)
    (hold : (Builtin.firstCells size sLen (.slice base sLen sCap)).run P w.drew = .ok olds.toArray w.drew) (hg : sCap < sLen + n) (hn : sLen + n ≤ 1200000) :
    (Builtin.append_ #[t, xt] ty #[.slice base sLen sCap, x]).run P w =
      .ok (.slice (some ⟨w.heap.size, 0, none⟩) (sLen + n) (grownCap w (sLen + n) sCap e))
        (w.drew.alloc (.cells ((olds ++ xs).toArray ++ Builtin.zeroCells zv.cells (grownCap w (sLen + n) sCap e - (sLen + n))) e)) := by
  have hsz := E.hs
  have hby := E.hb
  have h2 := E.h2
  subst hsz
  subst hby
  exact run_append_grow_src w t xt ty e i zv ht E.hi E.hz base sLen sCap olds hold x n xs hs hg (by omega) (fits_of hg hn h2)

theorem grow_sound {st xt ty e size by_ n b o len c : Nat} {opn : Bool} {z : AV} {i : TypeInfo} {zv sv x : Value} {new : List AV} {a : AV} {xd : TypeDesc} (E : ElemOf P e size by_ z i zv) (ht : P.underlying st = some (.slice e)) (hxd : P.underlying xt = some xd) (hkd : sliceOrStr xd = true)
    (hsv : VR ρ (.slice b o len opn c) sv) (ha : VR ρ a x) (hl : lenA a = some n) (hn0 : 1 ≤ n) (hn : n ≤ 100000) (hlen : new.length = n * size) (hp : new.all plainA = true)
    {W w : World} {h h1 h' : Heap} {k k1 k' : Nat} {lg lg1 lg' : Log} {v : AV} (mo : Mo W ρ h w) (e0 : firstA size n a k h lg = .ok new k1 h1 lg1) (e1 : growA P e size n new b o len opn c k1 h1 lg1 = .ok v k' h' lg') :
    ∃ ρ' y w', Ext ρ ρ' ∧ VR ρ' v y ∧ Mo W ρ' h' w' ∧ (Builtin.append_ #[st, xt] ty #[sv, x]).run P w = .ok y w' := by
  obtain ⟨rfl, xs, hxs, hsrc⟩ := src_of mo ha hxd hkd hl hlen hp e0
  have hsv0 := hsv
  simp only [VR] at hsv
  obtain ⟨lc, x0, cap, hρ, rfl, hle, hx0, he1, he2⟩ := hsv
  have hsize1 := E.h1
  have hxl := hxs.length
  unfold growA at e1
  change Ok _ _ _ _ _ at e1
  split at e1
  · exact (err_ok e1).elim
  · rename_i hlen0
    have hlen1 : len ≤ 1000000 := Nat.le_of_ble_eq_true hlen0
    obtain ⟨⟨e', s', known, bo, ro⟩, k2, h2, lg2, e2, e3⟩ := bind_ok e1
    unfold Ev.form at e2
    split at e2
    · rename_i fe fs fcs fopn hb
      simp only [R.ok.injEq, Prod.mk.injEq] at e2
      obtain ⟨⟨rfl, rfl, rfl, rfl, rfl⟩, rfl, rfl, rfl⟩ := e2
      simp only at e3
      change Ok _ _ _ _ _ at e3
      split at e3
      · exact (err_ok e3).elim
      · rename_i hro
        simp only [Bool.false_or, Bool.not_eq_false', Bool.and_eq_true, Nat.beq_eq] at hro
        obtain ⟨rfl, rfl⟩ := hro
        cases opn with
        | false =>
          simp only at e3
          have hcap := he1 rfl
          subst hcap
          change Ok _ _ _ _ _ at e3
          split at e3
          · rename_i hroom
            have hroom' := Nat.le_of_ble_eq_true hroom
            obtain ⟨u, k3, h3, lg3, e4, e5⟩ := bind_ok e3
            obtain ⟨rfl, rfl, rfl, rfl⟩ := ret_ok e5
            have hx := hx0 (by omega)
            subst hx
            obtain ⟨w', q1, q2⟩ := setR_sound (P := P) mo hρ e4 hxs (plains_one hxs hp)
            refine ⟨ρ, _, w', Ext.refl _, ?_, q2, room_run E ht hsrc hroom' (by rw [Nat.add_assoc]; exact q1)⟩
            simp only [VR]
            exact ⟨lc, _, cap, hρ, rfl, hroom', fun _ => rfl, fun _ => rfl, fun q => by cases q⟩
          · rename_i hroom
            have hroom' : cap < len + n := by
              have := Nat.ble_eq_true_of_le (n := len + n) (m := cap)
              exact Classical.byContradiction fun hh => by rw [this (by omega)] at hroom; cases hroom
            obtain ⟨was, k3, h3, lg3, e4, e5⟩ := bind_ok e3
            have hwl := firstA_len e4
            obtain ⟨rfl, ys, hys, hyr⟩ := firstA_sound (P := P) mo hsv0 rfl (Nat.le_refl _) e4
            obtain ⟨b', k4, h4, lg4, e6, e7⟩ := bind_ok e5
            obtain ⟨rfl, rfl, rfl, rfl⟩ := ret_ok e7
            have hyl := hys.length
            obtain ⟨ρ', g1, g2, g3⟩ := grown_sound E mo e6 (hys.append hxs) (len + n) cap (by rw [List.length_append, ← hyl, ← hxl, hwl, hlen, Nat.add_mul])
            exact ⟨ρ', _, _, g1, g2, g3, grow_run E ht hsrc (hyr w.drew (fun _ => rfl)) hroom' (by omega)⟩
        | true =>
          simp only at e3
          have hcc := he2 rfl
          change Ok _ _ _ _ _ at e3
          split at e3
          · exact (err_ok e3).elim
          · rename_i hbo
            simp only [Bool.and_eq_true, Nat.beq_eq] at hbo
            obtain ⟨hbo, ho⟩ := hbo
            subst hbo
            obtain ⟨C, hC, hcells, _, hopn⟩ := mo.blk _ _ _ hb hρ
            have hopn := hopn rfl
            change Ok _ _ _ _ _ at e3
            split at e3
            · rename_i hroom
              have hroom' := Nat.le_of_ble_eq_true hroom
              obtain ⟨u, k3, h3, lg3, e4, e5⟩ := bind_ok e3
              obtain ⟨rfl, rfl, rfl, rfl⟩ := ret_ok e5
              have hrl : lc.d + (o + (len + n) * fs) ≤ C.size := row_le (opn := true) hcells (fun q => by cases q) (fun _ => hopn) hroom'
              have hcl : c + (len + n) ≤ lc.cap := by
                have : (c + (len + n)) * fs ≤ lc.cap * fs := by rw [Nat.add_mul]; omega
                exact Nat.le_of_mul_le_mul_right this (by omega)
              have hx := hx0 (by omega)
              subst hx
              obtain ⟨w', q1, q2⟩ := setR_sound (P := P) mo hρ e4 hxs (plains_one hxs hp)
              refine ⟨ρ, _, w', Ext.refl _, ?_, q2, room_run E ht hsrc (sCap := cap) (by omega) (by rw [Nat.add_assoc]; exact q1)⟩
              simp only [VR]
              exact ⟨lc, _, cap, hρ, rfl, by omega, fun _ => rfl, fun q => (by cases q), fun _ => hcc⟩
            · rename_i hroom
              obtain ⟨was, k3, h3, lg3, e4, e5⟩ := bind_ok e3
              have hwl := firstA_len e4
              obtain ⟨rfl, ys, hys, hyr⟩ := firstA_sound (P := P) mo hsv0 rfl (Nat.le_refl _) e4
              obtain ⟨u, k4, h4, lg4, e6, e7⟩ := bind_ok e5
              obtain ⟨rfl, rfl, _, hb40⟩ := setB_ok e6
              obtain ⟨b', k5, h5, lg5, e8, e9⟩ := bind_ok e7
              obtain ⟨rfl, rfl, rfl, rfl⟩ := ret_ok e9
              have hyl := hys.length
              have mk := mo.kill hb40 hb rfl
              by_cases hfit : len + n ≤ cap
              · -- it is written in place
                have hx := hx0 (by omega)
                subst hx
                have hsz : lc.d + (o + len * fs) + xs.length ≤ C.size := by
                  have h1 : (c + (len + n)) * fs ≤ lc.cap * fs := Nat.mul_le_mul_right _ (by omega)
                  rw [Nat.add_mul, Nat.add_mul] at h1
                  omega
                have hst := run_storeCells_at P lc.blk (lc.d + (o + len * fs)) fe xs 0 C w hC (by simpa using hsz) (plains_one hxs hp)
                simp only [Nat.add_zero] at hst
                generalize hw' : w.setRow lc.blk (C.toList.take (lc.d + (o + len * fs)) ++ xs ++ C.toList.drop (lc.d + (o + len * fs) + xs.length)).toArray = w' at hst
                have hheap : w'.heap[lc.blk]? = some (.cells (C.toList.take (lc.d + (o + len * fs)) ++ xs ++ C.toList.drop (lc.d + (o + len * fs) + xs.length)).toArray fe (0, 0)) := by
                  rw [← hw']; exact setRow_heap w _ _ _ _ _ hC
                have hoth : ∀ j, j ≠ lc.blk → w'.heap[j]? = w.heap[j]? := fun j hj => by rw [← hw']; exact setRow_other w _ _ _ hj
                have hnew := mo.new _ _ _ hb hρ rfl
                have hnl : ∀ c' y lc', (T.set AB.dead 40 h3 b).get c' = some y → live y = true → ρ c' = some lc' → lc'.blk ≠ lc.blk := by
                  intro c' y lc' hg hly hρ' heq
                  rw [T.get_set _ _ _ _ _ hb40] at hg
                  by_cases hcb : c' = b
                  · simp [hcb] at hg
                    subst hg
                    cases hly
                  · simp [hcb] at hg
                    exact hcb (mo.inj c' b y _ lc' lc hg hb hly rfl hρ' hρ heq)
                have mw : Mo W ρ (T.set AB.dead 40 h3 b) w' := mk.other hoth hnl (mo.below.trans ⟨by rw [← hw']; rfl, by rw [← hw']; rfl, by rw [← hw']; rfl, by rw [← hw']; simp, fun j hj => hoth j (by omega)⟩)
                unfold newA at e8
                have hsA : sizeA P fe = some fs := by simp [sizeA, E.hi, E.hs]
                simp only [hsA] at e8
                obtain ⟨rfl, rfl, hk40, hnone, rfl, rfl⟩ := alloc_ok e8
                have hbr : BR ρ ⟨lc.blk, lc.d + o, cap⟩ (.row fe fs (was ++ new) true false) w'.heap[lc.blk]? := by
                  refine ⟨_, hheap, fun i a hi => ?_, fun q => (by cases q), fun _ => ?_⟩
                  · have hget : ∀ q, (C.toList.take (lc.d + (o + len * fs)) ++ xs ++ C.toList.drop (lc.d + (o + len * fs) + xs.length))[q]? = if q < lc.d + (o + len * fs) then C[q]? else if q < lc.d + (o + len * fs) + xs.length then xs[q - (lc.d + (o + len * fs))]? else C[q]? := by
                      intro q
                      have ht : (C.toList.take (lc.d + (o + len * fs))).length = lc.d + (o + len * fs) := by simp; omega
                      by_cases c1 : q < lc.d + (o + len * fs)
                      · rw [List.append_assoc, List.getElem?_append_left (by omega), if_pos c1, List.getElem?_take, if_pos c1]
                        simp
                      · rw [List.append_assoc, List.getElem?_append_right (by omega), ht, if_neg c1]
                        by_cases c2 : q < lc.d + (o + len * fs) + xs.length
                        · rw [List.getElem?_append_left (by omega), if_pos c2]
                        · rw [List.getElem?_append_right (by omega), if_neg c2, List.getElem?_drop]
                          rw [show lc.d + (o + len * fs) + xs.length + (q - (lc.d + (o + len * fs)) - xs.length) = q by omega]
                          simp
                    simp only [List.getElem?_toArray, hget]
                    by_cases hiw : i < len * fs
                    · rw [List.getElem?_append_left (by omega)] at hi
                      obtain ⟨x1, p1, p2⟩ := hcells _ _ (firstA_row hb e4 i a hi)
                      refine ⟨x1, ?_, p2⟩
                      rw [if_pos (by omega), Nat.add_assoc]
                      exact p1
                    · rw [List.getElem?_append_right (by omega), hwl] at hi
                      obtain ⟨x1, p1, p2⟩ := hxs.get hi
                      have hlt : i - len * fs < xs.length := (List.getElem?_eq_some_iff.1 p1).1
                      refine ⟨x1, ?_, p2⟩
                      rw [if_neg (by omega), if_pos (by omega), show lc.d + o + i - (lc.d + (o + len * fs)) = i - len * fs by omega]
                      exact p1
                  · have h1 : (c + cap) * fs = lc.cap * fs := by rw [← hcc, Nat.add_comm]
                    rw [Nat.add_mul] at h1
                    simp only [List.size_toArray, List.length_append, List.length_take, List.length_drop, Array.length_toList]
                    omega
                obtain ⟨ρ', g1, g2, g3⟩ := mw.add (x := .row fe fs (was ++ new) true false) (l := ⟨lc.blk, lc.d + o, cap⟩) hk40 hnone hbr hnl hnew
                refine ⟨ρ', _, w', g1, ?_, g3, room_run E ht hsrc hfit (by rw [Nat.add_assoc]; exact hst)⟩
                simp only [VR]
                exact ⟨_, _, cap, g2, rfl, hfit, fun _ => rfl, fun q => (by cases q), fun _ => rfl⟩
              · obtain ⟨ρ', g1, g2, g3⟩ := grown_sound E mk e8 (hys.append hxs) (len + n) cap (by rw [List.length_append, ← hyl, ← hxl, hwl, hlen, Nat.add_mul])
                exact ⟨ρ', _, _, g1, g2, g3, grow_run E ht hsrc (hyr w.drew (fun _ => rfl)) (by omega) (by omega)⟩
    · cases e2

theorem append_sound {ts : Array Nat} {args : List AV} {xs : Array Value} {ty : Nat} (ha : VRL ρ args xs.toList) : Sim P ρ (appendA P ts.toList args) (Builtin.append_ ts ty xs) := by
  unfold appendA
  split
  · rename_i st xt s a hts
    have hts' : ts = #[st, xt] := by apply Array.ext'; simpa using hts
    subst hts'
    obtain ⟨sv, xs1, hx1, hsv, hr1⟩ := ha.cons_inv
    obtain ⟨x, xs2, rfl, hx, hr2⟩ := hr1.cons_inv
    have := hr2.nil_inv
    subst this
    have hxs' : xs = #[sv, x] := by apply Array.ext'; simpa using hx1
    subst hxs'
    split
    · rename_i e xd hst hxt
      split
      · rename_i size by_ z hs hby hz
        split
        · exact Sim.err
        · rename_i hc
          simp only [Bool.and_eq_true, Nat.ble_eq, Nat.beq_eq] at hc
          obtain ⟨⟨⟨c1, c2⟩, c3⟩, c4⟩ := hc
          obtain ⟨i, zv, E⟩ := elemOf hs hby hz c1 c2 c3
          split
          · rename_i l
            split
            · rename_i hl
              simp only [Bool.and_eq_true, decide_eq_true_eq] at hl
              simp only [VR] at hsv hx
              subst hsv; subst hx
              intro W n h lg v n' h' lg' w e1 m
              obtain ⟨b, n1, h1, l1, e2, e3⟩ := bind_ok e1
              obtain ⟨rfl, rfl, rfl, rfl⟩ := ret_ok e3
              have hzz := zeros_VRL (E.hv ρ) c3 c1 l.toNat
              have hzl := hzz.length
              rw [rep_length, c3] at hzl
              obtain ⟨ρ', g1, g2, g3⟩ := grown_sound E m e2 hzz l.toNat 0 hzl.symm
              rw [Array.toArray_toList] at g3
              refine ⟨ρ', _, _, g1, g2, g3, ?_⟩
              have w1 : IntKind.i64.wrap l = l := wrap_small (by omega) (by omega)
              have hb := E.hb
              have hbz : (l * (i.bytes : Int)) ≤ 100000 * 10000 := Int.mul_le_mul (by omega) (by omega) (by omega) (by omega)
              have b0 : ¬ l < 0 := by omega
              have b1 : ¬ (281474976710656 : Int) < l * (i.bytes : Int) := by omega
              have b2 : ¬ l.toNat = 0 := by omega
              have b3 : ¬ (9223372036854775807 : Int) < (l.toNat : Int) := by omega
              have b3' : ¬ (9223372036854775807 : Int) < max l 0 := by omega
              have b4 := fits_of (need := l.toNat) (old := 0) (by_ := by_) (by omega) (by omega) c2
              have b4' : ¬ 281474976710656 < Builtin.nextslicecap l.toNat 0 * i.bytes := by rw [hb]; omega
              have b6 : ¬ l ≤ 0 := by omega
              have b7 : ¬ l.toNat * size = 0 := by rw [Nat.mul_eq_zero]; have := E.h1; omega
              have hi := E.hi
              have hsz := E.hs
              have hl := E.hl
              have b5 : ¬ size = 0 := by omega
              have hzc : Builtin.zeroCells zv.cells l.toNat = (Array.range (l.toNat * size)).map (zv.cells[· % zv.cells.size]!) := by
                unfold Builtin.zeroCells; rw [hl]
              simp [Builtin.append_, run_underlying hst, run_underlying hxt, asInt, asIntOf, typeInfo, zeroValue, sizeOf, hi, hsz, E.hz, w1, b0, b1, b2, b3, b3', b4', b5, b6, b7, Question.forced, Builtin.firstCells, newRow, grownCap, hzc]
            · exact Sim.err
          · exact Sim.err
          · split
            · rename_i n hsl hln
              intro W k h lg v k' h' lg' w e1 m
              obtain ⟨new, k1, h1, l1, e2, e3⟩ := bind_ok e1
              change Ok _ _ _ _ _ at e3
              split at e3
              · exact (err_ok e3).elim
              · rename_i hc
                simp only [Bool.and_eq_true, Nat.ble_eq, Nat.beq_eq] at hc
                obtain ⟨⟨d1, d2⟩, d3⟩ := hc
                change Ok _ _ _ _ _ at e3
                split at e3
                · obtain ⟨hh, ys, hys, hsrc⟩ := src_of (P := P) m hx hxt hsl hln d2 d3 e2
                  subst hh
                  have hy0 : ys = [] := List.eq_nil_of_length_eq_zero (by have := hys.length; omega)
                  subst hy0
                  change Ok _ _ _ _ _ at e3
                  split at e3
                  · obtain ⟨rfl, rfl, rfl, rfl⟩ := ret_ok e3
                    simp only [VR] at hsv
                    subst hsv
                    refine ⟨ρ, .slice none 0 0, w, Ext.refl _, by simp only [VR], m, ?_⟩
                    have hi := E.hi
                    have hsz := E.hs
                    subst hsz
                    rcases hsrc.kind with ⟨e', hk⟩ | hk <;> simp [Builtin.append_, run_underlying hst, run_underlying hk, sizeOf, typeInfo, hi, hsrc.len, hsrc.cells]
                  · obtain ⟨rfl, rfl, rfl, rfl⟩ := ret_ok e3
                    have hsv0 := hsv
                    simp only [VR] at hsv
                    obtain ⟨lc, x0, cap, hρ, rfl, hle, hx0, he1, he2⟩ := hsv
                    refine ⟨ρ, _, w, Ext.refl _, hsv0, m, ?_⟩
                    have := room_run (P := P) (w' := w) (ty := ty) (b := lc.blk) (off := x0) (sLen := _) (sCap := cap) E hst hsrc (by omega) (by simp [storeCells])
                    simpa using this
                  · exact (err_ok e3).elim
                · rename_i n'
                  change Ok _ _ _ _ _ at e3
                  split at e3
                  · obtain ⟨hh, ys, hys, hsrc⟩ := src_of (P := P) m hx hxt hsl hln d2 d3 e2
                    subst hh
                    obtain ⟨b, k2, h2, l2, e4, e5⟩ := bind_ok e3
                    obtain ⟨rfl, rfl, rfl, rfl⟩ := ret_ok e5
                    simp only [VR] at hsv
                    subst hsv
                    have hyl := hys.length
                    obtain ⟨ρ', g1, g2, g3⟩ := grown_sound E m e4 hys (0 + (n' + 1)) 0 (by rw [Nat.zero_add, ← hyl]; exact d2)
                    have := grow_run (P := P) (w := w) (ty := ty) (base := none) (sLen := 0) (sCap := 0) (olds := []) E hst hsrc (by simp [Builtin.firstCells]) (by omega) (by omega)
                    refine ⟨ρ', _, _, g1, ?_, g3, this⟩
                    rw [Nat.zero_add] at g2 ⊢
                    exact g2
                  · exact grow_sound E hst hxt hsl hsv hx hln (by omega) d1 d2 d3 m e2 e3
                  · exact (err_ok e3).elim
            · exact Sim.err
      · exact Sim.err
    · exact Sim.err
  · exact Sim.err
end
end Ev
end Go.Proofs.YtacjgphfcailmaaGreatDoor
