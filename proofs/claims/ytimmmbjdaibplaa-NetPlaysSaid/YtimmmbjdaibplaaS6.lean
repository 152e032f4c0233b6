/-
  Layer 17: the walk of the document's Sent.
-/
import Derived.Test.YtimmmbjdaibplaaS5
import Derived.StillTailTactics
namespace Go.Proofs.Ytimmmbjdaibplaa
open Go.RowKit
open Nt
set_option linter.unusedVariables false
set_option linter.unusedSimpArgs false

def kq (k : Nat) : Nat := ([3, 4, 2, 1] : List Nat).getD k 0
theorem kq_range {k : Nat} (h : k < 4) : 1 ≤ kq k ∧ kq k ≤ 4 := by
  match k, h with
  | 0, _ => decide
  | 1, _ => decide
  | 2, _ => decide
  | 3, _ => decide
def cell1 (P : Nat) (l : List Cnt) (i k : Nat) : List Cnt := if 0 < manyOf l (i / P : Nat) (i % P : Nat) (kname (kq k)) then [⟨(i / P : Nat), (i % P : Nat), kname (kq k), manyOf l (i / P : Nat) (i % P : Nat) (kname (kq k))⟩] else []
def rowTo (P : Nat) (l : List Cnt) (i : Nat) : Nat → List Cnt
  | 0 => []
  | k + 1 => rowTo P l i k ++ cell1 P l i k
theorem rowTo_four (P : Nat) (l : List Cnt) (i : Nat) : rowTo P l i 4 = refRow P l i := by
  have e0 : ((kq 0 : Nat) : Int) = 3 := rfl
  have e1 : ((kq 1 : Nat) : Int) = 4 := rfl
  have e2 : ((kq 2 : Nat) : Int) = 2 := rfl
  have e3 : ((kq 3 : Nat) : Int) = 1 := rfl
  unfold refRow
  show ((([] ++ cell1 P l i 0) ++ cell1 P l i 1) ++ cell1 P l i 2) ++ cell1 P l i 3 = _
  unfold cell1
  simp only [e0, e1, e2, e3, List.filterMap_cons, List.filterMap_nil, List.nil_append]
  by_cases h0 : 0 < manyOf l (i / P : Nat) (i % P : Nat) (kname 3) <;> by_cases h1 : 0 < manyOf l (i / P : Nat) (i % P : Nat) (kname 4) <;> by_cases h2 : 0 < manyOf l (i / P : Nat) (i % P : Nat) (kname 2) <;> by_cases h3 : 0 < manyOf l (i / P : Nat) (i % P : Nat) (kname 1) <;> simp only [h0, h1, h2, h3, if_true, if_false] <;> rfl
def partTo (P : Nat) (l : List Cnt) : Nat → List Cnt
  | 0 => []
  | i + 1 => partTo P l i ++ refRow P l i
theorem partTo_all (P : Nat) (l : List Cnt) : ∀ n, partTo P l n = (List.range n).flatMap (refRow P l)
  | 0 => rfl
  | n + 1 => by
    rw [List.range_succ, List.flatMap_append, ← partTo_all P l n]
    simp [partTo]
theorem cell1_len (P : Nat) (l : List Cnt) (i k : Nat) : (cell1 P l i k).length ≤ 1 := by
  unfold cell1
  split <;> simp
theorem rowTo_len (P : Nat) (l : List Cnt) (i : Nat) : ∀ k, (rowTo P l i k).length ≤ k
  | 0 => Nat.le_refl _
  | k + 1 => by
    have := rowTo_len P l i k
    have := cell1_len P l i k
    simp only [rowTo, List.length_append]
    omega
theorem partTo_len (P : Nat) (l : List Cnt) : ∀ i, (partTo P l i).length ≤ 4 * i
  | 0 => Nat.le_refl _
  | i + 1 => by
    have := partTo_len P l i
    have := rowTo_len P l i 4
    rw [rowTo_four] at this
    simp only [partTo, List.length_append]
    omega
theorem many_nonneg {l : List Cnt} (h : ∀ x ∈ l, 0 ≤ x.many ∧ x.many ≤ 100000) (f t : Int) (k : ByteArray) : 0 ≤ manyOf l f t k ∧ manyOf l f t k ≤ 100000 := by
  by_cases e : manyOf l f t k = 0
  · omega
  · obtain ⟨x, hx, -, -, -, hm⟩ := many_mem l f t k e
    rw [← hm]
    exact h x hx
def RSentE (P : Nat) (l : List Cnt) (w : World) (e : Ending) (w' : World) : Prop := ∃ v, e = .returned v ∧ Sees w' v (refSent P l).length ((refSent P l).flatMap cntV) ∧ Below w.heap.size w w'
/-- what out is -/
structure Out (B : Nat) (W0 wr : World) (x : Value) (L : List Cnt) : Prop where
  row : wr.ownsRow B 48 4 x L.length (L.flatMap cntV)
  be : Below B W0 wr
theorem Out.drewN {B : Nat} {W0 wr : World} {x : Value} {L : List Cnt} (h : Out B W0 wr x L) (n : Nat) : Out B W0 (wr.drewN n) x L := ⟨h.row, Below.of_drewN n h.be⟩
theorem Out.append {B : Nat} {W0 wr w1 : World} {x v' : Value} {L : List Cnt} {y : Cnt} {tmp : Obj} (h : Out B W0 wr x L) (hB : B ≤ W0.heap.size) (hown : w1.ownsRow B 48 4 v' (L.length + 1) (L.flatMap cntV ++ cntV y)) (hg : (wr.alloc tmp).grownBy w1 x.ownBlock) : Out B W0 w1 v' (L ++ [y]) :=
  ⟨by simpa using hown, (h.be.alloc (Nat.le_trans hB h.be.size) tmp).grown hg (by have := h.be.size; simp; omega) fun k hk => (h.row.lt k hk).1⟩
theorem rsent_mod {P i : Nat} (h : i < P * P) (hP0 : 1 ≤ P) : i / P * P + i % P = i ∧ i % P < P ∧ i / P < P := by
  have h1 := Nat.div_add_mod i P
  rw [Nat.mul_comm] at h1
  exact ⟨h1, Nat.mod_lt _ hP0, Nat.div_lt_of_lt_mul h⟩
set_option maxHeartbeats 16000000 in
set_option maxRecDepth 100000 in
theorem rsent_at (b P C : Nat) (T : List Nat) (N : Nt.Net) (w : World) (h : RefX w b P C T N) (hm : ∀ x ∈ N.sent, 0 ≤ x.many ∧ x.many ≤ 100000) (hP0 : 1 ≤ P) (hP : P ≤ 8) :
    Calls Try.prog 27 #[.pointer (some ⟨b, 0, none⟩)] w (RSentE P N.sent w) := by
  obtain ⟨vv, vf, vh, vc, vr, vb, rs, hT, hN⟩ := h
  obtain ⟨i0, ii1, zz1, hz1', hz2'⟩ := info_parts infoCnt'
  obtain ⟨b0, b1, b2, b3, b4, b5⟩ := hN.cells
  obtain ⟨A5, cap5, rfl, hA5⟩ := hN.seesR
  have hPP : P * P ≤ 64 := Nat.le_trans (Nat.mul_le_mul hP hP) (by omega)
  obtain ⟨tb, rfl, hrow⟩ := hA5 (Nat.mul_pos (by omega) (by omega))
  have HROW := Lib.hid hrow
  have HM := Lib.hid fun f t k => many_nonneg hm f t k
  have lb := blk_lt hN.hd
  have ltb : tb < w.heap.size := hN.co.lt rfl
  have HLB := Lib.hid lb
  obtain ⟨q, hq⟩ : ∃ q, P * P = q := ⟨_, rfl⟩
  have HQ := Lib.hid hq
  rw [hq] at b5 hPP
  have hqq : (q : Int) ≤ 64 := by omega
  have p0 : (0 : Int) < (P : Int) := by omega
  have p1 : (P : Int) ≤ 8 := by omega
  clear hN hA5 hrow hm hq hT
  go_enter Try.func27, Try.ntmps27
  go_wp2_with fail
  obtain ⟨W0, hW0⟩ : ∃ W0, (w.alloc (.cells #[.string ⟨#[97, 100, 100]⟩, .string ⟨#[97, 110, 115, 119, 101, 114]⟩, .string ⟨#[103, 101, 116]⟩, .string ⟨#[112, 117, 116]⟩] 9)).alloc (.cells #[.int .i64 3, .int .i64 4, .int .i64 2, .int .i64 1] 3) = W0 := ⟨_, rfl⟩
  rw [hW0]
  have hbW : Below w.heap.size w W0 := by rw [← hW0]; exact ((Below.refl _ _).alloc (Nat.le_refl _) _).alloc (by simp) _
  have hsW : W0.heap.size = w.heap.size + 2 := by rw [← hW0]; simp
  have hnm : W0.heap[w.heap.size]? = some (.cells #[.string ⟨#[97, 100, 100]⟩, .string ⟨#[97, 110, 115, 119, 101, 114]⟩, .string ⟨#[103, 101, 116]⟩, .string ⟨#[112, 117, 116]⟩] 9 (0, 0)) := by
    rw [← hW0]
    exact (Below.heap_alloc _ _ _ (by simp)).trans (heap_alloc_new w _)
  have hkd : W0.heap[w.heap.size + 1]? = some (.cells #[.int .i64 3, .int .i64 4, .int .i64 2, .int .i64 1] 3 (0, 0)) := by
    rw [← hW0]
    have := heap_alloc_new (w.alloc (.cells #[.string ⟨#[97, 100, 100]⟩, .string ⟨#[97, 110, 115, 119, 101, 114]⟩, .string ⟨#[103, 101, 116]⟩, .string ⟨#[112, 117, 116]⟩] 9)) (.cells #[.int .i64 3, .int .i64 4, .int .i64 2, .int .i64 1] 3)
    rw [World.size_alloc] at this
    exact this
  have HNM := Lib.hid (fun k (hk : k < 4) => (show W0.cell? ⟨w.heap.size, k, none⟩ = some (.string (kname (kq k))) from by
    match k, hk with
    | 0, _ => exact blk_cell hnm 0
    | 1, _ => exact blk_cell hnm 1
    | 2, _ => exact blk_cell hnm 2
    | 3, _ => exact blk_cell hnm 3))
  have HKD := Lib.hid (fun k (hk : k < 4) => (show W0.cell? ⟨w.heap.size + 1, k, none⟩ = some (.int .i64 (kq k)) from by
    match k, hk with
    | 0, _ => exact blk_cell hkd 0
    | 1, _ => exact blk_cell hkd 1
    | 2, _ => exact blk_cell hkd 2
    | 3, _ => exact blk_cell hkd 3))
  have B0 := Lib.hid ((hbW.cell (p := ⟨b, 0, none⟩) lb).trans b0)
  have B5 := Lib.hid ((hbW.cell (p := ⟨b, 5, none⟩) lb).trans b5)
  have HBW := Lib.hid hbW
  have HSW := Lib.hid hsW
  have HLT := Lib.hid ltb
  clear hW0 hbW hsW hnm hkd b0 b1 b2 b3 b4 b5 lb ltb
  go_loopw [5, 6] (fun x i wr => ∃ k : Nat, k ≤ q ∧ i = .int .i64 k ∧ Out W0.heap.size W0 wr x (partTo P N.sent k)) (fun _ i _ => q - (intOf i).toNat)
  case atStart => exact ⟨0, Nat.zero_le _, rfl, World.ownsRow_nil _ _ _ _, Below.refl _ _⟩
  case round =>
    obtain ⟨i, hi, rfl, hO⟩ := hrel
    have hi0 : (0 : Int) ≤ (i : Int) := by omega
    have c5 := (hO.be.cell (p := ⟨b, 5, none⟩) (by have := HSW.out; have := HLB.out; simp only; omega)).trans B5.out
    have HO := Lib.hid hO
    by_cases hlt : i < q
    · have hi1 : (i : Int) < (q : Int) := by omega
      clear hO
      go_wp2_with fail
      clear c5
      go_loopw [5, 7] (fun x j wr => ∃ k : Nat, k ≤ 4 ∧ j = .int .i64 k ∧ Out W0.heap.size W0 wr x (partTo P N.sent i ++ rowTo P N.sent i k)) (fun _ j _ => 4 - (intOf j).toNat)
      case atStart => exact ⟨0, Nat.zero_le _, rfl, by simpa [rowTo] using HO.out⟩
      case round =>
        clear HO
        obtain ⟨k, hk, rfl, hO⟩ := hrel
        have hk0 : (0 : Int) ≤ (k : Int) := by omega
        by_cases hlk : k < 4
        · have hk1 : (k : Int) < 4 := by omega
          have hsb := hO.be.size
          obtain ⟨v, r0, sr⟩ := HROW.out i (by rw [HQ.out]; exact hlt)
          obtain ⟨A, capr, rfl, hA⟩ := sr
          have hcl : (cntRow P N.sent i).length = 5 := rfl
          obtain ⟨r, rfl, hr⟩ := hA (by rw [hcl]; omega)
          obtain ⟨hdm, hmP, hdP⟩ := rsent_mod (P := P) (i := i) (by rw [HQ.out]; exact hlt) hP0
          obtain ⟨kq0, kq1⟩ := kq_range hlk
          have hmany := hr (kq k) _ (by
            unfold intL
            have := cntRow_at (P := P) (f := i / P) (t := i % P) (k := kq k) (l := N.sent) hmP ⟨kq0, kq1⟩
            rw [hdm] at this
            rw [List.getElem?_map, this]
            rfl)
          have hrr : r < w.heap.size := (World.block_lt_of_cell? w _ hmany)
          have hWs := HSW.out
          have bw : ∀ (p : Addr) (u : Value), p.block < w.heap.size → w.cell? p = some u → World.cell? _ p = some u := fun p u hp hu => (hO.be.cell (p := p) (by omega)).trans ((HBW.out.cell hp).trans hu)
          have x0 := bw ⟨tb, i, none⟩ _ HLT.out r0
          have x1 := bw ⟨r, kq k, none⟩ _ hrr hmany
          have c5 := (hO.be.cell (p := ⟨b, 5, none⟩) (by have := HLB.out; simp only; omega)).trans B5.out
          have c0 := (hO.be.cell (p := ⟨b, 0, none⟩) (by have := HLB.out; simp only; omega)).trans B0.out
          have y0 := (hO.be.cell (p := ⟨w.heap.size + 1, k, none⟩) (by simp only; omega)).trans (HKD.out k hlk)
          have y1 := (hO.be.cell (p := ⟨w.heap.size, k, none⟩) (by simp only; omega)).trans (HNM.out k hlk)
          rw [hcl] at x0
          obtain ⟨j, hj⟩ : ∃ j, kq k = j := ⟨_, rfl⟩
          obtain ⟨D, hD⟩ : ∃ D, i / P = D := ⟨_, rfl⟩
          obtain ⟨M, hM⟩ : ∃ M, i % P = M := ⟨_, rfl⟩
          have HC1 := Lib.hid (show cell1 P N.sent i k = if 0 < manyOf N.sent D M (kname j) then [⟨D, M, kname j, manyOf N.sent D M (kname j)⟩] else [] by unfold cell1; rw [hD, hM, hj])
          obtain ⟨m0, m1⟩ := HM.out D M (kname j)
          rw [hj] at x1 y0 y1 kq0 kq1
          rw [hD, hM] at x1
          obtain ⟨z, hz⟩ : ∃ z, manyOf N.sent D M (kname j) = z := ⟨_, rfl⟩
          rw [hz] at x1 HC1 m0 m1
          have td : Int.tdiv (i : Int) (P : Int) = (D : Int) := by rw [← hD]; rfl
          have tm : Int.tmod (i : Int) (P : Int) = (M : Int) := by rw [← hM]; rfl
          have d0 : (0 : Int) ≤ (D : Int) := by omega
          have d1 : (D : Int) ≤ 8 := by omega
          have n0 : (0 : Int) ≤ (M : Int) := by omega
          have n1 : (M : Int) ≤ 8 := by omega
          have j0 : (0 : Int) ≤ (j : Int) := by omega
          have j1 : (j : Int) < 5 := by omega
          have hP1 : ¬ (P : Int) = 0 := by omega
          have hP2 : ((P : Int) == 0) = false := by simpa using hP1
          have hP3 : (P = 0) = False := by simp; omega
          have wD : IntKind.i64.wrap (D : Int) = (D : Int) := IntWalk.i64_in _ (by omega)
          have wM : IntKind.i64.wrap (M : Int) = (M : Int) := IntWalk.i64_in _ (by omega)
          have HOK := Lib.hid hO
          have hlen : (partTo P N.sent i ++ rowTo P N.sent i k).length ≤ 300 := by
            have := partTo_len P N.sent i
            have := rowTo_len P N.sent i k
            rw [List.length_append]
            omega
          have HE := Lib.hid (show partTo P N.sent i ++ rowTo P N.sent i (k + 1) = (partTo P N.sent i ++ rowTo P N.sent i k) ++ cell1 P N.sent i k by simp [rowTo])
          clear hO bw hr hA hmany r0 hj hD hM hdm hmP hdP hsb hWs hrr hz hcl
          go_wp2_with fail
          go_quiet (fail)
          by_cases hz0 : 0 < z
          · have hzp : (0 : Int) < z := hz0
            go_wp2_with fail
            obtain ⟨u, hu⟩ : ∃ u, wr.drewN nq = u := ⟨_, rfl⟩
            have c0' : u.cell? ⟨b, 0, none⟩ = some (.int .i64 P) := by rw [← hu]; exact c0
            have y1' : u.cell? ⟨w.heap.size, k, none⟩ = some (.string (kname j)) := by rw [← hu]; exact y1
            have hou : Out W0.heap.size W0 u u5 (partTo P N.sent i ++ rowTo P N.sent i k) := by rw [← hu]; exact HOK.out.drewN nq
            obtain ⟨L, hL⟩ : ∃ L, partTo P N.sent i ++ rowTo P N.sent i k = L := ⟨_, rfl⟩
            rw [hL] at hou HE hlen
            have HOU := Lib.hid (show Out W0.heap.size W0 u.drew u5 L from hou.drewN 1)
            have hbs : W0.heap.size ≤ u.heap.size := hou.be.size
            have hlb : b < u.heap.size := by have := HLB.out; have := HSW.out; omega
            have hln : w.heap.size < u.heap.size := by have := HSW.out; omega
            have hbn : (some b : Option Nat) ≠ u5.ownBlock := fun e => by have := (hou.row.lt b e.symm).1; have := HLB.out; have := HSW.out; omega
            have hnn : (some w.heap.size : Option Nat) ≠ u5.ownBlock := fun e => by have := (hou.row.lt _ e.symm).1; have := HSW.out; omega
            rw [hu]
            clear c0 c5 x0 x1 y0 y1 HOK hu hL hou
            go_region_held3 (fun w' => w'.cell? ⟨b, 0, none⟩ = some (.int .i64 P) ∧ w'.cell? ⟨w.heap.size, k, none⟩ = some (.string (kname j)))
              (first
                | exact ⟨c0', y1'⟩
                | exact ⟨cell_alloc c0', cell_alloc y1'⟩
                | exact ⟨hs1, hs2⟩)
              (first
                | (refine step_append_lies _ (by rfl) _ _ _ (by rfl) W0.heap.size 48 i0 _ 4 40 Try.underlying45 ii1 zz1 hz1' hz2' rfl (by omega) u5 L.length (L.flatMap cntV) (by rfl) (HOU.out.row.alloc _) ⟨u.heap.size, 0, none⟩ 1 1 (cntV ⟨D, M, kname j, z⟩) (by rfl) (by rfl) (World.news_of_block (cs := (cntV ⟨D, M, kname j, z⟩).toArray) (t := 48) (fr := (0, 0)) (heap_alloc_new u.drew _)) (by simp [cntV, Value.oneCell']) (by omega) (by unfold maxLen; omega) (by omega) (by simp; omega) (u.heap.size + 1) (by simp) ?_; intro gg cap' w3 hown' hgrow hat hlt'; have hs1 := (hgrow.cell_far ⟨b, 0, none⟩ (by simp; omega) hbn).trans (cell_alloc c0'); have hs2 := (hgrow.cell_far ⟨w.heap.size, k, none⟩ (by simp; omega) hnn).trans (cell_alloc y1')))
            have HX := Lib.hid (HOU.out.append (Nat.le_refl _) hown' hgrow)
            clear hown' hgrow hat HOU hs1 hs2 hlt'
            go_wp2_with fail
            go_roundw
            case rel => exact ⟨k + 1, by omega, by go_num, by rw [HE.out, HC1.out, if_pos hz0]; exact HX.out⟩
            case measure => simp [intOf]; omega
          · have hz1 : ¬ ((0 : Int) < z) := hz0
            go_wp2_with fail
            go_roundw
            case rel => exact ⟨k + 1, by omega, by go_num, by rw [HE.out, HC1.out, if_neg hz0, List.append_nil]; exact HOK.out.drewN _⟩
            case measure => simp [intOf]; omega
        · obtain rfl : k = 4 := by omega
          have HOK := Lib.hid hO
          clear hO
          go_wp2_with fail
          go_roundw
          case rel => exact ⟨i + 1, by omega, by go_num, by have := HOK.out; rw [rowTo_four] at this; exact this⟩
          case measure => simp [intOf]; omega
    · obtain rfl : i = q := by omega
      have hi1 : ¬ ((i : Int) < (i : Int)) := by omega
      have hE : partTo P N.sent i = refSent P N.sent := by rw [partTo_all]; unfold refSent; rw [HQ.out]
      have HR := Lib.hid (show RSentE P N.sent w (.returned _) _ from ⟨_, rfl, by have := hO.row; rw [hE] at this; exact .of_own this, HBW.out.trans (hO.be.mono (by have := HSW.out; omega))⟩)
      clear hO HO hE
      go_wp2_with fail
      go_ret
      exact HR.out
end Go.Proofs.Ytimmmbjdaibplaa
