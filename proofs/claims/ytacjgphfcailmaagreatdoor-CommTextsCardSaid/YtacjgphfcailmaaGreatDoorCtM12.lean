/-
  Layer 20: the walk of the program's Text, by what strconv.Itoa gives.
-/
import Derived.Test.YtacjgphfcailmaaGreatDoorCtM11
namespace Go.Proofs.YtacjgphfcailmaaGreatDoor
open Go.RowKit Go.Sort
open Ct
set_option linter.unusedVariables false
set_option linter.unusedSimpArgs false

theorem blk_free {w : World} {b : Nat} {cs : Array Value} {t : TypeId} (h : w.heap[b]? = some (.cells cs t (0, 0))) (i : Nat) : w.frozen? ⟨b, i, none⟩ = false := by simp [World.frozen?, h]
theorem bld_below {B b : Nat} {l : List Value} {w w' : World} (h : Bld B b l w) (hb : Below w.heap.size w w') : Bld B b l w' := by
  have key : ∀ p, Lib.BuilderAt 52 5 B b p l w → Lib.BuilderAt 52 5 B b p l w' := by
    intro p h
    have hlt := h.lt
    obtain ⟨hB, v, hbk, hown, hne⟩ := h
    exact ⟨hB, v, (hb.block b hlt).trans hbk, hown.kept (row := none) ⟨hb.os, hb.tape, hb.output, hb.size, fun k hk _ => hb.block k hk⟩ (by cases v.ownBlock <;> simp), hne⟩
  exact h.imp (key _) (key _)
theorem bytes_of {l : List UInt8} : Lib.strCells ⟨l.toArray⟩ = Lib.byteCells l := by
  rw [Lib.strCells_eq]
set_option maxHeartbeats 16000000 in
set_option maxRecDepth 100000 in
theorem ptext_yes (l : List Cnt) (v : Value) (P : Nat) (w : World) (hv : Cs w v l) (hn : ∀ c ∈ l, near c) (hl : l.length ≤ 400) (h1 : 1 ≤ P) (h8 : P ≤ 8) (hI : ItoaOK w) :
    Calls Tryz.prog 6 #[v, .int .i64 P] w (TextE P l w) := by
  obtain ⟨A, cap, rfl, hc1, hc2, hc⟩ := hv
  have HC := Lib.hid hc
  have HN := Lib.hid hn
  have HI := Lib.hid hI
  have HP := Lib.hid (And.intro h1 h8)
  have hmk := make_tab w.heap.size P (by omega)
  have hmk2 := make_row P (by omega)
  have q1 : ¬ ((P : Int) < 1) := by omega
  have q2 : ¬ ((8 : Int) < (P : Int)) := by omega
  have hP0 : (1 : Int) ≤ (P : Int) := by omega
  have hP1 : (P : Int) ≤ 8 := by omega
  have H0 := Lib.hid (Tab0.start w P)
  clear hc hn hI h1 h8
  go_enter Tryz.func6, Tryz.ntmps6
  go_wp2_with fail
  obtain ⟨R, hR⟩ : ∃ x, w.heap.size = x := ⟨_, rfl⟩
  rw [hR] at H0 ⊢
  clear hR hmk q1 q2
  go_loopw [25] (fun i wr => ∃ k : Nat, k ≤ P ∧ i = .int .i64 k ∧ Tab0 w wr R P k) (fun i _ => P - (intOf i).toNat)
  case atStart => exact ⟨0, Nat.zero_le _, rfl, H0.out⟩
  case round =>
    clear H0
    obtain ⟨k, hk, rfl, hM⟩ := hrel
    have hk0 : (0 : Int) ≤ (k : Int) := by omega
    have hk9 : (k : Int) ≤ 8 := by omega
    by_cases hlt : k < P
    · have hk1 : (k : Int) < (P : Int) := by omega
      have hb := hM.alloc
      have x0 : (wr.alloc (.cells (rowV P fun _ => 0) 3)).cell? ⟨R, k, none⟩ = some (.slice none 0 0) := by
        rw [blk_cell hb]
        unfold tabV
        simp [hlt]
      have x1 := blk_free hb k
      have HM := Lib.hid (hM.step hlt)
      clear hM hb
      go_wp2_with fail
      exact ⟨⟨k + 1, by omega, by go_num, HM.out⟩, by simp [intOf]; omega⟩
    · obtain rfl : k = P := by omega
      have hk1 : ¬ ((k : Int) < (k : Int)) := by omega
      have HT := Lib.hid (hM.done l)
      clear hM hmk2
      go_wp2_with fail
      go_loopw [36] (fun i wy => ∃ m : Nat, m ≤ l.length ∧ i = .int .i64 m ∧ TabV w wy R k l m) (fun i _ => l.length - (intOf i).toNat)
      case atStart => exact ⟨0, Nat.zero_le _, rfl, HT.out⟩
      case round =>
        clear HT
        obtain ⟨m, hm, rfl, hM⟩ := hrel
        have hm0 : (0 : Int) ≤ (m : Int) := by omega
        have hm9 : (m : Int) ≤ 400 := by omega
        by_cases hlt : m < l.length
        · have hm1 : (m : Int) < (l.length : Int) := by omega
          obtain ⟨b, off, rfl, s1⟩ := HC.out (by omega)
          have hbl := World.block_lt_of_cell? w _ (s1 m hlt 0 _ rfl)
          have x0 := (hM.be.cell (p := ⟨b, off + m * 4 + 0, none⟩) hbl).trans (s1 m hlt 0 _ rfl)
          have x1 := (hM.be.cell (p := ⟨b, off + m * 4 + 1, none⟩) hbl).trans (s1 m hlt 1 _ rfl)
          have x2 := (hM.be.cell (p := ⟨b, off + m * 4 + 2, none⟩) hbl).trans (s1 m hlt 2 _ rfl)
          have x3 := (hM.be.cell (p := ⟨b, off + m * 4 + 3, none⟩) hbl).trans (s1 m hlt 3 _ rfl)
          simp only [Nat.add_zero] at x0
          have hnear := HN.out l[m] (List.getElem_mem hlt)
          have HG0 : Hid (good k l[m] = false → ∀ w', Below w.heap.size w w' → TextE k l w (.returned (.tuple #[.string ⟨#[]⟩, .int .i64 2])) w') := Lib.hid fun hg w' hb => text_no (bad_all hlt hg) hb
          have HM := Lib.hid hM
          obtain ⟨c, hcc⟩ : ∃ c, l[m] = c := ⟨_, rfl⟩
          have HCC := Lib.hid hcc
          rw [hcc] at x0 x1 x2 x3 hnear HG0
          clear hcc s1 hM
          have hgi := good_iff k c
          obtain ⟨cf, ct, ck, cm⟩ := c
          simp only at x0 x1 x2 x3 hgi
          cases hg : good k ⟨cf, ct, ck, cm⟩
          · have HB0 := Lib.hid (HG0.out hg)
            have HBE := Lib.hid HM.out.be
            have hb5 : ¬ (0 ≤ cf ∧ cf < k ∧ 0 ≤ ct ∧ ct < k ∧ 0 ≤ cm) := fun h => by rw [hgi.2 h] at hg; cases hg
            clear hgi HG0 hnear HM HCC HN HC hg
            by_cases b1 : cf < 0
            · clear hb5
              go_wp2_with fail
              go_ret2
              exact HB0.out _ (HBE.out.alloc HBE.out.size _)
            · by_cases b2 : (k : Int) ≤ cf
              · clear hb5
                go_wp2_with fail
                go_ret2
                exact HB0.out _ (HBE.out.alloc HBE.out.size _)
              · by_cases b3 : ct < 0
                · clear hb5
                  go_wp2_with fail
                  go_ret2
                  exact HB0.out _ (HBE.out.alloc HBE.out.size _)
                · by_cases b4 : (k : Int) ≤ ct
                  · clear hb5
                    go_wp2_with fail
                    go_ret2
                    exact HB0.out _ (HBE.out.alloc HBE.out.size _)
                  · have b5 : cm < 0 := by omega
                    clear hb5
                    go_wp2_with fail
                    go_ret2
                    exact HB0.out _ (HBE.out.alloc HBE.out.size _)
          · obtain ⟨g1, g2, g3, g4, g5⟩ := hgi.1 hg
            obtain ⟨i, rfl⟩ : ∃ i : Nat, cf = (i : Int) := ⟨cf.toNat, by omega⟩
            obtain ⟨j, rfl⟩ : ∃ j : Nat, ct = (j : Int) := ⟨ct.toNat, by omega⟩
            clear HG0 hgi
            have n0 : ¬ ((i : Int) < 0) := by omega
            have n1 : ¬ ((j : Int) < 0) := by omega
            have n2 : ¬ (cm < 0) := by omega
            have n3 : ¬ ((k : Int) ≤ (i : Int)) := by omega
            have n4 : ¬ ((k : Int) ≤ (j : Int)) := by omega
            have n5 : (0 : Int) ≤ (i : Int) := by omega
            have n6 : (0 : Int) ≤ (j : Int) := by omega
            have n7 : (i : Int) < (k : Int) := by omega
            have n8 : (j : Int) < (k : Int) := by omega
            have hik : i < k := by omega
            have hjk : j < k := by omega
            obtain ⟨z, hz⟩ : ∃ z, cellOf (l.take m) i j = z := ⟨_, rfl⟩
            have hzb := cellOf_abs (l.take m) i j (fun c hc => HN.out c (List.mem_of_mem_take hc))
            rw [hz, List.length_take, Nat.min_eq_left hm] at hzb
            have hzw : IntKind.i64.wrap (z + cm) = z + cm := by
              unfold near at hnear
              simp only at hnear
              have e1 : (m : Int) * 1099511627776 ≤ 400 * 1099511627776 := by omega
              simp [IntKind.wrap, IntKind.bits, IntKind.signed]
              omega
            obtain ⟨E, hE⟩ : ∃ x, wr.heap.size = x := ⟨_, rfl⟩
            have hal := heap_alloc_new wr (.cells #[.int .i64 i, .int .i64 j, .string ck, .int .i64 cm] 32)
            have hab : Below wr.heap.size wr (wr.alloc (.cells #[.int .i64 i, .int .i64 j, .string ck, .int .i64 cm] 32)) := (Below.refl _ _).alloc (Nat.le_refl _) _
            have HAB := Lib.hid hab
            have hrow2 := (HM.out.rows i hik).below hab
            have ht2 := (hab.cell (p := ⟨R, i, none⟩) HM.out.lt).trans (HM.out.cell hik)
            unfold slcV at ht2
            have r0 := hrow2.cell j hjk
            have r1 := hrow2.free j
            simp only [hz] at r0
            have HST := Lib.hid (fun (w2 : World) (hw2 : Below wr.heap.size wr w2) => HM.out.step hlt (HCC.out ▸ hg) (z + cm) (i := i) (j := j) (w2 := w2) (by rw [HCC.out]) (by rw [HCC.out]) hik hjk hw2 (by rw [HCC.out, hz]))
            obtain ⟨B, hB⟩ : ∃ x, R + 1 + i = x := ⟨_, rfl⟩
            rw [hB] at r0 r1 ht2 HST
            rw [hE] at hal
            have e0 := blk_cell' hal 0
            have e1 := blk_cell' hal 1
            have e3 := blk_cell' hal 3
            clear hzb hnear hg hrow2 hab hz g1 g2 g3 g4 HN hal hB
            go_wp2_with fail
            obtain ⟨wx, hwx⟩ : ∃ x, wr.alloc (.cells #[.int .i64 i, .int .i64 j, .string ck, .int .i64 cm] 32) = x := ⟨_, rfl⟩
            rw [hwx] at e0 e1 e3 r0 r1 ht2 HAB ⊢
            clear x0 x1 x2 x3 hwx hE
            go_region
            have HN3 := Lib.hid (HST.out wx HAB.out).drew
            clear HST HM HAB r0 r1 e0 e1 e3 HCC ht2
            go_wp2_with fail
            exact ⟨⟨m + 1, by omega, by go_num, HN3.out⟩, by simp [intOf]; omega⟩
        · obtain rfl : m = l.length := by omega
          have hm1 : ¬ ((l.length : Int) < (l.length : Int)) := by omega
          have HT := Lib.hid hM
          clear hM HC
          obtain ⟨W1, hW1⟩ : ∃ x, x = wr := ⟨_, rfl⟩
          subst hW1
          have HB0 := Lib.hid (And.intro (Lib.fresh_isBuilder 52 5 W1) ((Below.refl W1.heap.size W1).alloc (Nat.le_refl _) (.cells #[.pointer none, .slice none 0 0] 52)))
          have HLT := Lib.hid HT.out.lt
          have HRL := Lib.hid (fun (i : Nat) (hi : i < k) => (HT.out.rows i hi).lt)
          have hrw : (fun i j => cellOf (l.take l.length) i j) = cellOf l := by rw [List.take_length]
          have HRC := Lib.hid (fun (i : Nat) (hi : i < k) (j : Nat) (hj : j < k) => (HT.out.rows i hi).cell j hj)
          rw [List.take_length] at HRC
          have HLI := Lib.hid (fun i j => (itoa_cell HN.out hl i j).1)
          have HLO := Lib.hid (fun i j => (itoa_cell HN.out hl i j).2)
          go_wp2_with fail
          obtain ⟨B, hB⟩ : ∃ x, W1.heap.size = x := ⟨_, rfl⟩
          have HBW : Hid (w.heap.size ≤ B) := by rw [← hB]; exact HT.out.be.size
          rw [hB] at HB0 HLT HRL ⊢
          have HSZ := Lib.hid (fun (u : World) (hu : Below B W1 u) => show B ≤ u.heap.size from hB ▸ hu.size)
          clear hB
          go_loopw [81] (fun i wy => ∃ m : Nat, m ≤ k ∧ i = .int .i64 m ∧ Hid (Bld B B (Lib.byteCells (rowTo Lib.itoa k l m 0)) wy ∧ Below B W1 wy)) (fun i _ => k - (intOf i).toNat)
          case atStart => exact ⟨0, Nat.zero_le _, rfl, Lib.hid (by simpa [rowTo, textTo, Lib.byteCells] using HB0.out)⟩
          case round =>
            clear HB0
            obtain ⟨m, hm, rfl, hR⟩ := hrel
            have hm0 : (0 : Int) ≤ (m : Int) := by omega
            have hm9 : (m : Int) ≤ 8 := by omega
            by_cases hlt : m < k
            · have hm1 : (m : Int) < (k : Int) := by omega
              have hB1 := hR.out.2
              have ht2 := (hB1.cell (p := ⟨R, m, none⟩) HLT.out).trans (HT.out.cell hlt)
              unfold slcV at ht2
              have HROW := Lib.hid (fun (u : World) (hu : Below B W1 u) (j : Nat) (hj : j < k) => (hu.cell (p := ⟨R + 1 + m, j, none⟩) (HRL.out m hlt)).trans (HRC.out m hlt j hj))
              obtain ⟨C, hC⟩ : ∃ x, R + 1 + m = x := ⟨_, rfl⟩
              rw [hC] at ht2 HROW
              clear hB1 hC
              go_wp2_with fail
              clear ht2
              go_loopw [87] (fun i wy => ∃ j : Nat, j ≤ k ∧ i = .int .i64 j ∧ Hid (Bld B B (Lib.byteCells (rowTo Lib.itoa k l m j)) wy ∧ Below B W1 wy)) (fun i _ => k - (intOf i).toNat)
              case atStart => exact ⟨0, Nat.zero_le _, rfl, hR⟩
              case round =>
                clear hR
                obtain ⟨j, hj, rfl, hR⟩ := hrel
                have hj0 : (0 : Int) ≤ (j : Int) := by omega
                have hj9 : (j : Int) ≤ 8 := by omega
                have hlen := rowTo_len (f := Lib.itoa) (P := k) (l := l) HLI.out m
                have hmk : m * k ≤ 56 := Nat.le_trans (Nat.mul_le_mul (show m ≤ 7 by omega) (show k ≤ 8 by omega)) (by omega)
                by_cases hjt : j < k
                · have hj1 : (j : Int) < (k : Int) := by omega
                  have r0 := HROW.out wr hR.out.2 j hjt
                  obtain ⟨z, hz⟩ : ∃ z, cellOf l m j = z := ⟨_, rfl⟩
                  have hzl := HLI.out m j
                  have hzo := HLO.out m j
                  rw [hz] at r0 hzl hzo
                  have KI := Lib.hid (fun (u : World) (hu : Below w.heap.size w u) => HI.out z u hzo.1 hzo.2 hu)
                  have HBE := Lib.hid (fun (u : World) (hu : Below B W1 u) => HT.out.be.trans (hu.mono HBW.out))
                  have hl0 := hlen j
                  have HW := Lib.hid (fun (L : List UInt8) (c : Int) (u : World) (hL : L.length ≤ 10000) (h : Bld B B (Lib.byteCells L) u) (hu : B ≤ u.heap.size) => writeByte_at B B (Lib.byteCells L) c u h (by rw [Lib.byteCells_length]; omega) hu)
                  have HS := Lib.hid (fun (L : List UInt8) (s : List UInt8) (u : World) (hL : L.length ≤ 10000) (hs : s.length ≤ 21) (h : Bld B B (Lib.byteCells L) u) (hu : B ≤ u.heap.size) => writeString_at B B (Lib.byteCells L) ⟨s.toArray⟩ u h (by rw [Lib.byteCells_length, ba_size]; simp; omega) hu)
                  have hRF := row_first Lib.itoa k l m
                  have hRN := row_next Lib.itoa k l m
                  obtain ⟨s, hs⟩ : ∃ s, Lib.itoa z = s := ⟨_, rfl⟩
                  rw [hs] at hzl KI
                  obtain ⟨L, hL⟩ : ∃ L, rowTo Lib.itoa k l m j = L := ⟨_, rfl⟩
                  rw [hL] at hl0 hR
                  by_cases q : j = 0
                  · have q0 : ¬ ((0 : Int) < (j : Int)) := by omega
                    have hrow : L ++ s = rowTo Lib.itoa k l m (j + 1) := by
                      subst q
                      rw [← hL, ← hs, ← hz]
                      exact hRF
                    have HRW := Lib.hid hrow
                    have HLE := Lib.hid (And.intro (show L.length ≤ 10000 by omega) hzl)
                    clear hrow hRF hRN hz hs hL hlen hl0 hzl hzo q HW
                    go_wp2_with fail
                    refine (KI.out _ (HBE.out _ hR.out.2)).mono ?_
                    rintro e w1 ⟨rfl, hb⟩
                    have H1 := Lib.hid (And.intro (bld_below hR.out.1 hb) (hR.out.2.trans (hb.mono (HSZ.out _ hR.out.2))))
                    clear hb hR KI r0
                    go_wp2_with fail
                    refine (HS.out _ _ _ HLE.out.1 HLE.out.2 H1.out.1 (HSZ.out _ H1.out.2)).mono ?_
                    rintro e w2 ⟨rfl, h3, hb2⟩
                    rw [bytes_of, ← Lib.byteCells_append, HRW.out] at h3
                    have H2 := Lib.hid (And.intro h3 (H1.out.2.trans hb2))
                    clear h3 hb2 H1
                    go_wp2_with fail
                    exact ⟨⟨j + 1, by omega, by go_num, H2⟩, by simp [intOf]; omega⟩
                  · have q0 : (0 : Int) < (j : Int) := by omega
                    have hrow : L ++ [32] ++ s = rowTo Lib.itoa k l m (j + 1) := by
                      obtain ⟨p, rfl⟩ : ∃ p, j = p + 1 := ⟨j - 1, by omega⟩
                      rw [← hL, ← hs, ← hz]
                      exact hRN p hjt
                    have HRW := Lib.hid hrow
                    have HLE := Lib.hid (And.intro (show L.length + 1 ≤ 10000 by omega) hzl)
                    have e32 : Lib.byteCells L ++ [.int .u8 32] = Lib.byteCells (L ++ [32]) := by rw [Lib.byteCells_append]; rfl
                    have HE32 := Lib.hid e32
                    clear hrow hRF hRN hz hs hL hlen hl0 hzl hzo q e32
                    go_wp2_with fail
                    refine (HW.out L 32 _ (by have := HLE.out.1; omega) hR.out.1 (HSZ.out _ hR.out.2)).mono ?_
                    rintro e w0 ⟨rfl, h0, hb0⟩
                    rw [HE32.out] at h0
                    have H0 := Lib.hid (And.intro h0 (hR.out.2.trans hb0))
                    have r0' := HROW.out w0 H0.out.2 j hjt
                    clear h0 hb0 hR r0 HW r0'
                    go_wp2_with fail
                    refine (KI.out _ (HBE.out _ H0.out.2)).mono ?_
                    rintro e w1 ⟨rfl, hb⟩
                    have H1 := Lib.hid (And.intro (bld_below H0.out.1 hb) (H0.out.2.trans (hb.mono (HSZ.out _ H0.out.2))))
                    clear hb H0 KI
                    go_wp2_with fail
                    refine (HS.out _ _ _ (by have := HLE.out.1; simp; omega) HLE.out.2 H1.out.1 (HSZ.out _ H1.out.2)).mono ?_
                    rintro e w2 ⟨rfl, h3, hb2⟩
                    rw [bytes_of, ← Lib.byteCells_append, HRW.out] at h3
                    have H2 := Lib.hid (And.intro h3 (H1.out.2.trans hb2))
                    clear h3 hb2 H1
                    go_wp2_with fail
                    exact ⟨⟨j + 1, by omega, by go_num, H2⟩, by simp [intOf]; omega⟩
                · obtain rfl : j = k := by omega
                  have hj1 : ¬ ((j : Int) < (j : Int)) := by omega
                  have hl0 := hlen j
                  have KW := Lib.hid (writeByte_at B B _ 10 wr hR.out.1 (by rw [Lib.byteCells_length]; omega) (HSZ.out _ hR.out.2))
                  have hend := row_end Lib.itoa j l m (by omega)
                  have e10 : Lib.byteCells (rowTo Lib.itoa j l m j) ++ [.int .u8 10] = Lib.byteCells (rowTo Lib.itoa j l (m + 1) 0) := by rw [← hend, Lib.byteCells_append]; rfl
                  have HE10 := Lib.hid e10
                  clear hlen hl0 hend e10
                  go_wp2_with fail
                  refine KW.out.mono ?_
                  rintro e w1 ⟨rfl, h1, hb1⟩
                  rw [HE10.out] at h1
                  have H2 := Lib.hid (And.intro h1 (hR.out.2.trans hb1))
                  clear h1 hb1 hR KW
                  go_wp2_with fail
                  exact ⟨⟨m + 1, by omega, by go_num, H2⟩, by simp [intOf]; omega⟩
            · obtain rfl : m = k := by omega
              have hm1 : ¬ ((m : Int) < (m : Int)) := by omega
              have KS := Lib.hid (Tryz.Builder_String_any B B (rowTo Lib.itoa m l m 0) wr hR.out.1 (HSZ.out _ hR.out.2))
              have HOK := Lib.hid HT.out.ok
              have HBE := Lib.hid (fun (u : World) (hu : Below B W1 u) => HT.out.be.trans (hu.mono HBW.out))
              go_wp2_with fail
              refine KS.out.mono ?_
              rintro e w1 ⟨rfl, hb1⟩
              have HE := Lib.hid (text_yes (P := m) (l := l) (w := w) (w' := w1) HP.out.1 HP.out.2 (fun j hj => HOK.out j hj hj) (HBE.out _ (hR.out.2.trans hb1)))
              clear hb1 hR KS
              go_wp2_with fail
              go_ret2
              exact HE.out
end Go.Proofs.YtacjgphfcailmaaGreatDoor
