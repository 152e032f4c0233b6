/-
  Layer 20: the walk of the document's Text, by what strconv.Itoa gives.
-/
import Derived.Test.YtacjgphfcailmaaGreatDoorCtM4
namespace Go.Proofs.YtacjgphfcailmaaGreatDoor
open Go.RowKit
open Ct
set_option linter.unusedVariables false
set_option linter.unusedSimpArgs false

theorem blk_cell' {w : World} {b : Nat} {cs : Array Value} {t : TypeId} (h : w.heap[b]? = some (.cells cs t (0, 0))) (i : Nat) : w.cell? ⟨b, i, none⟩ = cs[i]? := by simp [World.cell?, h]
theorem ManyL.drew {w wr : World} {R P k : Nat} {l : List Cnt} (h : ManyL w wr R P l k) : ManyL w wr.drew R P l k := ⟨h.row, h.be.trans ((Below.refl _ _).drew.mono h.be.size), h.rb, h.ok⟩
theorem digits_le : ∀ (k u : Nat), u < 10 ^ (k + 1) → (Lib.decDigits u).length ≤ k + 1
  | 0, u, h => by
    rw [Lib.decDigits_one (by simpa using h)]
    simp
  | k + 1, u, h => by
    rw [Lib.decDigits]
    split
    · simp
    · rw [List.length_append]
      have := digits_le k (u / 10) (by rw [Nat.pow_succ] at h; omega)
      simp
      omega
theorem itoa_le (n : Int) (h0 : -9223372036854775808 ≤ n) (h1 : n ≤ 9223372036854775807) : (Lib.itoa n).length ≤ 21 := by
  unfold Lib.itoa
  split
  · have := digits_le 19 n.natAbs (by omega)
    simp
    omega
  · have := digits_le 19 n.toNat (by omega)
    omega
theorem ba_list (t : ByteArray) (b c : List UInt8) : (t ++ ⟨b.toArray⟩ ++ ⟨c.toArray⟩ : ByteArray).data.toList = t.data.toList ++ b ++ c := by simp
theorem ba_size (t : ByteArray) : t.size = t.data.toList.length := by
  cases t
  simp [ByteArray.size]
theorem text_next {P m : Nat} {l : List Cnt} {t : ByteArray} {z : Int} {b : List UInt8} {s : UInt8} (h : t.data.toList = textTo Lib.itoa P l m) (hz : cellOf l (m / P) (m % P) = z) (hb : Lib.itoa z = b) (hs : (if m % P = P - 1 then (10 : UInt8) else 32) = s) :
    (t ++ ⟨b.toArray⟩ ++ ⟨[s].toArray⟩ : ByteArray).data.toList = textTo Lib.itoa P l (m + 1) := by
  rw [ba_list, h]
  show _ = textTo Lib.itoa P l m ++ piece Lib.itoa P l m
  unfold piece
  rw [hz, hb, hs, List.append_assoc]
theorem size_next {m : Nat} {t : ByteArray} {b : List UInt8} {s : UInt8} (h : t.size ≤ 100 * m) (hb : b.length ≤ 21) : (t ++ ⟨b.toArray⟩ ++ ⟨[s].toArray⟩ : ByteArray).size ≤ 100 * (m + 1) := by
  rw [ba_size, ba_list, List.length_append, List.length_append, ← ba_size]
  simp
  omega
theorem text_end {P : Nat} {l : List Cnt} {t : ByteArray} (h : t.data.toList = textTo Lib.itoa P l (P * P)) : t = ⟨(textTo Lib.itoa P l (P * P)).toArray⟩ := by
  cases t
  simp only at h
  rw [← h]
theorem itoa_of {w w' : World} (h : ItoaOK w) (hb : Below w.heap.size w w') : ItoaOK w' := fun n u h0 h1 hu => h n u h0 h1 (hb.trans (hu.mono hb.size))
set_option maxHeartbeats 16000000 in
set_option maxRecDepth 100000 in
theorem rtext_yes (l : List Cnt) (v : Value) (P : Nat) (w : World) (hv : Cs w v l) (hn : ∀ c ∈ l, near c) (hl : l.length ≤ 400) (h1 : 1 ≤ P) (h8 : P ≤ 8) (hI : ItoaOK w) :
    Calls Tryz.prog 7 #[v, .int .i64 P] w (TextE P l w) := by
  obtain ⟨A, cap, rfl, hc1, hc2, hc⟩ := hv
  have HC := Lib.hid hc
  have HN := Lib.hid hn
  have HI := Lib.hid hI
  have HP := Lib.hid (And.intro h1 h8)
  have K0 := fun u => Lib.hid (isPlaces_at P u)
  have dP : (decide ((1 : Int) ≤ (P : Int)) && decide ((P : Int) ≤ 8)) = true := by simp; omega
  rw [dP] at K0
  have hPP : P * P ≤ 64 := Nat.le_trans (Nat.mul_le_mul h8 h8) (by omega)
  obtain ⟨S, hS⟩ : ∃ S, P * P = S := ⟨_, rfl⟩
  have hS' : (P : Int) * (P : Int) = (S : Int) := by rw [← hS]; simp
  have HS := Lib.hid hS
  rw [hS] at hPP
  have hmk := make_row S hPP
  have hS0 : (0 : Int) ≤ (S : Int) := by omega
  have hS1 : (S : Int) ≤ 64 := by omega
  have H0 := Lib.hid (ManyL.start w P l)
  rw [hS] at H0
  have hP0 : (1 : Int) ≤ (P : Int) := by omega
  have hP1 : (P : Int) ≤ 8 := by omega
  clear hc hn hI dP hS h1 h8
  go_enter Tryz.func7, Tryz.ntmps7
  go_wp2_with fail
  refine (K0 _).out.mono ?_
  rintro e w1 ⟨rfl, rfl⟩
  clear K0
  go_wp2_with fail
  obtain ⟨R, hR⟩ : ∃ x, w.heap.size = x := ⟨_, rfl⟩
  rw [hR] at H0 ⊢
  clear hR hmk
  go_loopw [7] (fun i wr => ∃ k : Nat, k ≤ l.length ∧ i = .int .i64 k ∧ ManyL w wr R P l k) (fun i _ => l.length - (intOf i).toNat)
  case atStart => exact ⟨0, Nat.zero_le _, rfl, H0.out⟩
  case round =>
    clear H0
    obtain ⟨k, hk, rfl, hM⟩ := hrel
    have hk0 : (0 : Int) ≤ (k : Int) := by omega
    have hk9 : (k : Int) ≤ 400 := by omega
    by_cases hlt : k < l.length
    · have hk1 : (k : Int) < (l.length : Int) := by omega
      obtain ⟨b, off, rfl, s1⟩ := HC.out (by omega)
      have hbl := World.block_lt_of_cell? w _ (s1 k hlt 0 _ rfl)
      have x0 := (hM.be.cell (p := ⟨b, off + k * 4 + 0, none⟩) hbl).trans (s1 k hlt 0 _ rfl)
      have x1 := (hM.be.cell (p := ⟨b, off + k * 4 + 1, none⟩) hbl).trans (s1 k hlt 1 _ rfl)
      have x2 := (hM.be.cell (p := ⟨b, off + k * 4 + 2, none⟩) hbl).trans (s1 k hlt 2 _ rfl)
      have x3 := (hM.be.cell (p := ⟨b, off + k * 4 + 3, none⟩) hbl).trans (s1 k hlt 3 _ rfl)
      simp only [Nat.add_zero] at x0
      have hnear := HN.out l[k] (List.getElem_mem hlt)
      have HG0 : Hid (good P l[k] = false → ∀ w', Below w.heap.size w w' → TextE P l w (.returned (.tuple #[.string ⟨#[]⟩, .int .i64 2])) w') := Lib.hid fun hg w' hb => text_no (bad_all hlt hg) hb
      have HM := Lib.hid hM
      obtain ⟨c, hcc⟩ : ∃ c, l[k] = c := ⟨_, rfl⟩
      have HCC := Lib.hid hcc
      rw [hcc] at x0 x1 x2 x3 hnear HG0
      clear hcc s1 hM
      have hgi := good_iff P c
      obtain ⟨cf, ct, ck, cm⟩ := c
      simp only at x0 x1 x2 x3 hgi
      cases hg : good P ⟨cf, ct, ck, cm⟩
      · have HB0 := Lib.hid (HG0.out hg)
        have HBE := Lib.hid HM.out.be
        have hb5 : ¬ (0 ≤ cf ∧ cf < P ∧ 0 ≤ ct ∧ ct < P ∧ 0 ≤ cm) := fun h => by rw [hgi.2 h] at hg; cases hg
        clear hgi HG0 hnear HM HCC HN HC hg
        by_cases b1 : cf < 0
        · clear hb5
          go_wp2_with fail
          go_ret2
          exact HB0.out _ (HBE.out.alloc HBE.out.size _)
        · by_cases b2 : (P : Int) ≤ cf
          · clear hb5
            go_wp2_with fail
            go_ret2
            exact HB0.out _ (HBE.out.alloc HBE.out.size _)
          · by_cases b3 : ct < 0
            · clear hb5
              go_wp2_with fail
              go_ret2
              exact HB0.out _ (HBE.out.alloc HBE.out.size _)
            · by_cases b4 : (P : Int) ≤ ct
              · clear hb5
                go_wp2_with fail
                go_ret2
                exact HB0.out _ (HBE.out.alloc HBE.out.size _)
              · have b5 : cm < 0 := by omega
                clear hb5
                go_wp2_with fail
                go_ret2
                exact HB0.out _ (HBE.out.alloc HBE.out.size _)
      · obtain ⟨g1, g2, g3, g4, g5⟩ := hgi.1 hg
        obtain ⟨i, rfl⟩ : ∃ i : Nat, cf = (i : Int) := ⟨cf.toNat, by omega⟩
        obtain ⟨j, rfl⟩ : ∃ j : Nat, ct = (j : Int) := ⟨ct.toNat, by omega⟩
        clear HG0 hgi
        have n0 : ¬ ((i : Int) < 0) := by omega
        have n1 : ¬ ((j : Int) < 0) := by omega
        have n2 : ¬ (cm < 0) := by omega
        have n3 : ¬ ((P : Int) ≤ (i : Int)) := by omega
        have n4 : ¬ ((P : Int) ≤ (j : Int)) := by omega
        obtain ⟨p, hp⟩ : ∃ p, i * P = p := ⟨_, rfl⟩
        have hpI : (i : Int) * (P : Int) = (p : Int) := by rw [← hp]; simp
        have hp9 : p ≤ 56 := by
          rw [← hp]
          exact Nat.le_trans (Nat.mul_le_mul (show i ≤ 7 by omega) (show P ≤ 8 by omega)) (by omega)
        obtain ⟨q, hq⟩ : ∃ q, p + j = q := ⟨_, rfl⟩
        have hqI : (p : Int) + (j : Int) = (q : Int) := by omega
        have hqS : q < S := by
          have h1 : (i + 1) * P ≤ P * P := Nat.mul_le_mul_right P (by omega)
          rw [HS.out, Nat.add_mul, hp] at h1
          omega
        have hqS' : (q : Int) < (S : Int) := by omega
        have hq0 : (0 : Int) ≤ (q : Int) := by omega
        have hpp0 : (0 : Int) ≤ (p : Int) := by omega
        have hpp9 : (p : Int) ≤ 56 := by omega
        have hq9 : (q : Int) ≤ 64 := by omega
        obtain ⟨z, hz⟩ : ∃ z, cellOf (l.take k) (q / P) (q % P) = z := ⟨_, rfl⟩
        have hzb := cellOf_abs (l.take k) (q / P) (q % P) (fun c hc => HN.out c (List.mem_of_mem_take hc))
        rw [hz, List.length_take, Nat.min_eq_left hk] at hzb
        have hzw : IntKind.i64.wrap (z + cm) = z + cm := by
          unfold near at hnear
          simp only at hnear
          have e1 : (k : Int) * 1099511627776 ≤ 400 * 1099511627776 := by omega
          simp [IntKind.wrap, IntKind.bits, IntKind.signed]
          omega
        have hrow := HM.out.row
        rw [HS.out] at hrow
        obtain ⟨E, hE⟩ : ∃ x, wr.heap.size = x := ⟨_, rfl⟩
        have hal := heap_alloc_new wr (.cells #[.int .i64 i, .int .i64 j, .string ck, .int .i64 cm] 32)
        have hab : Below wr.heap.size wr (wr.alloc (.cells #[.int .i64 i, .int .i64 j, .string ck, .int .i64 cm] 32)) := (Below.refl _ _).alloc (Nat.le_refl _) _
        have HAB := Lib.hid hab
        have hrow2 := hrow.below hab
        have r0 := hrow2.cell q hqS
        have r1 := hrow2.free q
        simp only [hz] at r0
        have HST := Lib.hid (fun (w2 : World) (hw2 : Below wr.heap.size wr w2) => HM.out.step hlt (HCC.out ▸ hg) (i := i) (j := j) (w2 := w2) (.cells #[] 0) (z + cm) (by rw [HCC.out]) (by rw [HCC.out]) (by omega) (by omega) hw2 (by rw [HCC.out, hp, hq, hz]))
        rw [hE] at hal
        have e0 := blk_cell' hal 0
        have e1 := blk_cell' hal 1
        have e3 := blk_cell' hal 3
        clear hzb hnear hg hrow hrow2 hab hz g1 g2 g3 g4 HN hal
        go_wp2_with fail
        obtain ⟨wx, hwx⟩ : ∃ x, wr.alloc (.cells #[.int .i64 i, .int .i64 j, .string ck, .int .i64 cm] 32) = x := ⟨_, rfl⟩
        rw [hwx] at e0 e1 e3 r0 r1 HAB ⊢
        clear x0 x1 x2 x3 hwx hE
        go_region
        have HN2 := HST.out wx HAB.out
        rw [hp, hq] at HN2
        have HN3 := Lib.hid HN2.drew
        clear HST HN2 HM HAB r0 r1 e0 e1 e3 HCC
        go_wp2_with fail
        exact ⟨⟨k + 1, by omega, by go_num, HN3.out⟩, by simp [intOf]; omega⟩
    · obtain rfl : k = l.length := by omega
      have hk1 : ¬ ((l.length : Int) < (l.length : Int)) := by omega
      have hr := hM.row
      rw [HS.out, List.take_length] at hr
      have H1 : Hid (([] : List UInt8) = textTo Lib.itoa P l 0 ∧ (⟨#[]⟩ : ByteArray).size ≤ 100 * 0 ∧ RowI wr R S (fun q => cellOf l (q / P) (q % P)) ∧ Below w.heap.size w wr) := ⟨rfl, Nat.le_refl _, hr, hM.be⟩
      have HOK := Lib.hid hM.ok
      clear hr hM HC
      go_wp2_with fail
      go_loopw [9, 10] (fun s i wy => ∃ (m : Nat) (t : ByteArray), m ≤ S ∧ i = .int .i64 m ∧ s = .string t ∧ Hid (t.data.toList = textTo Lib.itoa P l m ∧ t.size ≤ 100 * m ∧ RowI wy R S (fun q => cellOf l (q / P) (q % P)) ∧ Below w.heap.size w wy)) (fun _ i _ => S - (intOf i).toNat)
      case atStart => exact ⟨0, ⟨#[]⟩, Nat.zero_le _, rfl, rfl, H1.out⟩
      case round =>
        clear H1
        obtain ⟨m, t, hm, rfl, rfl, hT⟩ := hrel
        have hm0 : (0 : Int) ≤ (m : Int) := by omega
        have hm9 : (m : Int) ≤ 64 := by omega
        by_cases hms : m < S
        · have hm1 : (m : Int) < (S : Int) := by omega
          obtain ⟨t1, ts, t2, t3⟩ := hT.out
          have r0 := t2.cell m hms
          obtain ⟨z, hz⟩ : ∃ z, cellOf l (m / P) (m % P) = z := ⟨_, rfl⟩
          simp only [hz] at r0
          have hzb := cellOf_abs l (m / P) (m % P) HN.out
          rw [hz] at hzb
          have KI := Lib.hid (HI.out z wr (by omega) (by omega) t3)
          have HT1 := Lib.hid t1
          have HT2 := Lib.hid t2
          have HT3 := Lib.hid t3
          have HZ := Lib.hid hz
          have hil := itoa_le z (by omega) (by omega)
          obtain ⟨b, hb⟩ : ∃ b, Lib.itoa z = b := ⟨_, rfl⟩
          rw [hb] at hil KI
          have HBI := Lib.hid hb
          have hs1 : ¬ (9223372036854775807 < t.size + b.length) := by omega
          have hs2 : ¬ (9223372036854775807 < t.size + b.length + 1) := by omega
          have HTS := Lib.hid ts
          have HIL := Lib.hid hil
          clear hT t1 t2 t3 hzb hz hb ts hil
          have hP9 : ¬ (P = 0) := by omega
          have hrm : (m : Int).tmod (P : Int) = ((m % P : Nat) : Int) := by rw [Int.tmod_eq_emod_of_nonneg hm0]; simp
          have hmp : m % P < P := Nat.mod_lt _ (by omega)
          obtain ⟨r, hr⟩ : ∃ r, m % P = r := ⟨_, rfl⟩
          rw [hr] at hrm hmp
          have HRR := Lib.hid hr
          have hr0 : (0 : Int) ≤ (r : Int) := by omega
          have hr1 : (r : Int) ≤ 8 := by omega
          clear hr
          go_wp2_with fail
          refine KI.out.mono ?_
          rintro e w1 ⟨rfl, hb⟩
          have HT2' := Lib.hid (HT2.out.below hb)
          have HT3' := Lib.hid (HT3.out.trans (hb.mono HT3.out.size))
          clear KI hb HT2 HT3 r0
          by_cases hsep : r = P - 1
          · have hsep' : ((r : Int) == (P : Int) - 1) = true := by simp; omega
            have HSEP := Lib.hid hsep
            clear hsep
            go_wp2_with fail
            exact ⟨⟨m + 1, _, by omega, by go_num, rfl, text_next HT1.out HZ.out HBI.out (by rw [HRR.out]; exact if_pos HSEP.out), size_next HTS.out HIL.out, HT2'.out, HT3'.out⟩, by simp [intOf]; omega⟩
          · have hsep' : ((r : Int) == (P : Int) - 1) = false := by simp; omega
            have HSEP := Lib.hid hsep
            clear hsep
            go_wp2_with fail
            exact ⟨⟨m + 1, _, by omega, by go_num, rfl, text_next HT1.out HZ.out HBI.out (by rw [HRR.out]; exact if_neg HSEP.out), size_next HTS.out HIL.out, HT2'.out, HT3'.out⟩, by simp [intOf]; omega⟩
        · obtain rfl : m = S := by omega
          have hm1 : ¬ ((m : Int) < (m : Int)) := by omega
          have HE : Hid (TextE P l w (.returned (.tuple #[.string t, .int .i64 0])) wr) := by
            have h1 := hT.out.1
            rw [← HS.out] at h1
            rw [text_end h1]
            exact text_yes HP.out.1 HP.out.2 (fun j hj => HOK.out j hj hj) hT.out.2.2.2
          clear hT
          go_wp2_with fail
          go_ret2
          exact HE.out
end Go.Proofs.YtacjgphfcailmaaGreatDoor
