/-
  Layer 16: the walk of NetSums.
-/
import Derived.Test.YtimmmbjdaibplaaW21
import Derived.Test.YtimmmbjdaibplaaW13
import Derived.BigRegion
import Derived.Outline
import Derived.Deep.RegionHeld3
namespace Go.Proofs.Ytimmmbjdaibplaa
open Go.RowKit
open Nt
set_option linter.unusedVariables false
set_option linter.unusedSimpArgs false

theorem tri_start {a P : Nat} {T : List Nat} {w w1 : World} (hx : NetX w1 a 4 T ⟨List.replicate P (List.replicate 4 0), [], [], []⟩) (hT : ∀ k ∈ T, w.heap.size ≤ k) (hb : Below w.heap.size w w1) :
    Tri a P w1.heap.size w (w1.alloc (.cells (intsV (List.replicate (4 * P) 0)) 3)) (.slice none 0 0) 0 0 ⟨List.replicate P (List.replicate 4 0), [], [], []⟩ T (List.replicate (4 * P) 0) 0 :=
  ⟨hx.below ((Below.refl _ _).alloc (Nat.le_refl _) _), hT, fun hm => Nat.lt_irrefl _ (hx.lt _ hm), fun g hg => by simp [Value.ownBlock] at hg,
    ⟨by simp, (fun r hr => by rw [List.eq_of_mem_replicate hr]; simp), (fun m hm => by simp at hm), by simp, by simp [reqs], by simp⟩, su_new P, rfl, heap_alloc_new w1 _, World.ownsRow_nil _ _ _ _, hb.alloc hb.size _, hb.size⟩
/-- the first loop -/
structure Ls1 (a P sb : Nat) (w wr : World) (vh : Value) (i far : Nat) : Prop where
  ex : ∃ N T S, Tri a P sb w wr vh i far N T S i
theorem own_form' {w : World} {base : Nat} {e : TypeId} {size : Nat} {v : Value} {n : Nat} {xs : List Value} (h : w.ownsRow base e size v n xs) : ∃ A cap, v = .slice A n cap ∧ (0 < n → ∃ g, A = some ⟨g, 0, none⟩) := by
  rcases h.2 with ⟨rfl, rfl⟩ | ⟨g, cap, cur, rfl, _⟩
  · exact ⟨none, 0, rfl, fun h => absurd h (by omega)⟩
  · exact ⟨_, cap, rfl, fun _ => ⟨g, rfl⟩⟩
/-- the second loop -/
structure Ls2 (a P sb : Nat) (w wr : World) (vh : Value) (n far i : Nat) : Prop where
  ex : ∃ N T S, Tri a P sb w wr vh n far N T S n ∧ todo N + i ≤ 80
theorem ls2_start {a P sb n far : Nat} {w wr : World} {vh : Value} {N : Nt.Net} {T : List Nat} {S : List Int} (h : Tri a P sb w wr vh n far N T S n) (hn : n ≤ 40) : Ls2 a P sb w wr vh n far 0 := by
  refine ⟨N, T, S, h, ?_⟩
  unfold todo reqs
  have := h.wf.fl
  have := h.ln
  have := List.length_filter_le (fun m : Msg => decide (m.kind ≠ 4)) N.fl
  omega
theorem ls2_next {a P sb n far i k : Nat} {w wr w1 : World} {vh : Value} {N : Nt.Net} {T : List Nat} {S : List Int} (h : Tri a P sb w wr vh n far N T S n) (hn : n ≤ 40) (hd : todo N + i ≤ 80) (hk : k < N.fl.length) (hp : NetPost a 4 T (delN N k N.fl[k]) wr w1) : Ls2 a P sb w w1 vh n far (i + 1) := by
  obtain ⟨T', h'⟩ := h.deliv hn hk hp
  have := todo_del hk
  exact ⟨_, T', S, h', by omega⟩

set_option maxHeartbeats 16000000 in
set_option maxRecDepth 100000 in
theorem sums_bad (places : Int) (l : List OpD) (ord : List Int) (vl vo : Value) (w : World) (hf : Ops w vl l) (ho : Ints w vo ord) (hbad : places < 1 ∨ 8 < places) :
    Calls Try.prog 4 #[.int .i64 places, vl, vo] w fun e w' => e = .returned (.bool true) ∧ Below w.heap.size w w' := by
  obtain ⟨A, cap, rfl, hcf, hmf, hfc⟩ := hf
  obtain ⟨A2, cap2, rfl, hco, hmo, hoc⟩ := ho
  have KN := fun u => Lib.hid (new_bad places 4 u (by omega))
  unfold NewBad at KN
  clear hfc hoc
  rcases hbad with hbad | hbad
  · have hb1 : decide (places < 1) = true := by simpa using hbad
    go_enter Try.func4, Try.ntmps4
    go_wp2_with fail
    refine (KN _).out.mono ?_
    rintro e w1 ⟨rfl, rfl⟩
    go_wp2_with fail
    go_ret
    exact ⟨rfl, Below.refl _ _⟩
  · have hb1 : decide (places < 1) = false := by simp; omega
    have hb2 : decide (8 < places) = true := by simpa using hbad
    have hb3 : ¬ places < 1 := by omega
    go_enter Try.func4, Try.ntmps4
    go_wp2_with fail
    refine (KN _).out.mono ?_
    rintro e w1 ⟨rfl, rfl⟩
    go_wp2_with fail
    go_ret
    exact ⟨rfl, Below.refl _ _⟩
set_option maxHeartbeats 16000000 in
set_option maxRecDepth 100000 in
theorem sums_long (P : Nat) (hP0 : 1 ≤ P) (hP8 : P ≤ 8) (l : List OpD) (ord : List Int) (vl vo : Value) (w : World) (hf : Ops w vl l) (ho : Ints w vo ord) (hlong : 40 < l.length) :
    Calls Try.prog 4 #[.int .i64 P, vl, vo] w fun e w' => e = .returned (.bool true) ∧ Below w.heap.size w w' := by
  obtain ⟨A, cap, rfl, hcf, hmf, hfc⟩ := hf
  obtain ⟨A2, cap2, rfl, hco, hmo, hoc⟩ := ho
  have KA := fun u => Lib.hid (awake_at u)
  have KN := fun u => Lib.hid (new_at P 4 u hP0 hP8 (by decide) (by decide))
  have hl : decide ((40 : Int) < (l.length : Int)) = true := by simp; omega
  have hl' : (40 : Int) < (l.length : Int) := by omega
  clear hfc hoc
  go_enter Try.func4, Try.ntmps4
  go_wp2_with fail
  refine (KN _).out.mono ?_
  rintro e w1 ⟨a, T, rfl, hx, hT, hb1⟩
  have HB1 := Lib.hid hb1
  clear hx hT hb1
  go_wp2_with fail
  refine (KA _).out.mono ?_
  rintro e w2 ⟨rfl, hb2⟩
  have HEND := Lib.hid (HB1.out.trans (hb2.mono HB1.out.size))
  clear hb2
  go_wp2_with fail
  go_ret
  exact ⟨rfl, HEND.out⟩

set_option maxHeartbeats 16000000 in
set_option maxRecDepth 100000 in
theorem sums_main (P : Nat) (hP0 : 1 ≤ P) (hP8 : P ≤ 8) (l : List OpD) (ord : List Int) (vl vo : Value) (w : World) (hf : Ops w vl l) (ho : Ints w vo ord) (hlong : l.length ≤ 40) :
    Calls Try.prog 4 #[.int .i64 P, vl, vo] w fun e w' => e = .returned (.bool true) ∧ Below w.heap.size w w' := by
  have HF := Lib.hid hf
  have HO := Lib.hid ho
  have KA := fun u => Lib.hid (awake_at u)
  obtain ⟨A, cap, rfl, hcf, hmf, hfc⟩ := hf
  obtain ⟨A2, cap2, rfl, hco, hmo, hoc⟩ := ho
  have HFC := Lib.hid hfc
  have HOC := Lib.hid hoc
  have KN := fun u => Lib.hid (new_at P 4 u hP0 hP8 (by decide) (by decide))
  have hl : decide ((40 : Int) < (l.length : Int)) = false := by simp; omega
  have hl' : ¬ ((40 : Int) < (l.length : Int)) := by omega
  have HTS := Lib.hid (fun (a : Nat) (T : List Nat) (w1 : World) hx hT hb => tri_start (a := a) (P := P) (T := T) (w := w) (w1 := w1) hx hT hb)
  obtain ⟨q, hq⟩ : ∃ q, 4 * P = q := ⟨_, rfl⟩
  rw [hq] at HTS
  have HQ := Lib.hid hq
  have HQ2 := Lib.hid hq
  have e4 : (4 : Int) * (P : Int) = (q : Int) := by omega
  have hmk := make_ints q (by omega)
  clear hq
  have p0 : (0 : Int) ≤ (P : Int) := by omega
  have p1 : (P : Int) ≤ 8 := by omega
  have i0' := info_parts (show (Try.prog.info? 3).map (fun i => (i.zero, i.size, i.bytes)) = some (some (.int .i64 0), 1, 8) by kernel_rfl)
  obtain ⟨ii, hi0, hz0, hz1, hz2⟩ := i0'
  clear hfc hoc
  go_enter Try.func4, Try.ntmps4
  go_wp2_with fail
  refine (KN _).out.mono ?_
  rintro e w1 ⟨a, T, rfl, hx, hT, hb1⟩
  have HL0 := Lib.hid (HTS.out a T w1 hx hT hb1)
  clear hx hT hb1 KN
  go_wp2_with fail
  obtain ⟨sb, hsb⟩ : ∃ sb, w1.heap.size = sb := ⟨_, rfl⟩
  rw [hsb] at HL0 ⊢
  clear hmk HTS hsb
  go_loopw [10, 11, 12] (fun x h i wr => ∃ (k far : Nat) (vh : Value), k ≤ l.length ∧ i = .int .i64 k ∧ x = .int .i64 far ∧ vh = h ∧ Ls1 a P sb w wr vh k far) (fun _ _ i _ => l.length - (intOf i).toNat)
  case atStart => exact ⟨0, 0, _, Nat.zero_le _, rfl, rfl, rfl, ⟨_, _, _, HL0.out⟩⟩
  case round =>
    obtain ⟨k, far, vh, hk, rfl, rfl, rfl, hL⟩ := hrel
    obtain ⟨N, T', S, hT⟩ := hL.ex
    have HT := Lib.hid hT
    clear hL
    by_cases hlt : k < l.length
    · obtain ⟨b, off, rfl, hcell⟩ := HFC.out (by omega)
      have hbel := hT.be
      have xx : ∀ (i : Nat) (u : Value), (opV l[k])[i]? = some u → wr.cell? ⟨b, off + k * 6 + i, none⟩ = some u := fun i u hu => (hbel.cell (World.block_lt_of_cell? w _ (hcell k hlt i u hu))).trans (hcell k hlt i u hu)
      obtain ⟨x, hxe⟩ : ∃ x, l[k] = x := ⟨_, rfl⟩
      have HCELL := Lib.hid (hcell k hlt)
      rw [hxe] at xx HCELL
      have x1 := xx 1 _ rfl
      have x2 := xx 2 _ rfl
      have x3 := xx 3 _ rfl
      have x4 := xx 4 _ rfl
      have hf0 := Int.emod_nonneg x.f (show (P : Int) ≠ 0 by omega)
      have hf1 := Int.emod_lt_of_pos x.f (show (0 : Int) < P by omega)
      obtain ⟨t, ht⟩ : ∃ t : Nat, x.t % (P : Int) = t := ⟨(x.t % (P : Int)).toNat, by have := Int.emod_nonneg x.t (show (P : Int) ≠ 0 by omega); omega⟩
      have ht1 : t < P := by have := Int.emod_lt_of_pos x.t (show (0 : Int) < P by omega); omega
      obtain ⟨c, hc⟩ : ∃ c : Nat, x.c % 4 = c := ⟨(x.c % 4).toNat, by omega⟩
      have hc1 : c < 4 := by omega
      have KM1 := fun u => Lib.hid (Calls.mono (mod_up x.f P u (by omega) (by omega)) fun e w' h => And.intro h.1 h.2.symm)
      have KM2 := fun u => Lib.hid (Calls.mono (mod_up x.t P u (by omega) (by omega)) fun e w' h => And.intro h.1 h.2.symm)
      have KM3 := fun u => Lib.hid (Calls.mono (mod_up x.c 4 u (by omega) (by omega)) fun e w' h => And.intro h.1 h.2.symm)
      rw [ht] at KM2
      rw [hc] at KM3
      obtain ⟨f, hfe⟩ : ∃ f, x.f % (P : Int) = f := ⟨_, rfl⟩
      rw [hfe] at KM1 hf0 hf1
      have hwf := hT.wf
      have hpl := hwf.pl
      have hfl := hwf.fl
      have hse := hwf.se
      have hln := hT.ln
      have KAd := fun n => Lib.hid (add_at a 4 T' N f x.v t c (wr.drewN n) (hT.nx.below (Below.of_drewN n (Below.refl _ wr))) hwf.ce (by omega) hf0 (by omega) (by omega) hc1 (by omega) (by omega) (by omega))
      unfold ReqE at KAd
      rw [hln] at KAd
      have HTD := fun n => Lib.hid (hT.below (Below.of_drewN n (Below.refl _ wr)))
      have hk0 : (0 : Int) ≤ (k : Int) := by omega
      have hk1 : (k : Int) < (l.length : Int) := by omega
      have hk2 : (k : Int) < 40 := by omega
      have hfar := hT.su.fr
      rw [hln] at hfar
      have hfa0 : (0 : Int) ≤ (far : Int) := by omega
      have hfa1 : (far : Int) ≤ 40 := by omega
      clear hT hxe hfe hpl hfl hse hln hwf ht hc xx hcell hbel
      go_wp2_with fail
      go_quiet ((go_at_call 9; with_reducible (first | exact Calls.quiet_of_same (KM1 _).out | exact Calls.quiet_of_same (KM2 _).out | exact Calls.quiet_of_same (KM3 _).out)))
      go_wp2_with fail
      refine (KAd _).out.mono ?_
      rintro e w2 ⟨rfl, hp2⟩
      have HP2 := Lib.hid hp2
      obtain ⟨-, -, -, -, -, -, hrow, hbe2⟩ := (HTD nq).out.netpost hp2
      have hbs2 := hbe2.size
      have HADD := Lib.hid (fun (w3 : World) (v' : Value) (tmp : Obj) hown hgrow hat => Tri.added (w2 := w3) (v' := v') (tmp := tmp) (HTD nq).out (by omega) hf0 hf1 ht1 hc1 HP2.out hown hgrow hat)
      have HROW := Lib.hid hrow
      obtain ⟨j, hj⟩ : ∃ j : Nat, 4 * t + c = j := ⟨_, rfl⟩
      rw [hj] at HADD
      have hj1 : j < q := by have := HQ.out; omega
      clear hp2 hrow hbe2 KAd HTD HT
      go_wp2_with (at_builtin; go_must (refine wpList_append_own_at _ rfl _ _ 22 rfl w.heap.size 3 ii _ 1 8 Try.underlying22 hi0 hz0 hz1 hz2 rfl (by decide) _ _ _ rfl (HROW.out.alloc _) ⟨w2.heap.size, 0, none⟩ 1 1 [.int .i64 ((k : Int) + 1)] rfl rfl (cell_one_new _ _ _) (by simp [Value.oneCell']) (by unfold maxLen; omega) (by omega) (by simp; omega) ?_))
      intro v' w3 hown' hgrow hnil hat
      obtain ⟨g', cap', rfl⟩ := ownsRow_succ hown'
      obtain ⟨s0, s1, hb3, T3, hT3⟩ := HADD.out w3 _ _ hown' hgrow (by rw [World.size_alloc]; exact hat)
      have x5 := (hb3.cell (World.block_lt_of_cell? w _ (HCELL.out 4 _ rfl))).trans (HCELL.out 4 _ rfl)
      obtain ⟨old, ho⟩ : ∃ old, getL S j = old := ⟨_, rfl⟩
      rw [ho] at s0 hT3
      rw [i64_w] at hT3
      have HT3 := Lib.hid hT3
      have he4 : (4 : Int) * (t : Int) + (c : Int) = (j : Int) := by omega
      have ht0 : (0 : Int) ≤ (t : Int) := by omega
      have ht2 : (t : Int) ≤ 8 := by omega
      have hc0 : (0 : Int) ≤ (c : Int) := by omega
      have hc2 : (c : Int) ≤ 3 := by omega
      have hj0 : (0 : Int) ≤ (j : Int) := by omega
      have hj2 : (j : Int) < (q : Int) := by omega
      clear hown' hgrow hnil hat HADD hb3 hT3 ho hj HROW HP2 x1 x2 x3 x4
      by_cases hft : f = (t : Int)
      · have hq : (f != (t : Int)) = false := by simpa using hft
        have HE := Lib.hid (show Ls1 a P sb w (w3.setCell ⟨sb, j, none⟩ (.int .i64 (wrap64 (old + x.v)))).drew (.slice (some ⟨g', 0, none⟩) (k + 1) cap') (k + 1) far from ⟨_, T3, _, by have := HT3.out; rw [if_pos hft] at this; exact this.below (Below.of_drewN 1 (Below.refl _ _))⟩)
        clear HT3 hft
        go_wp2_with fail
        go_region
        go_wp2_with fail
        exact ⟨⟨k + 1, far, _, by omega, by go_num, rfl, rfl, HE.out⟩, by simp [intOf]; omega⟩
      · have hq : (f != (t : Int)) = true := by simpa using hft
        have HE := Lib.hid (show Ls1 a P sb w (w3.setCell ⟨sb, j, none⟩ (.int .i64 (wrap64 (old + x.v)))).drew (.slice (some ⟨g', 0, none⟩) (k + 1) cap') (k + 1) (far + 1) from ⟨_, T3, _, by have := HT3.out; rw [if_neg hft] at this; exact this.below (Below.of_drewN 1 (Below.refl _ _))⟩)
        clear HT3 hft
        go_wp2_with fail
        go_region
        go_wp2_with fail
        exact ⟨⟨k + 1, far + 1, _, by omega, by go_num, by go_num, rfl, HE.out⟩, by simp [intOf]; omega⟩
    · obtain rfl : k = l.length := by omega
      have HL2 := Lib.hid (ls2_start hT hlong)
      have hk1 : ¬ ((l.length : Int) < (l.length : Int)) := by omega
      clear hT HT HL0 hlt hk HQ e4
      go_wp2_with fail
      go_loopw [18] (fun x wr => ∃ i : Nat, i ≤ 80 ∧ x = .int .i64 i ∧ Ls2 a P sb w wr vh l.length far i) (fun x _ => 81 - (intOf x).toNat)
      case atStart => exact ⟨0, Nat.zero_le _, rfl, HL2.out⟩
      case round =>
        obtain ⟨i, hi, rfl, hL⟩ := hrel
        obtain ⟨N, T', S, hT, htd⟩ := hL.ex
        have hpl := hT.wf.pl
        have hfl := hT.wf.fl
        have hln := hT.ln
        have hi0 : (0 : Int) ≤ (i : Int) := by omega
        have hi1 : (i : Int) ≤ 80 := by omega
        have KF := fun (u : World) (hb : Below wr.heap.size wr u) => Lib.hid (flying_at a 4 T' N u (hT.nx.below hb) (by omega) (by omega) (by omega))
        unfold CloneE at KF
        have HT := Lib.hid hT
        have HTD := Lib.hid htd
        clear hL
        by_cases hfly : 0 < N.fl.length
        · have hf1 : (0 : Int) < (N.fl.length : Int) := by omega
          have hf2 : (N.fl.length : Int) ≤ 1000 := by omega
          have hi2 : i + 1 ≤ 80 := by
            have h2 : todo N ≠ 0 := fun e => by have := todo_zero e; omega
            omega
          clear hT htd hfl hpl hln HL2
          go_wp2_with fail
          refine (KF _ (Below.refl _ _)).out.mono ?_
          rintro e w2 ⟨A3, cap3, rfl, ho3, hb3⟩
          have HB3 := Lib.hid hb3
          clear ho3 hb3
          by_cases hord : i < ord.length
          · have hd1 : (i : Int) < (ord.length : Int) := by omega
            obtain ⟨b2, off2, rfl, hcell⟩ := HOC.out (by omega)
            have x1 := (HT.out.be.cell (World.block_lt_of_cell? w _ (hcell i hord))).trans (hcell i hord)
            have lx := World.block_lt_of_cell? wr _ x1
            have x2 := (HB3.out.cell lx).trans x1
            obtain ⟨y, hy⟩ : ∃ y, ord[i] = y := ⟨_, rfl⟩
            rw [hy] at x1 x2
            obtain ⟨kk, hkk⟩ : ∃ kk : Nat, y % (N.fl.length : Int) = kk := ⟨(y % (N.fl.length : Int)).toNat, by have := Int.emod_nonneg y (show (N.fl.length : Int) ≠ 0 by omega); omega⟩
            have hkl : kk < N.fl.length := by have := Int.emod_lt_of_pos y hf1; omega
            have KM := fun u => Lib.hid (mod_up y N.fl.length u (by omega) (by omega))
            rw [hkk] at KM
            have KD := fun (u : World) (hb : Below wr.heap.size wr u) => Lib.hid (deliver_at a P 4 T' N kk u (HT.out.nx.below hb) HT.out.wf hP8 hkl)
            have KE := Lib.hid (fun (u : World) (hb : Below wr.heap.size wr u) (w' : World) (h : NetPost a 4 T' (delN N kk N.fl[kk]) u w') => ls2_next (i := i) (HT.out.below hb) hlong HTD.out hkl h)
            have hb2d := HB3.out.drew
            have hz2 : wr.heap.size ≤ w2.heap.size := HB3.out.size
            dsimp only at lx
            clear hy hkk x1 hcell
            go_wp2_with fail
            go_region_held3 (fun w' => w'.cell? ⟨b2, off2 + i, none⟩ = some (.int .i64 y))
              (first | go_keep | (rw [hb4.cell (by simp; omega)]; assumption))
              (first
                | (go_at_call 11; refine (KF _ hb2d).out.mono ?_; rintro e w3 ⟨A4, cap4, rfl, ho4, hb4⟩)
                | (go_at_call 9; refine (KM _).out.mono ?_; rintro e w4 ⟨rfl, rfl⟩))
            go_wp2_with fail
            have hb34 : Below wr.heap.size wr w3 := hb2d.trans (hb4.mono hz2)
            refine (KD _ hb34).out.mono ?_
            rintro e w5 ⟨rfl, hp5⟩
            have KE2 := Lib.hid (KE.out _ hb34 _ hp5)
            clear hp5 KE KD hb34 hb4 ho4 hb2d x2 KM
            go_wp2_with fail
            exact ⟨⟨i + 1, hi2, by go_num, KE2.out⟩, by simp [intOf]; omega⟩
          · have hd1 : ¬ ((i : Int) < (ord.length : Int)) := by omega
            have KD := Lib.hid (deliver_at a P 4 T' N 0 w2 (HT.out.nx.below HB3.out) HT.out.wf hP8 hfly)
            have KE := Lib.hid (fun (w' : World) (h : NetPost a 4 T' (delN N 0 N.fl[0]) w2 w') => ls2_next (i := i) (HT.out.below HB3.out) hlong HTD.out hfly h)
            go_wp2_with fail
            refine KD.out.mono ?_
            rintro e w3 ⟨rfl, hp3⟩
            have KE2 := Lib.hid (KE.out _ hp3)
            clear hp3 KE KD
            go_wp2_with fail
            exact ⟨⟨i + 1, hi2, by go_num, KE2.out⟩, by simp [intOf]; omega⟩
        · have hl0 : N.fl.length = 0 := by omega
          obtain ⟨E1, E2, E3, E4⟩ := su_end hT.su (List.eq_nil_of_length_eq_zero hl0)
          have H1 := Lib.hid E1
          have H2 := Lib.hid E2
          have H3 := Lib.hid E3
          have H4 := Lib.hid E4
          have hop : ∀ p : Nat, openN p N.hs = 0 := fun p => openN_none p N.hs E2
          have HOP := Lib.hid hop
          have hfar := hT.su.fr
          rw [hln] at hfar
          have hsl := Lib.hid hT.su.sl
          have HCK := Lib.hid hT.su.ck
          have HPL := Lib.hid hpl
          have HFL := Lib.hid hfl
          have HSE := Lib.hid hT.wf.se
          have HLN := Lib.hid hln
          have hn40 : (l.length : Int) ≤ 40 := by omega
          rw [hl0] at KF
          clear hT htd hpl hfl hln E1 E2 E3 E4 hop hl0 hfly HL2
          go_wp2_with fail
          refine (KF _ (Below.refl _ _)).out.mono ?_
          rintro e w2 ⟨A3, cap3, rfl, ho3, hb3⟩
          have HT2 := Lib.hid (HT.out.below hb3)
          clear ho3 hb3 KF HT
          go_wp2_with fail
          go_loopw [20] (fun x wr => ∃ p : Nat, p ≤ P ∧ x = .int .i64 p ∧ Tri a P sb w wr vh l.length far N T' S l.length) (fun x _ => P - (intOf x).toNat)
          case atStart => exact ⟨0, Nat.zero_le _, rfl, HT2.out⟩
          case round =>
            obtain ⟨p, hp, rfl, hT⟩ := hrel
            have hp0 : (0 : Int) ≤ (p : Int) := by omega
            have HT := Lib.hid hT
            by_cases hlt : p < P
            · have hp1' : (p : Int) < (P : Int) := by omega
              obtain ⟨wo, hwo⟩ : ∃ wo : World, wo = wr := ⟨_, rfl⟩
              have HWO := Lib.hid hwo
              have KO := Lib.hid (open_at a 4 T' N p wr hT.nx (by rw [HPL.out]; omega) (by rw [HPL.out]; exact hlt) (by have := HLN.out; omega))
              unfold OpenE at KO
              rw [HOP.out] at KO
              clear hT hwo HT2
              go_wp2_with fail
              go_loop [21] (fun x => ∃ c : Nat, c ≤ 4 ∧ x = .int .i64 c) (fun x => 4 - (intOf x).toNat)
              case atStart => exact ⟨0, Nat.zero_le _, rfl⟩
              case round =>
                obtain ⟨c, hc, rfl⟩ := hrel
                have hc0 : (0 : Int) ≤ (c : Int) := by omega
                by_cases hlc : c < 4
                · have hc1 : (c : Int) < 4 := by omega
                  have KC := Lib.hid (cell_of a 4 T' N p c wr HT.out.nx HT.out.wf.ce (by rw [HPL.out]; omega) (by rw [HPL.out]; exact hlt) hlc)
                  rw [H1.out p c hlt hlc] at KC
                  obtain ⟨j, hj⟩ : ∃ j : Nat, 4 * p + c = j := ⟨_, rfl⟩
                  rw [hj] at KC
                  have hjs : j < S.length := by rw [hsl.out]; omega
                  have s0 : wr.cell? ⟨sb, j, none⟩ = some (.int .i64 (getL S j)) := by
                    rw [blk_cell HT.out.sm, ints_at hjs]
                    simp [getL, List.getD, hjs]
                  obtain ⟨old, ho⟩ : ∃ old, getL S j = old := ⟨_, rfl⟩
                  rw [ho] at s0 KC
                  have he4 : (4 : Int) * (p : Int) + (c : Int) = (j : Int) := by omega
                  have hj0 : (0 : Int) ≤ (j : Int) := by omega
                  have hj2 : (j : Int) < (q : Int) := by have := HQ2.out; omega
                  clear ho hj hjs
                  go_wp2_with fail
                  refine KC.out.mono ?_
                  rintro e w5 ⟨rfl, rfl⟩
                  clear KC
                  go_wp2_with fail
                  go_round
                  case rel => exact ⟨c + 1, by omega, by go_num⟩
                  case measure => simp [intOf]; omega
                · obtain rfl : c = 4 := by omega
                  go_wp2_with fail
                  refine KO.out.mono ?_
                  rintro e w5 ⟨rfl, hb5⟩
                  have HT5 := Lib.hid (HT.out.below hb5)
                  clear KO hb5
                  go_wp2_with fail
                  exact ⟨⟨p + 1, by omega, by go_num, HT5.out⟩, by simp [intOf]; omega⟩
            · obtain rfl : p = P := by omega
              have hp2' : ¬ ((p : Int) < (p : Int)) := by omega
              obtain ⟨A5, cap5, rfl, hA5⟩ := own_form' hT.hw
              have HA5 := Lib.hid hA5
              clear hT hA5 HT2
              go_wp2_with fail
              go_loopw [26] (fun x wr => ∃ i : Nat, i ≤ l.length ∧ x = .int .i64 i ∧ Tri a p sb w wr (.slice A5 l.length cap5) l.length far N T' S l.length) (fun x _ => l.length - (intOf x).toNat)
              case atStart => exact ⟨0, Nat.zero_le _, rfl, HT.out⟩
              case round =>
                obtain ⟨i, hi, rfl, hT⟩ := hrel
                have hi0 : (0 : Int) ≤ (i : Int) := by omega
                have HT5 := Lib.hid hT
                by_cases hlt : i < l.length
                · have hi1 : (i : Int) < (l.length : Int) := by omega
                  obtain ⟨g5, rfl⟩ := HA5.out (by omega)
                  have s0 := own_at (ownsRow_base_le hT.hw (Nat.zero_le _)) (uptoV_at hlt)
                  have hiN : i < N.hs.length := by rw [HLN.out]; exact hlt
                  have KD := Lib.hid (done_of a 4 T' N i wr hT.nx (by rw [HPL.out]; omega) (by rw [HPL.out]; omega) hiN (by have := HLN.out; omega))
                  rw [H2.out i hiN] at KD
                  clear hT hiN HT
                  go_wp2_with fail
                  refine KD.out.mono ?_
                  rintro e w5 ⟨rfl, hb5⟩
                  have HT6 := Lib.hid (HT5.out.below hb5)
                  clear hb5 KD s0
                  go_wp2_with fail
                  exact ⟨⟨i + 1, by omega, by go_num, HT6.out⟩, by simp [intOf]; omega⟩
                · obtain rfl : i = l.length := by omega
                  have hi1 : ¬ ((l.length : Int) < (l.length : Int)) := by omega
                  have hse2 := HSE.out
                  have hln2 := HLN.out
                  have hsn : N.sent.length ≤ 1000 := by omega
                  have KS := Lib.hid (sent_at a 4 T' N wr hT.nx (by rw [HPL.out]; omega) (by rw [HPL.out]; omega) (by omega))
                  unfold SentE at KS
                  clear hT HT hse2 hln2
                  go_wp2_with fail
                  refine KS.out.mono ?_
                  rintro e w6 ⟨A6, cap6, l6, rfl, hpm, hso, ho6, hb6⟩
                  have HB6 := Lib.hid (HT5.out.be.trans (hb6.mono HT5.out.be.size))
                  have HO6 := Lib.hid (ownsRow_base_le ho6 (Nat.zero_le _))
                  have HPM := Lib.hid hpm
                  have hl6 := hpm.length_eq
                  obtain ⟨m, hm⟩ : ∃ m, N.sent.length = m := ⟨_, rfl⟩
                  rw [hm] at hl6 HO6 hsn ⊢
                  have HL6 := Lib.hid hl6
                  have hnn : ∀ x ∈ l6, 0 ≤ x.many := fun x hx => (HCK.out x ((hpm.mem_iff).1 hx)).1
                  have HNN := Lib.hid hnn
                  have e1 : cntOf kAdd l6 = far := (cntOf_perm kAdd hpm).trans H3.out
                  have e2 : cntOf kAns l6 = far := (cntOf_perm kAns hpm).trans H4.out
                  have E1 := Lib.hid e1
                  have E2 := Lib.hid e2
                  have hm1 : (m : Int) ≤ 1000 := by omega
                  clear KS hpm hso ho6 hb6 hl6 hm hnn e1 e2
                  go_wp2_with fail
                  go_loop [29, 30, 32] (fun x y z => ∃ i : Nat, i ≤ m ∧ z = .int .i64 i ∧ x = .int .i64 (cntOf kAdd (l6.take i)) ∧ y = .int .i64 (cntOf kAns (l6.take i))) (fun _ _ z => m - (intOf z).toNat)
                  case atStart => exact ⟨0, Nat.zero_le _, rfl, rfl, rfl⟩
                  case round =>
                    obtain ⟨i, hi, rfl, rfl, rfl⟩ := hrel
                    have hi0 : (0 : Int) ≤ (i : Int) := by omega
                    by_cases hlt : i < m
                    · have hi1 : (i : Int) < (m : Int) := by omega
                      have hil : i < l6.length := by rw [HL6.out]; exact hlt
                      obtain ⟨g6, rfl⟩ : ∃ g, A6 = some ⟨g, 0, none⟩ := by
                        obtain ⟨A', cap', e, hA, -⟩ := own_form HO6.out
                        cases e
                        exact hA (by omega)
                      have y2 := own_at HO6.out ((flat_at cntV_len l6 i hil 2 (by omega)).trans rfl)
                      have y3 := own_at HO6.out ((flat_at cntV_len l6 i hil 3 (by omega)).trans rfl)
                      have a1 := cntOf_take kAdd l6 HNN.out i
                      have a2 := cntOf_take kAns l6 HNN.out i
                      rw [E1.out] at a1
                      rw [E2.out] at a2
                      have b1 := cntOf_snoc kAdd l6 i hil
                      have b2 := cntOf_snoc kAns l6 i hil
                      have b3 := cntOf_take kAdd l6 HNN.out (i + 1)
                      have b4 := cntOf_take kAns l6 HNN.out (i + 1)
                      rw [E1.out] at b3
                      rw [E2.out] at b4
                      have hx := (HCK.out l6[i] ((HPM.out.mem_iff).1 (List.getElem_mem hil)))
                      obtain ⟨c1, hc1⟩ : ∃ c, cntOf kAdd (l6.take i) = c := ⟨_, rfl⟩
                      obtain ⟨c2, hc2⟩ : ∃ c, cntOf kAns (l6.take i) = c := ⟨_, rfl⟩
                      obtain ⟨d1, hd1⟩ : ∃ c, cntOf kAdd (l6.take (i + 1)) = c := ⟨_, rfl⟩
                      obtain ⟨d2, hd2⟩ : ∃ c, cntOf kAns (l6.take (i + 1)) = c := ⟨_, rfl⟩
                      rw [hc1] at a1 b1 ⊢
                      rw [hc2] at a2 b2 ⊢
                      rw [hd1] at b1 b3
                      rw [hd2] at b2 b4
                      have HD1 := Lib.hid hd1
                      have HD2 := Lib.hid hd2
                      obtain ⟨x, hxe⟩ : ∃ x, l6[i] = x := ⟨_, rfl⟩
                      rw [hxe] at y2 y3 b1 b2 hx
                      obtain ⟨xf, xt, xk, xm⟩ := x
                      simp only at y2 y3 b1 b2 hx
                      clear hc1 hc2 hd1 hd2 hxe hil
                      obtain ⟨hx0, hx⟩ := hx
                      obtain ⟨a10, a11⟩ := a1
                      obtain ⟨a20, a21⟩ := a2
                      obtain ⟨b30, b31⟩ := b3
                      obtain ⟨b40, b41⟩ := b4
                      rcases hx with rfl | rfl
                      · rw [if_pos rfl] at b1
                        rw [if_neg kAdd_ne] at b2
                        unfold kAdd at y2
                        have t1 : xm ≤ 40 := by omega
                        have t2 : c1 ≤ 40 := by omega
                        have t3 : c1 + xm = d1 := by omega
                        have t4 : c2 = d2 := by omega
                        have T3 := Lib.hid t3
                        subst t4
                        clear b1 b2 t3 b30 b31 b40 b41 a11 a21
                        go_wp2_with fail
                        go_round
                        case rel => exact ⟨i + 1, by omega, by go_num, by rw [HD1.out, ← T3.out], by rw [HD2.out]⟩
                        case measure => simp [intOf]; omega
                      · rw [if_neg kAdd_ne.symm] at b1
                        rw [if_pos rfl] at b2
                        unfold kAns at y2
                        have t1 : xm ≤ 40 := by omega
                        have t2 : c2 ≤ 40 := by omega
                        have t3 : c2 + xm = d2 := by omega
                        have t4 : c1 = d1 := by omega
                        have T3 := Lib.hid t3
                        subst t4
                        clear b1 b2 t3 b30 b31 b40 b41 a11 a21
                        go_wp2_with fail
                        go_round
                        case rel => exact ⟨i + 1, by omega, by go_num, by rw [HD1.out], by rw [HD2.out, ← T3.out]⟩
                        case measure => simp [intOf]; omega
                    · obtain rfl : i = m := by omega
                      have hi1 : ¬ ((i : Int) < (i : Int)) := by omega
                      have et : l6.take i = l6 := by rw [← HL6.out, List.take_length]
                      rw [et, E1.out, E2.out]
                      clear et
                      go_wp2_with fail
                      refine (KA _).out.mono ?_
                      rintro e w7 ⟨rfl, hb7⟩
                      have HEND := Lib.hid (HB6.out.trans (hb7.mono HB6.out.size))
                      clear hb7
                      go_wp2_with fail
                      go_ret
                      exact ⟨rfl, HEND.out⟩
end Go.Proofs.Ytimmmbjdaibplaa
