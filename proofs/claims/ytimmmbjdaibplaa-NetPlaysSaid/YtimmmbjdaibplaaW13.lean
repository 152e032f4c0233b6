/-
  Layer 16: the walk of NetTickets.
-/
import Derived.Test.YtimmmbjdaibplaaW12
namespace Go.Proofs.Ytimmmbjdaibplaa
open Go.RowKit
open Nt
set_option linter.unusedVariables false
set_option linter.unusedSimpArgs false

/-- a list of ints in memory -/
def Ints (w : World) (v : Value) (l : List Int) : Prop := ∃ A cap, v = .slice A l.length cap ∧ l.length ≤ cap ∧ cap ≤ 9223372036854775807 ∧ (0 < l.length → ∃ b off, A = some ⟨b, off, none⟩ ∧ ∀ (j : Nat) (h : j < l.length), w.cell? ⟨b, off + j, none⟩ = some (.int .i64 l[j]))
theorem Ints.on {w w' : World} {v : Value} {l : List Int} (h : Ints w v l) (hb : Below w.heap.size w w') : Ints w' v l := by
  obtain ⟨A, cap, h1, h2, h3, h4⟩ := h
  refine ⟨A, cap, h1, h2, h3, fun h0 => ?_⟩
  obtain ⟨b, off, e, hc⟩ := h4 h0
  exact ⟨b, off, e, fun j hj => (hb.cell (World.block_lt_of_cell? w _ (hc j hj))).trans (hc j hj)⟩
/-- how far the first loop is -/
structure Lp1 (a P tp cell : Nat) (T : List Nat) (w wr : World) (i : Nat) : Prop where
  ex : ∃ N c, NetPost a 64 T N w wr ∧ Wf P 64 N ∧ Tk tp cell c N ∧ N.hs.length = i
theorem getC_rep (P C p c : Nat) (hp : p < P) (hc : c < C) : getC (List.replicate P (List.replicate C 0)) p c = 0 := by
  simp [getC, List.getD, hp, hc]
theorem lp1_start {a P tp cell : Nat} {T : List Nat} {w : World} (h : NetX w a 64 T ⟨List.replicate P (List.replicate 64 0), [], [], []⟩) (ht : tp < P) (hc : cell < 64) : Lp1 a P tp cell T w w 0 := by
  refine ⟨_, 0, ⟨T, h, Grows.refl _ _, Keeps.refl _ _⟩, ⟨by simp, (fun r hr => by rw [List.eq_of_mem_replicate hr]; simp), (fun m hm => by simp at hm), by simp, by simp [reqs], by simp⟩, tk_new _ _ _ ?_, rfl⟩
  rw [Int.toNat_natCast, Int.toNat_natCast]
  exact getC_rep P 64 tp cell ht hc
theorem Lp1.below {a P tp cell i : Nat} {T : List Nat} {w w1 wr : World} (h : Lp1 a P tp cell T w1 wr i) (hb : Below w.heap.size w w1) (hT : ∀ k ∈ T, w.heap.size ≤ k) : Below w.heap.size w wr := by
  obtain ⟨N, c, ⟨T', hx, hg, hk⟩, _⟩ := h.ex
  exact hb.trans (hk.below hb.size hT)
theorem Lp1.next {a P tp cell i : Nat} {T : List Nat} {w1 wr w' : World} {N : Nt.Net} {c : Nat} {T' : List Nat} {f : Int} (hg : Grows T T' w1) (hk : Keeps T w1 wr) (hw : Wf P 64 N) (ht : Tk tp cell c N) (hl : N.hs.length = i) (hi : i < 40) (f0 : 0 ≤ f) (f1 : f < P) (t1 : tp < P) (c1 : cell < 64)
    (h : NetPost a 64 T' (reqN N ⟨f, tp, 3, cell, 1, 0⟩) wr w') : Lp1 a P tp cell T w1 w' (i + 1) := by
  obtain ⟨c', hc'⟩ := tk_req hw ht (by omega) (f := f) (by omega) (by omega : (tp : Int) < P) (by omega) (by omega : (cell : Int) < (64 : Nat))
  obtain ⟨h1, h2⟩ := wf_req hw (m := ⟨f, tp, 3, cell, 1, 0⟩) (by omega) f0 f1 (by simp) (by simp; omega) (by simp) (by simp) (by simp) (by simp; omega)
  exact ⟨_, c', NetPost.from hk hg h, h1, hc', by rw [h2, hl]⟩

/-- how far the second loop is -/
theorem Keeps.then {T : List Nat} {w1 wr w2 : World} (hk : Keeps T w1 wr) (hb : Below wr.heap.size wr w2) : Keeps T w1 w2 := hk.trans (Keeps.of_below (T := T) hb) (Grows.refl T w1)
structure Lp2 (a P tp cell : Nat) (T : List Nat) (n : Nat) (w wr : World) (i : Nat) : Prop where
  ex : ∃ N c, NetPost a 64 T N w wr ∧ Wf P 64 N ∧ Tk tp cell c N ∧ N.hs.length = n ∧ todo N + i ≤ 80
theorem Lp1.lp2 {a P tp cell n : Nat} {T : List Nat} {w wr : World} (h : Lp1 a P tp cell T w wr n) (hn : n ≤ 40) : Lp2 a P tp cell T n w wr 0 := by
  obtain ⟨N, c, h1, h2, h3, h4⟩ := h.ex
  refine ⟨N, c, h1, h2, h3, h4, ?_⟩
  unfold todo reqs
  have := h2.fl
  have := List.length_filter_le (fun m : Msg => decide (m.kind ≠ 4)) N.fl
  omega
theorem Lp2.below {a P tp cell n i : Nat} {T : List Nat} {w w1 wr : World} (h : Lp2 a P tp cell T n w1 wr i) (hb : Below w.heap.size w w1) (hT : ∀ k ∈ T, w.heap.size ≤ k) : Below w.heap.size w wr := by
  obtain ⟨N, c, ⟨T', hx, hg, hk⟩, _⟩ := h.ex
  exact hb.trans (hk.below hb.size hT)
theorem Lp2.next {a P tp cell n i k : Nat} {T T' : List Nat} {w1 wr w' : World} {N : Nt.Net} {c : Nat} (hg : Grows T T' w1) (hk : Keeps T w1 wr) (hw : Wf P 64 N) (ht : Tk tp cell c N) (hl : N.hs.length = n) (hd : todo N + i ≤ 80) (t1 : tp < P) (c1 : cell < 64) (hkf : k < N.fl.length)
    (h : NetPost a 64 T' (delN N k N.fl[k]) wr w') : Lp2 a P tp cell T n w1 w' (i + 1) := by
  obtain ⟨c', hc'⟩ := tk_del hw ht hkf (by omega) (by omega : (tp : Int) < P) (by omega) (by omega : (cell : Int) < (64 : Nat))
  obtain ⟨h1, h2⟩ := wf_del hw hkf
  have h3 := todo_del hkf
  exact ⟨_, c', NetPost.from hk hg h, h1, hc', by rw [h2, hl], by omega⟩
def boolsV (l : List Bool) : Array Value := (l.map Value.bool).toArray
theorem infoBool : (Try.prog.info? 4).map (fun i => (i.zero, i.size, i.bytes)) = some (some (.bool false), 1, 1) := by kernel_rfl
theorem make_bools (n : Nat) (hn : n ≤ 40) (u : World) : (Instr.makeSlice 36 (.int .i64 n) (.int .i64 n)).run Try.prog u = .ok (.slice (some ⟨u.heap.size, 0, none⟩) n n) (u.alloc (.cells (boolsV (List.replicate n false)) 4)) := by
  obtain ⟨i0, hi0, hz0, hz1, hz2⟩ := info_parts infoBool
  have h := run_make (P := Try.prog) u 36 4 i0 _ Try.underlying36 hi0 hz0 .i64 .i64 n n (by omega) (Int.le_refl _) (by rw [hz2]; omega) (by omega)
  rw [Int.toNat_natCast, hz1, Nat.mul_one] at h
  have e : madeCells (Value.bool false).cells n = boolsV (List.replicate n false) := by
    apply Array.ext
    · simp [madeCells, boolsV]
    · intro i h1 h2
      simp [madeCells, boolsV, Value.cells, Nat.mod_one]
  rw [e] at h
  exact h
/-- which values the first j handles have -/
def seenL (n : Nat) (vs : List Int) (j : Nat) : List Bool := (List.range n).map fun v : Nat => decide ((v : Int) ∈ vs.take j)
theorem seen_zero (n : Nat) (vs : List Int) : seenL n vs 0 = List.replicate n false := by
  apply List.ext_getElem
  · simp [seenL]
  · intro i h1 h2
    simp [seenL]
theorem seen_at {n : Nat} {vs : List Int} {j v : Nat} (hv : v < n) (hj : j < vs.length) (hvj : vs[j] = v) (hnd : vs.Nodup) : (seenL n vs j)[v]? = some false := by
  unfold seenL
  rw [List.getElem?_map, List.getElem?_range hv]
  have : ¬ ((v : Int) ∈ vs.take j) := fun hm => by
    obtain ⟨i, hi, e⟩ := List.getElem_of_mem hm
    rw [List.length_take] at hi
    rw [List.getElem_take, ← hvj] at e
    exact List.pairwise_iff_getElem.1 hnd i j (by omega) hj (by omega) e
  simp [this]
theorem seen_next {n : Nat} {vs : List Int} {j v : Nat} (hv : v < n) (hj : j < vs.length) (hvj : vs[j] = v) : (seenL n vs j).set v true = seenL n vs (j + 1) := by
  apply List.ext_getElem
  · simp [seenL]
  · intro i h1 h2
    simp only [seenL, List.length_map, List.length_range] at h2
    rw [List.getElem_set]
    simp only [seenL, List.getElem_map, List.getElem_range, List.take_succ_eq_append_getElem hj, List.mem_append, List.mem_singleton, hvj]
    by_cases e : v = i
    · subst e; simp
    · rw [if_neg e]
      have : ¬ ((i : Int) = (v : Int)) := by omega
      simp [this]
theorem bools_set (l : List Bool) (c : Nat) (v : Bool) : (boolsV l).setIfInBounds c (.bool v) = boolsV (l.set c v) := by
  unfold boolsV
  simp
theorem bools_at {l : List Bool} {c : Nat} {b : Bool} (h : l[c]? = some b) : (boolsV l)[c]? = some (.bool b) := by
  unfold boolsV
  simp [h]
/-- how far the third loop is -/
structure Lp3 (a sb n : Nat) (T : List Nat) (N : Nt.Net) (w wr : World) (j : Nat) : Prop where
  nx : NetX wr a 64 T N
  sn : wr.heap[sb]? = some (.cells (boolsV (seenL n (N.hs.map (fun x : Hd => x.val)) j)) 4 (0, 0))
  be : Below w.heap.size w wr
theorem Lp3.next {a sb n : Nat} {T : List Nat} {N : Nt.Net} {w wr w2 : World} {j v : Nat} (h : Lp3 a sb n T N w wr j) (hb : Below wr.heap.size wr w2) (hsT : sb ∉ T) (hws : w.heap.size ≤ sb) (hv : v < n) (hj : j < N.hs.length) (hvj : N.hs[j].val = v) :
    Lp3 a sb n T N w (w2.setCell ⟨sb, v, none⟩ (.bool true)) (j + 1) := by
  have h1 := (hb.block sb (blk_lt h.sn)).trans h.sn
  refine ⟨?_, ?_, (h.be.trans (hb.mono h.be.size)).setCell hws _⟩
  · obtain ⟨bc, kc, cur, rs, vf, vh, vs, e, hN⟩ := h.nx.below hb
    exact ⟨bc, kc, cur, rs, vf, vh, vs, e, hN.keep fun k hk => Below.heap_setCell _ _ _ _ (fun e' => hsT (by rw [e]; exact (show k = sb from e') ▸ hk))⟩
  · rw [heap_setCell_same _ _ _ _ _ _ h1, bools_set, seen_next hv (by simpa using hj) (by simpa using hvj)]
set_option maxHeartbeats 16000000 in
set_option maxRecDepth 100000 in
theorem tickets_walk (places tg cell : Int) (fr ord : List Int) (vf vo : Value) (w : World) (hf : Ints w vf fr) (ho : Ints w vo ord) :
    Calls Try.prog 3 #[.agg #[.int .i64 places, .int .i64 tg, .int .i64 cell, vf, vo]] w fun e w' => e = .returned (.bool true) ∧ Below w.heap.size w w' := by
  have HF := Lib.hid hf
  have HO := Lib.hid ho
  have KA := fun u => Lib.hid (awake_at u)
  obtain ⟨A, cap, rfl, hcf, hmf, hfc⟩ := hf
  obtain ⟨A2, cap2, rfl, hco, hmo, hoc⟩ := ho
  have hb0 : Below w.heap.size w (w.alloc (.cells #[.int .i64 places, .int .i64 tg, .int .i64 cell, .slice A fr.length cap, .slice A2 ord.length cap2] 24)) := (Below.refl _ _).alloc (Nat.le_refl _) _
  by_cases hbad : places < 1 ∨ 8 < places
  · have KN := fun u => Lib.hid (new_bad places 64 u (by omega))
    unfold NewBad at KN
    have HB0 := Lib.hid hb0
    clear hfc hoc hb0
    go_enter Try.func3, Try.ntmps3
    go_wp2_with fail
    go_quiet (fail)
    go_wp2_with fail
    refine (KN _).out.mono ?_
    rintro e w1 ⟨rfl, rfl⟩
    go_wp2_with fail
    refine (KA _).out.mono ?_
    rintro e w2 ⟨rfl, hb2⟩
    have hend := (Below.of_drewN nq HB0.out).trans (hb2.mono HB0.out.size)
    have HEND := Lib.hid hend
    clear hend hb2
    go_wp2_with fail
    go_ret
    exact ⟨rfl, HEND.out⟩
  · obtain ⟨P, hP⟩ : ∃ P : Nat, places = P := ⟨places.toNat, by omega⟩
    subst hP
    have hP0 : 1 ≤ P := by omega
    have hP8 : P ≤ 8 := by omega
    clear hbad
    have KN := fun u => Lib.hid (new_at P 64 u hP0 hP8 (by decide) (by decide))
    by_cases hlong : 40 < fr.length
    · have hl : decide ((40 : Int) < (fr.length : Int)) = true := by simp; omega
      have hl' : (40 : Int) < (fr.length : Int) := by omega
      have HB0 := Lib.hid hb0
      clear hfc hoc hb0
      go_enter Try.func3, Try.ntmps3
      go_wp2_with fail
      go_quiet (fail)
      go_wp2_with fail
      refine (KN _).out.mono ?_
      rintro e w1 ⟨a, T, rfl, hx, hT, hb1⟩
      have HB1 := Lib.hid ((Below.of_drewN nq HB0.out).trans (hb1.mono HB0.out.size))
      clear hx hT hb1 HB0
      go_wp2_with fail
      refine (KA _).out.mono ?_
      rintro e w2 ⟨rfl, hb2⟩
      have HEND := Lib.hid (HB1.out.trans (hb2.mono HB1.out.size))
      clear hb2
      go_wp2_with fail
      go_ret
      exact ⟨rfl, HEND.out⟩
    · have hl : decide ((40 : Int) < (fr.length : Int)) = false := by simp; omega
      have hl' : ¬ ((40 : Int) < (fr.length : Int)) := by omega
      obtain ⟨p, hp⟩ : ∃ p : Nat, tg % (P : Int) = p := ⟨(tg % (P : Int)).toNat, by have := Int.emod_nonneg tg (show (P : Int) ≠ 0 by omega); omega⟩
      obtain ⟨c, hc⟩ : ∃ c : Nat, cell % 64 = c := ⟨(cell % 64).toNat, by omega⟩
      have hpP : p < P := by have := Int.emod_lt_of_pos tg (show (0 : Int) < P by omega); omega
      have hc64 : c < 64 := by omega
      have KM1 := fun u => Lib.hid (mod_up tg P u (by omega) (by omega))
      have KM2 := fun u => Lib.hid (mod_up cell 64 u (by omega) (by omega))
      rw [hp] at KM1
      rw [hc] at KM2
      have HB0 := Lib.hid hb0
      clear hb0 hp hc
      go_enter Try.func3, Try.ntmps3
      go_wp2_with fail
      go_quiet (fail)
      go_wp2_with fail
      refine (KN _).out.mono ?_
      rintro e w1 ⟨a, T, rfl, hx, hT, hb1⟩
      have HB1 := Lib.hid ((Below.of_drewN nq HB0.out).trans (hb1.mono HB0.out.size))
      have HT := Lib.hid (fun k hk => Nat.le_trans HB0.out.size (hT k hk))
      have HL0 := Lib.hid (lp1_start (tp := p) (cell := c) hx hpP hc64)
      clear hx hT hb1 HB0 KN
      go_wp2_with fail
      refine (KM1 _).out.mono ?_
      rintro e w2 ⟨rfl, rfl⟩
      go_wp2_with fail
      refine (KM2 _).out.mono ?_
      rintro e w2 ⟨rfl, rfl⟩
      clear KM1 KM2
      go_wp2_with fail
      go_loopw [10] (fun x wr => ∃ k : Nat, k ≤ fr.length ∧ x = .int .i64 k ∧ Lp1 a P p c T w1 wr k) (fun x _ => fr.length - (intOf x).toNat)
      case atStart => exact ⟨0, Nat.zero_le _, rfl, HL0.out⟩
      case round =>
        obtain ⟨k, hk, rfl, hL⟩ := hrel
        by_cases hlt : k < fr.length
        · obtain ⟨N, cc, hpo, hwf, htk, hlen⟩ := hL.ex
          obtain ⟨T', hx, hg, hkp⟩ := hpo
          have hbel := hL.below HB1.out HT.out
          obtain ⟨b, off, rfl, hcell⟩ := hfc (by omega)
          have x0 := (hbel.cell (World.block_lt_of_cell? w _ (hcell k hlt))).trans (hcell k hlt)
          obtain ⟨x, hxe⟩ : ∃ x, fr[k] = x := ⟨_, rfl⟩
          rw [hxe] at x0
          have hf0 := Int.emod_nonneg x (show (P : Int) ≠ 0 by omega)
          have hf1 := Int.emod_lt_of_pos x (show (0 : Int) < P by omega)
          have KM := fun u => Lib.hid (mod_up x P u (by omega) (by omega))
          obtain ⟨f, hfe⟩ : ∃ f, x % (P : Int) = f := ⟨_, rfl⟩
          rw [hfe] at KM hf0 hf1
          have hpl := hwf.pl
          have hfl := hwf.fl
          have hse := hwf.se
          have KAd := Lib.hid (add_at a 64 T' N f 1 p c wr hx hwf.ce (by omega) hf0 (by omega) (by omega) hc64 (by omega) (by omega) (by omega))
          have KE := Lib.hid (fun (w' : World) (h : NetPost a 64 T' (reqN N ⟨f, p, 3, c, 1, 0⟩) wr w') => Lp1.next (i := k) hg hkp hwf htk hlen (by omega) hf0 hf1 hpP hc64 h)
          unfold ReqE at KAd
          rw [hlen] at KAd
          have hk0 : (0 : Int) ≤ (k : Int) := by omega
          have hk1 : (k : Int) < (fr.length : Int) := by omega
          have hk2 : (k : Int) < 40 := by omega
          have HHF := Lib.hid hfc
          clear hx hg hkp hwf htk hlen hbel hcell hxe hfe hpl hfl hse hL hfc hoc hf0 hf1
          go_wp2_with fail
          refine (KM _).out.mono ?_
          rintro e w2 ⟨rfl, rfl⟩
          go_wp2_with fail
          refine KAd.out.mono ?_
          rintro e w3 ⟨rfl, hp3⟩
          have KE2 := Lib.hid (KE.out _ hp3)
          clear KE KAd KM hp3 x0
          go_wp2_with fail
          exact ⟨⟨k + 1, by omega, by go_num, KE2.out⟩, by simp [intOf]; omega⟩
        · obtain rfl : k = fr.length := by omega
          have HL2 := Lib.hid (hL.lp2 (by omega))
          clear hL HL0 hlt hk
          go_wp2_with fail
          go_loopw [13] (fun x wr => ∃ i : Nat, i ≤ 80 ∧ x = .int .i64 i ∧ Lp2 a P p c T fr.length w1 wr i) (fun x _ => 81 - (intOf x).toNat)
          case atStart => exact ⟨0, Nat.zero_le _, rfl, HL2.out⟩
          case round =>
            obtain ⟨i, hi, rfl, hL⟩ := hrel
            obtain ⟨N, cc, hpo, hwf, htk, hlen, htd⟩ := hL.ex
            obtain ⟨T', hx, hg, hkp⟩ := hpo
            have hpl := hwf.pl
            have hfl := hwf.fl
            have KF := fun (u : World) (hb : Below wr.heap.size wr u) => Lib.hid (flying_at a 64 T' N u (hx.below hb) (by omega) (by omega) (by omega))
            unfold CloneE at KF
            have HX := Lib.hid hx
            have HG := Lib.hid hg
            have HK := Lib.hid hkp
            have HW := Lib.hid hwf
            have HTK := Lib.hid htk
            have HLE := Lib.hid hlen
            have HTD := Lib.hid htd
            have HBL := Lib.hid (hL.below HB1.out HT.out)
            have HHF := Lib.hid hfc
            have HHO := Lib.hid hoc
            have HL := Lib.hid hL
            have hi0 : (0 : Int) ≤ (i : Int) := by omega
            have hi1 : (i : Int) ≤ 80 := by omega
            by_cases hfly : 0 < N.fl.length
            · have hf1 : (0 : Int) < (N.fl.length : Int) := by omega
              have hf2 : (N.fl.length : Int) ≤ 1000 := by omega
              clear hx hg hkp hwf htk hlen htd hL hfc hoc hpl hfl HL2
              go_wp2_with fail
              refine (KF _ (Below.refl _ _)).out.mono ?_
              rintro e w2 ⟨A3, cap3, rfl, ho3, hb3⟩
              have HB3 := Lib.hid hb3
              clear ho3 hb3
              by_cases hord : i < ord.length
              · have hd1 : (i : Int) < (ord.length : Int) := by omega
                obtain ⟨b2, off2, rfl, hcell⟩ := HHO.out (by omega)
                have x1 := (HBL.out.cell (World.block_lt_of_cell? w _ (hcell i hord))).trans (hcell i hord)
                have lx := World.block_lt_of_cell? wr _ x1
                have x2 := (HB3.out.cell lx).trans x1
                obtain ⟨y, hy⟩ : ∃ y, ord[i] = y := ⟨_, rfl⟩
                rw [hy] at x1 x2
                obtain ⟨kk, hkk⟩ : ∃ kk : Nat, y % (N.fl.length : Int) = kk := ⟨(y % (N.fl.length : Int)).toNat, by have := Int.emod_nonneg y (show (N.fl.length : Int) ≠ 0 by omega); omega⟩
                have hkl : kk < N.fl.length := by have := Int.emod_lt_of_pos y hf1; omega
                have KM := fun u => Lib.hid (mod_up y N.fl.length u (by omega) (by omega))
                rw [hkk] at KM
                have KD := fun (u : World) (hb : Below wr.heap.size wr u) => Lib.hid (deliver_at a P 64 T' N kk u (HX.out.below hb) HW.out hP8 hkl)
                have KE := Lib.hid (fun (u : World) (hb : Below wr.heap.size wr u) (w' : World) (h : NetPost a 64 T' (delN N kk N.fl[kk]) u w') => Lp2.next (i := i) HG.out (HK.out.then hb) HW.out HTK.out HLE.out HTD.out hpP hc64 hkl h)
                have hb2d := HB3.out.drew
                have hz2 : wr.heap.size ≤ w2.heap.size := HB3.out.size
                dsimp only at lx
                clear hy hkk x1 hcell
                go_wp2_with fail
                go_region_held3 (fun w' => w'.cell? ⟨b2, off2 + i, none⟩ = some (.int .i64 y))
                  (first | go_keep | (rw [hb4.cell (by simp; omega)]; assumption))
                  (first
                    | (go_at_call 11; refine (KF _ hb2d).out.mono ?_; rintro e w3 ⟨A4, cap4, rfl, ho4, hb4⟩)
                    | (go_at_call 9; refine (KM _).out.mono ?_; rintro e w4 ⟨rfl, rfl⟩))
                go_wp2_with fail
                have hb34 : Below wr.heap.size wr w3 := hb2d.trans (hb4.mono hz2)
                refine (KD _ hb34).out.mono ?_
                rintro e w5 ⟨rfl, hp5⟩
                have KE2 := Lib.hid (KE.out _ hb34 _ hp5)
                have hi2 : i + 1 ≤ 80 := by
                  have h1 := HTD.out
                  have h2 : todo N ≠ 0 := fun e => by have := todo_zero e; omega
                  omega
                clear hp5 KE KD hb34 hb4 ho4 hb2d x2 KM
                go_wp2_with fail
                exact ⟨⟨i + 1, hi2, by go_num, KE2.out⟩, by simp [intOf]; omega⟩
              · have hd1 : ¬ ((i : Int) < (ord.length : Int)) := by omega
                have KD := Lib.hid (deliver_at a P 64 T' N 0 w2 (HX.out.below HB3.out) HW.out hP8 hfly)
                have KE := Lib.hid (fun (w' : World) (h : NetPost a 64 T' (delN N 0 N.fl[0]) w2 w') => Lp2.next (i := i) HG.out (HK.out.then HB3.out) HW.out HTK.out HLE.out HTD.out hpP hc64 hfly h)
                go_wp2_with fail
                refine KD.out.mono ?_
                rintro e w3 ⟨rfl, hp3⟩
                have KE2 := Lib.hid (KE.out _ hp3)
                have hi2 : i + 1 ≤ 80 := by
                  have h1 := HTD.out
                  have h2 : todo N ≠ 0 := fun e => by have := todo_zero e; omega
                  omega
                clear hp3 KE KD
                go_wp2_with fail
                exact ⟨⟨i + 1, hi2, by go_num, KE2.out⟩, by simp [intOf]; omega⟩
            · have hl0 : N.fl.length = 0 := by omega
              have hf0 : ¬ ((0 : Int) < (N.fl.length : Int)) := by omega
              obtain ⟨E1, E2, E3⟩ := tk_end htk (List.eq_nil_of_length_eq_zero hl0)
              have hmk := make_bools fr.length (by omega)
              have hn40 : (fr.length : Int) ≤ 40 := by omega
              have H1 := Lib.hid E1
              have H2 := Lib.hid E2
              have H3 := Lib.hid E3
              have HTL := Lib.hid hx.lt
              rw [hl0] at KF
              clear hx hg hkp hwf htk hlen htd hL hfc hoc hfl HL2 E1 E2 E3 hl0 hf0 hfly
              go_wp2_with fail
              refine (KF _ (Below.refl _ _)).out.mono ?_
              rintro e w2 ⟨A3, cap3, rfl, ho3, hb3⟩
              have HL3 := Lib.hid (show Lp3 a w2.heap.size fr.length T' N w (w2.alloc (.cells (boolsV (List.replicate fr.length false)) 4)) 0 from
                ⟨(HX.out.below hb3).below ((Below.refl _ _).alloc (Nat.le_refl _) _), by rw [seen_zero]; exact heap_alloc_new w2 _, (HBL.out.trans (hb3.mono HBL.out.size)).alloc (Nat.le_trans HBL.out.size hb3.size) _⟩)
              have hsT : w2.heap.size ∉ T' := fun hm => by
                have h1 := HTL.out _ hm
                have h2 := hb3.size
                omega
              have hws : w.heap.size ≤ w2.heap.size := Nat.le_trans HBL.out.size hb3.size
              have HST := Lib.hid hsT
              have HWS := Lib.hid hws
              clear ho3 hb3 hsT hws KF
              go_wp2_with fail
              go_loopw [16] (fun x wr => ∃ j : Nat, j ≤ fr.length ∧ x = .int .i64 j ∧ Lp3 a w2.heap.size fr.length T' N w wr j) (fun x _ => fr.length - (intOf x).toNat)
              case atStart => exact ⟨0, Nat.zero_le _, rfl, HL3.out⟩
              case round =>
                obtain ⟨j, hj, rfl, hL⟩ := hrel
                by_cases hlt : j < fr.length
                · have hlN : N.hs.length = fr.length := HLE.out
                  have hjN : j < N.hs.length := by omega
                  have hv := H3.out j hjN
                  obtain ⟨v, hve⟩ : ∃ v : Nat, N.hs[j].val = v := ⟨N.hs[j].val.toNat, by omega⟩
                  have hvn : v < fr.length := by omega
                  have KV := Lib.hid (value_of a 64 T' N j wr hL.nx (by omega) (by omega) hjN (by omega) (H1.out j hjN))
                  rw [hve] at KV
                  have hsa := bools_at (seen_at (n := fr.length) (vs := N.hs.map (fun x : Hd => x.val)) hvn (by simpa using hjN) (by simpa using hve) H2.out)
                  have KX := Lib.hid (fun (u : World) (hb : Below wr.heap.size wr u) => (hb.cell (p := ⟨w2.heap.size, v, none⟩) (blk_lt hL.sn)).trans ((blk_cell hL.sn v).trans hsa))
                  have KY := Lib.hid (fun (u : World) (hb : Below wr.heap.size wr u) => (hb.frozen (p := ⟨w2.heap.size, v, none⟩) (blk_lt hL.sn)).trans (blk_free hL.sn v))
                  have KE := Lib.hid (fun (u : World) (hb : Below wr.heap.size wr u) => Lp3.next (w2 := u) hL hb HST.out HWS.out hvn hjN hve)
                  have hv0 : (0 : Int) ≤ (v : Int) := by omega
                  have hv1 : (v : Int) < (fr.length : Int) := by omega
                  have hj0 : (0 : Int) ≤ (j : Int) := by omega
                  have hj1 : (j : Int) < (fr.length : Int) := by omega
                  clear hL hv hve hsa hlN hjN HL3
                  go_wp2_with fail
                  refine KV.out.mono ?_
                  rintro e w5 ⟨rfl, hb5⟩
                  have s1 := KX.out _ hb5
                  have s2 := KY.out _ hb5
                  have KE2 := Lib.hid (KE.out _ hb5)
                  clear KX KY KE KV hb5
                  go_wp2_with fail
                  exact ⟨⟨j + 1, by omega, by go_num, KE2.out⟩, by simp [intOf]; omega⟩
                · have HBE := Lib.hid hL.be
                  have hj2 : ¬ ((j : Int) < (fr.length : Int)) := by omega
                  clear hL HL3
                  go_wp2_with fail
                  refine (KA _).out.mono ?_
                  rintro e w5 ⟨rfl, hb5⟩
                  have HEND := Lib.hid (HBE.out.trans (hb5.mono HBE.out.size))
                  clear hb5
                  go_wp2_with fail
                  go_ret
                  exact ⟨rfl, HEND.out⟩
end Go.Proofs.Ytimmmbjdaibplaa
