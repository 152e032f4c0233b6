/-
  The walks of the closure of Resolve of layer 9, and of IndexFunc and ContainsFunc over numbers.
-/
import Derived.Test.YtdmdfokkibijjaaGreatDoorSW12
namespace Go.Proofs.YtdmdfokkibijjaaGreatDoor
open Go.RowKit
open Sgn
set_option linter.unusedVariables false
set_option linter.unusedSimpArgs false

theorem waysOf_ok (g : G) (ac : List F) (v u : Value) (w : World) (hv : GV w v g) (hu : FSl w u ac) (h50 : g.fs.length ≤ 1000) (hok : waysOk φF g.fs ac = true) :
    Calls Tryz.prog 27 #[v, u] w fun e w' => ∃ v', e = .returned (.tuple #[v', .bool true]) ∧ ISl w' v' (wl φF g.fs ac) ∧ Below w.heap.size w w' := by
  refine (waysOf_any g ac v u w hv hu h50).mono ?_
  rintro e w' ⟨h, hb⟩
  rcases h with ⟨h1, _⟩ | ⟨_, v', rfl, hI⟩
  · rw [hok] at h1; cases h1
  · exact ⟨v', rfl, hI, hb⟩

set_option maxHeartbeats 4000000 in
set_option maxRecDepth 100000 in
theorem resolve1_any (l : List G) (ac : List F) (vs : List Int) (i j : Nat) (L U V : Value) (bl ba bi bv : Nat) (w : World)
    (hL : GSl w L l) (hU : FSl w U ac) (hV : ISl w V vs) (cl : w.cell? ⟨bl, 0, none⟩ = some L) (ca : w.cell? ⟨ba, 0, none⟩ = some U) (ci : w.cell? ⟨bi, 0, none⟩ = some (.int .i64 i)) (cv : w.cell? ⟨bv, 0, none⟩ = some V)
    (hj : j < l.length) (hok : waysOk φF l[j].fs ac = true) (hvl : vs.length = (wl φF l[j].fs ac).length) (hlen : l[j].fs.length ≤ 1000) :
    Calls Tryz.prog 29 #[.int .i64 j, .pointer (some ⟨bl, 0, none⟩), .pointer (some ⟨ba, 0, none⟩), .pointer (some ⟨bi, 0, none⟩), .pointer (some ⟨bv, 0, none⟩)] w fun e w' =>
      e = .returned (.bool (!(decide (j = i)) && !(betterL vs (wl φF l[j].fs ac)))) ∧ Below w.heap.size w w' := by
  have HU := hide' hU
  have HV := hide' hV
  obtain ⟨A, cap, rfl, hca, hma, hA⟩ := hL
  obtain ⟨b, off, rfl, hCA⟩ := hA (by omega)
  obtain ⟨x, x1, x2, x3, x4⟩ := hCA j hj
  obtain ⟨B, cap2, rfl, hcb, hmb, hB⟩ := hU
  obtain ⟨C, cap3, rfl, hcc, hmc, hC⟩ := hV
  obtain ⟨A', cap', rfl, r1, r2, r3⟩ := x4
  have X4 : FSl w (.slice A' l[j].fs.length cap') l[j].fs := ⟨A', cap', rfl, r1, r2, r3⟩
  have HW := fun u (hb : Below w.heap.size w u) => hide' (waysOf_ok l[j] ac (.agg #[.string l[j].name, .slice A' l[j].fs.length cap', .string l[j].res]) _ u ⟨_, rfl, X4.on hb⟩ (HU.out.on hb) hlen hok)
  have HB := fun v' u (hb : Below w.heap.size w u) (hi : ISl u v' (wl φF l[j].fs ac)) => hide' (better_any vs (wl φF l[j].fs ac) _ v' u (HV.out.on hb) hi hvl)
  obtain ⟨W, hWl⟩ : ∃ W, wl φF l[j].fs ac = W := ⟨_, rfl⟩
  rw [hWl] at HW HB hvl ⊢
  obtain ⟨q, hq⟩ : ∃ q, betterL vs W = q := ⟨_, rfl⟩
  rw [hq] at HB ⊢
  have hmax : maxLen = 9223372036854775807 := rfl
  rw [hmax] at hma hmb hmc
  obtain ⟨fs, hfs⟩ : ∃ t, l[j].fs = t := ⟨_, rfl⟩
  obtain ⟨name, hname⟩ : ∃ t, l[j].name = t := ⟨_, rfl⟩
  obtain ⟨res, hres⟩ : ∃ t, l[j].res = t := ⟨_, rfl⟩
  simp only [hfs, hname, hres] at x1 x2 x3 r1 r2 HW
  have Z1 := hide' x1
  have Z2 := hide' x2
  have Z3 := hide' x3
  have ZL := hide' cl
  have ZA := hide' ca
  have ci' := fun u (hb : Below w.heap.size w u) => (hb.cell (cell_lt ci)).trans ci
  have cv' := fun u (hb : Below w.heap.size w u) => (hb.cell (cell_lt cv)).trans cv
  have hj0 : (0 : Int) ≤ (j : Int) := by omega
  have hj1 : (j : Int) < (l.length : Int) := by omega
  clear hfs hname hres X4 r3 hCA hA hB hC hWl hq hmax hok hlen hvl HU HV
  go_enter Tryz.func29, Tryz.ntmps29
  go_wp2_with fail
  go_region_held3 (fun w' => w'.cell? ⟨b, off + j * 3, none⟩ = some (.string name) ∧ w'.cell? ⟨b, off + j * 3 + 1, none⟩ = some (.slice A' fs.length cap') ∧ w'.cell? ⟨b, off + j * 3 + 2, none⟩ = some (.string res) ∧ w'.cell? ⟨bl, 0, none⟩ = some (.slice (some ⟨b, off, none⟩) l.length cap) ∧ w'.cell? ⟨ba, 0, none⟩ = some (.slice B ac.length cap2) ∧ Below w.heap.size w w') (first | exact ⟨Z1.out, Z2.out, Z3.out, ZL.out, ZA.out, Below.refl _ _⟩ | exact ⟨Z1.out, Z2.out, Z3.out, ZL.out, ZA.out, (Below.refl _ _).drew⟩ | exact hS) (first | (go_at_call 27; refine (HW _ (held_last5 (by assumption))).out.mono ?_; rintro e2 w2 ⟨v', rfl, hIS, hb2⟩; have hS := held5 (by assumption) hb2))
  have d3 := ci' _ (held_last5 (by assumption))
  have d4 := cv' _ (held_last5 (by assumption))
  have hbS := held_last5 (by assumption)
  have HBS := HB _ _ hbS (by assumption)
  clear HB HW ci' cv'
  by_cases hji : j = i
  · have hne : ((j : Int) != (i : Int)) = false := by rw [hji]; simp
    have hres : Hid ((!(decide (j = i)) && !q) = false) := by show _ = _; simp [hji]
    clear hji
    go_wp2_with fail
    go_ret
    exact ⟨by rw [hres.out]; rfl, hbS⟩
  · have hne : ((j : Int) != (i : Int)) = true := by rw [bne_iff_ne]; omega
    have hres : Hid ((!(decide (j = i)) && !q) = !q) := by show _ = _; simp [hji]
    clear hji
    go_wp2_with fail
    refine HBS.out.mono ?_
    rintro e w3 ⟨rfl, hb3⟩
    go_wp2_with fail
    go_ret
    exact ⟨by rw [hres.out]; rfl, hbS.trans (hb3.mono hbS.size)⟩

set_option maxHeartbeats 4000000 in
set_option maxRecDepth 100000 in
theorem indexInt (is : List Int) (p : Int → Bool) (v : Value) (caps : Array Value) (w : World) (hv : ISl w v is)
    (HC : ∀ u z, Below w.heap.size w u → z ∈ is → Calls Tryz.prog 29 (#[.int .i64 z] ++ caps) u fun e w' => e = .returned (.bool (!(p z))) ∧ Below u.heap.size u w') :
    Calls Tryz.prog 47 #[v, .func (.func 29) #[] caps] w fun e w' => NoneAt p is e ∧ Below w.heap.size w w' := by
  have HE := hide' (noneAt_end p is)
  have HH := fun k hk h => hide' (noneAt_hit p is k hk h)
  obtain ⟨A, cap, rfl, hca, hma, hA⟩ := hv
  have HA : Hid (0 < is.length → ∃ b off, A = some ⟨b, off, none⟩ ∧ ICells w b off is) := hA
  have hmax : maxLen = 9223372036854775807 := rfl
  rw [hmax] at hma
  clear hA hmax
  go_enter Tryz.func47, Tryz.ntmps47
  go_wp2_with fail
  go_loopw [8] (fun i wr => ∃ (k : Nat), k ≤ is.length ∧ i = .int .i64 k ∧ Below w.heap.size w wr ∧ Hid (∀ x ∈ is.take k, p x = true)) (fun i _ => is.length - (intOf i).toNat)
  case atStart => exact ⟨0, Nat.zero_le _, rfl, Below.refl _ _, (fun f hf => by simp at hf)⟩
  case round =>
    obtain ⟨k, hk, rfl, hnx, hd⟩ := hrel
    by_cases hlt : k < is.length
    · obtain ⟨b, off, rfl, hCA⟩ := HA.out (by omega)
      have x1 : wr.cell? ⟨b, off + k, none⟩ = some (.int .i64 is[k]) := (hnx.cell (cell_lt (hCA k hlt))).trans (hCA k hlt)
      have HCk := hide' (HC wr is[k] hnx (List.getElem_mem hlt))
      cases hq : p is[k]
      · have hfin := hide' (HH k hlt hq)
        rw [hq] at HCk
        clear HE HH hCA HA hq HC
        go_wp2_with fail
        refine HCk.out.mono ?_
        rintro e w1 ⟨rfl, hb⟩
        have hb1 : Below w.heap.size w w1 := hnx.trans (hb.mono hnx.size)
        clear hb hnx HCk
        go_wp2_with fail
        go_ret
        exact ⟨hfin.out.out, hb1⟩
      · have hd' := hide' (all_upto p is k hlt hd.out hq)
        rw [hq] at HCk
        clear HE HH hCA hq hd HC
        go_wp2_with fail
        refine HCk.out.mono ?_
        rintro e w1 ⟨rfl, hb⟩
        have hb1 : Below w.heap.size w w1 := hnx.trans (hb.mono hnx.size)
        clear hb hnx HCk
        go_wp2_with fail
        go_roundw
        case rel => exact ⟨k + 1, by omega, by go_num, hb1, hd'⟩
        case measure => simp [intOf]; omega
    · have hke : k = is.length := by omega
      have hfin := hide' (HE.out (by rw [← hke]; exact hd.out))
      clear HE HH HA hd HC
      go_wp2_with fail
      go_ret
      exact ⟨hfin.out, hnx⟩

theorem containsInt (is : List Int) (p : Int → Bool) (v : Value) (caps : Array Value) (w : World) (hv : ISl w v is)
    (HC : ∀ u z, Below w.heap.size w u → z ∈ is → Calls Tryz.prog 29 (#[.int .i64 z] ++ caps) u fun e w' => e = .returned (.bool (!(p z))) ∧ Below u.heap.size u w') :
    Calls Tryz.prog 28 #[v, .func (.func 29) #[] caps] w fun e w' => e = .returned (.bool (!(is.all p))) ∧ Below w.heap.size w w' := by
  have HI := hide' (indexInt is p v caps w hv HC)
  clear HC
  go_enter Tryz.func28, Tryz.ntmps28
  go_wp2_with fail
  refine HI.out.mono ?_
  rintro e w1 ⟨⟨q, rfl, hq⟩, hb⟩
  have HQ := hide' (not_not_ge hq)
  clear hq
  go_wp2_with fail
  go_ret
  exact ⟨HQ.out, hb⟩

end Go.Proofs.YtdmdfokkibijjaaGreatDoor
