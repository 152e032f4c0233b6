/-
  The walks of the document's answer of layer 9: are all of a list actuals, are all of a list signatures and actuals; Fits of both; the plain law that the ways of both are the same.
-/
import Derived.Test.YtdmdfokkibijjaaDoorSW8
namespace Go.Proofs.YtdmdfokkibijjaaDoor
open Go.RowKit
open Sgn
set_option linter.unusedVariables false
set_option linter.unusedSimpArgs false

theorem list_of_formal {k : ByteArray} {n : Int} (h : isFormal k n = true) : k.toList = [105, 110, 116] ∨ k.toList = [98, 111, 111, 108] ∨ k.toList = [100, 111, 109, 97, 105, 110] ∨ k.toList = [97, 114, 114, 97, 121] ∨ k.toList = [97, 110, 121] := by
  rcases kinds k with rfl | rfl | rfl | rfl | rfl | rfl | ho
  · exact .inl (by simp [Lib.toList_data])
  · exact .inr (.inl (by simp [Lib.toList_data]))
  · rw [isFormal_3] at h; cases h
  · exact .inr (.inr (.inl (by simp [Lib.toList_data])))
  · exact .inr (.inr (.inr (.inl (by simp [Lib.toList_data]))))
  · exact .inr (.inr (.inr (.inr (by simp [Lib.toList_data]))))
  · rw [isFormal_7 n ho, isType_7 n ho] at h; cases h
theorem rank_of_plain {k : ByteArray} {n : Int} (h : isActual k n = true) (hk : k.toList = [105, 110, 116] ∨ k.toList = [98, 111, 111, 108]) : n = 0 := by
  have ht : isType k n = true := by unfold isActual at h; simp at h; exact h.1
  rcases hk with hk | hk
  all_goals
    unfold isType at ht
    rw [hk] at ht
    simpa using ht
theorem not_any_actual {k : ByteArray} {n : Int} (h : isActual k n = true) : ¬ k.toList = [97, 110, 121] := by
  intro hk
  have ht : isType k n = true := by unfold isActual at h; simp at h; exact h.1
  unfold isType at ht
  rw [hk] at ht
  revert ht; simp
/-- THE PLAIN LAW: where the former is a formal, and the latter an actual, both switches go the same way. -/
theorem fits_way (f a : F) (hf : isFormal f.k f.n = true) (ha : isActual a.k a.n = true) : φF f a = φW f a := by
  unfold φF φW fitsOf wayOf
  by_cases h0 : f.k.toList = a.k.toList ∧ f.n = a.n
  · rw [if_pos h0, if_pos h0]
  · rw [if_neg h0, if_neg h0]
    by_cases h1 : f.k.toList = [105, 110, 116] ∧ a.k.toList = [98, 111, 111, 108]
    · rw [if_pos h1, if_pos h1]
    · rw [if_neg h1, if_neg h1]
      by_cases h2 : f.n = 0 ∧ f.k.toList = a.k.toList
      · rw [if_pos h2]
        obtain ⟨hn, he⟩ := h2
        rcases list_of_formal hf with h | h | h | h | h
        · exact absurd ⟨he, by rw [hn, rank_of_plain ha (.inl (he ▸ h))]⟩ h0
        · exact absurd ⟨he, by rw [hn, rank_of_plain ha (.inr (he ▸ h))]⟩ h0
        · rw [if_pos ⟨.inl h, hn, he⟩]
        · rw [if_pos ⟨.inr h, hn, he⟩]
        · exact absurd (he ▸ h) (not_any_actual ha)
      · have h3 : ¬ ((f.k.toList = [100, 111, 109, 97, 105, 110] ∨ f.k.toList = [97, 114, 114, 97, 121]) ∧ f.n = 0 ∧ f.k.toList = a.k.toList) := fun h => h2 h.2
        rw [if_neg h2, if_neg h3]

set_option maxHeartbeats 4000000 in
set_option maxRecDepth 100000 in
theorem rActuals_any (l : List F) (v : Value) (w : World) (hv : FSl w v l) :
    Calls Tryd.prog 44 #[v] w fun e w' => e = .returned (.bool (l.all (fun f : F => isActual f.k f.n))) ∧ Below w.heap.size w w' := by
  have HE := fun h => hide' (all_done (fun f : F => isActual f.k f.n) l l.length (Nat.le_refl _) h)
  have HH := fun k hk h => hide' (all_fail (fun f : F => isActual f.k f.n) l k hk h)
  obtain ⟨A, cap, rfl, hca, hma, hA⟩ := hv
  obtain ⟨V, hV⟩ : ∃ V, (l.all (fun f : F => isActual f.k f.n)) = V := ⟨_, rfl⟩
  have HV := hide' hV
  rw [hV]
  have HA : Hid (0 < l.length → ∃ b off, A = some ⟨b, off, none⟩ ∧ FCells w b off l) := hA
  have hmax : maxLen = 9223372036854775807 := rfl
  rw [hmax] at hma
  clear hA hmax hV
  go_enter Tryd.func44, Tryd.ntmps44
  go_wp2_with fail
  go_loopw [3] (fun i wr => ∃ (k : Nat), k ≤ l.length ∧ i = .int .i64 k ∧ Below w.heap.size w wr ∧ Hid (∀ x ∈ l.take k, (fun f : F => isActual f.k f.n) x = true)) (fun i _ => l.length - (intOf i).toNat)
  case atStart => exact ⟨0, Nat.zero_le _, rfl, Below.refl _ _, (fun f hf => by simp at hf)⟩
  case round =>
    obtain ⟨k, hk, rfl, hnx, hd⟩ := hrel
    by_cases hlt : k < l.length
    · obtain ⟨b, off, rfl, hCA⟩ := HA.out (by omega)
      obtain ⟨x1, x2⟩ := (hCA.on hnx) k hlt
      have HC := hide' (rIsActual_any l[k].k l[k].n wr)
      have hki : (0 : Int) ≤ (k : Int) := by omega
      have hk1 : (k : Int) < (l.length : Int) := by omega
      cases hq : (fun f : F => isActual f.k f.n) l[k]
      · have hfin := hide' (show false = V by have v := HV.out; rw [(HH k hlt hq).out] at v; simpa using v)
        have hq' : isActual l[k].k l[k].n = false := hq
        rw [hq'] at HC
        clear HE HH hCA HA hq hq' HV
        go_wp2_with fail
        refine (HC).out.mono ?_
        rintro e w1 ⟨rfl, hb⟩
        have hb1 : Below w.heap.size w w1 := hnx.trans (hb.mono hnx.size)
        clear hb hnx HC
        go_wp2_with fail
        go_ret
        exact ⟨by have e := hfin.out; subst e; rfl, hb1⟩
      · have hd' := hide' (all_upto (fun f : F => isActual f.k f.n) l k hlt hd.out hq)
        have hq' : isActual l[k].k l[k].n = true := hq
        rw [hq'] at HC
        clear HE HH hCA hq hd hq'
        go_wp2_with fail
        refine (HC).out.mono ?_
        rintro e w1 ⟨rfl, hb⟩
        have hb1 : Below w.heap.size w w1 := hnx.trans (hb.mono hnx.size)
        clear hb hnx HC
        go_wp2_with fail
        go_roundw
        case rel => exact ⟨k + 1, by omega, by go_num, hb1, hd'⟩
        case measure => simp [intOf]; omega
    · have hke : k = l.length := by omega
      have hall := (HE (by rw [← hke]; exact hd.out)).out
      have hfin := hide' (show true = V by rw [← HV.out, hall])
      clear HE HH HA hd hall HV
      go_wp2_with fail
      go_ret
      exact ⟨by have e := hfin.out; subst e; rfl, hnx⟩

set_option maxHeartbeats 4000000 in
set_option maxRecDepth 100000 in
theorem rValids_any (l : List G) (ac : List F) (v u : Value) (nm : ByteArray) (w : World) (HT : Hid (Tab w)) (HS : Hid (∀ g ∈ l, g.name.size ≤ 4611686018427387904)) (hv : GSl w v l) (HU : Hid (FSl w u ac)) :
    Calls Tryd.prog 38 #[v, .string nm, u] w fun e w' => e = .returned (.bool (l.all (fun g : G => validG g) && ac.all (fun f : F => isActual f.k f.n))) ∧ Below w.heap.size w w' := by
  have HE := fun h => hide' (all_done (fun g : G => validG g) l l.length (Nat.le_refl _) h)
  have HH := fun k hk h => hide' (all_fail (fun g : G => validG g) l k hk h)
  obtain ⟨A, cap, rfl, hca, hma, hA⟩ := hv
  obtain ⟨V, hV⟩ : ∃ V, (l.all (fun g : G => validG g) && ac.all (fun f : F => isActual f.k f.n)) = V := ⟨_, rfl⟩
  have HV := hide' hV
  rw [hV]
  have HA : Hid (0 < l.length → ∃ b off, A = some ⟨b, off, none⟩ ∧ GCells w b off l) := hA
  have hmax : maxLen = 9223372036854775807 := rfl
  rw [hmax] at hma
  clear hA hmax hV
  go_enter Tryd.func38, Tryd.ntmps38
  go_wp2_with fail
  go_loopw [7] (fun i wr => ∃ (k : Nat), k ≤ l.length ∧ i = .int .i64 k ∧ Below w.heap.size w wr ∧ Hid (∀ x ∈ l.take k, (fun g : G => validG g) x = true)) (fun i _ => l.length - (intOf i).toNat)
  case atStart => exact ⟨0, Nat.zero_le _, rfl, Below.refl _ _, (fun f hf => by simp at hf)⟩
  case round =>
    obtain ⟨k, hk, rfl, hnx, hd⟩ := hrel
    by_cases hlt : k < l.length
    · obtain ⟨b, off, rfl, hCA⟩ := HA.out (by omega)
      obtain ⟨x, x1, x2, x3, x4⟩ := (hCA.on hnx) k hlt
      have HC := hide' (rValid9_any l[k] _ wr (HT.out.on hnx) ⟨x, rfl, x4⟩ (HS.out _ (List.getElem_mem hlt)))
      have hki : (0 : Int) ≤ (k : Int) := by omega
      have hk1 : (k : Int) < (l.length : Int) := by omega
      cases hq : (fun g : G => validG g) l[k]
      · have hfin := hide' (show false = V by have v := HV.out; rw [(HH k hlt hq).out] at v; simpa using v)
        have hq' : validG l[k] = false := hq
        rw [hq'] at HC
        clear HE HH hCA HA hq hq' HV
        go_wp2_with fail
        refine (HC).out.mono ?_
        rintro e w1 ⟨rfl, hb⟩
        have hb1 : Below w.heap.size w w1 := hnx.trans (hb.mono hnx.size)
        clear hb hnx HC
        go_wp2_with fail
        go_ret
        exact ⟨by have e := hfin.out; subst e; rfl, hb1⟩
      · have hd' := hide' (all_upto (fun g : G => validG g) l k hlt hd.out hq)
        have hq' : validG l[k] = true := hq
        rw [hq'] at HC
        clear HE HH hCA hq hd hq'
        go_wp2_with fail
        refine (HC).out.mono ?_
        rintro e w1 ⟨rfl, hb⟩
        have hb1 : Below w.heap.size w w1 := hnx.trans (hb.mono hnx.size)
        clear hb hnx HC
        go_wp2_with fail
        go_roundw
        case rel => exact ⟨k + 1, by omega, by go_num, hb1, hd'⟩
        case measure => simp [intOf]; omega
    · have hke : k = l.length := by omega
      have hall := (HE (by rw [← hke]; exact hd.out)).out
      have HC := hide' (rActuals_any ac u wr (HU.out.on hnx))
      have hfin : ac.all (fun f : F => isActual f.k f.n) = V := by rw [← HV.out, hall, Bool.true_and]
      rw [hfin] at HC
      clear HE HH HA hd hall HV hfin
      go_wp2_with fail
      refine (HC).out.mono ?_
      rintro e w1 ⟨rfl, hb⟩
      have hb1 : Below w.heap.size w w1 := hnx.trans (hb.mono hnx.size)
      go_wp2_with fail
      go_ret
      exact ⟨rfl, hb1⟩

end Go.Proofs.YtdmdfokkibijjaaDoor
