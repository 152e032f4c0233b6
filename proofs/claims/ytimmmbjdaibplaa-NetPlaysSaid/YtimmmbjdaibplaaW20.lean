/-
  Layer 16: the walk of Open: how many requests of a place are not done.
-/
import Derived.Test.YtimmmbjdaibplaaW19
namespace Go.Proofs.Ytimmmbjdaibplaa
open Go.RowKit
open Nt
set_option linter.unusedVariables false
set_option linter.unusedSimpArgs false

def isOpen (p : Nat) (h : Hd) : Bool := (h.frm == (p : Int)) && !h.dn
def openN (p : Nat) (l : List Hd) : Nat := (l.filter (isOpen p)).length
theorem openN_le (p : Nat) (l : List Hd) : openN p l ≤ l.length := List.length_filter_le _ _
theorem openN_snoc (p : Nat) (l : List Hd) (k : Nat) (h : k < l.length) : openN p (l.take (k + 1)) = openN p (l.take k) + (if isOpen p l[k] = true then 1 else 0) := by
  unfold openN
  rw [List.take_succ_eq_append_getElem h, List.filter_append, List.length_append]
  by_cases hq : isOpen p l[k] = true
  · simp [hq]
  · simp [hq]
theorem openN_none (p : Nat) (l : List Hd) (h : ∀ (i : Nat) (h : i < l.length), l[i].dn = true) : openN p l = 0 := by
  unfold openN
  rw [List.length_eq_zero_iff, List.filter_eq_nil_iff]
  intro x hx
  obtain ⟨i, hi, rfl⟩ := List.getElem_of_mem hx
  simp [isOpen, h i hi]
def OpenE (p : Nat) (l : List Hd) (w : World) (e : Ending) (w' : World) : Prop := e = .returned (.tuple #[.int .i64 (openN p l), .int .i64 0]) ∧ Below w.heap.size w w'

set_option maxHeartbeats 4000000 in
set_option maxRecDepth 100000 in
theorem open_at (a C : Nat) (T : List Nat) (N : Nt.Net) (p : Nat) (w : World) (h : NetX w a C T N) (hP : N.cs.length ≤ 8) (hp : p < N.cs.length) (hn : N.hs.length ≤ 1000) :
    Calls Try.prog 15 #[.pointer (some ⟨a, 0, none⟩), .int .i64 p] w (OpenE p N.hs w) := by
  obtain ⟨bc, kc, cur, rs, vf, vh, vs, rfl, hN⟩ := h
  obtain ⟨A, cap, rfl, hA, hcap⟩ := own_form hN.ho
  obtain ⟨c0, -, c2, -⟩ := hN.cells
  have HO := Lib.hid hN.ho
  have HA := Lib.hid hA
  have K0 := Lib.hid (none_at a (some ⟨bc, 0, none⟩) N.cs.length kc w c0 (by omega) hP)
  have K2 := Lib.hid (isPlace_at a (some ⟨bc, 0, none⟩) N.cs.length kc w c0 p true (by simp; omega))
  clear hN hA c0
  go_enter Try.func15, Try.ntmps15
  go_wp2_with fail
  refine K0.out.mono ?_
  rintro e w1 ⟨rfl, rfl⟩
  go_wp2_with fail
  refine K2.out.mono ?_
  rintro e w1 ⟨rfl, rfl⟩
  clear K0 K2
  go_wp2_with fail
  go_loopw [6, 22] (fun x i wr => ∃ k : Nat, k ≤ N.hs.length ∧ i = .int .i64 k ∧ x = .int .i64 (openN p (N.hs.take k)) ∧ Below w.heap.size w wr) (fun _ i _ => N.hs.length - (intOf i).toNat)
  case atStart => exact ⟨0, Nat.zero_le _, rfl, rfl, Below.refl _ _⟩
  case round =>
    obtain ⟨k, hk, rfl, rfl, hb⟩ := hrel
    have hk0 : (0 : Int) ≤ (k : Int) := by omega
    have hk2 : (N.hs.length : Int) ≤ 1000 := by omega
    have HB := Lib.hid hb
    by_cases hlt : k < N.hs.length
    · have hk1 : (k : Int) < (N.hs.length : Int) := by omega
      obtain ⟨g, rfl⟩ := HA.out (by omega)
      have hg := (HO.out.lt g rfl).2
      have y0 := (hb.cell (p := ⟨g, k * 3 + 0, none⟩) hg).trans (own_at HO.out ((flat_at hdV_len N.hs k hlt 0 (by omega)).trans rfl))
      have y1 := (hb.cell (p := ⟨g, k * 3 + 1, none⟩) hg).trans (own_at HO.out ((flat_at hdV_len N.hs k hlt 1 (by omega)).trans rfl))
      have y2 := (hb.cell (p := ⟨g, k * 3 + 2, none⟩) hg).trans (own_at HO.out ((flat_at hdV_len N.hs k hlt 2 (by omega)).trans rfl))
      simp only [Nat.add_zero] at y0
      have hsn := openN_snoc p N.hs k hlt
      have hle := openN_le p (N.hs.take k)
      rw [List.length_take] at hle
      obtain ⟨m, hm⟩ : ∃ m : Nat, openN p (N.hs.take k) = m := ⟨_, rfl⟩
      obtain ⟨m', hm'⟩ : ∃ m : Nat, openN p (N.hs.take (k + 1)) = m := ⟨_, rfl⟩
      rw [hm] at hsn hle ⊢
      rw [hm'] at hsn
      have HM := Lib.hid hm'
      obtain ⟨x, hx⟩ : ∃ x, N.hs[k] = x := ⟨_, rfl⟩
      rw [hx] at y0 y1 y2 hsn
      obtain ⟨xf, xv, xd⟩ := x
      simp only at y0 y1 y2
      unfold isOpen at hsn
      simp only at hsn
      have hm0 : (0 : Int) ≤ (m : Int) := by omega
      have hm1 : (m : Int) ≤ 1000 := by omega
      clear hm hm' hx hb hle hg
      by_cases hf : xf = (p : Int)
      · subst hf
        cases xd
        · have e : m' = m + 1 := by simpa using hsn
          subst e
          clear hsn
          go_wp2_with fail
          exact ⟨⟨k + 1, by omega, by go_num, by rw [HM.out]; go_num, HB.out.alloc HB.out.size _⟩, by simp [intOf]; omega⟩
        · have e : m' = m := by simpa using hsn
          subst e
          clear hsn
          go_wp2_with fail
          exact ⟨⟨k + 1, by omega, by go_num, by rw [HM.out], HB.out.alloc HB.out.size _⟩, by simp [intOf]; omega⟩
      · have e : m' = m := by simpa [hf] using hsn
        have hf' : (xf == (p : Int)) = false := by simpa using hf
        subst e
        clear hsn
        go_wp2_with fail
        exact ⟨⟨k + 1, by omega, by go_num, by rw [HM.out], HB.out.alloc HB.out.size _⟩, by simp [intOf]; omega⟩
    · obtain rfl : k = N.hs.length := by omega
      rw [List.take_length]
      have hk1 : ¬ ((N.hs.length : Int) < (N.hs.length : Int)) := by omega
      clear hb
      go_wp2_with fail
      go_ret2
      exact ⟨rfl, HB.out⟩
end Go.Proofs.Ytimmmbjdaibplaa
