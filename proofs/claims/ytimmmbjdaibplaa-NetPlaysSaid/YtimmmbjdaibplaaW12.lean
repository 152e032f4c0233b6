/-
  Layer 16: the walk of Awake.
-/
import Derived.Test.YtimmmbjdaibplaaW11
namespace Go.Proofs.Ytimmmbjdaibplaa
open Go.RowKit
open Nt
set_option linter.unusedVariables false
set_option linter.unusedSimpArgs false

def aw0 : Nt.Net := ⟨List.replicate 2 (List.replicate 1 0), [], [], []⟩
def aw1 : Nt.Net := reqN aw0 ⟨0, 1, 1, 0, 5, 0⟩
theorem aw1_fl : 0 < aw1.fl.length := by decide
def aw2 : Nt.Net := delN aw1 0 aw1.fl[0]
def aw3 : Nt.Net := iterD 1 aw2
theorem wf_aw0 : Wf 2 1 aw0 := ⟨rfl, (by simp [aw0]), (fun m hm => by simp [aw0] at hm), (by simp [aw0]), (by simp [aw0, reqs]), (by simp [aw0])⟩
theorem wf_aw1 : Wf 2 1 aw1 := (wf_req wf_aw0 (by decide) (by decide) (by decide) (by decide) (by decide) (by decide) (by decide) (by decide) (by decide)).1
theorem wf_aw2 : Wf 2 1 aw2 := (wf_del wf_aw1 aw1_fl).1
theorem todo_aw2 : todo aw2 = 1 := by decide
theorem hs_aw2 : aw2.hs.length = 1 := rfl
theorem dn_aw2 : (aw2.hs[0]'(by rw [hs_aw2]; omega)).dn = false := rfl
theorem cell_aw2 : getC aw2.cs 1 0 = 5 := rfl
theorem hs_aw3 : aw3.hs.length = 1 := rfl
theorem dn_aw3 : (aw3.hs[0]'(by rw [hs_aw3]; omega)).dn = true := rfl
theorem wf_aw3 : aw3.cs.length = 2 := rfl
theorem NetPost.below {a C : Nat} {T : List Nat} {N : Nt.Net} {w wr w' : World} (h : NetPost a C T N w wr) (hb : Below wr.heap.size wr w') : NetPost a C T N w w' := by
  obtain ⟨T', hx, hg, hk⟩ := h
  exact ⟨T', hx.below hb, hg, hk.trans (Keeps.of_below (T := T) hb) (Grows.refl T w)⟩

theorem wf_ce {P C : Nat} {N : Nt.Net} (h : Wf P C N) : ∀ r ∈ N.cs, r.length = C := h.ce
set_option maxHeartbeats 8000000 in
set_option maxRecDepth 100000 in
theorem awake_at (w : World) : Calls Try.prog 8 #[] w fun e w' => e = .returned (.bool true) ∧ Below w.heap.size w w' := by
  have K := Lib.hid (new_at 2 1 w (by decide) (by decide) (by decide) (by decide))
  go_enter Try.func8, Try.ntmps8
  go_wp2_with fail
  refine K.out.mono ?_
  rintro e w1 ⟨a, T, rfl, hx0, hT, hb1⟩
  have hB := Lib.hid hb1
  have HT := Lib.hid hT
  have K1 := Lib.hid (put_at a 1 T aw0 0 5 1 0 w1 hx0 (wf_ce wf_aw0) (by decide) (by decide) (by decide) (by decide) (by decide) (by decide) (by decide) (by decide))
  clear hx0 hT hb1 K
  go_wp2_with fail
  refine K1.out.mono ?_
  rintro e w2 ⟨rfl, hp1⟩
  obtain ⟨T1, hx1, hg1, hk1⟩ := id hp1
  have K2 := Lib.hid (deliver_at a 2 1 T1 aw1 0 w2 hx1 wf_aw1 (by decide) aw1_fl)
  have HG1 := Lib.hid hg1
  have HK1 := Lib.hid hk1
  clear K1 hp1 hx1 hg1 hk1
  go_wp2_with fail
  refine K2.out.mono ?_
  rintro e w3 ⟨rfl, hp2⟩
  have HP2 := Lib.hid (NetPost.from HK1.out HG1.out hp2)
  obtain ⟨T2, hx2, hg2, hk2⟩ := HP2.out
  have K3 := Lib.hid (cell_of a 1 T2 aw2 1 0 w3 hx2 (wf_ce wf_aw2) (by decide) (by decide) (by decide))
  rw [cell_aw2] at K3
  have K4 := Lib.hid (done_of a 1 T2 aw2 0 w3 hx2 (by decide) (by decide) (by decide) (by decide))
  rw [dn_aw2] at K4
  have HX2 := Lib.hid hx2
  have HG2 := Lib.hid hg2
  have HK2 := Lib.hid hk2
  clear K2 hp2 HG1 HK1 hx2 hg2 hk2 HP2
  go_wp2_with fail
  refine K3.out.mono ?_
  rintro e w4 ⟨rfl, rfl⟩
  clear K3
  go_wp2_with fail
  refine K4.out.mono ?_
  rintro e w5 ⟨rfl, hb5⟩
  have K5 := Lib.hid (drain_at a 2 1 T2 aw2 w5 (HX2.out.below hb5) wf_aw2 (by decide) (by decide))
  have HB5 := Lib.hid hb5
  clear K4 hb5
  go_wp2_with fail
  refine K5.out.mono ?_
  rintro e w6 ⟨rfl, hp6⟩
  rw [todo_aw2] at hp6 ⊢
  obtain ⟨T3, hx3, hg3, hk3⟩ := hp6
  have K6 := Lib.hid (done_of a 1 T3 aw3 0 w6 hx3 (by decide) (by decide) (by decide) (by decide))
  rw [dn_aw3] at K6
  have hk16 := HK2.out.trans ((Keeps.of_below (T := T2) HB5.out).trans hk3 (Grows.refl _ _)) HG2.out
  have HK6 := Lib.hid hk16
  clear K5 hx3 hg3 hk3 hk16 HX2 HG2 HK2 HB5
  go_wp2_with fail
  refine K6.out.mono ?_
  rintro e w7 ⟨rfl, hb7⟩
  have hend : Below w.heap.size w w7 := hB.out.trans ((HK6.out.below hB.out.size HT.out).trans (hb7.mono (Nat.le_trans hB.out.size HK6.out.size)))
  have HEND := Lib.hid hend
  clear K6 hb7 hend HK6 hB HT
  go_wp2_with fail
  go_ret
  exact ⟨rfl, HEND.out⟩
end Go.Proofs.Ytimmmbjdaibplaa
