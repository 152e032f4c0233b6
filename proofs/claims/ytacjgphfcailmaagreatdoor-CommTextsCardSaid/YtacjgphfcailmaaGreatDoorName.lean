/-
  The walks of Valid and IsName of layer 1, for the seats that reach names alone. (Out of wip/tok's W17 and W25.)
-/
import Derived.Test.YtacjgphfcailmaaGreatDoorW8
import Derived.Test.YtacjgphfcailmaaGreatDoorPlain3
namespace Go.Proofs.YtacjgphfcailmaaGreatDoor
open Go.RowKit
open Tok
set_option linter.unusedVariables false

def valid (k t : ByteArray) : Bool := decide (first t.data.toList = some (k.data.toList, t.data.toList))
theorem mk_inj (l : List UInt8) (b : ByteArray) : ((⟨l.toArray⟩ : ByteArray).toList == b.toList) = decide (l = b.data.toList) := by
  rw [Lib.toList_data, Lib.toList_data, Bool.eq_iff_iff]
  simp

set_option maxHeartbeats 1000000 in
theorem valid_any (k t : ByteArray) (n : Int) (w : World) (hT : Tab w) (ht : t.size ≤ 4611686018427387904) :
    Calls Tryz.prog 238 #[.agg #[.string k, .string t, .int .i64 n]] w fun e w' => e = .returned (.bool (valid k t)) ∧ Below w.heap.size w w' := by
  have HT := fun o => hide' (hT.alloc o)
  clear hT
  go_enter Tryz.func238, Tryz.ntmps238
  go_wp2_with fail
  refine (first_any t _ (HT _).out ht).mono ?_
  rintro e w1 ⟨hf, hb1⟩
  have hz := hb1.size
  simp only [World.size_alloc] at hz
  have c0 : ∀ o, (w1.alloc o).cell? ⟨w.heap.size, 0, none⟩ = some (.string k) := fun o => (World.cell?_alloc_lt _ _ _ (show w.heap.size < w1.heap.size by omega)).trans ((hb1.cell (by simp)).trans (cells_new' w #[.string k, .string t, .int .i64 n] 383 0 _ rfl rfl))
  have c1 : ∀ o, (w1.alloc o).cell? ⟨w.heap.size, 1, none⟩ = some (.string t) := fun o => (World.cell?_alloc_lt _ _ _ (show w.heap.size < w1.heap.size by omega)).trans ((hb1.cell (by simp)).trans (cells_new' w #[.string k, .string t, .int .i64 n] 383 1 _ rfl rfl))
  have hbw : Below w.heap.size w w1 := Below.trans ((Below.refl _ _).alloc (Nat.le_refl _) _) (hb1.mono (by simp))
  rcases hf with ⟨k1, t1, hf, rfl⟩ | ⟨hf, k1, t1, rfl⟩
  · have hv : Hid (valid k t = (decide (k1 = k.data.toList) && decide (t1 = t.data.toList))) := by
      show _ = _
      unfold valid
      rw [hf]
      simp
    obtain ⟨kb, hkb⟩ : ∃ kb : ByteArray, kb = ⟨k1.toArray⟩ := ⟨_, rfl⟩
    obtain ⟨tb, htb⟩ : ∃ tb : ByteArray, tb = ⟨t1.toArray⟩ := ⟨_, rfl⟩
    have ek := mk_inj k1 k
    have et := mk_inj t1 t
    rw [← hkb] at ek ⊢
    rw [← htb] at et ⊢
    rw [← ek, ← et] at hv
    clear hkb htb ek et hf hb1
    go_wp2_with fail
    all_goals (go_ret; refine ⟨?_, hbw.alloc hbw.size _⟩; rw [hv.out]; simp_all)
  · have hv : Hid (valid k t = false) := by
      show _ = _
      unfold valid
      rw [hf]; simp
    clear hf hb1
    go_wp2_with fail
    go_ret
    exact ⟨by rw [hv.out]; rfl, hbw.alloc hbw.size _⟩

def bName : ByteArray := ⟨#[110, 97, 109, 101]⟩
theorem valid_name (s : ByteArray) : valid bName s = isName s.data.toList := by
  unfold valid
  rw [Bool.eq_iff_iff, decide_eq_true_eq]
  exact first_name _

theorem isName_any (s : ByteArray) (w : World) (hT : Tab w) (hs : s.size ≤ 4611686018427387904) :
    Calls Tryz.prog 179 #[.string s] w fun e w' => e = .returned (.bool (isName s.data.toList)) ∧ Below w.heap.size w w' := by
  have HV := hide' (valid_any bName s 0 w hT hs)
  rw [valid_name] at HV
  go_enter Tryz.func179, Tryz.ntmps179
  go_wp2_with fail
  refine HV.out.mono ?_
  rintro e w1 ⟨rfl, hb⟩
  go_wp2_with fail
  go_ret
  exact ⟨rfl, hb⟩


end Go.Proofs.YtacjgphfcailmaaGreatDoor
