/-
  Layer 9: the walks of word and of formal: the text of a formal.
-/
import Derived.Test.YtdmdfokkibijjaaGreatDoorSW31
import Derived.Test.YtdmdfokkibijjaaGreatDoorSP2
import Derived.Test.YtdmdfokkibijjaaGreatDoorShelf
import Derived.Laws.Concat
namespace Go.Proofs.YtdmdfokkibijjaaGreatDoor
open Go.RowKit
open Sgn
set_option linter.unusedVariables false
set_option linter.unusedSimpArgs false

set_option maxHeartbeats 4000000 in
set_option maxRecDepth 100000 in
theorem word9_any (f : F) (hf : isFormal f.k f.n = true) (w : World) :
    Calls Tryz.prog 21 #[.agg #[.string f.k, .int .i64 f.n]] w fun e w' => e = .returned (.string ⟨(wordL f).toArray⟩) ∧ Below w.heap.size w w' := by
  obtain ⟨k, n⟩ := f
  rcases formal_cases hf with ⟨rfl | rfl | rfl, rfl⟩ | ⟨rfl | rfl, rfl | rfl | rfl | rfl⟩
  iterate 3
    · go_enter Tryz.func21, Tryz.ntmps21
      go_wp2_with fail
      go_ret
      exact ⟨by unfold wordL isShaped; simp only [Lib.toList_data]; rfl, (Below.refl _ _).alloc (Nat.le_refl _) _⟩
  · have e0 : Lib.decDigits 0 = [48] := by decide +kernel
    have h0 := fun u => (Tryz.strconv_Itoa_small 0 (by decide) u)
    rw [e0] at h0
    have H0 := fun u => hide' (h0 u)
    clear h0 e0
    go_enter Tryz.func21, Tryz.ntmps21
    go_wp2_with fail
    go_quiet ((go_at_call 38; exact Calls.quiet_of_same (H0 _).out))
    go_wp2_with fail
    go_ret
    have hw : wordL ⟨⟨#[100, 111, 109, 97, 105, 110]⟩, 0⟩ = [100, 111, 109, 97, 105, 110, 32, 48] := by unfold wordL isShaped; simp only [Lib.toList_data]; decide +kernel
    exact ⟨by rw [hw]; exact congrArg (fun b => Ending.returned (.string b)) (by decide +kernel), below_draws ((Below.refl _ _).alloc (Nat.le_refl _) _) _⟩
  · have e0 : Lib.decDigits 1 = [49] := by decide +kernel
    have h0 := fun u => (Tryz.strconv_Itoa_small 1 (by decide) u)
    rw [e0] at h0
    have H0 := fun u => hide' (h0 u)
    clear h0 e0
    go_enter Tryz.func21, Tryz.ntmps21
    go_wp2_with fail
    go_quiet ((go_at_call 38; exact Calls.quiet_of_same (H0 _).out))
    go_wp2_with fail
    go_ret
    have hw : wordL ⟨⟨#[100, 111, 109, 97, 105, 110]⟩, 1⟩ = [100, 111, 109, 97, 105, 110, 32, 49] := by unfold wordL isShaped; simp only [Lib.toList_data]; decide +kernel
    exact ⟨by rw [hw]; exact congrArg (fun b => Ending.returned (.string b)) (by decide +kernel), below_draws ((Below.refl _ _).alloc (Nat.le_refl _) _) _⟩
  · have e0 : Lib.decDigits 2 = [50] := by decide +kernel
    have h0 := fun u => (Tryz.strconv_Itoa_small 2 (by decide) u)
    rw [e0] at h0
    have H0 := fun u => hide' (h0 u)
    clear h0 e0
    go_enter Tryz.func21, Tryz.ntmps21
    go_wp2_with fail
    go_quiet ((go_at_call 38; exact Calls.quiet_of_same (H0 _).out))
    go_wp2_with fail
    go_ret
    have hw : wordL ⟨⟨#[100, 111, 109, 97, 105, 110]⟩, 2⟩ = [100, 111, 109, 97, 105, 110, 32, 50] := by unfold wordL isShaped; simp only [Lib.toList_data]; decide +kernel
    exact ⟨by rw [hw]; exact congrArg (fun b => Ending.returned (.string b)) (by decide +kernel), below_draws ((Below.refl _ _).alloc (Nat.le_refl _) _) _⟩
  · have e0 : Lib.decDigits 3 = [51] := by decide +kernel
    have h0 := fun u => (Tryz.strconv_Itoa_small 3 (by decide) u)
    rw [e0] at h0
    have H0 := fun u => hide' (h0 u)
    clear h0 e0
    go_enter Tryz.func21, Tryz.ntmps21
    go_wp2_with fail
    go_quiet ((go_at_call 38; exact Calls.quiet_of_same (H0 _).out))
    go_wp2_with fail
    go_ret
    have hw : wordL ⟨⟨#[100, 111, 109, 97, 105, 110]⟩, 3⟩ = [100, 111, 109, 97, 105, 110, 32, 51] := by unfold wordL isShaped; simp only [Lib.toList_data]; decide +kernel
    exact ⟨by rw [hw]; exact congrArg (fun b => Ending.returned (.string b)) (by decide +kernel), below_draws ((Below.refl _ _).alloc (Nat.le_refl _) _) _⟩
  · have e0 : Lib.decDigits 0 = [48] := by decide +kernel
    have h0 := fun u => (Tryz.strconv_Itoa_small 0 (by decide) u)
    rw [e0] at h0
    have H0 := fun u => hide' (h0 u)
    clear h0 e0
    go_enter Tryz.func21, Tryz.ntmps21
    go_wp2_with fail
    go_quiet ((go_at_call 38; exact Calls.quiet_of_same (H0 _).out))
    go_wp2_with fail
    go_ret
    have hw : wordL ⟨⟨#[97, 114, 114, 97, 121]⟩, 0⟩ = [97, 114, 114, 97, 121, 32, 48] := by unfold wordL isShaped; simp only [Lib.toList_data]; decide +kernel
    exact ⟨by rw [hw]; exact congrArg (fun b => Ending.returned (.string b)) (by decide +kernel), below_draws ((Below.refl _ _).alloc (Nat.le_refl _) _) _⟩
  · have e0 : Lib.decDigits 1 = [49] := by decide +kernel
    have h0 := fun u => (Tryz.strconv_Itoa_small 1 (by decide) u)
    rw [e0] at h0
    have H0 := fun u => hide' (h0 u)
    clear h0 e0
    go_enter Tryz.func21, Tryz.ntmps21
    go_wp2_with fail
    go_quiet ((go_at_call 38; exact Calls.quiet_of_same (H0 _).out))
    go_wp2_with fail
    go_ret
    have hw : wordL ⟨⟨#[97, 114, 114, 97, 121]⟩, 1⟩ = [97, 114, 114, 97, 121, 32, 49] := by unfold wordL isShaped; simp only [Lib.toList_data]; decide +kernel
    exact ⟨by rw [hw]; exact congrArg (fun b => Ending.returned (.string b)) (by decide +kernel), below_draws ((Below.refl _ _).alloc (Nat.le_refl _) _) _⟩
  · have e0 : Lib.decDigits 2 = [50] := by decide +kernel
    have h0 := fun u => (Tryz.strconv_Itoa_small 2 (by decide) u)
    rw [e0] at h0
    have H0 := fun u => hide' (h0 u)
    clear h0 e0
    go_enter Tryz.func21, Tryz.ntmps21
    go_wp2_with fail
    go_quiet ((go_at_call 38; exact Calls.quiet_of_same (H0 _).out))
    go_wp2_with fail
    go_ret
    have hw : wordL ⟨⟨#[97, 114, 114, 97, 121]⟩, 2⟩ = [97, 114, 114, 97, 121, 32, 50] := by unfold wordL isShaped; simp only [Lib.toList_data]; decide +kernel
    exact ⟨by rw [hw]; exact congrArg (fun b => Ending.returned (.string b)) (by decide +kernel), below_draws ((Below.refl _ _).alloc (Nat.le_refl _) _) _⟩
  · have e0 : Lib.decDigits 3 = [51] := by decide +kernel
    have h0 := fun u => (Tryz.strconv_Itoa_small 3 (by decide) u)
    rw [e0] at h0
    have H0 := fun u => hide' (h0 u)
    clear h0 e0
    go_enter Tryz.func21, Tryz.ntmps21
    go_wp2_with fail
    go_quiet ((go_at_call 38; exact Calls.quiet_of_same (H0 _).out))
    go_wp2_with fail
    go_ret
    have hw : wordL ⟨⟨#[97, 114, 114, 97, 121]⟩, 3⟩ = [97, 114, 114, 97, 121, 32, 51] := by unfold wordL isShaped; simp only [Lib.toList_data]; decide +kernel
    exact ⟨by rw [hw]; exact congrArg (fun b => Ending.returned (.string b)) (by decide +kernel), below_draws ((Below.refl _ _).alloc (Nat.le_refl _) _) _⟩

set_option maxHeartbeats 4000000 in
set_option maxRecDepth 100000 in
theorem formal9_any (f : F) (hf : isFormal f.k f.n = true) (w : World) :
    Calls Tryz.prog 24 #[.agg #[.string f.k, .int .i64 f.n]] w fun e w' => e = .returned (.string ⟨(wordL f).toArray⟩) ∧ Below w.heap.size w w' := by
  obtain ⟨k, n⟩ := f
  have c0 : ∀ w1, Below (w.alloc (.cells #[.string k, .int .i64 n] 35)).heap.size (w.alloc (.cells #[.string k, .int .i64 n] 35)) w1 → w1.cell? ⟨w.heap.size, 0, none⟩ = some (.string k) := fun w1 hb => (hb.cell (by simp)).trans (cells_new' w #[.string k, .int .i64 n] 35 0 _ rfl rfl)
  have c1 : ∀ w1, Below (w.alloc (.cells #[.string k, .int .i64 n] 35)).heap.size (w.alloc (.cells #[.string k, .int .i64 n] 35)) w1 → w1.cell? ⟨w.heap.size, 1, none⟩ = some (.int .i64 n) := fun w1 hb => (hb.cell (by simp)).trans (cells_new' w #[.string k, .int .i64 n] 35 1 _ rfl rfl)
  have HS := fun u => hide' (rShaped_any k n u)
  have C0 := hide' c0
  have C1 := hide' c1
  clear c0 c1
  rcases formal_cases hf with ⟨rfl | rfl | rfl, rfl⟩ | ⟨rfl | rfl, rfl | rfl | rfl | rfl⟩
  · rw [isShaped_1] at HS
    go_enter Tryz.func24, Tryz.ntmps24
    go_wp2_with fail
    refine (HS _).out.mono ?_
    rintro e w1 ⟨rfl, hb⟩
    have d0 := C0.out w1 hb
    have hend := box_below hb
    clear HS hb C0 C1
    go_wp2_with fail
    go_ret
    exact ⟨by unfold wordL isShaped; simp only [Lib.toList_data]; rfl, hend⟩
  · rw [isShaped_2] at HS
    go_enter Tryz.func24, Tryz.ntmps24
    go_wp2_with fail
    refine (HS _).out.mono ?_
    rintro e w1 ⟨rfl, hb⟩
    have d0 := C0.out w1 hb
    have hend := box_below hb
    clear HS hb C0 C1
    go_wp2_with fail
    go_ret
    exact ⟨by unfold wordL isShaped; simp only [Lib.toList_data]; rfl, hend⟩
  · rw [isShaped_6] at HS
    go_enter Tryz.func24, Tryz.ntmps24
    go_wp2_with fail
    refine (HS _).out.mono ?_
    rintro e w1 ⟨rfl, hb⟩
    have d0 := C0.out w1 hb
    have hend := box_below hb
    clear HS hb C0 C1
    go_wp2_with fail
    go_ret
    exact ⟨by unfold wordL isShaped; simp only [Lib.toList_data]; rfl, hend⟩
  · rw [isShaped_4] at HS
    go_enter Tryz.func24, Tryz.ntmps24
    go_wp2_with fail
    refine (HS _).out.mono ?_
    rintro e w1 ⟨rfl, hb⟩
    have d0 := C0.out w1 hb
    have d1 := C1.out w1 hb
    have hend := box_below hb
    clear HS hb C0 C1
    go_wp2_with fail
    go_quiet (fail)
    go_wp2_with fail
    go_ret
    have hw : wordL ⟨⟨#[100, 111, 109, 97, 105, 110]⟩, 0⟩ = [100, 111, 109, 97, 105, 110, 32, 48] := by unfold wordL isShaped; simp only [Lib.toList_data]; decide +kernel
    exact ⟨by rw [hw]; exact congrArg (fun b => Ending.returned (.string b)) (by decide +kernel), below_draws hend _⟩
  · rw [isShaped_4] at HS
    go_enter Tryz.func24, Tryz.ntmps24
    go_wp2_with fail
    refine (HS _).out.mono ?_
    rintro e w1 ⟨rfl, hb⟩
    have d0 := C0.out w1 hb
    have d1 := C1.out w1 hb
    have hend := box_below hb
    clear HS hb C0 C1
    go_wp2_with fail
    go_quiet (fail)
    go_wp2_with fail
    go_ret
    have hw : wordL ⟨⟨#[100, 111, 109, 97, 105, 110]⟩, 1⟩ = [100, 111, 109, 97, 105, 110, 32, 49] := by unfold wordL isShaped; simp only [Lib.toList_data]; decide +kernel
    exact ⟨by rw [hw]; exact congrArg (fun b => Ending.returned (.string b)) (by decide +kernel), below_draws hend _⟩
  · rw [isShaped_4] at HS
    go_enter Tryz.func24, Tryz.ntmps24
    go_wp2_with fail
    refine (HS _).out.mono ?_
    rintro e w1 ⟨rfl, hb⟩
    have d0 := C0.out w1 hb
    have d1 := C1.out w1 hb
    have hend := box_below hb
    clear HS hb C0 C1
    go_wp2_with fail
    go_quiet (fail)
    go_wp2_with fail
    go_ret
    have hw : wordL ⟨⟨#[100, 111, 109, 97, 105, 110]⟩, 2⟩ = [100, 111, 109, 97, 105, 110, 32, 50] := by unfold wordL isShaped; simp only [Lib.toList_data]; decide +kernel
    exact ⟨by rw [hw]; exact congrArg (fun b => Ending.returned (.string b)) (by decide +kernel), below_draws hend _⟩
  · rw [isShaped_4] at HS
    go_enter Tryz.func24, Tryz.ntmps24
    go_wp2_with fail
    refine (HS _).out.mono ?_
    rintro e w1 ⟨rfl, hb⟩
    have d0 := C0.out w1 hb
    have d1 := C1.out w1 hb
    have hend := box_below hb
    clear HS hb C0 C1
    go_wp2_with fail
    go_quiet (fail)
    go_wp2_with fail
    go_ret
    have hw : wordL ⟨⟨#[100, 111, 109, 97, 105, 110]⟩, 3⟩ = [100, 111, 109, 97, 105, 110, 32, 51] := by unfold wordL isShaped; simp only [Lib.toList_data]; decide +kernel
    exact ⟨by rw [hw]; exact congrArg (fun b => Ending.returned (.string b)) (by decide +kernel), below_draws hend _⟩
  · rw [isShaped_5] at HS
    go_enter Tryz.func24, Tryz.ntmps24
    go_wp2_with fail
    refine (HS _).out.mono ?_
    rintro e w1 ⟨rfl, hb⟩
    have d0 := C0.out w1 hb
    have d1 := C1.out w1 hb
    have hend := box_below hb
    clear HS hb C0 C1
    go_wp2_with fail
    go_quiet (fail)
    go_wp2_with fail
    go_ret
    have hw : wordL ⟨⟨#[97, 114, 114, 97, 121]⟩, 0⟩ = [97, 114, 114, 97, 121, 32, 48] := by unfold wordL isShaped; simp only [Lib.toList_data]; decide +kernel
    exact ⟨by rw [hw]; exact congrArg (fun b => Ending.returned (.string b)) (by decide +kernel), below_draws hend _⟩
  · rw [isShaped_5] at HS
    go_enter Tryz.func24, Tryz.ntmps24
    go_wp2_with fail
    refine (HS _).out.mono ?_
    rintro e w1 ⟨rfl, hb⟩
    have d0 := C0.out w1 hb
    have d1 := C1.out w1 hb
    have hend := box_below hb
    clear HS hb C0 C1
    go_wp2_with fail
    go_quiet (fail)
    go_wp2_with fail
    go_ret
    have hw : wordL ⟨⟨#[97, 114, 114, 97, 121]⟩, 1⟩ = [97, 114, 114, 97, 121, 32, 49] := by unfold wordL isShaped; simp only [Lib.toList_data]; decide +kernel
    exact ⟨by rw [hw]; exact congrArg (fun b => Ending.returned (.string b)) (by decide +kernel), below_draws hend _⟩
  · rw [isShaped_5] at HS
    go_enter Tryz.func24, Tryz.ntmps24
    go_wp2_with fail
    refine (HS _).out.mono ?_
    rintro e w1 ⟨rfl, hb⟩
    have d0 := C0.out w1 hb
    have d1 := C1.out w1 hb
    have hend := box_below hb
    clear HS hb C0 C1
    go_wp2_with fail
    go_quiet (fail)
    go_wp2_with fail
    go_ret
    have hw : wordL ⟨⟨#[97, 114, 114, 97, 121]⟩, 2⟩ = [97, 114, 114, 97, 121, 32, 50] := by unfold wordL isShaped; simp only [Lib.toList_data]; decide +kernel
    exact ⟨by rw [hw]; exact congrArg (fun b => Ending.returned (.string b)) (by decide +kernel), below_draws hend _⟩
  · rw [isShaped_5] at HS
    go_enter Tryz.func24, Tryz.ntmps24
    go_wp2_with fail
    refine (HS _).out.mono ?_
    rintro e w1 ⟨rfl, hb⟩
    have d0 := C0.out w1 hb
    have d1 := C1.out w1 hb
    have hend := box_below hb
    clear HS hb C0 C1
    go_wp2_with fail
    go_quiet (fail)
    go_wp2_with fail
    go_ret
    have hw : wordL ⟨⟨#[97, 114, 114, 97, 121]⟩, 3⟩ = [97, 114, 114, 97, 121, 32, 51] := by unfold wordL isShaped; simp only [Lib.toList_data]; decide +kernel
    exact ⟨by rw [hw]; exact congrArg (fun b => Ending.returned (.string b)) (by decide +kernel), below_draws hend _⟩

end Go.Proofs.YtdmdfokkibijjaaGreatDoor
