/-
  Layer 20: the walk of CommTexts.
-/
import Derived.Test.YtacjgphfcailmaaGreatDoorCtM19
namespace Go.Proofs.YtacjgphfcailmaaGreatDoor
open Go.RowKit Go.Sort
open Ct Mp
set_option linter.unusedVariables false
set_option linter.unusedSimpArgs false

/-- that the law has been reached -/
def AwakeOK (w : World) : Prop := ∀ u, Below w.heap.size w u → Calls Tryz.prog 5 #[] u fun e w' => e = .returned (.bool true) ∧ Below u.heap.size u w'
def TrueE (w : World) (e : Ending) (w' : World) : Prop := e = .returned (.bool true) ∧ Below w.heap.size w w'
theorem textVal (P : Int) (l : List Cnt) : ∃ (s : ByteArray) (c : Int), ∀ w e w', TextE P l w e w' → e = .returned (.tuple #[.string s, .int .i64 c]) ∧ Below w.heap.size w w' := by
  cases h : textOf P l with
  | some s => exact ⟨_, _, fun w e w' q => by unfold TextE at q; rw [h] at q; exact q⟩
  | none => exact ⟨_, _, fun w e w' q => by unfold TextE at q; rw [h] at q; exact q⟩
set_option maxHeartbeats 16000000 in
set_option maxRecDepth 100000 in
theorem main_far (l m : List Cnt) (v x : Value) (z : Int) (w : World) (hv : Cs w v l) (hx : Cs w x m) (hA : AwakeOK w) (hf : farB l = true ∨ farB m = true) :
    Calls Tryz.prog 3 #[v, x, .int .i64 z] w (TrueE w) := by
  have K1 := Lib.hid (far_at l v w hv)
  have K2 := Lib.hid (far_at m x w hx)
  have KA := Lib.hid (hA w (Below.refl _ _))
  clear hv hx hA
  cases h1 : farB l
  · rw [h1] at hf K1
    have h2 : farB m = true := by simpa using hf
    rw [h2] at K2
    clear hf h1 h2
    go_enter Tryz.func3, Tryz.ntmps3
    go_wp2_with fail
    refine K1.out.mono ?_
    rintro e w1 ⟨rfl, rfl⟩
    go_wp2_with fail
    refine K2.out.mono ?_
    rintro e w2 ⟨rfl, rfl⟩
    go_wp2_with fail
    refine KA.out.mono ?_
    rintro e w3 ⟨rfl, hb⟩
    have HB := Lib.hid hb
    clear hb
    go_wp2_with fail
    go_ret
    exact ⟨rfl, HB.out⟩
  · rw [h1] at K1
    clear hf h1 K2
    go_enter Tryz.func3, Tryz.ntmps3
    go_wp2_with fail
    refine K1.out.mono ?_
    rintro e w1 ⟨rfl, rfl⟩
    go_wp2_with fail
    refine KA.out.mono ?_
    rintro e w3 ⟨rfl, hb⟩
    have HB := Lib.hid hb
    clear hb
    go_wp2_with fail
    go_ret
    exact ⟨rfl, HB.out⟩
set_option maxHeartbeats 16000000 in
set_option maxRecDepth 100000 in
theorem main_near (l m : List Cnt) (v x : Value) (z : Int) (w : World) (hv : Cs w v l) (hx : Cs w x m) (hT : PowTab w) (hA : AwakeOK w) (h1 : farB l = false) (h2 : farB m = false) :
    Calls Tryz.prog 3 #[v, x, .int .i64 z] w (TrueE w) := by
  obtain ⟨n1, l1⟩ := farB_false h1
  obtain ⟨n2, l2⟩ := farB_false h2
  have K1 := far_at l v w hv
  have K2 := far_at m x w hx
  rw [h1] at K1
  rw [h2] at K2
  have HK1 := Lib.hid K1
  have HK2 := Lib.hid K2
  obtain ⟨s, c, hs⟩ := textVal z l
  have hn : ∀ c ∈ l ++ m, near c := fun c hc => (List.mem_append.1 hc).elim (n1 c) (n2 c)
  have KT := Lib.hid ((ptext_at l v z w hv n1 l1 (itoaOK w hT)).mono fun e w' h => hs w e w' h)
  have KR := fun u (hb : Below w.heap.size w u) => Lib.hid ((rtext_at l v z u (hv.below hb) n1 l1 (itoaOK u (hT.on hb))).mono fun e w' h => hs u e w' h)
  have KS := fun u (hb : Below w.heap.size w u) => Lib.hid (sum_at l m v x u (hv.below hb) (hx.below hb) hn l1 l2)
  have KQ := fun u (hb : Below w.heap.size w u) => Lib.hid (rsum_at l m v x u (hv.below hb) (hx.below hb) hn l1 l2)
  have HA := Lib.hid hA
  clear hv hx hT hA K1 K2 hs n1 n2 hn h1 h2
  go_enter Tryz.func3, Tryz.ntmps3
  go_wp2_with fail
  refine HK1.out.mono ?_
  rintro e w1 ⟨rfl, rfl⟩
  go_wp2_with fail
  refine HK2.out.mono ?_
  rintro e w1 ⟨rfl, rfl⟩
  go_wp2_with fail
  refine KT.out.mono ?_
  rintro e w1 ⟨rfl, hb1⟩
  have R1 := KR w1 hb1
  have HB1 := Lib.hid hb1
  clear hb1
  go_wp2_with fail
  refine R1.out.mono ?_
  rintro e w2 ⟨rfl, hb2⟩
  have hb2' := HB1.out.trans (hb2.mono HB1.out.size)
  clear hb2
  have S1 := KS w2 hb2'
  have HB2 := Lib.hid hb2'
  clear hb2' R1
  go_wp2_with fail
  refine S1.out.mono ?_
  rintro e w3 ⟨u3, M, s3, rfl, hc3, hp3, hq3, hm3, hb3⟩
  have hb3' := HB2.out.trans (hb3.mono HB2.out.size)
  have Q1 := KQ w3 hb3'
  have H3 := Lib.hid (And.intro hc3 (And.intro hp3 (And.intro hq3 (And.intro hm3 hb3'))))
  clear hc3 hp3 hq3 hm3 hb3 hb3' S1
  go_wp2_with fail
  refine Q1.out.mono ?_
  rintro e w4 ⟨u4, m4, rfl, hc4, hp4, hs4, hb4⟩
  have hb4' := H3.out.2.2.2.2.trans (hb4.mono H3.out.2.2.2.2.size)
  have he := sums_same (s2 := []) H3.out.2.2.2.1 hs4 H3.out.2.1 H3.out.2.2.1 hp4
  rw [← he] at hc4
  have E1 := Lib.hid (same_at s3 u3 u4 w4 (H3.out.1.below hb4) hc4)
  have HB4 := Lib.hid hb4'
  clear hc4 hp4 hs4 hb4 hb4' he Q1
  go_wp2_with fail
  refine E1.out.mono ?_
  rintro e w5 ⟨rfl, nq, rfl⟩
  have hb5 : Below w.heap.size w (w4.drewN nq) := ⟨HB4.out.os, HB4.out.tape, HB4.out.output, HB4.out.size, HB4.out.block⟩
  have A1 := Lib.hid (HA.out _ hb5)
  have HB5 := Lib.hid hb5
  clear hb5 E1
  go_wp2_with fail
  refine A1.out.mono ?_
  rintro e w6 ⟨rfl, hb6⟩
  have HE := Lib.hid (show TrueE w (.returned (.bool true)) w6 from ⟨rfl, HB5.out.trans (hb6.mono HB5.out.size)⟩)
  clear hb6 A1
  go_wp2_with fail
  go_ret
  exact HE.out
theorem main_at (l m : List Cnt) (v x : Value) (z : Int) (w : World) (hv : Cs w v l) (hx : Cs w x m) (hT : PowTab w) (hA : AwakeOK w) :
    Calls Tryz.prog 3 #[v, x, .int .i64 z] w (TrueE w) := by
  cases h1 : farB l
  · cases h2 : farB m
    · exact main_near l m v x z w hv hx hT hA h1 h2
    · exact main_far l m v x z w hv hx hA (.inr h2)
  · exact main_far l m v x z w hv hx hA (.inl h1)
end Go.Proofs.YtacjgphfcailmaaGreatDoor
