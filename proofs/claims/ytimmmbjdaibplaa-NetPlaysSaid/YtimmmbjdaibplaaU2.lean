/-
  Layer 16: the walk of call: a call of both nets.
-/
import Derived.Test.YtimmmbjdaibplaaU1
import Derived.Test.YtimmmbjdaibplaaW21
import Derived.Deep.RegionHeld3
namespace Go.Proofs.Ytimmmbjdaibplaa
open Go.RowKit
open Nt
set_option linter.unusedVariables false
set_option linter.unusedSimpArgs false

/-- what the nets are behind a call -/
def callN (P C : Nat) (N : Nt.Net) (r : Int) (o : OpD) : Nt.Net :=
  if r = 0 then reqA P C N ⟨o.f, o.t, 1, o.c, o.v, 0⟩ else if r = 1 then reqA P C N ⟨o.f, o.t, 2, o.c, 0, 0⟩ else if r = 2 then reqA P C N ⟨o.f, o.t, 3, o.c, o.v, 0⟩
  else if r = 3 ∨ r = 5 then delA N o.k else if r = 4 then iterD (todo N) N else N
theorem Good.call {P C n : Nat} {N : Nt.Net} (h : Good P C N n) (hn : n < 1000) (r : Int) (o : OpD) : Good P C (callN P C N r o) (n + 1) := by
  unfold callN
  split
  · exact h.req hn _ (by simp) (by simp)
  · split
    · exact h.req hn _ (by simp) (by simp)
    · split
      · exact h.req hn _ (by simp) (by simp)
      · split
        · exact (h.del _).mono (by omega)
        · split
          · exact (h.iter _).mono (by omega)
          · exact h.mono (by omega)
def opO (o : OpD) : Array Value := #[.int .u8 o.d, .int .i64 o.f, .int .i64 o.t, .int .i64 o.c, .int .i64 o.v, .int .i64 o.k]
def opR (o : OpD) : Int := Int.tmod o.d 8
section
variable (a b P C n : Nat) (T1 T2 : List Nat) (N : Nt.Net) (o : OpD) (w : World) (h : Pr w a b P C T1 T2 N N) (hg : Good P C N n) (hn : n < 1000) (hP0 : 1 ≤ P) (hP : P ≤ 8) (hC0 : 1 ≤ C) (hC : C ≤ 64)
include h hg hn hP0 hP hC0 hC
set_option maxHeartbeats 16000000 in
set_option maxRecDepth 100000 in
theorem call_put (hr : opR o = 0) : Calls Try.prog 22 #[.pointer (some ⟨a, 0, none⟩), .pointer (some ⟨b, 0, none⟩), .agg (opO o)] w fun e w' => e = .returned (.bool true) ∧ Both a b P C T1 T2 (reqA P C N ⟨o.f, o.t, 1, o.c, o.v, 0⟩) w w' := by
  have hUse := And.intro hn (And.intro hC0 hC)
  clear hUse
  have hH := Lib.hid h
  have hl1 := h.nx.lt
  have hl2 := h.rx.lt
  have hbx : (w.alloc (.cells (opO o) 41)).heap[w.heap.size]? = some (.cells (opO o) 41 (0, 0)) := heap_alloc_new w _
  have hB1 : Below w.heap.size w (w.alloc (.cells (opO o) 41)) := (Below.refl _ _).alloc (Nat.le_refl _) _
  have hP1 := Lib.hid (h.below hB1)
  have no1 : w.heap.size ∉ T1 := fun hm => Nat.lt_irrefl _ (hl1 _ hm)
  have no2 : w.heap.size ∉ T2 := fun hm => Nat.lt_irrefl _ (hl2 _ hm)
  have hHB := Lib.hid hB1
  have x0 : (w.alloc (.cells (opO o) 41)).cell? ⟨w.heap.size, 0, none⟩ = some (.int .u8 o.d) := blk_cell hbx 0
  have x1 : (w.alloc (.cells (opO o) 41)).cell? ⟨w.heap.size, 1, none⟩ = some (.int .i64 o.f) := blk_cell hbx 1
  have x2 : (w.alloc (.cells (opO o) 41)).cell? ⟨w.heap.size, 2, none⟩ = some (.int .i64 o.t) := blk_cell hbx 2
  have x3 : (w.alloc (.cells (opO o) 41)).cell? ⟨w.heap.size, 3, none⟩ = some (.int .i64 o.c) := blk_cell hbx 3
  have x4 : (w.alloc (.cells (opO o) 41)).cell? ⟨w.heap.size, 4, none⟩ = some (.int .i64 o.v) := blk_cell hbx 4
  have KP := Lib.hid (put_u a P C n T1 N o.f o.t o.c o.v _ hP1.out.nx hg hn hP0 hP)
  have KR := Lib.hid (fun (u : World) (T1' : List Nat) (hp : Pr u a b P C T1' T2 (reqA P C N ⟨o.f, o.t, 1, o.c, o.v, 0⟩) N) => rsend_u b P C n T2 N u hp.rx hg hn hP hC0 hC 1 o.f o.t o.c o.v (by omega) (by simp))
  unfold ReqU at KP
  unfold RReqU at KR
  obtain ⟨hh, hhe⟩ : ∃ x, reqH P C N ⟨o.f, o.t, 1, o.c, o.v, 0⟩ = x := ⟨_, rfl⟩
  obtain ⟨xx, xxe⟩ : ∃ x, reqX P C ⟨o.f, o.t, 1, o.c, o.v, 0⟩ = x := ⟨_, rfl⟩
  obtain ⟨NN, hNN⟩ : ∃ x, reqA P C N ⟨o.f, o.t, 1, o.c, o.v, 0⟩ = x := ⟨_, rfl⟩
  rw [hhe, xxe, hNN] at KP
  rw [hhe, xxe, hNN] at KR
  rw [hNN]
  clear h hl1 hl2 hbx hhe xxe hNN hg hn hP0 hP hC0 hC hB1
  unfold opR at hr
  unfold opO at *
  go_enter Try.func22, Try.ntmps22
  go_wp2_with fail
  refine KP.out.mono ?_
  rintro e w2 ⟨rfl, hp⟩
  obtain ⟨T1', h2, hg2, hk2⟩ := hP1.out.net hp
  have y1 := (hk2.cell (p := ⟨w.heap.size, 1, none⟩) (by simp) no1).trans x1
  have y2 := (hk2.cell (p := ⟨w.heap.size, 2, none⟩) (by simp) no1).trans x2
  have y3 := (hk2.cell (p := ⟨w.heap.size, 3, none⟩) (by simp) no1).trans x3
  have y4 := (hk2.cell (p := ⟨w.heap.size, 4, none⟩) (by simp) no1).trans x4
  have KR2 := Lib.hid (KR.out w2 T1' h2)
  have HB := Lib.hid (fun (w3 w4 : World) hp3 hb4 => both_of (w4 := w3) (w5 := w4) hH.out hHB.out hg2 hk2 h2 (Below.refl _ _) hp3 hb4)
  clear hp h2 hg2 hk2 KR KP hP1
  go_wp2_with fail
  refine KR2.out.mono ?_
  rintro e w3 ⟨rfl, hp3⟩
  have HE := Lib.hid (HB.out w3 w3 hp3 (Below.refl _ _))
  clear hp3 HB KR2
  go_wp2_with fail
  go_ret
  exact ⟨rfl, HE.out⟩
set_option maxHeartbeats 16000000 in
set_option maxRecDepth 100000 in
theorem call_get (hr : opR o = 1) : Calls Try.prog 22 #[.pointer (some ⟨a, 0, none⟩), .pointer (some ⟨b, 0, none⟩), .agg (opO o)] w fun e w' => e = .returned (.bool true) ∧ Both a b P C T1 T2 (reqA P C N ⟨o.f, o.t, 2, o.c, 0, 0⟩) w w' := by
  have hUse := And.intro hn (And.intro hC0 hC)
  clear hUse
  have hH := Lib.hid h
  have hl1 := h.nx.lt
  have hl2 := h.rx.lt
  have hbx : (w.alloc (.cells (opO o) 41)).heap[w.heap.size]? = some (.cells (opO o) 41 (0, 0)) := heap_alloc_new w _
  have hB1 : Below w.heap.size w (w.alloc (.cells (opO o) 41)) := (Below.refl _ _).alloc (Nat.le_refl _) _
  have hP1 := Lib.hid (h.below hB1)
  have no1 : w.heap.size ∉ T1 := fun hm => Nat.lt_irrefl _ (hl1 _ hm)
  have no2 : w.heap.size ∉ T2 := fun hm => Nat.lt_irrefl _ (hl2 _ hm)
  have hHB := Lib.hid hB1
  have x0 : (w.alloc (.cells (opO o) 41)).cell? ⟨w.heap.size, 0, none⟩ = some (.int .u8 o.d) := blk_cell hbx 0
  have x1 : (w.alloc (.cells (opO o) 41)).cell? ⟨w.heap.size, 1, none⟩ = some (.int .i64 o.f) := blk_cell hbx 1
  have x2 : (w.alloc (.cells (opO o) 41)).cell? ⟨w.heap.size, 2, none⟩ = some (.int .i64 o.t) := blk_cell hbx 2
  have x3 : (w.alloc (.cells (opO o) 41)).cell? ⟨w.heap.size, 3, none⟩ = some (.int .i64 o.c) := blk_cell hbx 3
  have KP := Lib.hid (get_u a P C n T1 N o.f o.t o.c _ hP1.out.nx hg hn hP0 hP)
  have KR := Lib.hid (fun (u : World) (T1' : List Nat) (hp : Pr u a b P C T1' T2 (reqA P C N ⟨o.f, o.t, 2, o.c, 0, 0⟩) N) => rsend_u b P C n T2 N u hp.rx hg hn hP hC0 hC 2 o.f o.t o.c 0 (by omega) (by simp))
  unfold ReqU at KP
  unfold RReqU at KR
  obtain ⟨hh, hhe⟩ : ∃ x, reqH P C N ⟨o.f, o.t, 2, o.c, 0, 0⟩ = x := ⟨_, rfl⟩
  obtain ⟨xx, xxe⟩ : ∃ x, reqX P C ⟨o.f, o.t, 2, o.c, 0, 0⟩ = x := ⟨_, rfl⟩
  obtain ⟨NN, hNN⟩ : ∃ x, reqA P C N ⟨o.f, o.t, 2, o.c, 0, 0⟩ = x := ⟨_, rfl⟩
  rw [hhe, xxe, hNN] at KP
  rw [hhe, xxe, hNN] at KR
  rw [hNN]
  clear h hl1 hl2 hbx hhe xxe hNN hg hn hP0 hP hC0 hC hB1
  unfold opR at hr
  unfold opO at *
  go_enter Try.func22, Try.ntmps22
  go_wp2_with fail
  refine KP.out.mono ?_
  rintro e w2 ⟨rfl, hp⟩
  obtain ⟨T1', h2, hg2, hk2⟩ := hP1.out.net hp
  have y1 := (hk2.cell (p := ⟨w.heap.size, 1, none⟩) (by simp) no1).trans x1
  have y2 := (hk2.cell (p := ⟨w.heap.size, 2, none⟩) (by simp) no1).trans x2
  have y3 := (hk2.cell (p := ⟨w.heap.size, 3, none⟩) (by simp) no1).trans x3
  have KR2 := Lib.hid (KR.out w2 T1' h2)
  have HB := Lib.hid (fun (w3 w4 : World) hp3 hb4 => both_of (w4 := w3) (w5 := w4) hH.out hHB.out hg2 hk2 h2 (Below.refl _ _) hp3 hb4)
  clear hp h2 hg2 hk2 KR KP hP1
  go_wp2_with fail
  refine KR2.out.mono ?_
  rintro e w3 ⟨rfl, hp3⟩
  have HE := Lib.hid (HB.out w3 w3 hp3 (Below.refl _ _))
  clear hp3 HB KR2
  go_wp2_with fail
  go_ret
  exact ⟨rfl, HE.out⟩
set_option maxHeartbeats 16000000 in
set_option maxRecDepth 100000 in
theorem call_add (hr : opR o = 2) : Calls Try.prog 22 #[.pointer (some ⟨a, 0, none⟩), .pointer (some ⟨b, 0, none⟩), .agg (opO o)] w fun e w' => e = .returned (.bool true) ∧ Both a b P C T1 T2 (reqA P C N ⟨o.f, o.t, 3, o.c, o.v, 0⟩) w w' := by
  have hUse := And.intro hn (And.intro hC0 hC)
  clear hUse
  have hH := Lib.hid h
  have hl1 := h.nx.lt
  have hl2 := h.rx.lt
  have hbx : (w.alloc (.cells (opO o) 41)).heap[w.heap.size]? = some (.cells (opO o) 41 (0, 0)) := heap_alloc_new w _
  have hB1 : Below w.heap.size w (w.alloc (.cells (opO o) 41)) := (Below.refl _ _).alloc (Nat.le_refl _) _
  have hP1 := Lib.hid (h.below hB1)
  have no1 : w.heap.size ∉ T1 := fun hm => Nat.lt_irrefl _ (hl1 _ hm)
  have no2 : w.heap.size ∉ T2 := fun hm => Nat.lt_irrefl _ (hl2 _ hm)
  have hHB := Lib.hid hB1
  have x0 : (w.alloc (.cells (opO o) 41)).cell? ⟨w.heap.size, 0, none⟩ = some (.int .u8 o.d) := blk_cell hbx 0
  have x1 : (w.alloc (.cells (opO o) 41)).cell? ⟨w.heap.size, 1, none⟩ = some (.int .i64 o.f) := blk_cell hbx 1
  have x2 : (w.alloc (.cells (opO o) 41)).cell? ⟨w.heap.size, 2, none⟩ = some (.int .i64 o.t) := blk_cell hbx 2
  have x3 : (w.alloc (.cells (opO o) 41)).cell? ⟨w.heap.size, 3, none⟩ = some (.int .i64 o.c) := blk_cell hbx 3
  have x4 : (w.alloc (.cells (opO o) 41)).cell? ⟨w.heap.size, 4, none⟩ = some (.int .i64 o.v) := blk_cell hbx 4
  have KP := Lib.hid (add_u a P C n T1 N o.f o.t o.c o.v _ hP1.out.nx hg hn hP0 hP)
  have KR := Lib.hid (fun (u : World) (T1' : List Nat) (hp : Pr u a b P C T1' T2 (reqA P C N ⟨o.f, o.t, 3, o.c, o.v, 0⟩) N) => rsend_u b P C n T2 N u hp.rx hg hn hP hC0 hC 3 o.f o.t o.c o.v (by omega) (by simp))
  unfold ReqU at KP
  unfold RReqU at KR
  obtain ⟨hh, hhe⟩ : ∃ x, reqH P C N ⟨o.f, o.t, 3, o.c, o.v, 0⟩ = x := ⟨_, rfl⟩
  obtain ⟨xx, xxe⟩ : ∃ x, reqX P C ⟨o.f, o.t, 3, o.c, o.v, 0⟩ = x := ⟨_, rfl⟩
  obtain ⟨NN, hNN⟩ : ∃ x, reqA P C N ⟨o.f, o.t, 3, o.c, o.v, 0⟩ = x := ⟨_, rfl⟩
  rw [hhe, xxe, hNN] at KP
  rw [hhe, xxe, hNN] at KR
  rw [hNN]
  clear h hl1 hl2 hbx hhe xxe hNN hg hn hP0 hP hC0 hC hB1
  unfold opR at hr
  unfold opO at *
  go_enter Try.func22, Try.ntmps22
  go_wp2_with fail
  refine KP.out.mono ?_
  rintro e w2 ⟨rfl, hp⟩
  obtain ⟨T1', h2, hg2, hk2⟩ := hP1.out.net hp
  have y1 := (hk2.cell (p := ⟨w.heap.size, 1, none⟩) (by simp) no1).trans x1
  have y2 := (hk2.cell (p := ⟨w.heap.size, 2, none⟩) (by simp) no1).trans x2
  have y3 := (hk2.cell (p := ⟨w.heap.size, 3, none⟩) (by simp) no1).trans x3
  have y4 := (hk2.cell (p := ⟨w.heap.size, 4, none⟩) (by simp) no1).trans x4
  have KR2 := Lib.hid (KR.out w2 T1' h2)
  have HB := Lib.hid (fun (w3 w4 : World) hp3 hb4 => both_of (w4 := w3) (w5 := w4) hH.out hHB.out hg2 hk2 h2 (Below.refl _ _) hp3 hb4)
  clear hp h2 hg2 hk2 KR KP hP1
  go_wp2_with fail
  refine KR2.out.mono ?_
  rintro e w3 ⟨rfl, hp3⟩
  have HE := Lib.hid (HB.out w3 w3 hp3 (Below.refl _ _))
  clear hp3 HB KR2
  go_wp2_with fail
  go_ret
  exact ⟨rfl, HE.out⟩
set_option maxHeartbeats 16000000 in
set_option maxRecDepth 100000 in
theorem call_del3 (hr : opR o = 3) : Calls Try.prog 22 #[.pointer (some ⟨a, 0, none⟩), .pointer (some ⟨b, 0, none⟩), .agg (opO o)] w fun e w' => e = .returned (.bool true) ∧ Both a b P C T1 T2 (delA N o.k) w w' := by
  have hUse := And.intro hn (And.intro hC0 hC)
  clear hUse
  have hH := Lib.hid h
  have hl1 := h.nx.lt
  have hl2 := h.rx.lt
  have hbx : (w.alloc (.cells (opO o) 41)).heap[w.heap.size]? = some (.cells (opO o) 41 (0, 0)) := heap_alloc_new w _
  have hB1 : Below w.heap.size w (w.alloc (.cells (opO o) 41)) := (Below.refl _ _).alloc (Nat.le_refl _) _
  have hP1 := Lib.hid (h.below hB1)
  have no1 : w.heap.size ∉ T1 := fun hm => Nat.lt_irrefl _ (hl1 _ hm)
  have no2 : w.heap.size ∉ T2 := fun hm => Nat.lt_irrefl _ (hl2 _ hm)
  have hHB := Lib.hid hB1
  have x0 : (w.alloc (.cells (opO o) 41)).cell? ⟨w.heap.size, 0, none⟩ = some (.int .u8 o.d) := blk_cell hbx 0
  have x5 : (w.alloc (.cells (opO o) 41)).cell? ⟨w.heap.size, 5, none⟩ = some (.int .i64 o.k) := blk_cell hbx 5
  have KP := Lib.hid (fun (u : World) (hu : Pr u a b P C T1 T2 N N) => deliver_u a P C n T1 N o.k u hu.nx hg hn hP0 hP)
  have KR := Lib.hid (fun (u : World) (T1' : List Nat) (hp : Pr u a b P C T1' T2 (delA N o.k) N) => rdeliver_u b P C n T2 N o.k u hp.rx hg hn hP0 hP hC)
  unfold DelivU at KP
  unfold RDelivU at KR
  obtain ⟨xx, xxe⟩ : ∃ x, delX N o.k = x := ⟨_, rfl⟩
  obtain ⟨NN, hNN⟩ : ∃ x, delA N o.k = x := ⟨_, rfl⟩
  rw [xxe, hNN] at KP
  rw [xxe, hNN] at KR
  rw [hNN]
  clear h hl1 hl2 hbx xxe hNN hg hn hP0 hP hC0 hC hB1
  unfold opR at hr
  unfold opO at *
  go_enter Try.func22, Try.ntmps22
  go_wp2_with fail
  go_region_held3 (fun w' => w'.cell? ⟨w.heap.size, 5, none⟩ = some (.int .i64 o.k))
    (first | exact x5 | exact y5 | exact z5)
    (first
      | (go_at_call 12; refine (KP.out _ (hP1.out.below ((Below.refl _ _).drew))).mono ?_; rintro e w2 ⟨rfl, hp⟩; have hh2 := (hP1.out.below ((Below.refl _ _).drew)).net hp; obtain ⟨T1', h2, hg2, hk2⟩ := hh2; have y5 := (hk2.cell (p := ⟨w.heap.size, 5, none⟩) (by simp) no1).trans x5)
      | (go_at_call 24; refine (KR.out _ T1' h2).mono ?_; rintro e w3 ⟨rfl, hp3⟩; have hh3 := h2.ref hp3; obtain ⟨T2', h3, hg3, hk3⟩ := hh3; have z5 := (hk3.cell (p := ⟨w.heap.size, 5, none⟩) (by have hs := hk2.size; simp only [World.drew, World.size_alloc] at hs; simp only; omega) no2).trans y5))
  have HE := Lib.hid (both_of hH.out (hHB.out.drew) hg2 hk2 h2 (Below.refl _ _) hp3 (Below.refl _ _))
  clear hp h2 hg2 hk2 KR KP hP1 hp3 h3 hg3 hk3
  go_wp2_with fail
  go_ret
  exact ⟨rfl, HE.out⟩
set_option maxHeartbeats 16000000 in
set_option maxRecDepth 100000 in
theorem call_del5 (hr : opR o = 5) : Calls Try.prog 22 #[.pointer (some ⟨a, 0, none⟩), .pointer (some ⟨b, 0, none⟩), .agg (opO o)] w fun e w' => e = .returned (.bool true) ∧ Both a b P C T1 T2 (delA N o.k) w w' := by
  have hUse := And.intro hn (And.intro hC0 hC)
  clear hUse
  have hH := Lib.hid h
  have hl1 := h.nx.lt
  have hl2 := h.rx.lt
  have hbx : (w.alloc (.cells (opO o) 41)).heap[w.heap.size]? = some (.cells (opO o) 41 (0, 0)) := heap_alloc_new w _
  have hB1 : Below w.heap.size w (w.alloc (.cells (opO o) 41)) := (Below.refl _ _).alloc (Nat.le_refl _) _
  have hP1 := Lib.hid (h.below hB1)
  have no1 : w.heap.size ∉ T1 := fun hm => Nat.lt_irrefl _ (hl1 _ hm)
  have no2 : w.heap.size ∉ T2 := fun hm => Nat.lt_irrefl _ (hl2 _ hm)
  have hHB := Lib.hid hB1
  have x0 : (w.alloc (.cells (opO o) 41)).cell? ⟨w.heap.size, 0, none⟩ = some (.int .u8 o.d) := blk_cell hbx 0
  have x5 : (w.alloc (.cells (opO o) 41)).cell? ⟨w.heap.size, 5, none⟩ = some (.int .i64 o.k) := blk_cell hbx 5
  have KP := Lib.hid (fun (u : World) (hu : Pr u a b P C T1 T2 N N) => deliver_u a P C n T1 N o.k u hu.nx hg hn hP0 hP)
  have KR := Lib.hid (fun (u : World) (T1' : List Nat) (hp : Pr u a b P C T1' T2 (delA N o.k) N) => rdeliver_u b P C n T2 N o.k u hp.rx hg hn hP0 hP hC)
  unfold DelivU at KP
  unfold RDelivU at KR
  obtain ⟨xx, xxe⟩ : ∃ x, delX N o.k = x := ⟨_, rfl⟩
  obtain ⟨NN, hNN⟩ : ∃ x, delA N o.k = x := ⟨_, rfl⟩
  rw [xxe, hNN] at KP
  rw [xxe, hNN] at KR
  rw [hNN]
  clear h hl1 hl2 hbx xxe hNN hg hn hP0 hP hC0 hC hB1
  unfold opR at hr
  unfold opO at *
  go_enter Try.func22, Try.ntmps22
  go_wp2_with fail
  go_region_held3 (fun w' => w'.cell? ⟨w.heap.size, 5, none⟩ = some (.int .i64 o.k))
    (first | exact x5 | exact y5 | exact z5)
    (first
      | (go_at_call 12; refine (KP.out _ (hP1.out.below ((Below.refl _ _).drew))).mono ?_; rintro e w2 ⟨rfl, hp⟩; have hh2 := (hP1.out.below ((Below.refl _ _).drew)).net hp; obtain ⟨T1', h2, hg2, hk2⟩ := hh2; have y5 := (hk2.cell (p := ⟨w.heap.size, 5, none⟩) (by simp) no1).trans x5)
      | (go_at_call 24; refine (KR.out _ T1' h2).mono ?_; rintro e w3 ⟨rfl, hp3⟩; have hh3 := h2.ref hp3; obtain ⟨T2', h3, hg3, hk3⟩ := hh3; have z5 := (hk3.cell (p := ⟨w.heap.size, 5, none⟩) (by have hs := hk2.size; simp only [World.drew, World.size_alloc] at hs; simp only; omega) no2).trans y5))
  have HE := Lib.hid (both_of hH.out (hHB.out.drew) hg2 hk2 h2 (Below.refl _ _) hp3 (Below.refl _ _))
  clear hp h2 hg2 hk2 KR KP hP1 hp3 h3 hg3 hk3
  go_wp2_with fail
  go_ret
  exact ⟨rfl, HE.out⟩
set_option maxHeartbeats 16000000 in
set_option maxRecDepth 100000 in
theorem call_drain (hr : opR o = 4) : Calls Try.prog 22 #[.pointer (some ⟨a, 0, none⟩), .pointer (some ⟨b, 0, none⟩), .agg (opO o)] w fun e w' => e = .returned (.bool true) ∧ Both a b P C T1 T2 (iterD (todo N) N) w w' := by
  have hUse := And.intro hn (And.intro hC0 hC)
  clear hUse
  have hH := Lib.hid h
  have hl1 := h.nx.lt
  have hl2 := h.rx.lt
  have hbx : (w.alloc (.cells (opO o) 41)).heap[w.heap.size]? = some (.cells (opO o) 41 (0, 0)) := heap_alloc_new w _
  have hB1 : Below w.heap.size w (w.alloc (.cells (opO o) 41)) := (Below.refl _ _).alloc (Nat.le_refl _) _
  have hP1 := Lib.hid (h.below hB1)
  have no1 : w.heap.size ∉ T1 := fun hm => Nat.lt_irrefl _ (hl1 _ hm)
  have no2 : w.heap.size ∉ T2 := fun hm => Nat.lt_irrefl _ (hl2 _ hm)
  have hHB := Lib.hid hB1
  have x0 : (w.alloc (.cells (opO o) 41)).cell? ⟨w.heap.size, 0, none⟩ = some (.int .u8 o.d) := blk_cell hbx 0
  have KP := Lib.hid (drain_at a P C T1 N _ hP1.out.nx hg.wf hP0 hP)
  have KR := Lib.hid (fun (u : World) (T1' : List Nat) (hp : Pr u a b P C T1' T2 (iterD (todo N) N) N) => rdrain_at b P C T2 N u hp.rx hg.wf hg.cn hP hC)
  unfold DrainE at KP
  unfold RDrainE at KR
  obtain ⟨NN, hNN⟩ : ∃ x, iterD (todo N) N = x := ⟨_, rfl⟩
  obtain ⟨hh, hhe⟩ : ∃ x : Int, (todo N : Int) = x := ⟨_, rfl⟩
  rw [hNN, hhe] at KP
  rw [hNN, hhe] at KR
  rw [hNN]
  clear h hl1 hl2 hbx hNN hhe hg hn hP0 hP hC0 hC hB1
  unfold opR at hr
  unfold opO at *
  go_enter Try.func22, Try.ntmps22
  go_wp2_with fail
  refine KP.out.mono ?_
  rintro e w2 ⟨rfl, hp⟩
  obtain ⟨T1', h2, hg2, hk2⟩ := hP1.out.net hp
  have KR2 := Lib.hid (KR.out w2 T1' h2)
  have HB := Lib.hid (fun (w3 w4 : World) hp3 hb4 => both_of (w4 := w3) (w5 := w4) hH.out hHB.out hg2 hk2 h2 (Below.refl _ _) hp3 hb4)
  clear hp h2 hg2 hk2 KR KP hP1
  go_wp2_with fail
  refine KR2.out.mono ?_
  rintro e w3 ⟨rfl, hp3⟩
  have HE := Lib.hid (HB.out w3 w3 hp3 (Below.refl _ _))
  clear hp3 HB KR2
  go_wp2_with fail
  go_ret
  exact ⟨rfl, HE.out⟩
set_option maxHeartbeats 16000000 in
set_option maxRecDepth 100000 in
theorem call_done (hr : opR o = 6) : Calls Try.prog 22 #[.pointer (some ⟨a, 0, none⟩), .pointer (some ⟨b, 0, none⟩), .agg (opO o)] w fun e w' => e = .returned (.bool true) ∧ Both a b P C T1 T2 (N) w w' := by
  have hUse := And.intro hn (And.intro hC0 hC)
  clear hUse
  have hH := Lib.hid h
  have hl1 := h.nx.lt
  have hl2 := h.rx.lt
  have hbx : (w.alloc (.cells (opO o) 41)).heap[w.heap.size]? = some (.cells (opO o) 41 (0, 0)) := heap_alloc_new w _
  have hB1 : Below w.heap.size w (w.alloc (.cells (opO o) 41)) := (Below.refl _ _).alloc (Nat.le_refl _) _
  have hP1 := Lib.hid (h.below hB1)
  have no1 : w.heap.size ∉ T1 := fun hm => Nat.lt_irrefl _ (hl1 _ hm)
  have no2 : w.heap.size ∉ T2 := fun hm => Nat.lt_irrefl _ (hl2 _ hm)
  have hHB := Lib.hid hB1
  have x0 : (w.alloc (.cells (opO o) 41)).cell? ⟨w.heap.size, 0, none⟩ = some (.int .u8 o.d) := blk_cell hbx 0
  have x5 : (w.alloc (.cells (opO o) 41)).cell? ⟨w.heap.size, 5, none⟩ = some (.int .i64 o.k) := blk_cell hbx 5
  have K0 := Lib.hid (fun (u : World) (hu : Pr u a b P C T1 T2 N N) => done_any a C T1 N o.k u hu.nx (by have := hg.wf.pl; omega) (by have := hg.wf.pl; omega) (by have := hg.hn; omega))
  unfold DoneR at K0
  have K1 := Lib.hid (fun (u : World) (hu : Pr u a b P C T1 T2 N N) => rdone_u b P C n T2 N u hu.rx hg hn o.k)
  unfold DoneR at K1
  have K2 := Lib.hid (fun (u : World) (hu : Pr u a b P C T1 T2 N N) => value_any a C T1 N o.k u hu.nx (by have := hg.wf.pl; omega) (by have := hg.wf.pl; omega) (by have := hg.hn; omega))
  unfold ValR at K2
  have K3 := Lib.hid (fun (u : World) (hu : Pr u a b P C T1 T2 N N) => rvalue_u b P C n T2 N u hu.rx hg hn o.k)
  unfold ValR at K3
  obtain ⟨v1, ev1⟩ : ∃ x, (findH N.hs o.k).dn = x := ⟨_, rfl⟩
  rw [ev1] at K0
  rw [ev1] at K1
  obtain ⟨v2, ev2⟩ : ∃ x, findX N.hs o.k = x := ⟨_, rfl⟩
  rw [ev2] at K0
  rw [ev2] at K1
  obtain ⟨v3, ev3⟩ : ∃ x, valR N.hs o.k = x := ⟨_, rfl⟩
  rw [ev3] at K2
  rw [ev3] at K3
  obtain ⟨v4, ev4⟩ : ∃ x, valX N.hs o.k = x := ⟨_, rfl⟩
  rw [ev4] at K2
  rw [ev4] at K3
  clear h hl1 hl2 hbx ev1 ev2 ev3 ev4 hg hn hP0 hP hC0 hC hB1
  unfold opR at hr
  unfold opO at *
  go_enter Try.func22, Try.ntmps22
  go_wp2_with fail
  refine (K0.out _ hP1.out).mono ?_
  rintro e w2 ⟨rfl, hb⟩
  have q0 := Lib.hid (hP1.out.below hb)
  have hb0 := Lib.hid (hHB.out.trans (hb.mono hHB.out.size))
  have BS0 := hb.size
  have a5 := (hb.cell (p := ⟨w.heap.size, 5, none⟩) (by simp)).trans x5
  clear hb
  go_wp2_with fail
  refine (K1.out _ q0.out).mono ?_
  rintro e w3 ⟨rfl, hb⟩
  have q1 := Lib.hid (q0.out.below hb)
  have hb1 := Lib.hid (hb0.out.trans (hb.mono hb0.out.size))
  have BS1 := hb.size
  have b5 := (hb.cell (p := ⟨w.heap.size, 5, none⟩) (by have := BS0; simp at *; omega)).trans a5
  clear hb
  go_wp2_with fail
  refine (K2.out _ q1.out).mono ?_
  rintro e w4 ⟨rfl, hb⟩
  have q2 := Lib.hid (q1.out.below hb)
  have hb2 := Lib.hid (hb1.out.trans (hb.mono hb1.out.size))
  have BS2 := hb.size
  have c5 := (hb.cell (p := ⟨w.heap.size, 5, none⟩) (by have := BS0; have := BS1; simp at *; omega)).trans b5
  clear hb
  go_wp2_with fail
  refine (K3.out _ q2.out).mono ?_
  rintro e w5 ⟨rfl, hb⟩
  have q3 := Lib.hid (q2.out.below hb)
  have hb3 := Lib.hid (hb2.out.trans (hb.mono hb2.out.size))
  clear hb
  have HE := Lib.hid (both_same hH.out hb3.out)
  clear q0 q1 q2 q3 hb0 hb1 hb2 hb3 hP1 K0 K1 K2 K3
  go_wp2_with fail
  go_ret
  exact ⟨rfl, HE.out⟩
set_option maxHeartbeats 16000000 in
set_option maxRecDepth 100000 in
theorem call_open (hr : opR o ≠ 0 ∧ opR o ≠ 1 ∧ opR o ≠ 2 ∧ opR o ≠ 3 ∧ opR o ≠ 4 ∧ opR o ≠ 5 ∧ opR o ≠ 6) : Calls Try.prog 22 #[.pointer (some ⟨a, 0, none⟩), .pointer (some ⟨b, 0, none⟩), .agg (opO o)] w fun e w' => e = .returned (.bool true) ∧ Both a b P C T1 T2 (N) w w' := by
  have hUse := And.intro hn (And.intro hC0 hC)
  clear hUse
  have hH := Lib.hid h
  have hl1 := h.nx.lt
  have hl2 := h.rx.lt
  have hbx : (w.alloc (.cells (opO o) 41)).heap[w.heap.size]? = some (.cells (opO o) 41 (0, 0)) := heap_alloc_new w _
  have hB1 : Below w.heap.size w (w.alloc (.cells (opO o) 41)) := (Below.refl _ _).alloc (Nat.le_refl _) _
  have hP1 := Lib.hid (h.below hB1)
  have no1 : w.heap.size ∉ T1 := fun hm => Nat.lt_irrefl _ (hl1 _ hm)
  have no2 : w.heap.size ∉ T2 := fun hm => Nat.lt_irrefl _ (hl2 _ hm)
  have hHB := Lib.hid hB1
  have x0 : (w.alloc (.cells (opO o) 41)).cell? ⟨w.heap.size, 0, none⟩ = some (.int .u8 o.d) := blk_cell hbx 0
  have x1 : (w.alloc (.cells (opO o) 41)).cell? ⟨w.heap.size, 1, none⟩ = some (.int .i64 o.f) := blk_cell hbx 1
  have x3 : (w.alloc (.cells (opO o) 41)).cell? ⟨w.heap.size, 3, none⟩ = some (.int .i64 o.c) := blk_cell hbx 3
  have K0 := Lib.hid (fun (u : World) (hu : Pr u a b P C T1 T2 N N) => open_u a P C n T1 N u hu.nx hg hn hP0 hP o.f)
  unfold OpenU at K0
  have K1 := Lib.hid (fun (u : World) (hu : Pr u a b P C T1 T2 N N) => ropen_u b P C n T2 N u hu.rx hg hn hC0 hC o.f)
  unfold OpenU at K1
  have K2 := Lib.hid (fun (u : World) (hu : Pr u a b P C T1 T2 N N) => cell_u a P C n T1 N u hu.nx hg hP0 hP o.f o.c)
  unfold CellU at K2
  have K3 := Lib.hid (fun (u : World) (hu : Pr u a b P C T1 T2 N N) => rcell_u b P C n T2 N u hu.rx hg hP hC o.f o.c)
  unfold CellU at K3
  obtain ⟨v1, ev1⟩ : ∃ x, openR P N o.f = x := ⟨_, rfl⟩
  rw [ev1] at K0
  rw [ev1] at K1
  obtain ⟨v2, ev2⟩ : ∃ x, placeX P o.f = x := ⟨_, rfl⟩
  rw [ev2] at K0
  rw [ev2] at K1
  obtain ⟨v3, ev3⟩ : ∃ x, cellR P C N o.f o.c = x := ⟨_, rfl⟩
  rw [ev3] at K2
  rw [ev3] at K3
  obtain ⟨v4, ev4⟩ : ∃ x, cellX P C o.f o.c = x := ⟨_, rfl⟩
  rw [ev4] at K2
  rw [ev4] at K3
  clear h hl1 hl2 hbx ev1 ev2 ev3 ev4 hg hn hP0 hP hC0 hC hB1
  unfold opR at hr
  obtain ⟨r0, r1, r2, r3, r4, r5, r6⟩ := hr
  unfold opO at *
  go_enter Try.func22, Try.ntmps22
  go_wp2_with fail
  refine (K0.out _ hP1.out).mono ?_
  rintro e w2 ⟨rfl, hb⟩
  have q0 := Lib.hid (hP1.out.below hb)
  have hb0 := Lib.hid (hHB.out.trans (hb.mono hHB.out.size))
  have BS0 := hb.size
  have a1 := (hb.cell (p := ⟨w.heap.size, 1, none⟩) (by simp)).trans x1
  have a3 := (hb.cell (p := ⟨w.heap.size, 3, none⟩) (by simp)).trans x3
  clear hb
  go_wp2_with fail
  refine (K1.out _ q0.out).mono ?_
  rintro e w3 ⟨rfl, hb⟩
  have q1 := Lib.hid (q0.out.below hb)
  have hb1 := Lib.hid (hb0.out.trans (hb.mono hb0.out.size))
  have BS1 := hb.size
  have b1 := (hb.cell (p := ⟨w.heap.size, 1, none⟩) (by have := BS0; simp at *; omega)).trans a1
  have b3 := (hb.cell (p := ⟨w.heap.size, 3, none⟩) (by have := BS0; simp at *; omega)).trans a3
  clear hb
  go_wp2_with fail
  refine (K2.out _ q1.out).mono ?_
  rintro e w4 ⟨rfl, hb⟩
  have q2 := Lib.hid (q1.out.below hb)
  have hb2 := Lib.hid (hb1.out.trans (hb.mono hb1.out.size))
  have BS2 := hb.size
  have c1 := (hb.cell (p := ⟨w.heap.size, 1, none⟩) (by have := BS0; have := BS1; simp at *; omega)).trans b1
  have c3 := (hb.cell (p := ⟨w.heap.size, 3, none⟩) (by have := BS0; have := BS1; simp at *; omega)).trans b3
  clear hb
  go_wp2_with fail
  refine (K3.out _ q2.out).mono ?_
  rintro e w5 ⟨rfl, hb⟩
  have q3 := Lib.hid (q2.out.below hb)
  have hb3 := Lib.hid (hb2.out.trans (hb.mono hb2.out.size))
  clear hb
  have HE := Lib.hid (both_same hH.out hb3.out)
  clear q0 q1 q2 q3 hb0 hb1 hb2 hb3 hP1 K0 K1 K2 K3
  go_wp2_with fail
  go_ret
  exact ⟨rfl, HE.out⟩
def CallE (a b P C : Nat) (T1 T2 : List Nat) (N' : Nt.Net) (w : World) (e : Ending) (w' : World) : Prop := e = .returned (.bool true) ∧ Both a b P C T1 T2 N' w w'
theorem call_at : Calls Try.prog 22 #[.pointer (some ⟨a, 0, none⟩), .pointer (some ⟨b, 0, none⟩), .agg (opO o)] w (CallE a b P C T1 T2 (callN P C N (opR o) o) w) := by
  unfold CallE callN
  by_cases h0 : opR o = 0
  · rw [if_pos h0]
    exact call_put a b P C n T1 T2 N o w h hg hn hP0 hP hC0 hC h0
  · rw [if_neg h0]
    by_cases h1 : opR o = 1
    · rw [if_pos h1]
      exact call_get a b P C n T1 T2 N o w h hg hn hP0 hP hC0 hC h1
    · rw [if_neg h1]
      by_cases h2 : opR o = 2
      · rw [if_pos h2]
        exact call_add a b P C n T1 T2 N o w h hg hn hP0 hP hC0 hC h2
      · rw [if_neg h2]
        by_cases h3 : opR o = 3
        · rw [if_pos (.inl h3)]
          exact call_del3 a b P C n T1 T2 N o w h hg hn hP0 hP hC0 hC h3
        · by_cases h5 : opR o = 5
          · rw [if_pos (.inr h5)]
            exact call_del5 a b P C n T1 T2 N o w h hg hn hP0 hP hC0 hC h5
          · rw [if_neg (fun h => h.elim h3 h5)]
            by_cases h4 : opR o = 4
            · rw [if_pos h4]
              exact call_drain a b P C n T1 T2 N o w h hg hn hP0 hP hC0 hC h4
            · rw [if_neg h4]
              by_cases h6 : opR o = 6
              · exact call_done a b P C n T1 T2 N o w h hg hn hP0 hP hC0 hC h6
              · exact call_open a b P C n T1 T2 N o w h hg hn hP0 hP hC0 hC ⟨h0, h1, h2, h3, h4, h5, h6⟩
end
end Go.Proofs.Ytimmmbjdaibplaa

