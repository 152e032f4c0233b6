/-
  Layer 16: both nets in memory; their calls at any ints, in one form.
-/
import Derived.Test.YtimmmbjdaibplaaT4
namespace Go.Proofs.Ytimmmbjdaibplaa
open Go.RowKit
open Nt
set_option linter.unusedVariables false
set_option linter.unusedSimpArgs false

theorem NetX.keep {w w' : World} {a C : Nat} {T : List Nat} {N : Nt.Net} (h : NetX w a C T N) (hb : ∀ k ∈ T, w'.heap[k]? = w.heap[k]?) : NetX w' a C T N := by
  obtain ⟨bc, kc, cur, rs, vf, vh, vs, rfl, h⟩ := h
  exact ⟨bc, kc, cur, rs, vf, vh, vs, rfl, h.keep hb⟩
/-- both nets in memory -/
structure Pr (w : World) (a b P C : Nat) (T1 T2 : List Nat) (N1 N2 : Nt.Net) : Prop where
  nx : NetX w a C T1 N1
  rx : RefX w b P C T2 N2
  ds : ∀ k ∈ T1, k ∉ T2
section
variable {w w' : World} {a b P C : Nat} {T1 T2 : List Nat} {N1 N2 N' : Nt.Net}
theorem Pr.below (h : Pr w a b P C T1 T2 N1 N2) (hb : Below w.heap.size w w') : Pr w' a b P C T1 T2 N1 N2 := ⟨h.nx.below hb, h.rx.below hb, h.ds⟩
theorem Pr.keep {T : List Nat} (h : Pr w a b P C T1 T2 N1 N2) (hk : Keeps T w w') (h1 : ∀ k ∈ T1, k ∉ T) (h2 : ∀ k ∈ T2, k ∉ T) : Pr w' a b P C T1 T2 N1 N2 :=
  ⟨h.nx.keep fun k hm => hk.block k (h.nx.lt k hm) (h1 k hm), h.rx.keep fun k hm => hk.block k (h.rx.lt k hm) (h2 k hm), h.ds⟩
theorem Pr.net (h : Pr w a b P C T1 T2 N1 N2) (hp : NetPost a C T1 N' w w') : ∃ T, Pr w' a b P C T T2 N' N2 ∧ Grows T1 T w ∧ Keeps T1 w w' := by
  obtain ⟨T, hx, hg, hk⟩ := hp
  refine ⟨T, ⟨hx, h.rx.keep fun k hm => hk.block k (h.rx.lt k hm) (fun hm1 => h.ds k hm1 hm), fun k hm hm2 => ?_⟩, hg, hk⟩
  rcases hg k hm with h1 | h1
  · exact h.ds k h1 hm2
  · have := h.rx.lt k hm2
    omega
theorem Pr.ref (h : Pr w a b P C T1 T2 N1 N2) (hp : RefPost b P C T2 N' w w') : ∃ T, Pr w' a b P C T1 T N1 N' ∧ Grows T2 T w ∧ Keeps T2 w w' := by
  obtain ⟨T, hx, hg, hk⟩ := hp
  refine ⟨T, ⟨h.nx.keep fun k hm => hk.block k (h.nx.lt k hm) (fun hm1 => h.ds k hm hm1), hx, fun k hm hm2 => ?_⟩, hg, hk⟩
  rcases hg k hm2 with h1 | h1
  · exact h.ds k hm h1
  · have := h.nx.lt k hm
    omega
end
theorem Keeps.weak {T T' : List Nat} {w w' : World} (h : Keeps T w w') (hT : ∀ k ∈ T, k ∈ T' ∨ w.heap.size ≤ k) : Keeps T' w w' :=
  ⟨h.os, h.tape, h.output, h.size, fun k hk hm => h.block k hk fun hm2 => by
    rcases hT k hm2 with h1 | h1
    · exact hm h1
    · omega⟩
/-- what a call of both leaves -/
def Both (a b P C : Nat) (T1 T2 : List Nat) (N' : Nt.Net) (w w' : World) : Prop := ∃ T1' T2', Pr w' a b P C T1' T2' N' N' ∧ Grows T1 T1' w ∧ Grows T2 T2' w ∧ Keeps (T1 ++ T2) w w'
theorem both_of {w w1 w2 w3 w4 w5 : World} {a b P C : Nat} {T1 T2 T1' : List Nat} {N N' : Nt.Net} (h : Pr w a b P C T1 T2 N N) (hb1 : Below w.heap.size w w1) (hg : Grows T1 T1' w1) (hk : Keeps T1 w1 w2) (h2 : Pr w2 a b P C T1' T2 N' N) (hb2 : Below w2.heap.size w2 w3)
    (hp : RefPost b P C T2 N' w3 w4) (hb3 : Below w4.heap.size w4 w5) : Both a b P C T1 T2 N' w w5 := by
  obtain ⟨T, h3, g3, k3⟩ := (h2.below hb2).ref hp
  have s1 := hb1.size
  have s2 := hk.size
  have s3 := hb2.size
  refine ⟨T1', T, h3.below hb3, fun k hm => ?_, fun k hm => ?_, ?_⟩
  · rcases hg k hm with e | e
    · exact .inl e
    · exact .inr (by omega)
  · rcases g3 k hm with e | e
    · exact .inl e
    · exact .inr (by omega)
  · have a1 : Keeps (T1 ++ T2) w w1 := Keeps.of_below hb1
    have a2 : Keeps (T1 ++ T2) w1 w2 := hk.weak fun k hm => .inl (List.mem_append.2 (.inl hm))
    have a3 : Keeps (T1 ++ T2) w2 w3 := Keeps.of_below hb2
    have a4 : Keeps (T1 ++ T2) w3 w4 := k3.weak fun k hm => .inl (List.mem_append.2 (.inr hm))
    have a5 : Keeps (T1 ++ T2) w4 w5 := Keeps.of_below hb3
    exact (((a1.trans a2 (Grows.refl _ _)).trans a3 (Grows.refl _ _)).trans a4 (Grows.refl _ _)).trans a5 (Grows.refl _ _)
theorem both_same {w w' : World} {a b P C : Nat} {T1 T2 : List Nat} {N : Nt.Net} (h : Pr w a b P C T1 T2 N N) (hb : Below w.heap.size w w') : Both a b P C T1 T2 N w w' :=
  ⟨T1, T2, h.below hb, Grows.refl _ _, Grows.refl _ _, Keeps.of_below hb⟩

/-- what is so of each net of a run: so many handles at most -/
structure Good (P C : Nat) (N : Nt.Net) (n : Nat) : Prop where
  wf : Wf P C N
  cn : Cn P N
  hn : N.hs.length ≤ n
theorem Good.many {P C n : Nat} {N : Nt.Net} (h : Good P C N n) (hn : n ≤ 1000) : ∀ x ∈ N.sent, 0 ≤ x.many ∧ x.many ≤ 100000 := fun x hx => by
  have := h.cn.mn x hx
  have := h.hn
  omega
def okM (P C : Nat) (m : Msg) : Bool := decide ((0 ≤ m.frm ∧ m.frm < P) ∧ (0 ≤ m.to ∧ m.to < P) ∧ 0 ≤ m.cell ∧ m.cell < C)
def reqA (P C : Nat) (N : Nt.Net) (m : Msg) : Nt.Net := if okM P C m = true then reqN N m else N
def reqH (P C : Nat) (N : Nt.Net) (m : Msg) : Int := if okM P C m = true then (N.hs.length : Int) + 1 else 0
def reqX (P C : Nat) (m : Msg) : Int := if okM P C m = true then 0 else 2
def delA (N : Nt.Net) (k : Int) : Nt.Net := if h : 0 ≤ k ∧ k < N.fl.length then delN N k.toNat (N.fl[k.toNat]'(by omega)) else N
def delX (N : Nt.Net) (k : Int) : Int := if 0 ≤ k ∧ k < N.fl.length then 0 else 2
theorem Good.req {P C n : Nat} {N : Nt.Net} (h : Good P C N n) (hn : n < 1000) (m : Msg) (k0 : 1 ≤ m.kind) (k1 : m.kind ≤ 3) : Good P C (reqA P C N m) (n + 1) := by
  have := h.hn
  unfold reqA
  split
  · rename_i ho
    obtain ⟨⟨f0, f1⟩, ⟨t0, t1⟩, c0, c1⟩ := of_decide_eq_true ho
    obtain ⟨h1, h2⟩ := wf_req h.wf (by omega) f0 f1 t0 t1 k0 k1 c0 c1
    exact ⟨h1, cn_req h.wf h.cn f0 f1 t0 t1 k0 k1, by omega⟩
  · exact ⟨h.wf, h.cn, by omega⟩
theorem Good.del {P C n : Nat} {N : Nt.Net} (h : Good P C N n) (k : Int) : Good P C (delA N k) n := by
  have := h.hn
  unfold delA
  split
  · rename_i hk
    have hk' : k.toNat < N.fl.length := by omega
    obtain ⟨h1, h2⟩ := wf_del h.wf hk'
    exact ⟨h1, cn_del h.wf h.cn hk', by omega⟩
  · exact h
theorem hs_step {P C : Nat} {N : Nt.Net} (hw : Wf P C N) : (stepD N).hs.length = N.hs.length := by
  by_cases hl : 0 < N.fl.length
  · rw [stepD_at hl]
    exact (wf_del hw hl).2
  · unfold stepD
    split
    · rfl
    · rename_i e
      rw [e] at hl
      simp at hl
theorem hs_iter {P C : Nat} {N : Nt.Net} (hw : Wf P C N) (hcn : Cn P N) : ∀ j, (iterD j N).hs.length = N.hs.length
  | 0 => rfl
  | j + 1 => (hs_step (both_iter hw hcn j).1).trans (hs_iter hw hcn j)
theorem Good.iter {P C n : Nat} {N : Nt.Net} (h : Good P C N n) (j : Nat) : Good P C (iterD j N) n :=
  ⟨(both_iter h.wf h.cn j).1, (both_iter h.wf h.cn j).2, by rw [hs_iter h.wf h.cn]; exact h.hn⟩
theorem Good.mono {P C n n' : Nat} {N : Nt.Net} (h : Good P C N n) (hn : n ≤ n') : Good P C N n' := ⟨h.wf, h.cn, Nat.le_trans h.hn hn⟩
theorem todo_fl {N M : Nt.Net} (h : N.fl = M.fl) : todo N = todo M := by unfold todo; rw [h]
theorem delA_ne {N : Nt.Net} {k : Int} (h : 0 ≤ k ∧ k < N.fl.length) : (delA N k).fl ≠ N.fl := fun e => by
  have h1 := todo_fl e
  unfold delA at h1
  rw [dif_pos h] at h1
  have := todo_del (N := N) (k := k.toNat) (by omega)
  omega

def ReqU (a P C : Nat) (T : List Nat) (N : Nt.Net) (m : Msg) (w : World) (e : Ending) (w' : World) : Prop :=
  e = .returned (.tuple #[.int .i64 (reqH P C N m), .int .i64 (reqX P C m)]) ∧ NetPost a C T (reqA P C N m) w w'
def RReqU (b P C : Nat) (T : List Nat) (N : Nt.Net) (m : Msg) (w : World) (e : Ending) (w' : World) : Prop :=
  e = .returned (.tuple #[.int .i64 (reqH P C N m), .int .i64 (reqX P C m)]) ∧ RefPost b P C T (reqA P C N m) w w'
theorem NetPost.same {a C : Nat} {T : List Nat} {N : Nt.Net} {w w' : World} (h : NetX w a C T N) (hb : Below w.heap.size w w') : NetPost a C T N w w' := ⟨T, h.below hb, Grows.refl _ _, Keeps.of_below hb⟩
theorem RefPost.same {b P C : Nat} {T : List Nat} {N : Nt.Net} {w w' : World} (h : RefX w b P C T N) (hb : Below w.heap.size w w') : RefPost b P C T N w w' := ⟨T, h.below hb, Grows.refl _ _, Keeps.of_below hb⟩
theorem reqU_ok {a P C : Nat} {T : List Nat} {N : Nt.Net} {m : Msg} {w w' : World} {e : Ending} (ho : okM P C m = true) (h : ReqE a C T N m w e w') : ReqU a P C T N m w e w' := by
  unfold ReqU reqA reqH reqX
  rw [if_pos ho, if_pos ho, if_pos ho]
  exact h
theorem reqU_bad {a P C : Nat} {T : List Nat} {N : Nt.Net} {m : Msg} {w w' : World} {e : Ending} (hx : NetX w a C T N) (ho : okM P C m = false) (h : BadE w e w') : ReqU a P C T N m w e w' := by
  have ho' : ¬ okM P C m = true := by rw [ho]; decide
  unfold ReqU reqA reqH reqX
  rw [if_neg ho', if_neg ho', if_neg ho']
  exact ⟨h.1, .same hx h.2⟩
theorem rreqU_ok {b P C : Nat} {T : List Nat} {N : Nt.Net} {m : Msg} {w w' : World} {e : Ending} (ho : okM P C m = true) (h : RReqE b P C T N m w e w') : RReqU b P C T N m w e w' := by
  unfold RReqU reqA reqH reqX
  rw [if_pos ho, if_pos ho, if_pos ho]
  exact h
theorem rreqU_bad {b P C : Nat} {T : List Nat} {N : Nt.Net} {m : Msg} {w w' : World} {e : Ending} (hx : RefX w b P C T N) (ho : okM P C m = false) (h : e = .returned (.tuple #[.int .i64 0, .int .i64 2]) ∧ w = w') : RReqU b P C T N m w e w' := by
  have ho' : ¬ okM P C m = true := by rw [ho]; decide
  unfold RReqU reqA reqH reqX
  rw [if_neg ho', if_neg ho', if_neg ho']
  obtain ⟨h1, rfl⟩ := h
  exact ⟨h1, .same hx (Below.refl _ _)⟩
theorem ok_false {P C : Nat} {m : Msg} (ho : okM P C m = false) : ¬ ((0 ≤ m.frm ∧ m.frm < P) ∧ (0 ≤ m.to ∧ m.to < P) ∧ 0 ≤ m.cell ∧ m.cell < C) := of_decide_eq_false ho
theorem ok_true {P C : Nat} {m : Msg} (ho : okM P C m = true) : (0 ≤ m.frm ∧ m.frm < P) ∧ (∃ p : Nat, m.to = p ∧ p < P) ∧ ∃ c : Nat, m.cell = c ∧ c < C := by
  obtain ⟨h1, h2, h3⟩ := of_decide_eq_true ho
  exact ⟨h1, ⟨m.to.toNat, by omega, by omega⟩, m.cell.toNat, by omega, by omega⟩
section
variable (a P C n : Nat) (T : List Nat) (N : Nt.Net) (f t c v : Int) (w : World) (h : NetX w a C T N) (hg : Good P C N n) (hn : n < 1000) (hP0 : 1 ≤ P) (hP : P ≤ 8)
include h hg hn hP0 hP
theorem put_u : Calls Try.prog 28 #[.pointer (some ⟨a, 0, none⟩), .int .i64 f, .int .i64 t, .int .i64 c, .int .i64 v] w (ReqU a P C T N ⟨f, t, 1, c, v, 0⟩ w) := by
  have hpl := hg.wf.pl
  have hfl := hg.wf.fl
  have hse := hg.wf.se
  have hnn := hg.hn
  cases ho : okM P C ⟨f, t, 1, c, v, 0⟩ with
  | false => exact (put_bad a C T N w h (by omega) (by omega) f t c v (by rw [hpl]; exact ok_false ho)).mono fun e w' => reqU_bad h ho
  | true =>
    obtain ⟨⟨f0, f1⟩, ⟨p, rfl, hp⟩, c', rfl, hc⟩ := ok_true ho
    exact (put_at a C T N f v p c' w h hg.wf.ce (by omega) f0 (by rw [hpl]; exact f1) (by omega) hc (by omega) (by omega) (by omega)).mono fun e w' => reqU_ok ho
theorem add_u : Calls Try.prog 10 #[.pointer (some ⟨a, 0, none⟩), .int .i64 f, .int .i64 t, .int .i64 c, .int .i64 v] w (ReqU a P C T N ⟨f, t, 3, c, v, 0⟩ w) := by
  have hpl := hg.wf.pl
  have hfl := hg.wf.fl
  have hse := hg.wf.se
  have hnn := hg.hn
  cases ho : okM P C ⟨f, t, 3, c, v, 0⟩ with
  | false => exact (add_bad a C T N w h (by omega) (by omega) f t c v (by rw [hpl]; exact ok_false ho)).mono fun e w' => reqU_bad h ho
  | true =>
    obtain ⟨⟨f0, f1⟩, ⟨p, rfl, hp⟩, c', rfl, hc⟩ := ok_true ho
    exact (add_at a C T N f v p c' w h hg.wf.ce (by omega) f0 (by rw [hpl]; exact f1) (by omega) hc (by omega) (by omega) (by omega)).mono fun e w' => reqU_ok ho
omit v in
theorem get_u : Calls Try.prog 29 #[.pointer (some ⟨a, 0, none⟩), .int .i64 f, .int .i64 t, .int .i64 c] w (ReqU a P C T N ⟨f, t, 2, c, 0, 0⟩ w) := by
  have hpl := hg.wf.pl
  have hfl := hg.wf.fl
  have hse := hg.wf.se
  have hnn := hg.hn
  cases ho : okM P C ⟨f, t, 2, c, 0, 0⟩ with
  | false => exact (get_bad a C T N w h (by omega) (by omega) f t c (by rw [hpl]; exact ok_false ho)).mono fun e w' => reqU_bad h ho
  | true =>
    obtain ⟨⟨f0, f1⟩, ⟨p, rfl, hp⟩, c', rfl, hc⟩ := ok_true ho
    exact (get_at a C T N f p c' w h hg.wf.ce (by omega) f0 (by rw [hpl]; exact f1) (by omega) hc (by omega) (by omega) (by omega)).mono fun e w' => reqU_ok ho
end
section
variable (b P C n : Nat) (T : List Nat) (N : Nt.Net) (w : World) (h : RefX w b P C T N) (hg : Good P C N n) (hn : n < 1000) (hP0 : 1 ≤ P) (hP : P ≤ 8) (hC0 : 1 ≤ C) (hC : C ≤ 64)
include h hg hn hP0 hP hC0 hC
omit hP0 in
theorem rsend_u (k f t c v : Int) (hk : 1 ≤ k ∧ k ≤ 3) (hkv : k = 2 → v = 0) : Calls Try.prog 55 #[.pointer (some ⟨b, 0, none⟩), .int .i64 k, .int .i64 f, .int .i64 t, .int .i64 c, .int .i64 v] w (RReqU b P C T N ⟨f, t, k, c, v, 0⟩ w) := by
  have hpl := hg.wf.pl
  have hfl := hg.wf.fl
  have hnn := hg.hn
  cases ho : okM P C ⟨f, t, k, c, v, 0⟩ with
  | false => exact (rsend_bad b P C T N w h k f t c v (ok_false ho) (by omega)).mono fun e w' => rreqU_bad h ho
  | true =>
    obtain ⟨⟨f0, f1⟩, ⟨p, rfl, hp⟩, c', rfl, hc⟩ := ok_true ho
    exact (rsend_at b P C T N f k v p c' w h hpl hg.wf.ce hP hC hk hkv f0 f1 hp hc (by omega) (by omega) (hg.many (by omega))).mono fun e w' => rreqU_ok ho
end
def DelivU (a C : Nat) (T : List Nat) (N : Nt.Net) (k : Int) (w : World) (e : Ending) (w' : World) : Prop := e = .returned (.int .i64 (delX N k)) ∧ NetPost a C T (delA N k) w w'
def RDelivU (b P C : Nat) (T : List Nat) (N : Nt.Net) (k : Int) (w : World) (e : Ending) (w' : World) : Prop := e = .returned (.int .i64 (delX N k)) ∧ RefPost b P C T (delA N k) w w'
theorem deliver_u (a P C n : Nat) (T : List Nat) (N : Nt.Net) (k : Int) (w : World) (h : NetX w a C T N) (hg : Good P C N n) (hn : n < 1000) (hP0 : 1 ≤ P) (hP : P ≤ 8) :
    Calls Try.prog 12 #[.pointer (some ⟨a, 0, none⟩), .int .i64 k] w (DelivU a C T N k w) := by
  have hpl := hg.wf.pl
  have hfl := hg.wf.fl
  have hnn := hg.hn
  unfold DelivU delA delX
  by_cases hk : 0 ≤ k ∧ k < N.fl.length
  · rw [dif_pos hk, if_pos hk]
    obtain ⟨j, rfl⟩ : ∃ j : Nat, k = j := ⟨k.toNat, by omega⟩
    exact deliver_at a P C T N j w h hg.wf hP (by omega)
  · rw [dif_neg hk, if_neg hk]
    refine (deliver_bad a C T N w h (by omega) (by omega) k hk (by omega)).mono fun e w' he => ?_
    obtain ⟨h1, rfl⟩ := he
    exact ⟨h1, .same h (Below.refl _ _)⟩
theorem rdeliver_u (b P C n : Nat) (T : List Nat) (N : Nt.Net) (k : Int) (w : World) (h : RefX w b P C T N) (hg : Good P C N n) (hn : n < 1000) (hP0 : 1 ≤ P) (hP : P ≤ 8) (hC : C ≤ 64) :
    Calls Try.prog 24 #[.pointer (some ⟨b, 0, none⟩), .int .i64 k] w (RDelivU b P C T N k w) := by
  have hpl := hg.wf.pl
  have hfl := hg.wf.fl
  have hnn := hg.hn
  unfold RDelivU delA delX
  by_cases hk : 0 ≤ k ∧ k < N.fl.length
  · rw [dif_pos hk, if_pos hk]
    obtain ⟨j, rfl⟩ : ∃ j : Nat, k = j := ⟨k.toNat, by omega⟩
    exact rdeliver_at b P C T N j w h hg.wf hg.cn hP hC (by omega)
  · rw [dif_neg hk, if_neg hk]
    refine (rdeliver_bad b P C T N w h k hk (by omega)).mono fun e w' he => ?_
    obtain ⟨h1, rfl⟩ := he
    exact ⟨h1, .same h (Below.refl _ _)⟩
def openR (P : Nat) (N : Nt.Net) (p : Int) : Int := if 0 ≤ p ∧ p < P then openN p.toNat N.hs else 0
def placeX (P : Nat) (p : Int) : Int := if 0 ≤ p ∧ p < P then 0 else 2
def cellR (P C : Nat) (N : Nt.Net) (p c : Int) : Int := if (0 ≤ p ∧ p < P) ∧ 0 ≤ c ∧ c < C then getC N.cs p.toNat c.toNat else 0
def cellX (P C : Nat) (p c : Int) : Int := if (0 ≤ p ∧ p < P) ∧ 0 ≤ c ∧ c < C then 0 else 2
def OpenU (P : Nat) (N : Nt.Net) (p : Int) (w : World) (e : Ending) (w' : World) : Prop := e = .returned (.tuple #[.int .i64 (openR P N p), .int .i64 (placeX P p)]) ∧ Below w.heap.size w w'
def CellU (P C : Nat) (N : Nt.Net) (p c : Int) (w : World) (e : Ending) (w' : World) : Prop := e = .returned (.tuple #[.int .i64 (cellR P C N p c), .int .i64 (cellX P C p c)]) ∧ Below w.heap.size w w'
section
variable (a P C n : Nat) (T : List Nat) (N : Nt.Net) (w : World) (h : NetX w a C T N) (hg : Good P C N n) (hn : n < 1000) (hP0 : 1 ≤ P) (hP : P ≤ 8)
include h hg hn hP0 hP
theorem open_u (p : Int) : Calls Try.prog 15 #[.pointer (some ⟨a, 0, none⟩), .int .i64 p] w (OpenU P N p w) := by
  have hpl := hg.wf.pl
  have hnn := hg.hn
  unfold OpenU openR placeX
  by_cases hp : 0 ≤ p ∧ p < P
  · rw [if_pos hp, if_pos hp]
    obtain ⟨q, rfl⟩ : ∃ q : Nat, p = q := ⟨p.toNat, by omega⟩
    exact open_at a C T N q w h (by omega) (by omega) (by omega)
  · rw [if_neg hp, if_neg hp]
    refine (open_bad a C T N w h (by omega) (by omega) p (by rw [hpl]; exact hp)).mono fun e w' he => ?_
    obtain ⟨h1, rfl⟩ := he
    exact ⟨h1, Below.refl _ _⟩
omit hn in
theorem cell_u (p c : Int) : Calls Try.prog 14 #[.pointer (some ⟨a, 0, none⟩), .int .i64 p, .int .i64 c] w (CellU P C N p c w) := by
  have hpl := hg.wf.pl
  unfold CellU cellR cellX
  by_cases hp : (0 ≤ p ∧ p < P) ∧ 0 ≤ c ∧ c < C
  · rw [if_pos hp, if_pos hp]
    obtain ⟨q, rfl⟩ : ∃ q : Nat, p = q := ⟨p.toNat, by omega⟩
    obtain ⟨d, rfl⟩ : ∃ d : Nat, c = d := ⟨c.toNat, by omega⟩
    refine (cell_of a C T N q d w h hg.wf.ce (by omega) (by omega) (by omega)).mono fun e w' he => ?_
    obtain ⟨h1, rfl⟩ := he
    exact ⟨h1, Below.refl _ _⟩
  · rw [if_neg hp, if_neg hp]
    refine (cell_bad a C T N w h (by omega) (by omega) p c (by rw [hpl]; exact hp)).mono fun e w' he => ?_
    obtain ⟨h1, rfl⟩ := he
    exact ⟨h1, Below.refl _ _⟩
end
section
variable (b P C n : Nat) (T : List Nat) (N : Nt.Net) (w : World) (h : RefX w b P C T N) (hg : Good P C N n) (hn : n < 1000) (hP0 : 1 ≤ P) (hP : P ≤ 8) (hC0 : 1 ≤ C) (hC : C ≤ 64)
include h hg hn hP0 hP hC0 hC
omit hP0 hP in
theorem ropen_u (p : Int) : Calls Try.prog 59 #[.pointer (some ⟨b, 0, none⟩), .int .i64 p] w (OpenU P N p w) := by
  have hnn := hg.hn
  unfold OpenU openR placeX
  by_cases hp : 0 ≤ p ∧ p < P
  · rw [if_pos hp, if_pos hp]
    obtain ⟨q, rfl⟩ : ∃ q : Nat, p = q := ⟨p.toNat, by omega⟩
    refine (ropen_at b P C T N w h q (by omega) (by omega) (by omega)).mono fun e w' he => ?_
    obtain ⟨h1, rfl⟩ := he
    exact ⟨h1, Below.refl _ _⟩
  · rw [if_neg hp, if_neg hp]
    refine (ropen_bad b P C T N w h p hp).mono fun e w' he => ?_
    obtain ⟨h1, rfl⟩ := he
    exact ⟨h1, Below.refl _ _⟩
omit hn hP0 hC0 in
theorem rcell_u (p c : Int) : Calls Try.prog 60 #[.pointer (some ⟨b, 0, none⟩), .int .i64 p, .int .i64 c] w (CellU P C N p c w) := by
  unfold CellU cellR cellX
  by_cases hp : (0 ≤ p ∧ p < P) ∧ 0 ≤ c ∧ c < C
  · rw [if_pos hp, if_pos hp]
    obtain ⟨q, rfl⟩ : ∃ q : Nat, p = q := ⟨p.toNat, by omega⟩
    obtain ⟨d, rfl⟩ : ∃ d : Nat, c = d := ⟨c.toNat, by omega⟩
    exact (rcell_at b P C T N w h q d (by omega) (by omega) hP hC hg.wf.pl hg.wf.ce).mono fun e w' he => ⟨he.1, below_of_drewN (Below.refl _ _) he.2⟩
  · rw [if_neg hp, if_neg hp]
    exact (rcell_bad b P C T N w h p c hp).mono fun e w' he => ⟨he.1, below_of_drewN (Below.refl _ _) he.2⟩
omit hP0 hP hC0 hC in
theorem rdone_u (k : Int) : Calls Try.prog 57 #[.pointer (some ⟨b, 0, none⟩), .int .i64 k] w (DoneR N.hs k w) := by
  have hnn := hg.hn
  refine (rdone_any b P C T N w h k (by omega)).mono fun e w' he => ?_
  obtain ⟨h1, rfl⟩ := he
  exact ⟨h1, Below.refl _ _⟩
omit hP0 hP hC0 hC in
theorem rvalue_u (k : Int) : Calls Try.prog 58 #[.pointer (some ⟨b, 0, none⟩), .int .i64 k] w (ValR N.hs k w) := by
  have hnn := hg.hn
  refine (rvalue_any b P C T N w h k (by omega)).mono fun e w' he => ?_
  obtain ⟨h1, rfl⟩ := he
  exact ⟨h1, Below.refl _ _⟩
end
/-- whether both are the same behind a delivery -/
def sameQ (N : Nt.Net) (k : Int) : Bool := !decide (0 ≤ k ∧ k < N.fl.length)
theorem same_u (a c P C n : Nat) (k : Int) (T T2 : List Nat) (N : Nt.Net) (w : World) (h : NetX w a C T (delA N k)) (h2 : NetX w c C T2 N) (hg : Good P C N n) (hP0 : 1 ≤ P) (hP : P ≤ 8) (hC : C ≤ 64) :
    Calls Try.prog 21 #[.pointer (some ⟨a, 0, none⟩), .pointer (some ⟨c, 0, none⟩)] w (SameR (sameQ N k) w) := by
  by_cases hk : 0 ≤ k ∧ k < N.fl.length
  · have e : sameQ N k = false := by simp [sameQ, hk]
    rw [e]
    exact same_diff a c C T T2 _ N P w h h2 (hg.del k).wf hg.wf (delA_ne hk) hP0 hP hC
  · have e : sameQ N k = true := by unfold sameQ; rw [decide_eq_false hk]; rfl
    have e2 : delA N k = N := by unfold delA; rw [dif_neg hk]
    rw [e2] at h
    rw [e]
    exact same_refl a c C T T2 N P w h h2 hg.wf hg.cn hP0 hP hC
theorem rsame_u (a c P C n : Nat) (k : Int) (T T2 : List Nat) (N : Nt.Net) (w : World) (h : RefX w a P C T (delA N k)) (h2 : RefX w c P C T2 N) (hg : Good P C N n) (hP0 : 1 ≤ P) (hP : P ≤ 8) (hC : C ≤ 64) :
    Calls Try.prog 23 #[.pointer (some ⟨a, 0, none⟩), .pointer (some ⟨c, 0, none⟩)] w (SameR (sameQ N k) w) := by
  by_cases hk : 0 ≤ k ∧ k < N.fl.length
  · have e : sameQ N k = false := by simp [sameQ, hk]
    rw [e]
    exact rsame_diff a c P C T T2 _ N w h h2 (hg.del k).wf hg.wf (delA_ne hk) hP0 hP hC
  · have e : sameQ N k = true := by unfold sameQ; rw [decide_eq_false hk]; rfl
    have e2 : delA N k = N := by unfold delA; rw [dif_neg hk]
    rw [e2] at h
    rw [e]
    exact rsame_refl a c P C T T2 N w h h2 hg.wf hP0 hP hC
end Go.Proofs.Ytimmmbjdaibplaa
