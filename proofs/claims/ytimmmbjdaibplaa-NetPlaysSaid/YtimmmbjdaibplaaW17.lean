/-
  Layer 16: the walks of slices.Values, AppendSeq and Collect at counts: what an iterator over a slice gives.
-/
import Derived.Test.YtimmmbjdaibplaaW12
import Derived.Test.YtimmmbjdaibplaaP3
import Derived.RangeFuncNested
import Derived.RangeFuncLeaves
import Derived.RangeFuncBox
import Derived.Shelf.Abstract
import Derived.OwnWalkIn
import Derived.TacticsInMore
import Derived.LoopNIn
import Derived.LoopIn
namespace Go.Proofs.Ytimmmbjdaibplaa
open Go.RowKit Go.Shelf
open Nt
set_option linter.unusedVariables false
set_option linter.unusedSimpArgs false
attribute [local go_sem] Oper.semAt_some

def cntA (x : Cnt) : Array Value := #[.int .i64 x.frm, .int .i64 x.to, .string x.kind, .int .i64 x.many]
def cntE (x : Cnt) : Array Value := #[.agg (cntA x)]
theorem cntA_list (x : Cnt) : (cntA x).toList = cntV x := rfl

set_option maxRecDepth 100000 in
set_option maxHeartbeats 4000000 in
/-- slices.Values's closure, for every loop body that keeps what lay below n₀ -/
theorem vals1_in (F : Fence) (n : Nat) (hf : F.fn 67) (hro : F.round = none) (hn : 1 ≤ n) (l Bs n₀ : Nat) (A : Option Addr) (cap : Nat) (zs : List Cnt) (hreach : zs.length ≤ 100000) (J Jx : List Cnt → World → Prop)
    (hY : ∀ pre x W, J pre W → pre.length < zs.length → YieldAt F (n - 1) Try.prog l (cntE x) W fun e W' =>
      (e = .returned (.bool true) ∧ J (pre ++ [x]) W' ∧ Below n₀ W W') ∨ (e = .returned (.bool false) ∧ Jx (pre ++ [x]) W'))
    (W : World) (hn₀ : n₀ ≤ W.heap.size) (hJ : AbidesFrom W.heap.size J) (hBs : W.cell? ⟨Bs, 0, none⟩ = some (.slice A zs.length cap)) (hown : W.ownsRow 0 48 4 (.slice A zs.length cap) zs.length (zs.flatMap cntV)) (hlt : ∀ g, Value.ownBlock (.slice A zs.length cap) = some g → g < n₀) (h0 : J [] W) :
    CallsIn F n Try.prog 67 #[.func (.yield l) #[] #[], .pointer (some ⟨Bs, 0, none⟩)] W fun e W' => (∃ v, e = .returned v) ∧
      ((∃ ys, ys = zs ∧ J ys W') ∨ (∃ pre, pre <+: zs ∧ Jx pre W')) := by
  refine callsIn_of_wp Try.func67 rfl hf ?_ hro
  simp only [Try.ntmps67, List.size_toArray, List.length_cons, List.length_nil, Nat.reduceAdd, Nat.reduceSub, Array.replicate_succ, Array.replicate_zero, List.push_toArray, List.append_toArray, List.nil_append, List.cons_append]
  have HO := Lib.hid hown
  have HL := Lib.hid hlt
  clear hown hlt
  gi_wp2
  gi_loopw [7] (fun i wr => ∃ k : Nat, k ≤ zs.length ∧ i = .int .i64 k ∧ J (zs.take k) wr ∧ Below n₀ W wr ∧ W.heap.size ≤ wr.heap.size)
    (fun i _ => zs.length - (intOf i).toNat)
  case atStart => exact ⟨0, Nat.zero_le _, rfl, by simpa using h0, Below.refl _ _, Nat.le_refl _⟩
  case round =>
    obtain ⟨k, hk, rfl, hJs, hnx, hsz⟩ := hrel
    by_cases hlt : k < zs.length
    · obtain ⟨g, rfl⟩ : ∃ g, A = some ⟨g, 0, none⟩ := by
        obtain ⟨A', cap', e, hA, -⟩ := own_form HO.out
        cases e
        exact hA (by omega)
      have hg : g < n₀ := HL.out g rfl
      have x0 := own_at HO.out ((flat_at cntV_len zs k hlt 0 (by omega)).trans rfl)
      have x1 := own_at HO.out ((flat_at cntV_len zs k hlt 1 (by omega)).trans rfl)
      have x2 := own_at HO.out ((flat_at cntV_len zs k hlt 2 (by omega)).trans rfl)
      have x3 := own_at HO.out ((flat_at cntV_len zs k hlt 3 (by omega)).trans rfl)
      have y0 := (hnx.cell (p := ⟨g, k * 4 + 0, none⟩) hg).trans x0
      have y1 := (hnx.cell (p := ⟨g, k * 4 + 1, none⟩) hg).trans x1
      have y2 := (hnx.cell (p := ⟨g, k * 4 + 2, none⟩) hg).trans x2
      have y3 := (hnx.cell (p := ⟨g, k * 4 + 3, none⟩) hg).trans x3
      simp only [Nat.add_zero] at y0
      clear x0 x1 x2 x3
      have hts : zs.take (k + 1) = zs.take k ++ [zs[k]] := List.take_succ_eq_append_getElem hlt
      obtain ⟨x, hx⟩ : ∃ x, zs[k] = x := ⟨_, rfl⟩
      rw [hx] at y0 y1 y2 y3 hts
      have hJa : J (zs.take k) (wr.alloc (.cells (cntA x) 48)) := hJ _ _ _ none hJs (World.grownBy_alloc _ _ _) (fun r e => by cases e)
      obtain ⟨fn, tmps, assign, body, hy, hR⟩ := hY _ x _ hJa (by rw [List.length_take]; omega)
      rw [← hts] at hR
      have HR := Lib.hid hR
      unfold cntE cntA at hy
      have hk1 : (k : Int) < (zs.length : Int) := by omega
      have hk0 : (0 : Int) ≤ (k : Int) := by omega
      have hk2 : (zs.length : Int) ≤ 100000 := by omega
      have hpre : zs.take (k + 1) <+: zs := List.take_prefix _ _
      clear hx hts hR
      gi_wp2
      refine HR.out.mono ?_
      rintro e W3 (⟨rfl, hJ3, hk3⟩ | ⟨rfl, hJx3⟩)
      · have hb3 : Below n₀ W W3 := (hnx.alloc (Nat.le_trans hn₀ hsz) _).trans hk3
        have hs3 : W.heap.size ≤ W3.heap.size := by have := hk3.size; simp at this; omega
        clear hJs hJa hJ HR hnx hk3
        gi_wp2
        go_roundw
        case rel => exact ⟨k + 1, by omega, by simp, hJ3, hb3, hs3⟩
        case measure => simp [intOf]; omega
      · clear hJs hJa hJ HR hnx
        gi_wp2
        refine bodyPost_ret (results_none rfl _ _ _) rfl ?_
        exact ⟨⟨_, rfl⟩, .inr ⟨_, hpre, hJx3⟩⟩
    · obtain rfl : k = zs.length := by omega
      have hk1 : ¬ ((zs.length : Int) < (zs.length : Int)) := by omega
      rw [List.take_length] at hJs
      gi_wp2
      go_end0
      exact ⟨⟨_, rfl⟩, .inl hJs⟩

set_option maxHeartbeats 1000000 in
theorem values_in (F : Fence) (n : Nat) (hf : F.fn 42) (hro : F.round = none) (A : Option Addr) (len cap : Nat) (w : World) :
    CallsIn F n Try.prog 42 #[.slice A len cap] w fun e w' => e = .returned (.func (.func 67) #[] #[.pointer (some ⟨w.heap.size, 0, none⟩)]) ∧ w' = w.alloc (.cells #[.slice A len cap] 45) := by
  refine callsIn_of_wp Try.func42 rfl hf ?_ hro
  simp only [Try.ntmps42, List.size_toArray, List.length_cons, List.length_nil, Nat.reduceAdd, Nat.reduceSub, Array.replicate_succ, Array.replicate_zero, List.push_toArray, List.append_toArray, List.nil_append, List.cons_append]
  gi_wp2
  go_ret
  exact ⟨rfl, rfl⟩

/-- what the iterator gives: all of zs, in order, or a part -/
theorem values_stops (F : Fence) (n : Nat) (hf : F.fn 67) (hro : F.round = none) (hn : 1 ≤ n) (Bs n₀ : Nat) (A : Option Addr) (cap : Nat) (zs : List Cnt) (hreach : zs.length ≤ 100000) (w : World) (hBs : Bs < w.heap.size) (hn₀ : n₀ ≤ w.heap.size)
    (hc : w.cell? ⟨Bs, 0, none⟩ = some (.slice A zs.length cap)) (hown : w.ownsRow 0 48 4 (.slice A zs.length cap) zs.length (zs.flatMap cntV)) (hlt : ∀ g, Value.ownBlock (.slice A zs.length cap) = some g → g < n₀) :
    SeqStopsK F n Try.prog 67 #[.pointer (some ⟨Bs, 0, none⟩)] cntE (Below n₀) (fun ys => ys = zs) (fun pre => pre <+: zs) zs.length w := fun l J Jx W hW hJ _ hY h0 =>
  vals1_in F n hf hro hn l Bs n₀ A cap zs hreach J Jx hY W (Nat.le_trans hn₀ hW.size) hJ ((hW.cell (p := ⟨Bs, 0, none⟩) hBs).trans hc)
    (own_keep hown fun g hg => hW.block g (Nat.lt_of_lt_of_le (hlt g hg) hn₀)) hlt h0

theorem rows_own (n₀ B : Nat) (e : TypeId) (hte : 45 ≠ e) : Own (fun (s : List Cnt) W => ∃ v, Boxed W B 45 v ∧ W.ownsRow n₀ e 4 v s.length (s.flatMap cntV) ∧ (v = .slice none 0 0 ↔ s = [])) :=
  holdsRow_own n₀ B 45 e 4 (fun s : List Cnt => s.length) (fun s => s.flatMap cntV) (fun s v => (v = .slice none 0 0 ↔ s = []))
theorem blk_own {β : Type} (B : Nat) (cs : Array Value) (t : TypeId) : Own (fun (_ : β) W => W.heap[B]? = some (.cells cs t (0, 0))) := fun s X Y row hs hg hrow =>
  (hg.block B (blk_lt hs) (fun e' => by obtain ⟨o, ho, hc⟩ := hrow B e'.symm; rw [hs] at ho; cases ho; cases hc)).trans hs
theorem infoCnt' : (Try.prog.info? 48).map (fun i => (i.zero, i.size, i.bytes)) = some (some (.agg #[.int .i64 0, .int .i64 0, .string ⟨#[]⟩, .int .i64 0]), 4, 40) := by kernel_rfl

def ColE (zs : List Cnt) (w : World) (e : Ending) (w' : World) : Prop := ∃ v, e = .returned v ∧ w'.ownsRow w.heap.size 48 4 v zs.length (zs.flatMap cntV) ∧ (v = .slice none 0 0 ↔ zs = []) ∧ Below w.heap.size w w'

set_option maxRecDepth 100000 in
set_option maxHeartbeats 8000000 in
/-- slices.AppendSeq(nil, seq) -/
theorem appendSeq_in (F : Fence) (n : Nat) (h1 : F.fn 71) (h2 : F.fn 67) (hro : F.round = none) (hn : 3 ≤ n) (Bs : Nat) (A : Option Addr) (cap : Nat) (zs : List Cnt) (hreach : zs.length ≤ 100000) (w : World) (hBs : Bs < w.heap.size)
    (hc : w.cell? ⟨Bs, 0, none⟩ = some (.slice A zs.length cap)) (hown : w.ownsRow 0 48 4 (.slice A zs.length cap) zs.length (zs.flatMap cntV)) (hlt : ∀ g, Value.ownBlock (.slice A zs.length cap) = some g → g < w.heap.size) :
    CallsIn F n Try.prog 71 #[.slice none 0 0, .func (.func 67) #[] #[.pointer (some ⟨Bs, 0, none⟩)]] w (ColE zs w) := by
  have hn1 : 1 ≤ n := by omega
  obtain ⟨i0, hi, hz0, hz1, hz2⟩ := info_parts infoCnt'
  refine callsIn_of_wp_marks Try.func71 rfl h1 ?_ hro
  simp only [Try.ntmps71, List.size_toArray, List.length_cons, List.length_nil, Nat.reduceAdd, Nat.reduceSub, Array.replicate_succ, Array.replicate_zero, List.push_toArray, List.append_toArray, List.nil_append, List.cons_append]
  have bS := Boxed.new w 45 (.slice none 0 0)
  have hB0 : Below w.heap.size w (w.alloc (.cells #[.slice none 0 0] 45)) := (Below.refl _ w).alloc (Nat.le_refl _) _
  have hsz : (w.alloc (.cells #[.slice none 0 0] 45)).heap.size = w.heap.size + 1 := by simp
  have HC := Lib.hid hc
  have HO := Lib.hid hown
  have HL := Lib.hid hlt
  clear hc hown hlt
  gi_wp2
  obtain ⟨W0, hW0⟩ : ∃ W0, w.alloc (.cells #[.slice none 0 0] 45) = W0 := ⟨_, rfl⟩
  rw [hW0] at bS hB0 hsz ⊢
  clear hW0
  refine wpIn_rangeFunc_ownH hro hn1 (gf := 67) (lb := #[.pointer (some ⟨Bs, 0, none⟩)]) rfl h2 (enters_of Try.func67 (by kernel_rfl) rfl)
    (values_stops F (n - 1) h2 hro (by omega) Bs w.heap.size A cap zs hreach W0 (by omega) hB0.size ((hB0.cell (p := ⟨Bs, 0, none⟩) hBs).trans HC.out) (own_keep HO.out fun g hg => hB0.block g (HL.out g hg)) HL.out) belowK_t (belowK_b (by omega)) (Below.refl _ _) (fun _ => rfl)
    (fun pre W => (∃ v, Boxed W w.heap.size 45 v ∧ W.ownsRow w.heap.size 48 4 v pre.length (pre.flatMap cntV) ∧ (v = .slice none 0 0 ↔ pre = [])) ∧ Below w.heap.size w W)
    (fun _ _ _ => False)
    (OwnFrom.and (Own.from (rows_own _ _ _ (by decide)) _) (ownFrom_below (Nat.le_refl _) (by omega)))
    (fun _ _ _ _ _ hs _ _ => hs)
    ⟨⟨_, bS, World.ownsRow_nil _ _ _ _, by simp⟩, hB0⟩
    (fun x a' W => ∃ Bx, w.heap.size < Bx ∧ W.heap[Bx]? = some (.cells (cntA x) 48 (0, 0)) ∧ a' = { tmps := #[.slice none 0 0, .func (.func 67) #[] #[.pointer (some ⟨Bs, 0, none⟩)], .pointer (some ⟨w.heap.size, 0, none⟩), undef, .slice none 0 0, .pointer (some ⟨Bx, 0, none⟩), .func (.func 67) #[] #[.pointer (some ⟨Bs, 0, none⟩)], .agg (cntA x), undef, undef, undef, undef, undef], defers := [] })
    (fun x a' _ X Y row hs hg hr => by obtain ⟨Bx, h1, h2, h3⟩ := hs; exact ⟨Bx, h1, blk_own (β := Unit) Bx _ _ () X Y row h2 hg (fun r e => (hr r e).2), h3⟩)
    ?assign ?body ?done ?stop
  case assign =>
    rintro l pre x W K ⟨⟨v, bV, hrow, hnil⟩, hB⟩ hK
    have HK := Lib.hid hK
    clear hK
    unfold cntE cntA
    gi_wp2
    exact HK.out _ _ ((KeepsOthers.alloc _ _).from _) ((Below.refl _ W).alloc hB.size _) ⟨⟨v, bV.alloc _, hrow.alloc _, hnil⟩, hB.alloc hB.size _⟩ ⟨W.heap.size, bV.lt, heap_alloc_new W _, rfl⟩
  case body =>
    rintro l pre x a' W hl ⟨r, hr⟩ ⟨⟨v, bV, hrow, hnil⟩, hB⟩ ⟨Bx, hBx, bX, rfl⟩ hlen
    have c0 := bV.cell
    have x0 : W.cell? ⟨Bx, 0, none⟩ = some (.int .i64 x.frm) := blk_cell bX 0
    have x1 : W.cell? ⟨Bx, 1, none⟩ = some (.int .i64 x.to) := blk_cell bX 1
    have x2 : W.cell? ⟨Bx, 2, none⟩ = some (.string x.kind) := blk_cell bX 2
    have x3 : W.cell? ⟨Bx, 3, none⟩ = some (.int .i64 x.many) := blk_cell bX 3
    have HR := Lib.hid hrow
    have HN := Lib.hid hnil
    have HB := Lib.hid hB
    have HV := Lib.hid bV
    clear hr hrow hnil hB bX bV
    unfold cntA
    gi_wp2_with (gi_at_builtin; refine wpListIn_append_own _ rfl _ _ 45 rfl w.heap.size 48 i0 _ 4 40 Try.underlying45 hi hz0 hz1 hz2 rfl (by decide) _ _ _ rfl (HR.out.alloc _) ⟨W.heap.size, 0, none⟩ 1 1 (cntV x) rfl rfl (World.news_of_block (cs := cntA x) (t := 48) (fr := (0, 0)) (heap_alloc_new W _)) (by simp [cntV, Value.oneCell']) (by unfold maxLen; omega) (by omega) (by have := HB.out.size; simp; omega) ?_; intro v' w1 hown' hgrow _; obtain ⟨g', cap', rfl⟩ := ownsRow_succ hown'; obtain ⟨hv1, hv2, hr2, hk2, hb2⟩ := HV.out.appended (by decide) HR.out HB.out.size (Nat.le_refl _) hown' hgrow; have hc1 := hv1.cell; have hf1 := hv1.frozen; have HG := Lib.hid hgrow; have HW := Lib.hid hown'; have HS := Lib.hid (And.intro hv2 (And.intro hr2 (And.intro hk2 hb2))); clear hgrow hown' hv1 hv2 hr2 hk2 hb2)
    obtain ⟨hv2, hr2, hk2, hb2⟩ := HS.out
    exact ⟨hk2.from _, hb2, ⟨_, hv2, by simpa using hr2, by simp⟩, HB.out.trans hb2⟩
  case done =>
    rintro D ys W hD rfl ⟨⟨v, bV, hrow, hnil⟩, hB⟩ hK
    have c0 := bV.cell
    have HR := Lib.hid hrow
    have HN := Lib.hid hnil
    have HB := Lib.hid hB
    have HV := Lib.hid bV
    clear hrow hnil hB bV
    gi_wp2
    refine ⟨by simp, .inl ⟨_, _, rfl, run_takeDeferred hK, ?_⟩⟩
    exact ⟨_, results_tmp rfl _ _ _, v, rfl, ownsRow_putObj HR.out _ hK rfl, HN.out, HB.out.trans (belowK_b (w := w) (Nat.le_refl _) W D _ _ (by omega) hK rfl rfl)⟩
  case stop =>
    rintro D c pre W hD _ hF
    exact hF.elim

theorem collect_in (F : Fence) (n : Nat) (h0 : F.fn 65) (h1 : F.fn 71) (h2 : F.fn 67) (hro : F.round = none) (hn : 4 ≤ n) (Bs : Nat) (A : Option Addr) (cap : Nat) (zs : List Cnt) (hreach : zs.length ≤ 100000) (w : World) (hBs : Bs < w.heap.size)
    (hc : w.cell? ⟨Bs, 0, none⟩ = some (.slice A zs.length cap)) (hown : w.ownsRow 0 48 4 (.slice A zs.length cap) zs.length (zs.flatMap cntV)) (hlt : ∀ g, Value.ownBlock (.slice A zs.length cap) = some g → g < w.heap.size) :
    CallsIn F n Try.prog 65 #[.func (.func 67) #[] #[.pointer (some ⟨Bs, 0, none⟩)]] w (ColE zs w) := by
  have K := Lib.hid (appendSeq_in F (n - 1) h1 h2 hro (by omega) Bs A cap zs hreach w hBs hc hown hlt)
  have hn1 : 1 ≤ n := by omega
  clear hc hown hlt
  refine callsIn_of_wp Try.func65 rfl h0 ?_ hro
  simp only [Try.ntmps65, List.size_toArray, List.length_cons, List.length_nil, Nat.reduceAdd, Nat.reduceSub, Array.replicate_succ, Array.replicate_zero, List.push_toArray, List.append_toArray, List.nil_append, List.cons_append]
  gi_wp2_with (gi_at_call 71; refine K.out.mono ?_; rintro e w' ⟨v, rfl, ho, hni, hb⟩; have HE := Lib.hid (And.intro ho (And.intro hni hb)); clear ho hni hb)
  go_ret
  exact ⟨v, rfl, HE.out⟩
end Go.Proofs.Ytimmmbjdaibplaa
