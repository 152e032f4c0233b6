/-
  Layer 16: the walk of send.
-/
import Derived.Test.YtimmmbjdaibplaaMem2
import Derived.Test.YtimmmbjdaibplaaW3
import Derived.Deep.DeepCutAuto
import Derived.Deep.DrawnRows
namespace Go.Proofs.Ytimmmbjdaibplaa
open Go.RowKit
open Nt
set_option linter.unusedVariables false
set_option linter.unusedSimpArgs false

attribute [local go_sem ↓] Go.wp_at_zero Go.wp_at_succ

theorem infoMsg : (Try.prog.info? 74).map (fun i => (i.zero, i.size, i.bytes)) = some (some (.agg #[.int .i64 0, .int .i64 0, .int .i64 0, .int .i64 0, .int .i64 0, .int .i64 0]), 6, 48) := by kernel_rfl
theorem infoCnt : (Try.prog.info? 48).map (fun i => (i.zero, i.size, i.bytes)) = some (some (.agg #[.int .i64 0, .int .i64 0, .string ⟨#[]⟩, .int .i64 0]), 4, 40) := by kernel_rfl
theorem infoHd : (Try.prog.info? 81).map (fun i => (i.zero, i.size, i.bytes)) = some (some (.agg #[.int .i64 0, .int .i64 0, .bool false]), 3, 24) := by kernel_rfl

theorem news2 (w : World) (o : Obj) (cs : Array Value) (t : TypeId) : ((w.alloc o).alloc (.cells cs t)).heap[w.heap.size + 1]? = some (.cells cs t (0, 0)) := by
  have h := heap_alloc_new (w.alloc o) (.cells cs t)
  simpa using h
def boxOf (m : Msg) : Array Value := #[.int .i64 m.frm, .int .i64 m.to, .int .i64 m.kind, .int .i64 m.cell, .int .i64 m.val, .int .i64 m.hnd]
/-- what the first statement of send leaves -/
def SendCut (a C bc kc : Nat) (cur : Array Value) (rs : List Nat) (vf vh vs : Value) (N : Nt.Net) (m : Msg) (w wx : World) : Prop :=
  ∃ vf', NetAt wx a C bc kc cur rs vf' vh vs ⟨N.cs, N.fl ++ [m], N.hs, N.sent⟩ ∧ Keeps (netL a bc rs vf vh vs) w wx ∧ Grows (netL a bc rs vf vh vs) (netL a bc rs vf' vh vs) w ∧ wx.heap[w.heap.size]? = some (.cells (boxOf m) 74 (0, 0))
theorem send_cut {w w1 : World} {a C bc kc : Nat} {cur : Array Value} {rs : List Nat} {vf vh vs : Value} {N : Nt.Net} (h : NetAt w a C bc kc cur rs vf vh vs N) (m : Msg) (o : Obj) {g cap : Nat}
    (hown : w1.ownsRow 0 74 6 (.slice (some ⟨g, 0, none⟩) (N.fl.length + 1) cap) (N.fl.length + 1) (N.fl.flatMap msgV ++ msgV m)) (hgrow : ((w.alloc (.cells (boxOf m) 74)).alloc o).drew.grownBy w1 vf.ownBlock) (hat : vf.ownBlock = some g ∨ g = w.heap.size + 2) :
    SendCut a C bc kc cur rs vf vh vs N m w (w1.setCell ⟨a, 1, none⟩ (.slice (some ⟨g, 0, none⟩) (N.fl.length + 1) cap)) := by
  have hb : Below w.heap.size w ((w.alloc (.cells (boxOf m) 74)).alloc o).drew := (((Below.refl _ _).alloc (Nat.le_refl _) _).alloc (by simp) _).drew
  have h0 := h.below hb
  have hsz : ((w.alloc (.cells (boxOf m) 74)).alloc o).drew.heap.size = w.heap.size + 2 := by simp
  obtain ⟨h1, h2, h3⟩ := net_app_f h0 m hown hgrow (by rw [hsz]; exact hat)
  refine ⟨_, h1, (Keeps.of_below hb).trans h2 (Grows.refl _ _), (Grows.refl _ _).trans h3 hb.size, ?_⟩
  have hal : a < w.heap.size := blk_lt h.hd
  refine (Below.heap_setCell _ _ _ _ (by simp only; omega)).trans ((hgrow.block _ (by rw [hsz]; omega) (fun e => ?_)).trans ?_)
  · exact absurd (h.fo.lt _ e.symm).2 (Nat.lt_irrefl _)
  · exact (Below.heap_alloc _ _ _ (by simp)).trans (heap_alloc_new w _)

def NetPost (a C : Nat) (T : List Nat) (N' : Nt.Net) (w w' : World) : Prop := ∃ T', NetX w' a C T' N' ∧ Grows T T' w ∧ Keeps T w w'
/-- what send leaves -/
def SendE (a C bc kc : Nat) (cur : Array Value) (rs : List Nat) (vf vh vs : Value) (N : Nt.Net) (m : Msg) (w : World) (e : Ending) (w' : World) : Prop :=
  e = .returned (.tuple #[]) ∧ ∃ vf' vs', NetAt w' a C bc kc cur rs vf' vh vs' (sendN N m) ∧ Grows (netL a bc rs vf vh vs) (netL a bc rs vf' vh vs') w ∧ Keeps (netL a bc rs vf vh vs) w w'
theorem isCnt_no1 {x : Cnt} {f t : Int} {k : ByteArray} (h : x.frm ≠ f) : isCnt x f t k = false := by simp [isCnt, h]
theorem isCnt_no2 {x : Cnt} {f t : Int} {k : ByteArray} (h : x.to ≠ t) : isCnt x f t k = false := by simp [isCnt, h]
theorem isCnt_q {x : Cnt} {f t : Int} {k : ByteArray} {q : Bool} (h1 : x.frm = f) (h2 : x.to = t) (h : (x.kind.toList == k.toList) = q) : isCnt x f t k = q := by simp [isCnt, h1, h2, h]
/-- no count of the first k -/
def Miss (l : List Cnt) (f t : Int) (kd : ByteArray) (k : Nat) : Prop := ∀ (j : Nat) (hj : j < l.length), j < k → isCnt l[j] f t kd = false
theorem Miss.next {l : List Cnt} {f t : Int} {kd : ByteArray} {k : Nat} (h : Miss l f t kd k) (hk : k < l.length) (hx : isCnt l[k] f t kd = false) : Miss l f t kd (k + 1) := fun j hj hjk => by
  by_cases e : j = k
  · subst e; exact hx
  · exact h j hj (by omega)

theorem own_below {w w' : World} {e : TypeId} {size : Nat} {v : Value} {n : Nat} {xs : List Value} (h : w.ownsRow 0 e size v n xs) (hb : Below w.drew.heap.size w.drew w') : w'.ownsRow 0 e size v n xs := own_keep h fun g hg => hb.block g (h.lt g hg).2
section
variable {a C bc kc : Nat} {cur : Array Value} {rs : List Nat} {vf vf' vh vs : Value} {N : Nt.Net} {m : Msg} {w wc w2 : World}
theorem sendE_hit {g j : Nat} {z : Value} {S' : List Cnt} (h1 : Keeps (netL a bc rs vf vh vs) w wc) (h2 : Grows (netL a bc rs vf vh vs) (netL a bc rs vf' vh vs) w) (hb : Below wc.heap.size wc w2) (hvs : vs.ownBlock = some g)
    (hN : NetAt (w2.setCell ⟨g, j, none⟩ z) a C bc kc cur rs vf' vh vs ⟨N.cs, N.fl ++ [m], N.hs, S'⟩) (hS : bump N.sent m.frm m.to (kname m.kind) = S') :
    SendE a C bc kc cur rs vf vh vs N m w (.returned (.tuple #[])) (w2.setCell ⟨g, j, none⟩ z) := by
  refine ⟨rfl, vf', vs, ?_, h2, h1.trans ((Keeps.of_below hb).setCell (.inl (by simp [netL, mem_ownL hvs])) _) h2⟩
  unfold sendN
  rw [hS]
  exact hN
theorem sendE_miss {w0 w3 : World} {g cap : Nat} {kn : ByteArray} (h1 : Keeps (netL a bc rs vf vh vs) w wc) (h2 : Grows (netL a bc rs vf vh vs) (netL a bc rs vf' vh vs) w) (hb : Below wc.heap.size wc w0)
    (hN : NetAt w0 a C bc kc cur rs vf' vh vs ⟨N.cs, N.fl ++ [m], N.hs, N.sent⟩)
    (hown : w3.ownsRow 0 48 4 (.slice (some ⟨g, 0, none⟩) (N.sent.length + 1) cap) (N.sent.length + 1) (N.sent.flatMap cntV ++ cntV ⟨m.frm, m.to, kn, 1⟩)) (hgrow : w0.grownBy w3 vs.ownBlock) (hat : vs.ownBlock = some g ∨ g = w0.heap.size)
    (hS : bump N.sent m.frm m.to (kname m.kind) = N.sent ++ [⟨m.frm, m.to, kn, 1⟩]) :
    SendE a C bc kc cur rs vf vh vs N m w (.returned (.tuple #[])) (w3.setCell ⟨a, 3, none⟩ (.slice (some ⟨g, 0, none⟩) (N.sent.length + 1) cap)) := by
  obtain ⟨k1, k2, k3⟩ := net_app_s hN ⟨m.frm, m.to, kn, 1⟩ hown hgrow hat
  have k3' : Grows (netL a bc rs vf' vh vs) (netL a bc rs vf' vh (.slice (some ⟨g, 0, none⟩) (N.sent.length + 1) cap)) wc := fun x hx => by
    rcases k3 x hx with h | h
    · exact .inl h
    · exact .inr (Nat.le_trans hb.size h)
  refine ⟨rfl, vf', _, ?_, h2.trans k3' h1.size, h1.trans ((Keeps.of_below hb).trans k2 (Grows.refl _ _)) h2⟩
  unfold sendN
  rw [hS]
  exact k1
end
set_option maxHeartbeats 16000000 in
set_option maxRecDepth 100000 in
theorem send_at (a C bc kc : Nat) (cur : Array Value) (rs : List Nat) (vf vh vs : Value) (N : Nt.Net) (m : Msg) (w : World) (h : NetAt w a C bc kc cur rs vf vh vs N) (hk : 1 ≤ m.kind ∧ m.kind ≤ 4) (hf : N.fl.length ≤ 100000) (hs : N.sent.length ≤ 100000) :
    Calls Try.prog 37 #[.pointer (some ⟨a, 0, none⟩), .agg #[.int .i64 m.frm, .int .i64 m.to, .int .i64 m.kind, .int .i64 m.cell, .int .i64 m.val, .int .i64 m.hnd]] w (SendE a C bc kc cur rs vf vh vs N m w) := by
  obtain ⟨i0, hi0, hz0, hz1, hz2⟩ := info_parts infoMsg
  obtain ⟨j0, hj0, hy0, hy1, hy2⟩ := info_parts infoCnt
  obtain ⟨c0, c1, c2, c3⟩ := h.cells
  obtain ⟨e0, e1, e2, e3⟩ := h.frees
  have lg := blk_lt h.hd
  have hfo := Lib.hid h.fo
  have ag : vf.ownBlock ≠ some a := fun e => (h.f_ne e).1 rfl
  have hfn : N.fl.length + 1 ≤ 100001 := by omega
  have f1 := fun o => free_alloc (o := o) c1 e1
  have f2 := fun o o2 => free_alloc (o := o2) (cell_alloc (o := o) c1) (f1 o)
  have f3 := fun o o2 => cell_alloc (o := o2) (cell_alloc (o := o) c1)
  have H := Lib.hid h
  clear h c0 c2 c3 e0 e2 e3
  go_enter Try.func37, Try.ntmps37
  go_upto_region 1 with fail
  go_cut [] (fun wx => SendCut a C bc kc cur rs vf vh vs N m w wx)
  case first =>
    go_region_law
      ((refine step_append_lies _ (by rfl) _ _ _ (by rfl) 0 74 i0 _ 6 48 Try.underlying33 hi0 hz0 hz1 hz2 rfl (by omega) vf N.fl.length (N.fl.flatMap msgV) (by rfl) (((hfo.out.alloc _).alloc _).drew)
            ⟨w.heap.size + 1, 0, none⟩ 1 1 (msgV m) (by rfl) (by rfl) (World.news_of_block (cs := (msgV m).toArray) (t := 74) (fr := (0, 0)) (news2 w _ _ _)) (by simp [Value.oneCell', msgV])
            (by omega) (by unfold maxLen; omega) (by omega) (by simp) (w.heap.size + 2) (by simp) ?_; intro gg cap w1 hown1 hgrow hat hlt; have hs1 := (hgrow.cell_far ⟨a, 1, none⟩ (by simp; omega) (Ne.symm ag)).trans (f3 _ _); have hs2 := (hgrow.frozen_far ⟨a, 1, none⟩ (by simp; omega) (Ne.symm ag)).trans (f2 _ _)))
    all_goals (go_wp2_with fail; go_meet; exact send_cut H.out m _ hown1 hgrow hat)
  case rest =>
    obtain ⟨vf', hN, hG1, hG2, hbx⟩ := hcut
    obtain ⟨A, cap, rfl, hA, hcap⟩ := own_form hN.so
    obtain ⟨c0, c1', c2, c3⟩ := hN.cells
    obtain ⟨e0, e1', e2, e3⟩ := hN.frees
    have HN := Lib.hid hN
    have HG1 := Lib.hid hG1
    have HG2 := Lib.hid hG2
    have HBX := Lib.hid hbx
    have HA := Lib.hid hA
    obtain ⟨kn, hkn⟩ : ∃ k, kname m.kind = k := ⟨_, rfl⟩
    have HKN := Lib.hid hkn
    have HNM := fun u => Lib.hid (name_any m.kind u hk.1 hk.2)
    unfold NameE at HNM
    rw [hkn] at HNM
    try dsimp only at c3
    clear hN hG1 hG2 hbx hA hkn c0 c1' c2 e0 e1' e2 f1 f2 f3 c1 e1 hfo H ag lg hi0 hz0 hz1 hz2 hf hfn hk
    have hn0 : (0 : Int) ≤ (N.sent.length : Int) := by omega
    have hn1 : (N.sent.length : Int) ≤ 100000 := by omega
    go_wp2_with fail
    go_loopw [21] (fun i wr => ∃ k : Nat, k ≤ N.sent.length ∧ i = .int .i64 k ∧ Hid (Miss N.sent m.frm m.to kn k) ∧ Below wc.heap.size wc wr) (fun i _ => N.sent.length - (intOf i).toNat)
    case atStart => exact ⟨0, Nat.zero_le _, rfl, (fun j hj h0 => absurd h0 (Nat.not_lt_zero _)), Below.refl _ _⟩
    case round =>
      obtain ⟨k, hkn, rfl, hmiss, hb⟩ := hrel
      have hNr := HN.out.below hb
      have hbxr := (hb.block _ (blk_lt HBX.out)).trans HBX.out
      obtain ⟨-, -, -, c3⟩ := hNr.cells
      obtain ⟨-, -, -, e3⟩ := hNr.frees
      try dsimp only at c3
      have b0 : wr.cell? ⟨w.heap.size, 0, none⟩ = some (.int .i64 m.frm) := blk_cell hbxr 0
      have b1 : wr.cell? ⟨w.heap.size, 1, none⟩ = some (.int .i64 m.to) := blk_cell hbxr 1
      have b2 : wr.cell? ⟨w.heap.size, 2, none⟩ = some (.int .i64 m.kind) := blk_cell hbxr 2
      by_cases hlt : k < N.sent.length
      · obtain ⟨g, rfl⟩ := HA.out (show 0 < N.sent.length by omega)
        have hso := hNr.so
        try dsimp only at hso
        have x0 : wr.cell? ⟨g, k * 4, none⟩ = some (.int .i64 N.sent[k].frm) := own_at hso ((flat_at cntV_len N.sent k hlt 0 (by omega)).trans rfl)
        have x1 : wr.cell? ⟨g, k * 4 + 1, none⟩ = some (.int .i64 N.sent[k].to) := own_at hso ((flat_at cntV_len N.sent k hlt 1 (by omega)).trans rfl)
        have x2 : wr.cell? ⟨g, k * 4 + 2, none⟩ = some (.string N.sent[k].kind) := own_at hso ((flat_at cntV_len N.sent k hlt 2 (by omega)).trans rfl)
        have x3 : wr.cell? ⟨g, k * 4 + 3, none⟩ = some (.int .i64 N.sent[k].many) := own_at hso ((flat_at cntV_len N.sent k hlt 3 (by omega)).trans rfl)
        have y3 : wr.frozen? ⟨g, k * 4 + 3, none⟩ = false := hso.frozenAt _
        have HX := Lib.hid (hmiss.out.next hlt)
        have hset := fun (u : World) (hbu : Below wr.heap.size wr u) z => net_set_s (hNr.below hbu) hlt z
        have lgg := World.block_lt_of_cell? wr _ x0
        have laa := World.block_lt_of_cell? wr _ c3
        dsimp only at lgg laa
        have HSET := Lib.hid hset
        have HHIT := Lib.hid (bump_hit m.frm m.to kn N.sent k hlt hmiss.out)
        clear hso hset
        obtain ⟨x, hx⟩ : ∃ x, N.sent[k] = x := ⟨_, rfl⟩
        rw [hx] at x0 x1 x2 x3 HX HSET HHIT
        clear hx
        have HB := Lib.hid hb
        have HM := Lib.hid hmiss
        have hk0 : (0 : Int) ≤ (k : Int) := by omega
        have hk1 : (k : Int) < (N.sent.length : Int) := by omega
        have lb := (Array.getElem?_eq_some_iff.1 hbxr).1
        clear hmiss hNr hbxr
        by_cases q1 : x.frm = m.frm
        · have d1 : ((x.frm : Int) == m.frm) = true := beq_iff_eq.2 q1
          by_cases q2 : x.to = m.to
          · have d2 : ((x.to : Int) == m.to) = true := beq_iff_eq.2 q2
            obtain ⟨q, hq⟩ : ∃ q, (x.kind.toList == kn.toList) = q := ⟨_, rfl⟩
            have HQ := Lib.hid (isCnt_q q1 q2 hq)
            clear q1 q2
            cases q
            all_goals
              go_wp2_with fail
              go_region_held3 (fun w' => w'.cell? ⟨w.heap.size, 0, none⟩ = some (.int .i64 m.frm) ∧ w'.cell? ⟨w.heap.size, 1, none⟩ = some (.int .i64 m.to) ∧ w'.cell? ⟨w.heap.size, 2, none⟩ = some (.int .i64 m.kind) ∧ w'.cell? ⟨g, k * 4, none⟩ = some (.int .i64 x.frm) ∧ w'.cell? ⟨g, k * 4 + 1, none⟩ = some (.int .i64 x.to) ∧ w'.cell? ⟨g, k * 4 + 2, none⟩ = some (.string x.kind) ∧ w'.cell? ⟨g, k * 4 + 3, none⟩ = some (.int .i64 x.many) ∧ w'.frozen? ⟨g, k * 4 + 3, none⟩ = false)
                (first
                  | go_keep
                  | (go_split_ands
                     refine ⟨?_, ?_, ?_, ?_, ?_, ?_, ?_, ?_⟩
                     iterate 7 (· (rw [hb2.cell (by simp; omega)]; assumption))
                     · (rw [hb2.frozen (by simp; omega)]; assumption)))
                (first | (go_at_call 64; refine (HNM _).out.mono ?_; rintro e w2 ⟨rfl, hb2⟩))
              go_wp2_with fail
              first
                | exact ⟨⟨k + 1, by omega, by go_num, HX.out HQ.out, hb.drew.trans (hb2.mono hb.size)⟩, by simp [intOf]; omega⟩
                | exact bodyPost_ret (v := .tuple #[]) (by simp [results, Try.results37, go_sem]) rfl (sendE_hit HG1.out HG2.out (hb.drew.trans (hb2.mono hb.size)) rfl (HSET.out _ ((Below.refl _ wr).drew.trans hb2) _) (by rw [HKN.out, HHIT.out HQ.out, i64_w]))
          · have d2 : ((x.to : Int) == m.to) = false := beq_eq_false_iff_ne.2 q2
            go_wp2_with fail
            go_quiet (fail)
            go_wp2_with fail
            exact ⟨⟨k + 1, by omega, by go_num, HX.out (isCnt_no2 q2), Below.of_drewN _ hb⟩, by simp [intOf]; omega⟩
        · have d1 : ((x.frm : Int) == m.frm) = false := beq_eq_false_iff_ne.2 q1
          go_wp2_with fail
          go_quiet (fail)
          go_wp2_with fail
          exact ⟨⟨k + 1, by omega, by go_num, HX.out (isCnt_no1 q1), Below.of_drewN _ hb⟩, by simp [intOf]; omega⟩
      · obtain rfl : k = N.sent.length := by omega
        have HMISS := Lib.hid (bump_miss m.frm m.to kn N.sent (fun j hj => hmiss.out j hj hj))
        have hso := hNr.so
        try dsimp only at hso
        have HSO := Lib.hid hso
        have HNR := Lib.hid hNr
        have laa := World.block_lt_of_cell? wr _ c3
        have lb := (Array.getElem?_eq_some_iff.1 hbxr).1
        have bsg : (Value.slice A N.sent.length cap).ownBlock ≠ some w.heap.size := fun e => by
          obtain ⟨c, hc⟩ := own_type hNr.so e
          exact absurd (blk_type hc hbxr) (by decide)
        have hwa : w.heap.size ≠ a := fun e => by
          have h1 := hNr.hd
          rw [← e] at h1
          exact absurd (blk_type h1 hbxr) (by decide)
        have asg : (Value.slice A N.sent.length cap).ownBlock ≠ some a := fun e => (hNr.s_ne e).1 rfl
        dsimp only at laa
        clear hNr hbxr hso hmiss
        go_wp2_with fail
        refine wp_region_held_drew (S := (fun w' => w'.cell? ⟨w.heap.size, 0, none⟩ = some (.int .i64 m.frm) ∧ w'.cell? ⟨w.heap.size, 1, none⟩ = some (.int .i64 m.to) ∧ w'.cell? ⟨w.heap.size, 2, none⟩ = some (.int .i64 m.kind))) (by kernel_rfl) ?_ (fun hHeld => ?_)
        · exact ⟨b0, b1, b2⟩
        refine wpAnyH_take (i := 0) (oi := ⟨some 64, _, _, _, _, _⟩) (v := ?_) rfl (by kernel_rfl) (by kernel_rfl) (by kernel_rfl) (fun _ _ _ h => h) (Or.inl ⟨by rfl, ?_⟩) (by assumption) ?_
        rotate_left
        · intro w hSw; (try dsimp only at hSw); go_simp; (try with_reducible rfl)
        try simp only [Act.put, List.setIfInBounds_toArray, List.set_cons_zero, List.set_cons_succ]
        refine wpAnyH_take (i := 1) (oi := ⟨some 65, _, _, _, _, _⟩) (v := ?_) rfl (by kernel_rfl) (by kernel_rfl) (by kernel_rfl) (fun _ _ _ h => h) (Or.inl ⟨by rfl, ?_⟩) (by assumption) ?_
        rotate_left
        · intro w hSw; (try dsimp only at hSw); go_simp; (try with_reducible rfl)
        try simp only [Act.put, List.setIfInBounds_toArray, List.set_cons_zero, List.set_cons_succ]
        refine wpAnyH_take (i := 2) (oi := ⟨some 66, _, _, _, _, _⟩) (v := ?_) rfl (by kernel_rfl) (by kernel_rfl) (by kernel_rfl) (fun _ _ _ h => h) (Or.inl ⟨by rfl, ?_⟩) (by assumption) ?_
        rotate_left
        · intro w hSw; (try dsimp only at hSw); go_simp; (try with_reducible rfl)
        try simp only [Act.put, List.setIfInBounds_toArray, List.set_cons_zero, List.set_cons_succ]
        refine wpAnyH_take (i := 3) (oi := ⟨some 67, _, _, _, _, _⟩) (v := ?_) rfl (by kernel_rfl) (by kernel_rfl) (by kernel_rfl) (fun _ _ _ h => h) (Or.inl ⟨by rfl, ?_⟩) (by assumption) ?_
        rotate_left
        · intro w hSw; (try dsimp only at hSw); go_simp; (try with_reducible rfl)
        try simp only [Act.put, List.setIfInBounds_toArray, List.set_cons_zero, List.set_cons_succ]
        refine wpAnyH_take (i := 5) (oi := ⟨some 69, _, _, _, _, _⟩) (v := ?_) rfl (by kernel_rfl) (by kernel_rfl) (by kernel_rfl) (fun _ _ _ h => h) (Or.inl ⟨by rfl, ?_⟩) (by assumption) ?_
        rotate_left
        · intro w hSw; (try dsimp only at hSw); go_simp; (try with_reducible rfl)
        try simp only [Act.put, List.setIfInBounds_toArray, List.set_cons_zero, List.set_cons_succ]
        refine wpAnyH_take (i := 6) (oi := ⟨some 70, _, _, _, _, _⟩) (v := ?_) rfl (by kernel_rfl) (by kernel_rfl) (by kernel_rfl) (fun _ _ _ h => h) (Or.inl ⟨by rfl, ?_⟩) (by assumption) ?_
        rotate_left
        · intro w hSw; (try dsimp only at hSw); go_simp; (try with_reducible rfl)
        try simp only [Act.put, List.setIfInBounds_toArray, List.set_cons_zero, List.set_cons_succ]
        refine wpAnyH_take (i := 7) (oi := ⟨some 71, _, _, _, _, _⟩) (v := ?_) rfl (by kernel_rfl) (by kernel_rfl) (by kernel_rfl) (fun _ _ _ h => h) (Or.inl ⟨by rfl, ?_⟩) (by assumption) ?_
        rotate_left
        · intro w hSw; (try dsimp only at hSw); go_simp; (try with_reducible rfl)
        try simp only [Act.put, List.setIfInBounds_toArray, List.set_cons_zero, List.set_cons_succ]
        refine wpAnyH_take (i := 8) (oi := ⟨some 72, _, _, _, _, _⟩) (v := ?_) rfl (by kernel_rfl) (by kernel_rfl) (by kernel_rfl) (fun _ _ _ h => h) (Or.inl ⟨by rfl, ?_⟩) (by assumption) ?_
        rotate_left
        · intro w hSw; (try dsimp only at hSw); go_simp; (try with_reducible rfl)
        try simp only [Act.put, List.setIfInBounds_toArray, List.set_cons_zero, List.set_cons_succ]
        refine wpAnyH_take (i := 9) (oi := ⟨some 73, _, _, _, _, _⟩) (v := ?_) rfl (by kernel_rfl) (by kernel_rfl) (by kernel_rfl) (fun _ _ _ h => h) (Or.inl ⟨by rfl, ?_⟩) (by assumption) ?_
        rotate_left
        · intro w hSw; (try dsimp only at hSw); go_simp; (try with_reducible rfl)
        try simp only [Act.put, List.setIfInBounds_toArray, List.set_cons_zero, List.set_cons_succ]
        refine wpAnyH_take (i := 10) (oi := ⟨some 74, _, _, _, _, _⟩) (v := ?_) rfl (by kernel_rfl) (by kernel_rfl) (by kernel_rfl) (fun _ _ _ h => h) (Or.inl ⟨by rfl, ?_⟩) (by assumption) ?_
        rotate_left
        · intro w hSw; (try dsimp only at hSw); go_simp; (try with_reducible rfl)
        try simp only [Act.put, List.setIfInBounds_toArray, List.set_cons_zero, List.set_cons_succ]
        refine wpAnyH_ready (rs := [4, 11]) (by kernel_rfl) (by simp) ?_
        refine AllReadyH.cons rfl (fun K hK => ?_) (AllReadyH.cons rfl (fun K hK => ?_) AllReadyH.nil)
        · (rw [if_pos (by rfl)]; go_simp)
          refine hK.out _ _ ?_ (fun hHeld => ?_)
          · exact hHeld
          clear hK K
          try simp only [Act.put, List.setIfInBounds_toArray, List.set_cons_zero, List.set_cons_succ]
          refine wpAnyH_ready (rs := [11]) (by kernel_rfl) (by simp) ?_
          refine AllReadyH.cons rfl (fun K hK => ?_) AllReadyH.nil
          (rw [if_pos (by rfl)]; go_simp; go_at_call 64; refine (HNM _).out.mono ?_; rintro e w2 ⟨rfl, hb2⟩)
          have g3 := (hb2.cell (p := ⟨a, 3, none⟩) (by simp; omega)).trans c3
          have g3' := fun o => cell_alloc (o := o) g3
          have k3 := (hb2.frozen (p := ⟨a, 3, none⟩) (by simp; omega)).trans e3
          have g0 := (hb2.cell (p := ⟨w.heap.size, 0, none⟩) (by simp; omega)).trans b0
          have g1 := (hb2.cell (p := ⟨w.heap.size, 1, none⟩) (by simp; omega)).trans b1
          have g2 := (hb2.cell (p := ⟨w.heap.size, 2, none⟩) (by simp; omega)).trans b2
          refine hK.out _ _ ?_ (fun hHeld => ?_)
          · exact ⟨g0, g1, g2⟩
          clear hK K
          try simp only [Act.put, List.setIfInBounds_toArray, List.set_cons_zero, List.set_cons_succ]
          refine wpAnyH_take (i := 12) (oi := ⟨some 76, _, _, _, _, _⟩) (v := ?_) rfl (by kernel_rfl) (by kernel_rfl) (by kernel_rfl) (fun _ _ _ h => h) (Or.inl ⟨by rfl, ?_⟩) (by assumption) ?_
          rotate_left
          · intro w hSw; (try dsimp only at hSw); go_simp; (try with_reducible rfl)
          try simp only [Act.put, List.setIfInBounds_toArray, List.set_cons_zero, List.set_cons_succ]
          refine wpAnyH_ready (rs := [13]) (by kernel_rfl) (by simp) ?_
          refine AllReadyH.cons rfl (fun K hK => ?_) AllReadyH.nil
          (rw [if_pos (by rfl)]; go_simp)
          refine hK.out _ _ ?_ (fun hHeld => ?_)
          · exact ⟨cell_alloc g0, cell_alloc g1, cell_alloc g2⟩
          clear hK K
          try simp only [Act.put, List.setIfInBounds_toArray, List.set_cons_zero, List.set_cons_succ]
          refine wpAnyH_ready (rs := [14]) (by kernel_rfl) (by simp) ?_
          refine AllReadyH.cons rfl (fun K hK => ?_) AllReadyH.nil
          refine step_append_lies _ (by rfl) _ _ _ (by rfl) 0 48 j0 _ 4 40 Try.underlying45 hj0 hy0 hy1 hy2 rfl (by omega) (.slice A N.sent.length cap) N.sent.length (N.sent.flatMap cntV) (by rfl) ((own_below HSO.out hb2).alloc _) ⟨w2.heap.size, 0, none⟩ 1 1 (cntV ⟨m.frm, m.to, kn, 1⟩) (by rfl) (by rfl) (World.news_of_block (cs := (cntV ⟨m.frm, m.to, kn, 1⟩).toArray) (t := 48) (fr := (0, 0)) (heap_alloc_new w2 _)) (by simp [Value.oneCell', cntV]) (by omega) (by unfold maxLen; omega) (by omega) (by simp) (w2.heap.size + 1) (by simp) ?_
          intro gg cap' w3 hown1 hgrow hat hlt
          have hs1 := (hgrow.cell_far ⟨a, 3, none⟩ (by simp; have := hb2.size; simp at this; omega) (Ne.symm asg)).trans (cell_alloc g3)
          have hs2 := (hgrow.frozen_far ⟨a, 3, none⟩ (by simp; have := hb2.size; simp at this; omega) (Ne.symm asg)).trans (free_alloc g3 k3)
          refine hK.out _ _ ?_ (fun hHeld => ?_)
          · exact ⟨(hgrow.cell_far ⟨w.heap.size, 0, none⟩ (by simp; have := hb2.size; simp at this; omega) (Ne.symm bsg)).trans (cell_alloc g0), (hgrow.cell_far ⟨w.heap.size, 1, none⟩ (by simp; have := hb2.size; simp at this; omega) (Ne.symm bsg)).trans (cell_alloc g1), (hgrow.cell_far ⟨w.heap.size, 2, none⟩ (by simp; have := hb2.size; simp at this; omega) (Ne.symm bsg)).trans (cell_alloc g2)⟩
          clear hK K
          try simp only [Act.put, List.setIfInBounds_toArray, List.set_cons_zero, List.set_cons_succ]
          refine wpAnyH_take (i := 15) (oi := ⟨some 79, _, _, _, _, _⟩) (v := ?_) rfl (by kernel_rfl) (by kernel_rfl) (by kernel_rfl) (fun _ _ _ h => h) (Or.inl ⟨by rfl, ?_⟩) (by assumption) ?_
          rotate_left
          · intro w hSw; (try dsimp only at hSw); go_simp; (try with_reducible rfl)
          try simp only [Act.put, List.setIfInBounds_toArray, List.set_cons_zero, List.set_cons_succ]
          refine wpAnyH_take (i := 16) (oi := ⟨some 80, _, _, _, _, _⟩) (v := ?_) rfl (by kernel_rfl) (by kernel_rfl) (by kernel_rfl) (fun _ _ _ h => h) (Or.inl ⟨by rfl, ?_⟩) (by assumption) ?_
          rotate_left
          · intro w hSw; (try dsimp only at hSw); go_simp; (try with_reducible rfl)
          try simp only [Act.put, List.setIfInBounds_toArray, List.set_cons_zero, List.set_cons_succ]
          refine wpAnyH_ready (rs := [17]) (by kernel_rfl) (by simp) ?_
          refine AllReadyH.cons rfl (fun K hK => ?_) AllReadyH.nil
          (rw [if_pos (by rfl)]; go_simp)
          refine hK.out _ _ ?_ (fun hHeld => ?_)
          · exact ⟨(World.cell?_setCell_far _ _ _ _ (by simp only; omega)).trans hHeld.1, (World.cell?_setCell_far _ _ _ _ (by simp only; omega)).trans hHeld.2.1, (World.cell?_setCell_far _ _ _ _ (by simp only; omega)).trans hHeld.2.2⟩
          clear hK K
          try simp only [Act.put, List.setIfInBounds_toArray, List.set_cons_zero, List.set_cons_succ]
          refine wpAnyH_done (by kernel_rfl) ?_ _
          go_wp2_with fail
          exact bodyPost_ret (v := .tuple #[]) (by simp [results, Try.results37, go_sem]) rfl (sendE_miss HG1.out HG2.out ((hb.drew.trans (hb2.mono hb.size)).alloc (Nat.le_trans hb.size (by have := hb2.size; simpa using this)) _) (HNR.out.below (((Below.refl _ wr).drew.trans hb2).alloc (by have := hb2.size; simpa using this) _)) hown1 hgrow (by simpa using hat) (by rw [HKN.out, HMISS.out]))
        · (rw [if_pos (by rfl)]; go_simp; go_at_call 64; refine (HNM _).out.mono ?_; rintro e w2 ⟨rfl, hb2⟩)
          have g3 := (hb2.cell (p := ⟨a, 3, none⟩) (by simp; omega)).trans c3
          have g3' := fun o => cell_alloc (o := o) g3
          have k3 := (hb2.frozen (p := ⟨a, 3, none⟩) (by simp; omega)).trans e3
          have g0 := (hb2.cell (p := ⟨w.heap.size, 0, none⟩) (by simp; omega)).trans b0
          have g1 := (hb2.cell (p := ⟨w.heap.size, 1, none⟩) (by simp; omega)).trans b1
          have g2 := (hb2.cell (p := ⟨w.heap.size, 2, none⟩) (by simp; omega)).trans b2
          refine hK.out _ _ ?_ (fun hHeld => ?_)
          · exact ⟨g0, g1, g2⟩
          clear hK K
          try simp only [Act.put, List.setIfInBounds_toArray, List.set_cons_zero, List.set_cons_succ]
          refine wpAnyH_take (i := 12) (oi := ⟨some 76, _, _, _, _, _⟩) (v := ?_) rfl (by kernel_rfl) (by kernel_rfl) (by kernel_rfl) (fun _ _ _ h => h) (Or.inl ⟨by rfl, ?_⟩) (by assumption) ?_
          rotate_left
          · intro w hSw; (try dsimp only at hSw); go_simp; (try with_reducible rfl)
          try simp only [Act.put, List.setIfInBounds_toArray, List.set_cons_zero, List.set_cons_succ]
          refine wpAnyH_ready (rs := [4, 13]) (by kernel_rfl) (by simp) ?_
          refine AllReadyH.cons rfl (fun K hK => ?_) (AllReadyH.cons rfl (fun K hK => ?_) AllReadyH.nil)
          · (rw [if_pos (by rfl)]; go_simp)
            refine hK.out _ _ ?_ (fun hHeld => ?_)
            · exact hHeld
            clear hK K
            try simp only [Act.put, List.setIfInBounds_toArray, List.set_cons_zero, List.set_cons_succ]
            refine wpAnyH_ready (rs := [13]) (by kernel_rfl) (by simp) ?_
            refine AllReadyH.cons rfl (fun K hK => ?_) AllReadyH.nil
            (rw [if_pos (by rfl)]; go_simp)
            refine hK.out _ _ ?_ (fun hHeld => ?_)
            · exact ⟨cell_alloc g0, cell_alloc g1, cell_alloc g2⟩
            clear hK K
            try simp only [Act.put, List.setIfInBounds_toArray, List.set_cons_zero, List.set_cons_succ]
            refine wpAnyH_ready (rs := [14]) (by kernel_rfl) (by simp) ?_
            refine AllReadyH.cons rfl (fun K hK => ?_) AllReadyH.nil
            refine step_append_lies _ (by rfl) _ _ _ (by rfl) 0 48 j0 _ 4 40 Try.underlying45 hj0 hy0 hy1 hy2 rfl (by omega) (.slice A N.sent.length cap) N.sent.length (N.sent.flatMap cntV) (by rfl) ((own_below HSO.out hb2).alloc _) ⟨w2.heap.size, 0, none⟩ 1 1 (cntV ⟨m.frm, m.to, kn, 1⟩) (by rfl) (by rfl) (World.news_of_block (cs := (cntV ⟨m.frm, m.to, kn, 1⟩).toArray) (t := 48) (fr := (0, 0)) (heap_alloc_new w2 _)) (by simp [Value.oneCell', cntV]) (by omega) (by unfold maxLen; omega) (by omega) (by simp) (w2.heap.size + 1) (by simp) ?_
            intro gg cap' w3 hown1 hgrow hat hlt
            have hs1 := (hgrow.cell_far ⟨a, 3, none⟩ (by simp; have := hb2.size; simp at this; omega) (Ne.symm asg)).trans (cell_alloc g3)
            have hs2 := (hgrow.frozen_far ⟨a, 3, none⟩ (by simp; have := hb2.size; simp at this; omega) (Ne.symm asg)).trans (free_alloc g3 k3)
            refine hK.out _ _ ?_ (fun hHeld => ?_)
            · exact ⟨(hgrow.cell_far ⟨w.heap.size, 0, none⟩ (by simp; have := hb2.size; simp at this; omega) (Ne.symm bsg)).trans (cell_alloc g0), (hgrow.cell_far ⟨w.heap.size, 1, none⟩ (by simp; have := hb2.size; simp at this; omega) (Ne.symm bsg)).trans (cell_alloc g1), (hgrow.cell_far ⟨w.heap.size, 2, none⟩ (by simp; have := hb2.size; simp at this; omega) (Ne.symm bsg)).trans (cell_alloc g2)⟩
            clear hK K
            try simp only [Act.put, List.setIfInBounds_toArray, List.set_cons_zero, List.set_cons_succ]
            refine wpAnyH_take (i := 15) (oi := ⟨some 79, _, _, _, _, _⟩) (v := ?_) rfl (by kernel_rfl) (by kernel_rfl) (by kernel_rfl) (fun _ _ _ h => h) (Or.inl ⟨by rfl, ?_⟩) (by assumption) ?_
            rotate_left
            · intro w hSw; (try dsimp only at hSw); go_simp; (try with_reducible rfl)
            try simp only [Act.put, List.setIfInBounds_toArray, List.set_cons_zero, List.set_cons_succ]
            refine wpAnyH_take (i := 16) (oi := ⟨some 80, _, _, _, _, _⟩) (v := ?_) rfl (by kernel_rfl) (by kernel_rfl) (by kernel_rfl) (fun _ _ _ h => h) (Or.inl ⟨by rfl, ?_⟩) (by assumption) ?_
            rotate_left
            · intro w hSw; (try dsimp only at hSw); go_simp; (try with_reducible rfl)
            try simp only [Act.put, List.setIfInBounds_toArray, List.set_cons_zero, List.set_cons_succ]
            refine wpAnyH_ready (rs := [17]) (by kernel_rfl) (by simp) ?_
            refine AllReadyH.cons rfl (fun K hK => ?_) AllReadyH.nil
            (rw [if_pos (by rfl)]; go_simp)
            refine hK.out _ _ ?_ (fun hHeld => ?_)
            · exact ⟨(World.cell?_setCell_far _ _ _ _ (by simp only; omega)).trans hHeld.1, (World.cell?_setCell_far _ _ _ _ (by simp only; omega)).trans hHeld.2.1, (World.cell?_setCell_far _ _ _ _ (by simp only; omega)).trans hHeld.2.2⟩
            clear hK K
            try simp only [Act.put, List.setIfInBounds_toArray, List.set_cons_zero, List.set_cons_succ]
            refine wpAnyH_done (by kernel_rfl) ?_ _
            go_wp2_with fail
            exact bodyPost_ret (v := .tuple #[]) (by simp [results, Try.results37, go_sem]) rfl (sendE_miss HG1.out HG2.out ((hb.drew.trans (hb2.mono hb.size)).alloc (Nat.le_trans hb.size (by have := hb2.size; simpa using this)) _) (HNR.out.below (((Below.refl _ wr).drew.trans hb2).alloc (by have := hb2.size; simpa using this) _)) hown1 hgrow (by simpa using hat) (by rw [HKN.out, HMISS.out]))
          · (rw [if_pos (by rfl)]; go_simp)
            refine hK.out _ _ ?_ (fun hHeld => ?_)
            · exact ⟨cell_alloc g0, cell_alloc g1, cell_alloc g2⟩
            clear hK K
            try simp only [Act.put, List.setIfInBounds_toArray, List.set_cons_zero, List.set_cons_succ]
            refine wpAnyH_ready (rs := [4]) (by kernel_rfl) (by simp) ?_
            refine AllReadyH.cons rfl (fun K hK => ?_) AllReadyH.nil
            (rw [if_pos (by rfl)]; go_simp)
            refine hK.out _ _ ?_ (fun hHeld => ?_)
            · exact hHeld
            clear hK K
            try simp only [Act.put, List.setIfInBounds_toArray, List.set_cons_zero, List.set_cons_succ]
            refine wpAnyH_ready (rs := [14]) (by kernel_rfl) (by simp) ?_
            refine AllReadyH.cons rfl (fun K hK => ?_) AllReadyH.nil
            refine step_append_lies _ (by rfl) _ _ _ (by rfl) 0 48 j0 _ 4 40 Try.underlying45 hj0 hy0 hy1 hy2 rfl (by omega) (.slice A N.sent.length cap) N.sent.length (N.sent.flatMap cntV) (by rfl) ((own_below HSO.out hb2).alloc _) ⟨w2.heap.size, 0, none⟩ 1 1 (cntV ⟨m.frm, m.to, kn, 1⟩) (by rfl) (by rfl) (World.news_of_block (cs := (cntV ⟨m.frm, m.to, kn, 1⟩).toArray) (t := 48) (fr := (0, 0)) (heap_alloc_new w2 _)) (by simp [Value.oneCell', cntV]) (by omega) (by unfold maxLen; omega) (by omega) (by simp) (w2.heap.size + 1) (by simp) ?_
            intro gg cap' w3 hown1 hgrow hat hlt
            have hs1 := (hgrow.cell_far ⟨a, 3, none⟩ (by simp; have := hb2.size; simp at this; omega) (Ne.symm asg)).trans (cell_alloc g3)
            have hs2 := (hgrow.frozen_far ⟨a, 3, none⟩ (by simp; have := hb2.size; simp at this; omega) (Ne.symm asg)).trans (free_alloc g3 k3)
            refine hK.out _ _ ?_ (fun hHeld => ?_)
            · exact ⟨(hgrow.cell_far ⟨w.heap.size, 0, none⟩ (by simp; have := hb2.size; simp at this; omega) (Ne.symm bsg)).trans (cell_alloc g0), (hgrow.cell_far ⟨w.heap.size, 1, none⟩ (by simp; have := hb2.size; simp at this; omega) (Ne.symm bsg)).trans (cell_alloc g1), (hgrow.cell_far ⟨w.heap.size, 2, none⟩ (by simp; have := hb2.size; simp at this; omega) (Ne.symm bsg)).trans (cell_alloc g2)⟩
            clear hK K
            try simp only [Act.put, List.setIfInBounds_toArray, List.set_cons_zero, List.set_cons_succ]
            refine wpAnyH_take (i := 15) (oi := ⟨some 79, _, _, _, _, _⟩) (v := ?_) rfl (by kernel_rfl) (by kernel_rfl) (by kernel_rfl) (fun _ _ _ h => h) (Or.inl ⟨by rfl, ?_⟩) (by assumption) ?_
            rotate_left
            · intro w hSw; (try dsimp only at hSw); go_simp; (try with_reducible rfl)
            try simp only [Act.put, List.setIfInBounds_toArray, List.set_cons_zero, List.set_cons_succ]
            refine wpAnyH_take (i := 16) (oi := ⟨some 80, _, _, _, _, _⟩) (v := ?_) rfl (by kernel_rfl) (by kernel_rfl) (by kernel_rfl) (fun _ _ _ h => h) (Or.inl ⟨by rfl, ?_⟩) (by assumption) ?_
            rotate_left
            · intro w hSw; (try dsimp only at hSw); go_simp; (try with_reducible rfl)
            try simp only [Act.put, List.setIfInBounds_toArray, List.set_cons_zero, List.set_cons_succ]
            refine wpAnyH_ready (rs := [17]) (by kernel_rfl) (by simp) ?_
            refine AllReadyH.cons rfl (fun K hK => ?_) AllReadyH.nil
            (rw [if_pos (by rfl)]; go_simp)
            refine hK.out _ _ ?_ (fun hHeld => ?_)
            · exact ⟨(World.cell?_setCell_far _ _ _ _ (by simp only; omega)).trans hHeld.1, (World.cell?_setCell_far _ _ _ _ (by simp only; omega)).trans hHeld.2.1, (World.cell?_setCell_far _ _ _ _ (by simp only; omega)).trans hHeld.2.2⟩
            clear hK K
            try simp only [Act.put, List.setIfInBounds_toArray, List.set_cons_zero, List.set_cons_succ]
            refine wpAnyH_done (by kernel_rfl) ?_ _
            go_wp2_with fail
            exact bodyPost_ret (v := .tuple #[]) (by simp [results, Try.results37, go_sem]) rfl (sendE_miss HG1.out HG2.out ((hb.drew.trans (hb2.mono hb.size)).alloc (Nat.le_trans hb.size (by have := hb2.size; simpa using this)) _) (HNR.out.below (((Below.refl _ wr).drew.trans hb2).alloc (by have := hb2.size; simpa using this) _)) hown1 hgrow (by simpa using hat) (by rw [HKN.out, HMISS.out]))
end Go.Proofs.Ytimmmbjdaibplaa
