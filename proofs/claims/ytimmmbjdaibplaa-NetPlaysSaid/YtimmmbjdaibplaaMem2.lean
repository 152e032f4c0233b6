/-
  Layer 16: what of a net stays where one of its slices has grown.
-/
import Derived.Test.YtimmmbjdaibplaaMem
import Derived.Test.YtimmmbjdaibplaaP2
namespace Go.Proofs.Ytimmmbjdaibplaa
open Go.RowKit
open Nt
set_option linter.unusedVariables false
set_option linter.unusedSimpArgs false

theorem net_app_f {w w2 : World} {a C bc kc : Nat} {cur : Array Value} {rs : List Nat} {vf vh vs : Value} {N : Nt.Net} (h : NetAt w a C bc kc cur rs vf vh vs N) (m : Msg) {g cap : Nat}
    (hown : w2.ownsRow 0 74 6 (.slice (some ⟨g, 0, none⟩) (N.fl.length + 1) cap) (N.fl.length + 1) (N.fl.flatMap msgV ++ msgV m)) (hgrow : w.grownBy w2 vf.ownBlock) (hat : vf.ownBlock = some g ∨ g = w.heap.size) :
    NetAt (w2.setCell ⟨a, 1, none⟩ (.slice (some ⟨g, 0, none⟩) (N.fl.length + 1) cap)) a C bc kc cur rs (.slice (some ⟨g, 0, none⟩) (N.fl.length + 1) cap) vh vs ⟨N.cs, N.fl ++ [m], N.hs, N.sent⟩ ∧ Keeps (netL a bc rs vf vh vs) w (w2.setCell ⟨a, 1, none⟩ (.slice (some ⟨g, 0, none⟩) (N.fl.length + 1) cap)) ∧ Grows (netL a bc rs vf vh vs) (netL a bc rs (.slice (some ⟨g, 0, none⟩) (N.fl.length + 1) cap) vh vs) w := by
  obtain ⟨vf', hvf⟩ : ∃ v, v = Value.slice (some ⟨g, 0, none⟩) (N.fl.length + 1) cap := ⟨_, rfl⟩
  have hv' : vf'.ownBlock = some g := by rw [hvf]; rfl
  rw [← hvf] at hown ⊢
  have hal : a < w.heap.size := blk_lt h.hd
  have hga : g ≠ a := by
    rcases hat with e | e
    · exact (h.f_ne e).1
    · omega
  have keep : ∀ k, k < w.heap.size → k ≠ a → vf.ownBlock ≠ some k → (w2.setCell ⟨a, 1, none⟩ vf').heap[k]? = w.heap[k]? := fun k hk hka hkv => (Below.heap_setCell _ _ _ _ hka).trans (hgrow.block k hk (fun e => hkv e.symm))
  have hown0 : vf.ownBlock ≠ some a := fun e => (h.f_ne e).1 rfl
  have h2a := (hgrow.block a hal (fun e => hown0 e.symm)).trans h.hd
  have part : ∀ {e : TypeId} {size : Nat} {v : Value} {n : Nat} {xs : List Value}, w.ownsRow 0 e size v n xs → (∀ g', v.ownBlock = some g' → g' ≠ a ∧ vf.ownBlock ≠ some g') → (w2.setCell ⟨a, 1, none⟩ vf').ownsRow 0 e size v n xs := fun ho hn => own_keep ho fun g' hg' => keep g' ((ho.lt g' hg').2) (hn g' hg').1 (hn g' hg').2
  refine ⟨⟨?_, ?_, h.k0, h.k1, h.rl, h.cr, h.nd, ?_, by
      have e : (N.fl ++ [m]).flatMap msgV = N.fl.flatMap msgV ++ msgV m := by simp
      have el : (N.fl ++ [m]).length = N.fl.length + 1 := by simp
      show (w2.setCell _ _).ownsRow 0 74 6 vf' (N.fl ++ [m]).length ((N.fl ++ [m]).flatMap msgV)
      rw [e, el]
      exact ownsRow_setCell_other hown (by rw [hv']; exact fun e => hga (Option.some.inj e)) _, part h.ho fun g' hg' => ⟨(h.h_ne hg').1, (h.h_ne hg').2.2.2.1⟩, part h.so fun g' hg' => ⟨(h.s_ne hg').1, (h.s_ne hg').2.2.2.1⟩⟩, ?_, ?_⟩
  · rw [heap_setCell_same _ _ _ _ _ _ h2a]
    rfl
  · exact (keep bc (blk_lt h.tb) h.ne_tb (fun e => (h.f_ne e).2.1 rfl)).trans h.tb
  · intro p hp hp'
    exact (h.row p hp hp').keep (keep _ (h.row p hp hp').lt (h.ne_row hp).1 (fun e => (h.f_ne e).2.2.1 (List.getElem_mem hp)))
  · exact (Keeps.refl _ w |>.grown hgrow (fun k hk => .inl (by simp [netL, mem_ownL hk]))).setCell (.inl (by simp [netL])) _
  · intro k hk
    simp only [netL, List.mem_cons, List.mem_append] at hk ⊢
    have hg : k ∈ ownL vf' → k ∈ ownL vf ∨ w.heap.size ≤ k := fun hk' => by
      have e := ownL_mem hk'
      rw [hv'] at e
      obtain rfl := Option.some.inj e
      rcases hat with e | e
      · exact .inl (mem_ownL e)
      · exact .inr (by omega)
    rcases hk with hk | hk | hk | hk | hk | hk
    · simp [hk]
    · simp [hk]
    · simp [hk]
    · rcases hg hk with hk | hk
      · simp [hk]
      · exact .inr hk
    · simp [hk]
    · simp [hk]

theorem net_app_h {w w2 : World} {a C bc kc : Nat} {cur : Array Value} {rs : List Nat} {vf vh vs : Value} {N : Nt.Net} (h : NetAt w a C bc kc cur rs vf vh vs N) (m : Hd) {g cap : Nat}
    (hown : w2.ownsRow 0 81 3 (.slice (some ⟨g, 0, none⟩) (N.hs.length + 1) cap) (N.hs.length + 1) (N.hs.flatMap hdV ++ hdV m)) (hgrow : w.grownBy w2 vh.ownBlock) (hat : vh.ownBlock = some g ∨ g = w.heap.size) :
    NetAt (w2.setCell ⟨a, 2, none⟩ (.slice (some ⟨g, 0, none⟩) (N.hs.length + 1) cap)) a C bc kc cur rs vf (.slice (some ⟨g, 0, none⟩) (N.hs.length + 1) cap) vs ⟨N.cs, N.fl, N.hs ++ [m], N.sent⟩ ∧ Keeps (netL a bc rs vf vh vs) w (w2.setCell ⟨a, 2, none⟩ (.slice (some ⟨g, 0, none⟩) (N.hs.length + 1) cap)) ∧ Grows (netL a bc rs vf vh vs) (netL a bc rs vf (.slice (some ⟨g, 0, none⟩) (N.hs.length + 1) cap) vs) w := by
  obtain ⟨vf', hvf⟩ : ∃ v, v = Value.slice (some ⟨g, 0, none⟩) (N.hs.length + 1) cap := ⟨_, rfl⟩
  have hv' : vf'.ownBlock = some g := by rw [hvf]; rfl
  rw [← hvf] at hown ⊢
  have hal : a < w.heap.size := blk_lt h.hd
  have hga : g ≠ a := by
    rcases hat with e | e
    · exact (h.h_ne e).1
    · omega
  have keep : ∀ k, k < w.heap.size → k ≠ a → vh.ownBlock ≠ some k → (w2.setCell ⟨a, 2, none⟩ vf').heap[k]? = w.heap[k]? := fun k hk hka hkv => (Below.heap_setCell _ _ _ _ hka).trans (hgrow.block k hk (fun e => hkv e.symm))
  have hown0 : vh.ownBlock ≠ some a := fun e => (h.h_ne e).1 rfl
  have h2a := (hgrow.block a hal (fun e => hown0 e.symm)).trans h.hd
  have part : ∀ {e : TypeId} {size : Nat} {v : Value} {n : Nat} {xs : List Value}, w.ownsRow 0 e size v n xs → (∀ g', v.ownBlock = some g' → g' ≠ a ∧ vh.ownBlock ≠ some g') → (w2.setCell ⟨a, 2, none⟩ vf').ownsRow 0 e size v n xs := fun ho hn => own_keep ho fun g' hg' => keep g' ((ho.lt g' hg').2) (hn g' hg').1 (hn g' hg').2
  refine ⟨⟨?_, ?_, h.k0, h.k1, h.rl, h.cr, h.nd, ?_, part h.fo fun g' hg' => ⟨(h.f_ne hg').1, (h.f_ne hg').2.2.2.1⟩, by
      have e : (N.hs ++ [m]).flatMap hdV = N.hs.flatMap hdV ++ hdV m := by simp
      have el : (N.hs ++ [m]).length = N.hs.length + 1 := by simp
      show (w2.setCell _ _).ownsRow 0 81 3 vf' (N.hs ++ [m]).length ((N.hs ++ [m]).flatMap hdV)
      rw [e, el]
      exact ownsRow_setCell_other hown (by rw [hv']; exact fun e => hga (Option.some.inj e)) _, part h.so fun g' hg' => ⟨(h.s_ne hg').1, (h.s_ne hg').2.2.2.2⟩⟩, ?_, ?_⟩
  · rw [heap_setCell_same _ _ _ _ _ _ h2a]
    rfl
  · exact (keep bc (blk_lt h.tb) h.ne_tb (fun e => (h.h_ne e).2.1 rfl)).trans h.tb
  · intro p hp hp'
    exact (h.row p hp hp').keep (keep _ (h.row p hp hp').lt (h.ne_row hp).1 (fun e => (h.h_ne e).2.2.1 (List.getElem_mem hp)))
  · exact (Keeps.refl _ w |>.grown hgrow (fun k hk => .inl (by simp [netL, mem_ownL hk]))).setCell (.inl (by simp [netL])) _
  · intro k hk
    simp only [netL, List.mem_cons, List.mem_append] at hk ⊢
    have hg : k ∈ ownL vf' → k ∈ ownL vh ∨ w.heap.size ≤ k := fun hk' => by
      have e := ownL_mem hk'
      rw [hv'] at e
      obtain rfl := Option.some.inj e
      rcases hat with e | e
      · exact .inl (mem_ownL e)
      · exact .inr (by omega)
    rcases hk with hk | hk | hk | hk | hk | hk
    · simp [hk]
    · simp [hk]
    · simp [hk]
    · simp [hk]
    · rcases hg hk with hk | hk
      · simp [hk]
      · exact .inr hk
    · simp [hk]

theorem net_app_s {w w2 : World} {a C bc kc : Nat} {cur : Array Value} {rs : List Nat} {vf vh vs : Value} {N : Nt.Net} (h : NetAt w a C bc kc cur rs vf vh vs N) (m : Cnt) {g cap : Nat}
    (hown : w2.ownsRow 0 48 4 (.slice (some ⟨g, 0, none⟩) (N.sent.length + 1) cap) (N.sent.length + 1) (N.sent.flatMap cntV ++ cntV m)) (hgrow : w.grownBy w2 vs.ownBlock) (hat : vs.ownBlock = some g ∨ g = w.heap.size) :
    NetAt (w2.setCell ⟨a, 3, none⟩ (.slice (some ⟨g, 0, none⟩) (N.sent.length + 1) cap)) a C bc kc cur rs vf vh (.slice (some ⟨g, 0, none⟩) (N.sent.length + 1) cap) ⟨N.cs, N.fl, N.hs, N.sent ++ [m]⟩ ∧ Keeps (netL a bc rs vf vh vs) w (w2.setCell ⟨a, 3, none⟩ (.slice (some ⟨g, 0, none⟩) (N.sent.length + 1) cap)) ∧ Grows (netL a bc rs vf vh vs) (netL a bc rs vf vh (.slice (some ⟨g, 0, none⟩) (N.sent.length + 1) cap)) w := by
  obtain ⟨vf', hvf⟩ : ∃ v, v = Value.slice (some ⟨g, 0, none⟩) (N.sent.length + 1) cap := ⟨_, rfl⟩
  have hv' : vf'.ownBlock = some g := by rw [hvf]; rfl
  rw [← hvf] at hown ⊢
  have hal : a < w.heap.size := blk_lt h.hd
  have hga : g ≠ a := by
    rcases hat with e | e
    · exact (h.s_ne e).1
    · omega
  have keep : ∀ k, k < w.heap.size → k ≠ a → vs.ownBlock ≠ some k → (w2.setCell ⟨a, 3, none⟩ vf').heap[k]? = w.heap[k]? := fun k hk hka hkv => (Below.heap_setCell _ _ _ _ hka).trans (hgrow.block k hk (fun e => hkv e.symm))
  have hown0 : vs.ownBlock ≠ some a := fun e => (h.s_ne e).1 rfl
  have h2a := (hgrow.block a hal (fun e => hown0 e.symm)).trans h.hd
  have part : ∀ {e : TypeId} {size : Nat} {v : Value} {n : Nat} {xs : List Value}, w.ownsRow 0 e size v n xs → (∀ g', v.ownBlock = some g' → g' ≠ a ∧ vs.ownBlock ≠ some g') → (w2.setCell ⟨a, 3, none⟩ vf').ownsRow 0 e size v n xs := fun ho hn => own_keep ho fun g' hg' => keep g' ((ho.lt g' hg').2) (hn g' hg').1 (hn g' hg').2
  refine ⟨⟨?_, ?_, h.k0, h.k1, h.rl, h.cr, h.nd, ?_, part h.fo fun g' hg' => ⟨(h.f_ne hg').1, (h.f_ne hg').2.2.2.2⟩, part h.ho fun g' hg' => ⟨(h.h_ne hg').1, (h.h_ne hg').2.2.2.2⟩, by
      have e : (N.sent ++ [m]).flatMap cntV = N.sent.flatMap cntV ++ cntV m := by simp
      have el : (N.sent ++ [m]).length = N.sent.length + 1 := by simp
      show (w2.setCell _ _).ownsRow 0 48 4 vf' (N.sent ++ [m]).length ((N.sent ++ [m]).flatMap cntV)
      rw [e, el]
      exact ownsRow_setCell_other hown (by rw [hv']; exact fun e => hga (Option.some.inj e)) _⟩, ?_, ?_⟩
  · rw [heap_setCell_same _ _ _ _ _ _ h2a]
    rfl
  · exact (keep bc (blk_lt h.tb) h.ne_tb (fun e => (h.s_ne e).2.1 rfl)).trans h.tb
  · intro p hp hp'
    exact (h.row p hp hp').keep (keep _ (h.row p hp hp').lt (h.ne_row hp).1 (fun e => (h.s_ne e).2.2.1 (List.getElem_mem hp)))
  · exact (Keeps.refl _ w |>.grown hgrow (fun k hk => .inl (by simp [netL, mem_ownL hk]))).setCell (.inl (by simp [netL])) _
  · intro k hk
    simp only [netL, List.mem_cons, List.mem_append] at hk ⊢
    have hg : k ∈ ownL vf' → k ∈ ownL vs ∨ w.heap.size ≤ k := fun hk' => by
      have e := ownL_mem hk'
      rw [hv'] at e
      obtain rfl := Option.some.inj e
      rcases hat with e | e
      · exact .inl (mem_ownL e)
      · exact .inr (by omega)
    rcases hk with hk | hk | hk | hk | hk | hk
    · simp [hk]
    · simp [hk]
    · simp [hk]
    · simp [hk]
    · simp [hk]
    · rcases hg hk with hk | hk
      · simp [hk]
      · exact .inr hk


theorem own_at {w : World} {e : TypeId} {size g n cap : Nat} {xs : List Value} (h : w.ownsRow 0 e size (.slice (some ⟨g, 0, none⟩) n cap) n xs) {j : Nat} {u : Value} (hu : xs[j]? = some u) : w.cell? ⟨g, j, none⟩ = some u := by
  have := h.cells (g := g) rfl j u hu
  rwa [show (⟨g, 0, none⟩ : Addr).add j = ⟨g, j, none⟩ by unfold Addr.add; split <;> simp_all] at this
theorem msgV_len (m : Msg) : (msgV m).length = 6 := rfl
theorem hdV_len (m : Hd) : (hdV m).length = 3 := rfl
theorem cntV_len (m : Cnt) : (cntV m).length = 4 := rfl
theorem own_form {w : World} {e : TypeId} {size : Nat} {v : Value} {n : Nat} {xs : List Value} (h : w.ownsRow 0 e size v n xs) : ∃ A cap, v = .slice A n cap ∧ (0 < n → ∃ g, A = some ⟨g, 0, none⟩) ∧ n ≤ cap := by
  rcases h.2 with ⟨rfl, rfl⟩ | ⟨g, cap, cur, rfl, _, _, hc, _⟩
  · exact ⟨none, 0, rfl, fun h => absurd h (Nat.lt_irrefl _), Nat.le_refl _⟩
  · exact ⟨some ⟨g, 0, none⟩, cap, rfl, fun _ => ⟨g, rfl⟩, hc⟩

section
variable {w : World} {a C bc kc : Nat} {cur : Array Value} {rs : List Nat} {vf vh vs : Value} {N : Nt.Net}
/-- the k-th count raised -/
theorem net_set_s {g n cap : Nat} (h : NetAt w a C bc kc cur rs vf vh (.slice (some ⟨g, 0, none⟩) n cap) N) {k : Nat} (hk : k < N.sent.length) (z : Int) :
    NetAt (w.setCell ⟨g, k * 4 + 3, none⟩ (.int .i64 z)) a C bc kc cur rs vf vh (.slice (some ⟨g, 0, none⟩) n cap) ⟨N.cs, N.fl, N.hs, N.sent.set k ⟨N.sent[k].frm, N.sent[k].to, N.sent[k].kind, z⟩⟩ := by
  have hn := h.s_ne (g := g) rfl
  have keep : ∀ k', k' ≠ g → (w.setCell ⟨g, k * 4 + 3, none⟩ (.int .i64 z)).heap[k']? = w.heap[k']? := fun k' hk' => Below.heap_setCell _ _ _ _ hk'
  obtain ⟨hnn, hse⟩ : n = N.sent.length ∧ True := by
    obtain ⟨A, cap', e, _⟩ := own_form h.so
    injection e with _ e _
    exact ⟨e, trivial⟩
  have hso := h.so
  rw [← hnn] at hso
  have hset := (hso.stored (k * 4 + 3) (.int .i64 z)).1
  rw [flat_set cntV_len N.sent k hk 3 (.int .i64 z) ⟨N.sent[k].frm, N.sent[k].to, N.sent[k].kind, z⟩ (by omega) rfl] at hset
  refine ⟨(keep a hn.1.symm).trans h.hd, (keep bc hn.2.1.symm).trans h.tb, h.k0, h.k1, h.rl, h.cr, h.nd, fun p hp hp' => (h.row p hp hp').keep (keep _ (fun e => hn.2.2.1 (e ▸ List.getElem_mem hp))),
    own_keep h.fo fun g' hg' => keep g' (fun e => hn.2.2.2.1 (e ▸ hg')), own_keep h.ho fun g' hg' => keep g' (fun e => hn.2.2.2.2 (e ▸ hg')), ?_⟩
  rw [List.length_set, ← hnn]
  exact hset
/-- the k-th handle done -/
theorem net_set_h {g n cap : Nat} (h : NetAt w a C bc kc cur rs vf (.slice (some ⟨g, 0, none⟩) n cap) vs N) {k : Nat} (hk : k < N.hs.length) (z : Int) :
    NetAt ((w.setCell ⟨g, k * 3 + 1, none⟩ (.int .i64 z)).setCell ⟨g, k * 3 + 2, none⟩ (.bool true)) a C bc kc cur rs vf (.slice (some ⟨g, 0, none⟩) n cap) vs ⟨N.cs, N.fl, N.hs.set k ⟨N.hs[k].frm, z, true⟩, N.sent⟩ := by
  have hn := h.h_ne (g := g) rfl
  have keep : ∀ k', k' ≠ g → ((w.setCell ⟨g, k * 3 + 1, none⟩ (.int .i64 z)).setCell ⟨g, k * 3 + 2, none⟩ (.bool true)).heap[k']? = w.heap[k']? := fun k' hk' => (Below.heap_setCell _ _ _ _ hk').trans (Below.heap_setCell _ _ _ _ hk')
  have hnn : n = N.hs.length := by
    obtain ⟨A, cap', e, _⟩ := own_form h.ho
    injection e with _ e _
  have hso := h.ho
  rw [← hnn] at hso
  have hset1 := (hso.stored (k * 3 + 1) (.int .i64 z)).1
  rw [flat_set hdV_len N.hs k hk 1 (.int .i64 z) ⟨N.hs[k].frm, z, N.hs[k].dn⟩ (by omega) rfl] at hset1
  have hset := (hset1.stored (k * 3 + 2) (.bool true)).1
  rw [flat_set hdV_len (N.hs.set k ⟨N.hs[k].frm, z, N.hs[k].dn⟩) k (by simpa using hk) 2 (.bool true) ⟨N.hs[k].frm, z, true⟩ (by omega) (by simp [hdV]), List.set_set] at hset
  refine ⟨(keep a hn.1.symm).trans h.hd, (keep bc hn.2.1.symm).trans h.tb, h.k0, h.k1, h.rl, h.cr, h.nd, fun p hp hp' => (h.row p hp hp').keep (keep _ (fun e => hn.2.2.1 (e ▸ List.getElem_mem hp))),
    own_keep h.fo fun g' hg' => keep g' (fun e => hn.2.2.2.1 (e ▸ hg')), ?_, own_keep h.so fun g' hg' => keep g' (fun e => hn.2.2.2.2 (e ▸ hg'))⟩
  rw [List.length_set, ← hnn]
  exact hset
/-- a row of cells rewritten -/
theorem net_set_row {w' : World} (h : NetAt w a C bc kc cur rs vf vh vs N) {p : Nat} (hp : p < rs.length) {l : List Int} (hK : Keeps [rs[p]] w w') (hr : RowAt w' rs[p] l) :
    NetAt w' a C bc kc cur rs vf vh vs ⟨N.cs.set p l, N.fl, N.hs, N.sent⟩ := by
  obtain ⟨_, hrow⟩ := (h.row p hp (h.rl ▸ hp)).blk
  have keep : ∀ k', k' < w.heap.size → k' ≠ rs[p] → w'.heap[k']? = w.heap[k']? := fun k' hk' hne => hK.block k' hk' (by simpa using hne)
  have hne : ∀ {v : Value} {g : Nat} {e : TypeId} {size n : Nat} {xs : List Value}, w.ownsRow 0 e size v n xs → e ≠ 3 → v.ownBlock = some g → g ≠ rs[p] := fun ho he hg e' => by
    obtain ⟨c, hc⟩ := own_type ho hg
    rw [e'] at hc
    exact he (blk_type hc hrow)
  refine ⟨?_, (keep bc (blk_lt h.tb) (h.ne_row hp).2.symm).trans h.tb, ?_, h.k1, ?_, h.cr, h.nd, ?_, own_keep h.fo fun g hg => keep g (h.fo.lt g hg).2 (hne h.fo (by decide) hg), own_keep h.ho fun g hg => keep g (h.ho.lt g hg).2 (hne h.ho (by decide) hg), own_keep h.so fun g hg => keep g (h.so.lt g hg).2 (hne h.so (by decide) hg)⟩
  · rw [List.length_set]
    exact (keep a (blk_lt h.hd) (h.ne_row hp).1.symm).trans h.hd
  · rw [List.length_set]; exact h.k0
  · rw [List.length_set]; exact h.rl
  · intro q hq hq'
    by_cases e : q = p
    · subst e
      simpa using hr
    · have hne2 : rs[q] ≠ rs[p] := fun e' => (Nat.lt_or_gt_of_ne e).elim (fun hlt => List.pairwise_iff_getElem.1 h.nd q p hq hp hlt e') (fun hlt => List.pairwise_iff_getElem.1 h.nd p q hp hq hlt e'.symm)
      have := (h.row q hq (by simpa using hq')).keep (keep _ (h.row q hq (by simpa using hq')).lt hne2)
      simpa [List.getElem_set, Ne.symm e] using this
end
end Go.Proofs.Ytimmmbjdaibplaa
