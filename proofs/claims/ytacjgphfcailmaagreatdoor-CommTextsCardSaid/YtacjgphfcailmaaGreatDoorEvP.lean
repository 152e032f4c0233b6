/-
  The small machine's calls, rounds and code are the model's.
-/
import Derived.Test.YtacjgphfcailmaaGreatDoorEvO
namespace Go.Proofs.YtacjgphfcailmaaGreatDoor
open Go.RowKit
namespace Ev
set_option linter.unusedVariables false
set_option linter.unusedSimpArgs false

def exitOf : Ex → Exit
  | .normal => .normal
  | .ret => .ret
  | .exit id => .exit id
/-- the marks of ranges over functions -/
def DR (ρ : Ren) : List Nat → List Deferred → Prop
  | [], l => l = []
  | d :: ds, l => ∃ q r, l = { target := .collected q.blk, args := #[] } :: r ∧ ρ d = some q ∧ DR ρ ds r
theorem DR.mono {ρ ρ' : Ren} (he : Ext ρ ρ') : ∀ {ds : List Nat} {l : List Deferred}, DR ρ ds l → DR ρ' ds l
  | [], l, h => h
  | d :: ds, l, h => by
    obtain ⟨q, r, h1, h2, h3⟩ := h
    exact ⟨q, r, h1, he _ _ h2, h3.mono he⟩

section
variable {E : World → Prop} {P : Program}
/-- how code is left -/
def QP (W : World) (ρ : Ren) (e : Ex) (tm : Tm) (ds : List Nat) (h : Heap) (x : Exit) (a : Act) (w : World) : Prop :=
  ∃ ρ', Ext ρ ρ' ∧ x = exitOf e ∧ TR ρ' tm a.tmps ∧ DR ρ' ds a.defers ∧ Mo W ρ' h w
theorem QP.ext {W : World} {ρ ρ' : Ren} (he : Ext ρ ρ') {e : Ex} {tm : Tm} {ds : List Nat} {h : Heap} {x : Exit} {a : Act} {w : World} (q : QP W ρ' e tm ds h x a w) : QP W ρ e tm ds h x a w := by
  obtain ⟨ρ2, h1, h2⟩ := q
  exact ⟨ρ2, he.trans h1, h2⟩
def SoundR (E : World → Prop) (P : Program) (rec : Rec) : Prop :=
  ∀ (r : Bool) (c : Code) (tm : Tm) (ds : List Nat) (o : Option Nat) (W : World) (ρ : Ren) (n : Nat) (h : Heap) (l : Log) (e : Ex) (tm' : Tm) (ds' : List Nat) (n' : Nat) (h' : Heap) (l' : Log) (a : Act) (w : World),
    r = o.isSome → rec r c tm ds n h l = .ok (e, tm', ds') n' h' l' → E W → Mo W ρ h w → TR ρ tm a.tmps → DR ρ ds a.defers → c.wpIn (Fc o) 0 P (QP W ρ e tm' ds' h') a w

variable {rec : Rec}

theorem loadA_pure {ρ : Ren} {t b o : Nat} {p : Value} (hp : VR ρ (.ptr b o) p) {W w : World} {n n' : Nat} {h h' : Heap} {l l' : Log} {v : AV} (e : loadA P t b o n h l = .ok v n' h' l') (m : Mo W ρ h w) :
    h' = h ∧ ∃ x, VR ρ v x ∧ (Instr.loadAt t p).run P w = .ok x w := by
  simp only [VR] at hp
  obtain ⟨lc, hρ, rfl⟩ := hp
  unfold loadA at e
  change Ok _ _ _ _ _ at e
  split at e
  · rename_i s d hs hd
    change Ok _ _ _ _ _ at e
    split at e
    · rename_i ha
      obtain ⟨cs, n1, h1, l1, e1, e2⟩ := bind_ok e
      obtain ⟨rfl, rfl, rfl, rfl⟩ := ret_ok e2
      obtain ⟨rfl, hn, xs, hv, hc⟩ := getR_sound m hρ e1
      refine ⟨rfl, .agg xs.toArray, by simp only [VR]; exact ⟨xs, hv, rfl⟩, ?_⟩
      have := loadCells_of (P := P) (n := s) (by rw [← hv.length]; exact hn) hc
      simp [Instr.loadAt, Instr.sureAddr, loadVar, run_agg hd, ha, run_size hs, this]
    · rename_i ha
      obtain ⟨cs, n1, h1, l1, e1, e2⟩ := bind_ok e
      obtain ⟨rfl, hn, xs, hv, hc⟩ := getR_sound m hρ e1
      cases cs with
      | nil => simp at hn
      | cons v0 cs =>
        cases cs with
        | cons _ _ => simp at hn
        | nil =>
          obtain ⟨rfl, rfl, rfl, rfl⟩ := ret_ok e2
          obtain ⟨x, ys, rfl, hx, hy⟩ := hv.cons_inv
          have := hc 0 x rfl
          simp only [Nat.add_zero] at this
          refine ⟨rfl, x, hx, ?_⟩
          simp [Instr.loadAt, Instr.sureAddr, loadVar, run_agg hd, ha, run_load, this]
  · exact (err_ok e).elim

def oneV : List Value → Value
  | [x] => x
  | xs => .tuple xs.toArray
def resOne (tmps : Array Value) : ResultVar → Sem Value
  | .tmp t => pure (tmps.getD t undef)
  | .cell a t => do loadVar t (← asAddr (tmps.getD a undef))
theorem resultA_sound {W : World} {ρ : Ren} {tm : Tm} {tmps : Array Value} (ht : TR ρ tm tmps) : ∀ (rs : List ResultVar) {n n' : Nat} {h h' : Heap} {l l' : Log} {vs : List AV} {w : World}, resultA P tm rs n h l = .ok vs n' h' l' → Mo W ρ h w →
    h' = h ∧ ∃ xs, VRL ρ vs xs ∧ (rs.mapM (resOne tmps)).run P w = .ok xs w
  | [], n, n', h, h', l, l', vs, w, e, m => by
    simp only [resultA] at e
    obtain ⟨rfl, rfl, rfl, rfl⟩ := ret_ok e
    exact ⟨rfl, [], VRL.nil, rfl⟩
  | .tmp t :: rs, n, n', h, h', l, l', vs, w, e, m => by
    simp only [resultA] at e
    obtain ⟨vs1, n1, h1, l1, e1, e2⟩ := bind_ok e
    obtain ⟨rfl, rfl, rfl, rfl⟩ := ret_ok e2
    obtain ⟨rfl, xs, h2, h3⟩ := resultA_sound ht rs e1 m
    have hv := ht.nth t
    refine ⟨rfl, _, .cons hv h2, ?_⟩
    simp [List.mapM_cons, resOne, h3]
  | .cell c t :: rs, n, n', h, h', l, l', vs, w, e, m => by
    simp only [resultA] at e
    change Ok _ _ _ _ _ at e
    split at e
    · rename_i b o hn
      obtain ⟨v, n1, h1, l1, e1, e2⟩ := bind_ok e
      obtain ⟨vs1, n2, h2, l2, e3, e4⟩ := bind_ok e2
      obtain ⟨rfl, rfl, rfl, rfl⟩ := ret_ok e4
      have hv := ht.nth c
      rw [hn] at hv
      obtain ⟨rfl, x, h3, h4⟩ := loadA_pure hv e1 m
      obtain ⟨rfl, xs, h5, h6⟩ := resultA_sound ht rs e3 m
      refine ⟨rfl, _, .cons h3 h5, ?_⟩
      simp only [VR] at hv
      obtain ⟨lc, _, hp⟩ := hv
      rw [hp] at h4
      have h7 : (loadVar t ⟨lc.blk, lc.d + o, none⟩).run P w = .ok x w := by simpa [Instr.loadAt, Instr.sureAddr] using h4
      simp [List.mapM_cons, resOne, hp, asAddr, h7, h6]
    · exact (err_ok e).elim
theorem results_run {fn : Func} {tmps : Array Value} {xs : List Value} {w : World} (h : (fn.results.toList.mapM (resOne tmps)).run P w = .ok xs w) : (results fn tmps).run P w = .ok (oneV xs) w := by
  have hm : (fn.results.mapM (resOne tmps)).run P w = .ok xs.toArray w := by
    rw [Array.mapM_eq_mapM_toList]
    simp [Sem.run_map, h]
  have : results fn tmps = (do
      let vs ← fn.results.mapM (resOne tmps)
      pure (if h : vs.size = 1 then vs[0] else .tuple vs)) := by
    unfold results resOne
    rfl
  rw [this]
  simp only [Sem.run_bind, hm, Result.andThen_ok, Sem.run_pure]
  congr 1
  cases xs with
  | nil => simp [oneV]
  | cons x xs => cases xs with
    | nil => simp [oneV]
    | cons y ys => simp [oneV]

theorem leaves_of {fn : Func} {tmps : Array Value} {R : Ending → World → Prop} {W : World} {ρ : Ren} : ∀ (ds : List Nat) {defers : List Deferred} {n n1 : Nat} {h h1 : Heap} {l l1 : Log} {u : Unit} {w : World}, endA ds n h l = .ok u n1 h1 l1 → DR ρ ds defers → Mo W ρ h w →
    (∀ w', Mo W ρ h1 w' → ∃ v, (results fn tmps).run P w' = .ok v w' ∧ R (.returned v) w') → LeavesInM Fence.wide 0 P fn tmps R defers .returning w
  | [], defers, n, n1, h, h1, l, l1, u, w, e, hd, m, hR => by
    simp only [endA] at e
    obtain ⟨_, rfl, rfl, rfl⟩ := ret_ok e
    simp only [DR] at hd
    subst hd
    exact hR w m
  | d :: ds, defers, n, n1, h, h1, l, l1, u, w, e, hd, m, hR => by
    simp only [endA] at e
    obtain ⟨q, r, rfl, hρ, hr⟩ := hd
    obtain ⟨x, n2, h2, l2, e1, e2⟩ := bind_ok e
    obtain ⟨rfl, rfl, hg⟩ := getB_ok e1
    cases x <;> first | exact (err_ok e2).elim | skip
    simp only at e2
    obtain ⟨_, n3, h3, l3, e3, e4⟩ := bind_ok e2
    obtain ⟨rfl, rfl, _, hb⟩ := setB_ok e3
    have hh : w.heap[q.blk]? = some (.deferred (some [])) := m.blk _ _ _ hg hρ
    have hlt : q.blk < w.heap.size := (Array.getElem?_eq_some_iff.1 hh).1
    have hnew := m.new _ _ _ hg hρ rfl
    have m' : Mo W ρ (T.set .dead 40 h2 d) (w.putObj q.blk (.deferred none)) := by
      refine (m.kill hb hg rfl).other (B := q.blk) (fun j hj => World.putObj_heap_other hj) (fun c y lc hc hl hρc heq => ?_) (m.below.trans ⟨rfl, rfl, rfl, by simp, fun j hj => World.putObj_heap_other (by omega)⟩)
      rw [T.get_set _ _ _ _ _ hb] at hc
      by_cases hcd : c = d
      · simp [hcd] at hc
        subst hc
        cases hl
      · simp [hcd] at hc
        exact hcd (m.inj c d y _ lc q hc hg hl rfl hρc hρ heq)
    refine ⟨by simp, .inl ⟨q.blk, _, rfl, run_takeDeferred hh, leaves_of ds e4 hr m' hR⟩⟩

theorem VRL.replicate {ρ : Ren} {a : AV} {x : Value} (h : VR ρ a x) : ∀ n, VRL ρ (List.replicate n a) (List.replicate n x)
  | 0 => VRL.nil
  | n + 1 => by
    simp only [List.replicate_succ]
    exact .cons h (VRL.replicate h n)
theorem oneA_VR {ρ : Ren} {vs : List AV} {xs : List Value} (h : VRL ρ vs xs) : VR ρ (oneA vs) (oneV xs) := by
  cases vs with
  | nil =>
    rw [h.nil_inv]
    simp only [oneA, VR]
    exact ⟨[], VRL.nil, rfl⟩
  | cons a vs =>
    obtain ⟨x, ys, rfl, h1, h2⟩ := h.cons_inv
    cases vs with
    | nil =>
      rw [h2.nil_inv]
      exact h1
    | cons b vs =>
      obtain ⟨y, zs, rfl, h3, h4⟩ := h2.cons_inv
      simp only [oneA, VR]
      exact ⟨_, h, rfl⟩
theorem inner_ok {α : Type} {m : M α} {x : α} {n n' : Nat} {h h' : Heap} {l l' : Log} (e : inner m n h l = .ok x n' h' l') : ∃ d, m n h [] = .ok x n' h' d := by
  simp only [inner] at e
  cases e1 : m n h [] with
  | fail => rw [e1] at e; cases e
  | ok y n1 h1 d =>
    rw [e1] at e
    simp only [R.ok.injEq] at e
    obtain ⟨rfl, rfl, rfl, _⟩ := e
    exact ⟨_, rfl⟩
theorem call_sound (hs : SoundR E P rec) : SoundCall E P rec := by
  intro ρ f args xs hx W hE n h l v n' h' l' w e mo
  unfold callA at e
  change Ok _ _ _ _ _ at e
  split at e
  · rename_i fn c hf
    rw [forceN_eq] at e
    change Ok _ _ _ _ _ at e
    split at e
    case h_2 => exact (err_ok e).elim
    rename_i hsm
    have hsm := Nat.le_of_ble_eq_true hsm
    obtain ⟨d, he1⟩ := inner_ok e
    · obtain ⟨⟨e0, tm, ds⟩, n1, h1, l1, k1, k2⟩ := bind_ok he1
      have hfn : P.funcs[f]? = some fn ∧ fn.body = some c := by
        unfold fnOf at hf
        split at hf
        · rename_i g hg
          split at hf
          · cases hf
          · split at hf
            · rename_i b hb
              simp only [Option.some.injEq, Prod.mk.injEq] at hf
              obtain ⟨rfl, rfl⟩ := hf
              exact ⟨hg, hb⟩
            · cases hf
        · cases hf
      refine (callsIn_wide (n := 0)).1 (callsIn_of_wp_marks hfn.1 hfn.2 trivial ?_)
      have hw := hs false c _ [] none W ρ n h [] e0 tm ds n1 h1 l1 { tmps := xs.toArray ++ Array.replicate (fn.ntmps - xs.toArray.size) undef, defers := [] } w rfl k1 hE mo
        (by
          have := TR.new hx fn.ntmps hsm
          simpa using this) rfl
      refine wpIn_mono (F := Fence.wide) hw ?_
      rintro x a w1 ⟨ρ1, g1, rfl, g2, g3, g4⟩
      have key : ∀ (_ : (M.bnd (endA ds) fun _ => M.bnd (resultA P tm fn.results.toList) fun vs => M.ret (oneA vs)) n1 h1 l1 = .ok v n' h' d), LeavesInM Fence.wide 0 P fn a.tmps (GotE W ρ v h') a.defers .returning w1 := by
        intro k3
        obtain ⟨u, n3, h3, l3, k4, k5⟩ := bind_ok k3
        obtain ⟨vs, n4, h4, l4, k6, k7⟩ := bind_ok k5
        obtain ⟨rfl, rfl, rfl, rfl⟩ := ret_ok k7
        refine leaves_of ds k4 g3 g4 fun w' m' => ?_
        obtain ⟨rfl, ys, g5, g6⟩ := resultA_sound g2 _ k6 m'
        exact ⟨_, results_run g6, _, rfl, ρ1, g1, oneA_VR g5, m'⟩
      cases e0 with
      | normal => exact key k2
      | ret => exact key k2
      | exit id => exact (err_ok k2).elim
  · exact (err_ok e).elim

/-! ### Rounds -/
theorem putAll_TR {ρ : Ren} : ∀ {ps : List Nat} {args : List AV} {xs : List Value} {tm : Tm} {ts : Array Value}, VRL ρ args xs → TR ρ tm ts →
    TR ρ (putAll tm ps args) ((ps.zip xs).foldl (fun (ts : Array Value) (x : Nat × Value) => ts.setIfInBounds x.1 x.2) ts)
  | [], args, xs, tm, ts, h, ht => by simpa [putAll] using ht
  | p :: ps, [], xs, tm, ts, h, ht => by
    rw [h.nil_inv]
    simpa [putAll] using ht
  | p :: ps, a :: args, xs, tm, ts, h, ht => by
    obtain ⟨x, ys, rfl, h1, h2⟩ := h.cons_inv
    simp only [putAll, List.zip_cons_cons, List.foldl_cons]
    exact putAll_TR h2 (ht.put h1 p)
/-- a loop's record is laid anew -/
theorem Mo.put_loop {P : Program} {W w : World} {ρ : Ren} {h : Heap} (m : Mo W ρ h w) {b : Nat} {lc : Loc} {st st' : LoopState} {tm : Tm} {ps : List Nat} {asg body : Code} {pend pend' : Option Code} {df : Nat} (hb : b + 1 < 2 ^ 40)
    (hg : h.get b = some (.lp st tm ps asg body pend df)) (hρ : ρ b = some lc) : ∃ r : Loop, w.heap[lc.blk]? = some (.loop r) ∧ r.state = st ∧ r.pending = pend ∧
      Mo W ρ (T.set (.lp st' tm ps asg body pend' df) 40 h b) (w.putObj lc.blk (.loop { r with state := st', pending := pend' })) := by
  obtain ⟨f, xs, q, h1, h2, h3⟩ := m.blk _ _ _ hg hρ
  refine ⟨_, h3, rfl, rfl, ?_⟩
  obtain ⟨w', k1, k2⟩ := setObj_sound (P := P) (x := .lp st' tm ps asg body pend' df) m hb hg hρ rfl rfl rfl h3 (by intros; simp)
    (o' := .loop { state := st', pending := pend', fn := f, tmps := xs, params := ps.toArray, assign := asg, body := body, defers := q.blk }) ⟨f, xs, q, h1, h2, rfl⟩
  rw [run_setObj_loop _ h3] at k1
  cases k1
  exact k2
theorem yield_sound (hs : SoundR E P rec) : SoundYield E P rec := by
  intro ρ b lc args xs hρ hx W hE n h l v n' h' l' w e mo
  unfold yieldA at e
  obtain ⟨x, n1, h1, l1, e1, e2⟩ := bind_ok e
  obtain ⟨rfl, rfl, hg⟩ := getB_ok e1
  cases x <;> first | exact (err_ok e2).elim | skip
  rename_i st tm ps asg body pend df
  simp only at e2
  change Ok _ _ _ _ _ at e2
  split at e2
  · exact (err_ok e2).elim
  · rename_i hlen
    have hlen : args.length = ps.length := Nat.eq_of_beq_eq_true hlen
    obtain ⟨f, ys, q, g1, g2, g3⟩ := mo.blk _ _ _ hg hρ
    obtain ⟨⟨e0, tm1, ds⟩, n2, h2, l2, e3, e4⟩ := bind_ok e2
    refine ⟨f, _, asg, body, run_yield g3 (by simp [← hx.length, hlen]), ?_⟩
    refine roundIn_of_wpIn trivial ?_
    have hw1 := hs true asg _ [] (some lc.blk) W ρ n1 h1 l1 e0 tm1 ds n2 h2 l2 { tmps := (ps.toArray.zip xs.toArray).foldl (fun tmps (t, a) => tmps.setIfInBounds t a) ys, defers := [] } w rfl e3 hE mo
      (by
        have := putAll_TR (ρ := ρ) (ps := ps) (ts := ys) hx g2
        simpa using this) rfl
    refine wpIn_mono (F := Fence.wide.inRound lc.blk) hw1 ?_
    rintro x a1 w1 ⟨ρ1, k1, rfl, k2, k3, k4⟩
    have hn : e0 = .normal ∧ ds = [] := by
      cases e0 <;> cases ds <;> first
        | exact ⟨rfl, rfl⟩
        | exact (err_ok e4).elim
    obtain ⟨rfl, rfl⟩ := hn
    · simp only at e4
      obtain ⟨y, n3, h3, l3, e5, e6⟩ := bind_ok e4
      obtain ⟨rfl, rfl, hg2⟩ := getB_ok e5
      cases y <;> first | exact (err_ok e6).elim | skip
      rename_i st' tm' ps' asg' body' pend' df'
      simp only at e6
      change Ok _ _ _ _ _ at e6
      split at e6
      · exact (err_ok e6).elim
      · rename_i hst
        obtain ⟨_, n4, h4, l4, e7, e8⟩ := bind_ok e6
        obtain ⟨rfl, rfl, _, hb⟩ := setB_ok e7
        obtain ⟨⟨e9, tm2, ds2⟩, n5, h5, l5, e10, e11⟩ := bind_ok e8
        obtain ⟨r, r1, r2, r3, r4⟩ := k4.put_loop (P := P) (st' := .busy) (pend' := pend') hb hg2 (k1 _ _ hρ)
        have hst' : st' = .ready := by cases st' <;> simp [readyS] at hst <;> rfl
        have r4' : Mo W ρ1 (T.set (.lp .busy tm' ps' asg' body' pend' df') 40 h3 b) (w1.putObj lc.blk (.loop { r with state := .busy })) := by
          rw [← r3] at r4 ⊢
          exact r4
        refine ⟨_, run_beginRound r1 (r2.trans hst'), ?_⟩
        have hw2 := hs true body tm1 [] (some lc.blk) W ρ1 _ _ _ e9 tm2 ds2 n5 h5 l5 a1 _ rfl e10 hE r4' k2 k3
        refine wpIn_mono (F := Fence.wide.inRound lc.blk) hw2 ?_
        rintro x2 a2 w2 ⟨ρ2, p1, rfl, p2, p3, p4⟩
        have hn : ds2 = [] := by
          cases ds2 <;> first
            | rfl
            | exact (err_ok e11).elim
        subst hn
        · simp only at e11
          obtain ⟨z, n6, h6, l6, e12, e13⟩ := bind_ok e11
          obtain ⟨rfl, rfl, hg3⟩ := getB_ok e12
          cases z <;> first | exact (err_ok e13).elim | skip
          rename_i st3 tm3 ps3 asg3 body3 pend3 df3
          have hρ2 : ρ2 b = some lc := p1 _ _ (k1 _ _ hρ)
          cases e9 with
          | normal =>
            simp only [jumpOf] at e13
            obtain ⟨_, n7, h7, l7, e14, e15⟩ := bind_ok e13
            obtain ⟨rfl, rfl, _, hb3⟩ := setB_ok e14
            obtain ⟨rfl, rfl, rfl, rfl⟩ := ret_ok e15
            obtain ⟨r', s1, s2, s3, s4⟩ := p4.put_loop (P := P) (st' := .ready) (pend' := none) hb3 hg3 hρ2
            exact ⟨_, _, run_endRound none s1, _, rfl, ρ2, k1.trans p1, by simp only [VR]; rfl, s4⟩
          | ret =>
            simp only [jumpOf] at e13
            obtain ⟨_, n7, h7, l7, e14, e15⟩ := bind_ok e13
            obtain ⟨rfl, rfl, _, hb3⟩ := setB_ok e14
            obtain ⟨rfl, rfl, rfl, rfl⟩ := ret_ok e15
            obtain ⟨r', s1, s2, s3, s4⟩ := p4.put_loop (P := P) (st' := .done) (pend' := some .ret) hb3 hg3 hρ2
            exact ⟨_, _, run_endRound (some .ret) s1, _, rfl, ρ2, k1.trans p1, by simp only [VR]; rfl, s4⟩
          | exit id =>
            simp only [jumpOf] at e13
            obtain ⟨_, n7, h7, l7, e14, e15⟩ := bind_ok e13
            obtain ⟨rfl, rfl, _, hb3⟩ := setB_ok e14
            obtain ⟨rfl, rfl, rfl, rfl⟩ := ret_ok e15
            obtain ⟨r', s1, s2, s3, s4⟩ := p4.put_loop (P := P) (st' := .done) (pend' := some (.exit id)) hb3 hg3 hρ2
            exact ⟨_, _, run_endRound (some (.exit id)) s1, _, rfl, ρ2, k1.trans p1, by simp only [VR]; rfl, s4⟩

/-! ### A range over a function -/
theorem range_sound (hs : SoundR E P rec) {g : Operand} {ps : Array Nat} {asg body : Code} {tm tm' : Tm} {ds ds' : List Nat} {W w : World} {ρ : Ren} {n n' : Nat} {h h' : Heap} {l l' : Log} {e : Ex} {a : Act}
    (ek : rangeA P rec g ps asg body tm ds n h l = .ok (e, tm', ds') n' h' l') (hE : E W) (mo : Mo W ρ h w) (ht : TR ρ tm a.tmps) (hd : DR ρ ds a.defers) : (Code.rangeFunc g ps asg body).wpIn (Fc none) 0 P (QP W ρ e tm' ds' h') a w := by
  unfold rangeA at ek
  change Ok _ _ _ _ _ at ek
  split at ek
  · rename_i f cap hev
    have hg := evRel_act ht mo.glob _ _ hev
    simp only [VR] at hg
    obtain ⟨xs, gg, fa, fb, hcap, hg, hfv⟩ := hg
    split at ek
    case h_2 => exact (err_ok ek).elim
    rename_i hblt
    obtain ⟨hgg, rfl, rfl⟩ := hfv.1 hblt
    rw [hgg] at hg
    obtain ⟨d, n1, h1, l1, e1, e2⟩ := bind_ok ek
    obtain ⟨b, n2, h2, l2, e3, e4⟩ := bind_ok e2
    obtain ⟨v, n3, h3, l3, e5, e6⟩ := bind_ok e4
    obtain ⟨x, n4, h4, l4, e7, e8⟩ := bind_ok e6
    obtain ⟨rfl, rfl, hk, hn, rfl, rfl⟩ := alloc_ok e1
    obtain ⟨rfl, rfl, hk2, hn2, rfl, rfl⟩ := alloc_ok e3
    obtain ⟨rfl, rfl, hgx⟩ := getB_ok e7
    cases x <;> first | exact (err_ok e8).elim | skip
    rename_i st3 tm3 ps3 asg3 body3 pend3 df3
    simp only at e8
    change Ok _ _ _ _ _ at e8
    split at e8
    · rename_i e0 hbusy hpend
      obtain ⟨_, n5, h5, l5, e9, e10⟩ := bind_ok e8
      obtain ⟨rfl, rfl, _, hb3⟩ := setB_ok e9
      obtain ⟨e11, rfl, rfl, rfl⟩ := ret_ok e10
      simp only [Prod.mk.injEq] at e11
      obtain ⟨rfl, rfl, rfl⟩ := e11
      refine wpIn_rangeFunc fun fn _ => ?_
      obtain ⟨ρ1, g1, g2, g3⟩ := mo.fresh (x := .df) (o := .deferred (some [])) 0 hk hn rfl
      have hbr : BR ρ1 ⟨(w.alloc (.deferred (some []))).heap.size, 0, 0⟩ (.lp .ready tm ps.toList asg body none d) (some (.loop { state := .ready, pending := none, fn := fn, tmps := a.tmps, params := ps, assign := asg, body := body, defers := w.heap.size })) :=
        ⟨fn, a.tmps, _, g2, TR.mono g1 ht, by simp⟩
      obtain ⟨ρ2, g4, g5, g6⟩ := g3.fresh (o := .loop { state := .ready, pending := none, fn := fn, tmps := a.tmps, params := ps, assign := asg, body := body, defers := w.heap.size }) 0 hk2 hn2 hbr
      have hent := run_enterLoop_outer (P := P) (w := w) fn a.tmps ps asg body
      have hsz : (w.alloc (.deferred (some []))).heap.size = w.heap.size + 1 := World.size_alloc _ _
      rw [hsz] at g5
      generalize (w.alloc (.deferred (some []))).alloc (.loop { state := .ready, pending := none, fn := fn, tmps := a.tmps, params := ps, assign := asg, body := body, defers := w.heap.size }) = w2 at g6 hent
      obtain ⟨fn', c', hfn⟩ := callA_fn e5
      have hy : VR ρ2 (.yld (d + 1)) (.func (.yield (w.heap.size + 1)) #[] #[]) := by
        simp only [VR]
        exact ⟨_, g5, rfl⟩
      have hcall := call_sound hs ρ2 f _ _ (.cons hy (VRL.mono (g1.trans g4) _ _ hcap)) _ hE _ _ _ _ _ _ _ _ e5 g6
      refine ⟨w.heap.size + 1, [{ target := .collected w.heap.size, args := #[] }], w2, { target := .fn (.func f) xs.toArray, args := #[.func (.yield (w.heap.size + 1)) #[] #[]] }, w2, f, #[.func (.yield (w.heap.size + 1)) #[] #[]] ++ xs.toArray, w2,
        hent, ?_, fun _ _ => trivial, ?_, fun hq => (by cases hq), ?_⟩
      · simp only [resolve, hg]
        simp [Deferred.ofValue, Act.eval]
      · simp [invoke, callFunc_run hfn]
      · have hc2 : CallsIn Fence.wide 0 P f (#[.func (.yield (w.heap.size + 1)) #[] #[]] ++ xs.toArray) w2 (GotE W ρ2 v h4) := by
          refine callsIn_wide.2 ?_
          have : (Value.func (.yield (w.heap.size + 1)) #[] #[] :: xs).toArray = #[.func (.yield (w.heap.size + 1)) #[] #[]] ++ xs.toArray := by apply Array.ext'; simp
          rw [← this]
          exact hcall
        have hc3 : CallsIn (Fc none) (0 - 1) P f (#[.func (.yield (w.heap.size + 1)) #[] #[]] ++ xs.toArray) w2 (GotE W ρ2 v h4) := hc2
        refine hc3.mono ?_
        rintro e' w3 ⟨y, rfl, ρ3, q1, q2, q3⟩
        have hρ3 : ρ3 (d + 1) = _ := q1 _ _ g5
        obtain ⟨r, s1, s2, s3, s4⟩ := q3.put_loop (P := P) (st' := .exhausted) (pend' := pend3) hb3 hgx hρ3
        have s4' : Mo W ρ3 (T.set (.lp .exhausted tm3 ps3 asg3 body3 pend3 df3) 40 h4 (d + 1)) (w3.putObj (w.heap.size + 1) (.loop { r with state := .exhausted })) := by
          rw [← s3] at s4 ⊢
          exact s4
        simp only at s1
        refine ⟨_, _, run_endLoop s1 (by rw [s2]; intro hq; subst hq; cases hbusy), ?_⟩
        have hq : QP W ρ e0 tm (d :: ds) (T.set (.lp .exhausted tm3 ps3 asg3 body3 pend3 df3) 40 h4 (d + 1)) (exitOf e0) { a with defers := [{ target := .collected w.heap.size, args := #[] }] ++ a.defers } (w3.putObj (w.heap.size + 1) (.loop { r with state := .exhausted })) :=
          ⟨ρ3, (g1.trans g4).trans q1, rfl, TR.mono ((g1.trans g4).trans q1) ht, ⟨_, _, rfl, q1 _ _ (g4 _ _ g2), hd.mono ((g1.trans g4).trans q1)⟩, s4'⟩
        rw [s3] at hq ⊢
        cases pend3 with
        | none =>
          simp only [exOf, Option.some.injEq] at hpend
          subst hpend
          exact hq
        | some c =>
          cases c <;> simp only [exOf, Option.some.injEq] at hpend <;> first | (cases hpend; done) | skip
          · subst hpend
            exact wpIn_exit hq
          · subst hpend
            exact wpIn_ret hq
    · exact (err_ok e8).elim
  · exact (err_ok ek).elim

/-! ### Code -/
section
variable {F : Fence} {n : Nat} {Q : Exit → Act → World → Prop} {a : Act} {w : World} {b : Frame} {k : List Item} {cs : List Frame}
theorem stepR_scope {c : Code} : step P (lone (b.atR a (.code (.scope c) :: k)) cs w) = .next (lone (b.atR a (.code c :: .inScope c :: k)) cs w) :=
  step_lone_go (by simp [stepG, stepG.exec, Frame.atR])
theorem stepR_inScope {c : Code} : step P (lone (b.atR a (.inScope c :: k)) cs w) = .next (lone (b.atR a k) cs w) :=
  step_lone_go (by simp [stepG, stepG.exec, Frame.atR])
theorem wpIn_scope_straight {c : Code} (h : c.wpIn F n P (Exit.noGoto Q) a w) : (Code.scope c).wpIn F n P Q a w := by
  intro b k cs hro hb hr
  have h0 : (lone (b.atR a (.code (.scope c) :: k)) cs w).fenced P F := fenced_calm hb hr rfl
  obtain ⟨e, a₁, w₁, hq, harr⟩ := h b (.inScope c :: k) cs hro hb hr
  cases e with
  | normal => exact ⟨.normal, a₁, w₁, hq, .head h0 stepR_scope (StepsIn.trans harr (.one (fenced_calm hb hr rfl) stepR_inScope))⟩
  | exit id =>
    have hx : exitTo id (.inScope c :: k) = exitTo id k := by simp [exitTo]
    exact ⟨.exit id, a₁, w₁, hq, fun k' hk => .head h0 stepR_scope (harr.1 k' (by rw [hx]; exact hk)),
      fun hr' hk => let ⟨k₁, h1, h2⟩ := harr.2 hr' (by rw [hx]; exact hk); ⟨k₁, h1, .head h0 stepR_scope h2⟩⟩
  | goto l => exact hq.elim
  | ret => exact ⟨_, a₁, w₁, hq, .of_steps (.one h0 stepR_scope) harr⟩
  | panic ch => exact ⟨_, a₁, w₁, hq, .of_steps (.one h0 stepR_scope) harr⟩
  | outgrown => exact ⟨_, a₁, w₁, hq, .of_steps (.one h0 stepR_scope) harr⟩
end

theorem loop_sound {o : Option Nat} {W : World} (hE : E W) {ρ0 : Ren} {e : Ex} {tm' : Tm} {ds' : List Nat} {n' : Nat} {h' : Heap} {l' : Log} {c : Code} : ∀ (j : Nat), (∀ i, i < j → SoundR E P (evC P i)) →
    ∀ (ρ : Ren) (tm : Tm) (ds : List Nat) (n : Nat) (h : Heap) (l : Log) (a : Act) (w : World), Ext ρ0 ρ → evC P j o.isSome (.loop c) tm ds n h l = .ok (e, tm', ds') n' h' l' → Mo W ρ h w → TR ρ tm a.tmps → DR ρ ds a.defers →
      Code.roundsIn (Fc o) 0 P c (QP W ρ0 e tm' ds' h') j a w := by
  intro j
  induction j with
  | zero =>
    intro _ ρ tm ds n h l a w _ ek
    rw [evC_zero] at ek
    exact (err_ok ek).elim
  | succ j ih =>
    intro hs ρ tm ds n h l a w hext ek mo ht hd
    rw [evC_loop] at ek
    obtain ⟨⟨e1, tm1, ds1⟩, n1, h1, l1, k1, k2⟩ := bind_ok ek
    simp only [k_seq] at k2
    rw [roundsIn_succ]
    refine wpIn_mono (hs j (by omega) _ c tm ds o W ρ n h l e1 tm1 ds1 n1 h1 l1 a w rfl k1 hE mo ht hd) ?_
    rintro x a1 w1 ⟨ρ1, g1, rfl, g2, g3, g4⟩
    cases e1 with
    | normal => exact ih (fun i hi => hs i (by omega)) ρ1 tm1 ds1 n1 h1 l1 a1 w1 (hext.trans g1) k2 g4 g2 g3
    | ret =>
      obtain ⟨k3, rfl, rfl, rfl⟩ := ret_ok k2
      simp only [Prod.mk.injEq] at k3
      obtain ⟨rfl, rfl, rfl⟩ := k3
      exact ⟨ρ1, hext.trans g1, rfl, g2, g3, g4⟩
    | exit id =>
      obtain ⟨k3, rfl, rfl, rfl⟩ := ret_ok k2
      simp only [Prod.mk.injEq] at k3
      obtain ⟨rfl, rfl, rfl⟩ := k3
      exact ⟨ρ1, hext.trans g1, rfl, g2, g3, g4⟩

theorem evC_step (hm : P.follows .mixedOrders = true) (hor : OrcOK E P ∧ CntOK E P) : ∀ f, (∀ j, j < f → SoundR E P (evC P j)) → SoundR E P (evC P f) := by
  intro f hs
  cases f with
  | zero =>
    intro r c tm ds o W ρ n h l e tm' ds' n' h' l' a w hr ek
    rw [evC_zero] at ek
    exact (err_ok ek).elim
  | succ f =>
    have h0 := hs f (by omega)
    have hc := call_sound h0
    have hy := yield_sound h0
    have hl := Local.evC (P := P) f
    intro r c tm ds o W ρ n h l e tm' ds' n' h' l' a w hr ek hE mo ht hd
    have done : ∀ {e1 : Ex}, (M.ret (e1, tm, ds) : M (Ex × Tm × List Nat)) n h l = .ok (e, tm', ds') n' h' l' → QP W ρ e tm' ds' h' (exitOf e1) a w := by
      intro e1 k
      obtain ⟨k1, rfl, rfl, rfl⟩ := ret_ok k
      simp only [Prod.mk.injEq] at k1
      obtain ⟨rfl, rfl, rfl⟩ := k1
      exact ⟨ρ, Ext.refl _, rfl, ht, hd, mo⟩
    cases c <;> simp only [evC_skip, evC_region, evC_seq, evC_cond, evC_block, evC_loop, evC_rangeFunc, evC_exit, evC_scope, evC_label, evC_goto, evC_ret, evC_refuse, c_region, c_seq, c_cond, c_block, c_rf] at ek
    case skip => exact wpIn_skip (done ek)
    case label l => exact wpIn_label (done ek)
    case ret => exact wpIn_ret (done ek)
    case exit id => exact wpIn_exit (done ek)
    case seq x y =>
      obtain ⟨⟨e1, tm1, ds1⟩, n1, h1, l1, k1, k2⟩ := bind_ok ek
      simp only [k_seq] at k2
      refine wpIn_seq (wpIn_mono (h0 r x tm ds o W ρ n h l e1 tm1 ds1 n1 h1 l1 a w hr k1 hE mo ht hd) ?_)
      rintro x' a1 w1 ⟨ρ1, g1, rfl, g2, g3, g4⟩
      cases e1 with
      | normal => exact wpIn_mono (h0 r y tm1 ds1 o W ρ1 n1 h1 l1 e tm' ds' n' h' l' a1 w1 hr k2 hE g4 g2 g3) fun _ _ _ q => q.ext g1
      | ret =>
        obtain ⟨k3, rfl, rfl, rfl⟩ := ret_ok k2
        simp only [Prod.mk.injEq] at k3
        obtain ⟨rfl, rfl, rfl⟩ := k3
        exact ⟨ρ1, g1, rfl, g2, g3, g4⟩
      | exit id =>
        obtain ⟨k3, rfl, rfl, rfl⟩ := ret_ok k2
        simp only [Prod.mk.injEq] at k3
        obtain ⟨rfl, rfl, rfl⟩ := k3
        exact ⟨ρ1, g1, rfl, g2, g3, g4⟩
    case cond x y z =>
      change Ok _ _ _ _ _ at ek
      split at ek
      · rename_i hx
        have hv := evRel_act ht mo.glob _ _ hx
        simp only [VR] at hv
        exact wpIn_cond_true hv (h0 r y tm ds o W ρ n h l e tm' ds' n' h' l' a w hr ek hE mo ht hd)
      · rename_i hx
        have hv := evRel_act ht mo.glob _ _ hx
        simp only [VR] at hv
        exact wpIn_cond_false hv (h0 r z tm ds o W ρ n h l e tm' ds' n' h' l' a w hr ek hE mo ht hd)
      · exact (err_ok ek).elim
    case block id x =>
      obtain ⟨⟨e1, tm1, ds1⟩, n1, h1, l1, k1, k2⟩ := bind_ok ek
      refine wpIn_block (wpIn_mono (h0 r x tm ds o W ρ n h l e1 tm1 ds1 n1 h1 l1 a w hr k1 hE mo ht hd) ?_)
      rintro x' a1 w1 ⟨ρ1, g1, rfl, g2, g3, g4⟩
      cases e1 with
      | normal =>
        obtain ⟨k3, rfl, rfl, rfl⟩ := ret_ok k2
        simp only [Prod.mk.injEq] at k3
        obtain ⟨rfl, rfl, rfl⟩ := k3
        exact ⟨ρ1, g1, rfl, g2, g3, g4⟩
      | ret =>
        obtain ⟨k3, rfl, rfl, rfl⟩ := ret_ok k2
        simp only [Prod.mk.injEq] at k3
        obtain ⟨rfl, rfl, rfl⟩ := k3
        exact ⟨ρ1, g1, rfl, g2, g3, g4⟩
      | exit id' =>
        simp only at k2
        change Ok _ _ _ _ _ at k2
        split at k2
        · rename_i hid
          have hid : id' = id := Nat.eq_of_beq_eq_true hid
          obtain ⟨k3, rfl, rfl, rfl⟩ := ret_ok k2
          simp only [Prod.mk.injEq] at k3
          obtain ⟨rfl, rfl, rfl⟩ := k3
          simp only [exitOf, Exit.inBlock, hid, if_true]
          exact ⟨ρ1, g1, rfl, g2, g3, g4⟩
        · rename_i hid
          have hid : ¬ id' = id := fun q => by rw [q, Nat.beq_refl] at hid; cases hid
          obtain ⟨k3, rfl, rfl, rfl⟩ := ret_ok k2
          simp only [Prod.mk.injEq] at k3
          obtain ⟨rfl, rfl, rfl⟩ := k3
          simp only [exitOf, Exit.inBlock, if_neg hid]
          exact ⟨ρ1, g1, rfl, g2, g3, g4⟩
    case scope x =>
      refine wpIn_scope_straight (wpIn_mono (h0 r x tm ds o W ρ n h l e tm' ds' n' h' l' a w hr ek hE mo ht hd) ?_)
      rintro x' a1 w1 ⟨ρ1, g1, rfl, g2⟩
      cases e <;> exact ⟨ρ1, g1, rfl, g2⟩
    case loop x =>
      subst hr
      refine wpIn_loop_rounds (f + 1) (loop_sound hE (n' := n') (l' := l') (f + 1) (fun i hi => hs i hi) ρ tm ds n h l a w (Ext.refl _) ?_ mo ht hd)
      rw [evC_loop]
      exact ek
    case region id ops dr =>
      cases dr with
      | false =>
        obtain ⟨tm1, n1, h1, l1, k1, k2⟩ := bind_ok ek
        obtain ⟨k3, rfl, rfl, rfl⟩ := ret_ok k2
        simp only [Prod.mk.injEq] at k3
        obtain ⟨rfl, rfl, rfl⟩ := k3
        exact region_sound hor hc hy ht k1 hE mo fun ρ' a' w' g1 g2 g3 g4 => ⟨ρ', g1, rfl, g2, g3 ▸ hd.mono g1, g4⟩
      | true =>
        obtain ⟨tm1, n1, h1, l1, k1, k2⟩ := bind_ok ek
        obtain ⟨k3, rfl, rfl, rfl⟩ := ret_ok k2
        simp only [Prod.mk.injEq] at k3
        obtain ⟨rfl, rfl, rfl⟩ := k3
        exact draw_sound hor hc hy hl hm ht k1 hE mo fun ρ' a' w' g1 g2 g3 g4 => ⟨ρ', g1, rfl, g2, g3 ▸ hd.mono g1, g4⟩
    case rangeFunc g ps asg body =>
      cases r with
      | true => exact (err_ok ek).elim
      | false =>
        have ho : o = none := by cases o <;> simp at hr <;> rfl
        subst ho
        exact range_sound h0 ek hE mo ht hd
    all_goals exact (err_ok ek).elim
theorem evC_sound (hm : P.follows .mixedOrders = true) (hor : OrcOK E P ∧ CntOK E P) (f : Nat) : SoundR E P (evC P f) := by
  induction f using Nat.strongRecOn with
  | _ f ih => exact evC_step hm hor f ih

/-- the end of a run that yields a bool -/
def isTrue : R AV → Bool
  | .ok (.bool b) _ _ _ => b
  | _ => false
/-- the memory at the start: the first 64 names are variables: dropped, or rows that are only read -/
structure Start (h0 : Heap) (w : World) : Prop where
  low : ∀ g, g < 64 → ∃ x, h0.get g = some x ∧ fixed x = true ∧ BR (fun g => if g < 64 then some ⟨g, 0, 0⟩ else none) ⟨g, 0, 0⟩ x w.heap[g]?
  high : ∀ g, ¬ g < 64 → h0.get g = none
theorem Start.mo {h0 : Heap} {w : World} (h : Start h0 w) : Mo w (fun g => if g < 64 then some ⟨g, 0, 0⟩ else none) h0 w := by
  refine ⟨Below.refl _ _, fun b => ?_, fun b x l h1 h2 => ?_, fun b c x y l k h1 h2 l1 l2 h3 h4 h5 => ?_, fun b x l h1 h2 h3 => ?_, fun g hg => by simp [hg]⟩
  · by_cases hb : b < 64
    · obtain ⟨x, h1, _⟩ := h.low b hb
      simp [h1, hb]
    · simp [h.high b hb, hb]
  · by_cases hb : b < 64
    · simp only [hb, if_true, Option.some.injEq] at h2
      subst h2
      obtain ⟨y, h3, _, h4⟩ := h.low b hb
      rw [h3] at h1
      cases h1
      exact h4
    · simp [hb] at h2
  · by_cases hb : b < 64
    · by_cases hc : c < 64
      · simp only [hb, if_true, Option.some.injEq] at h3
        simp only [hc, if_true, Option.some.injEq] at h4
        subst h3; subst h4
        exact h5
      · simp [hc] at h4
    · simp [hb] at h3
  · by_cases hb : b < 64
    · obtain ⟨y, h4, h5, _⟩ := h.low b hb
      rw [h4] at h1
      cases h1
      rw [h5] at h3
      cases h3
    · simp [hb] at h2
/-- what the small machine finds of a function without arguments, the function returns -/
theorem awake_of (hm : P.follows .mixedOrders = true) (hor : OrcOK E P ∧ CntOK E P) {fuel f : Nat} {h0 : Heap} (h : isTrue (callA P (evC P fuel) f [] 64 h0 []) = true) (w : World) (hE : E w) (hs : Start h0 w) :
    Calls P f #[] w fun e w' => e = .returned (.bool true) ∧ Below w.heap.size w w' := by
  cases hr : callA P (evC P fuel) f [] 64 h0 [] with
  | fail => rw [hr] at h; cases h
  | ok v n' h' l' =>
    rw [hr] at h
    cases v <;> simp only [isTrue] at h <;> first | (cases h; done) | skip
    subst h
    refine (call_sound (evC_sound hm hor fuel) _ f [] [] VRL.nil w hE _ _ _ _ _ _ _ w hr hs.mo).mono ?_
    rintro e w' ⟨x, rfl, ρ', _, hv, m'⟩
    simp only [VR] at hv
    subst hv
    exact ⟨rfl, m'.below⟩
/-- no variable is read -/
noncomputable def drops : Nat → Heap
  | 0 => .leaf
  | n + 1 => T.set .dead 40 (drops n) n
theorem drops_get : ∀ (n b : Nat), n ≤ 64 → (drops n).get b = if b < n then some .dead else none
  | 0, b, _ => by simp [drops, T.get_leaf]
  | n + 1, b, h => by
    rw [drops, T.get_set _ _ _ _ _ (by omega), drops_get n b (by omega)]
    by_cases e : b = n
    · simp [e]
    · rw [if_neg e]
      by_cases q : b < n
      · rw [if_pos q, if_pos (by omega)]
      · rw [if_neg q, if_neg (by omega)]
theorem drops_start (w : World) : Start (drops 64) w where
  low g hg := ⟨.dead, by rw [drops_get _ _ (Nat.le_refl _), if_pos hg], rfl, trivial⟩
  high g hg := by rw [drops_get _ _ (Nat.le_refl _), if_neg hg]
end
end Ev
end Go.Proofs.YtacjgphfcailmaaGreatDoor
