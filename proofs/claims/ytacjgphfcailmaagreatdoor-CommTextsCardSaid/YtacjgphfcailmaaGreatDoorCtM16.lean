/-
  Layer 20: the walk of the document's Sum.
-/
import Derived.Test.YtacjgphfcailmaaGreatDoorCtM15a
import Derived.Deep.RegionWith
import Derived.Deep.RegionHeld3
import Derived.Deep.DeepFit
import Derived.Deep.DeepMust
import Derived.BigRegion
namespace Go.Proofs.YtacjgphfcailmaaGreatDoor
open Go.RowKit Go.Sort
open Ct
set_option linter.unusedVariables false
set_option linter.unusedSimpArgs false

/-- the document's sum, while it is made -/
structure RS (w wr : World) (vo : Value) (m : List Cnt) (all : List Cnt) (i : Nat) : Prop where
  own : Own w.heap.size wr vo m
  be : Below w.heap.size w wr
  so : m.Pairwise keyLt
  su : Sums m (all.take i)
  le : m.length ≤ i
theorem RS.below {w wr w' : World} {vo : Value} {m all : List Cnt} {i : Nat} (h : RS w wr vo m all i) (hb : Below wr.heap.size wr w') : RS w w' vo m all i :=
  ⟨h.own.below hb, h.be.trans (hb.mono h.be.size), h.so, h.su, h.le⟩
/-- the key is there -/
theorem RS.add {all s : List Cnt} {k q : Nat} (hk : k < all.length) (hq : q < s.length) (so : s.Pairwise keyLt) (su : Sums s (all.take k)) (h1 : ¬ keyLt s[q] all[k]) (h2 : ¬ keyLt all[k] s[q]) :
    (s.set q { s[q] with many := s[q].many + all[k].many }).Pairwise keyLt ∧ Sums (s.set q { s[q] with many := s[q].many + all[k].many }) (all.take (k + 1)) := by
  have e : s = s.take q ++ s[q] :: s.drop (q + 1) := by rw [List.getElem_cons_drop, List.take_append_drop]
  have e2 : s.set q { s[q] with many := s[q].many + all[k].many } = s.take q ++ { s[q] with many := s[q].many + all[k].many } :: s.drop (q + 1) := by
    rw [List.set_eq_take_append_cons_drop, if_pos hq]
  rw [e2, List.take_succ_eq_append_getElem hk]
  rw [e] at so su
  have hs : (List.take q s ++ s[q] :: List.drop (q + 1) s)[q]'(by rw [← e]; exact hq) = s[q] := by simp
  exact ⟨ref_add so, su.add (keyLt_total _ _ h1 h2)⟩
/-- the key is new -/
theorem RS.ins {all s : List Cnt} {k q : Nat} (hk : k < all.length) (hq : q ≤ s.length) (so : s.Pairwise keyLt) (su : Sums s (all.take k)) (h1 : ∀ (p : Nat) (hp : p < s.length), p < q → keyLt s[p] all[k]) (h2 : ∀ (h : q < s.length), keyLt all[k] s[q]) :
    (s.take q ++ all[k] :: s.drop q).Pairwise keyLt ∧ Sums (s.take q ++ all[k] :: s.drop q) (all.take (k + 1)) := by
  have e : s = s.take q ++ s.drop q := (List.take_append_drop q s).symm
  rw [List.take_succ_eq_append_getElem hk]
  have a1 : ∀ x ∈ s.take q, keyLt x all[k] := by
    intro x hx
    obtain ⟨p, hp, rfl⟩ := List.getElem_of_mem hx
    rw [List.length_take] at hp
    rw [List.getElem_take]
    exact h1 p (by omega) (by omega)
  have a2 : ∀ x, (s.drop q).head? = some x → keyLt all[k] x := by
    intro x hx
    rw [List.head?_drop] at hx
    obtain ⟨hq', rfl⟩ := List.getElem?_eq_some_iff.1 hx
    exact h2 hq'
  rw [e] at so su
  rw [List.take_append_drop] at so su
  have so' : (s.take q ++ s.drop q).Pairwise keyLt := by rw [List.take_append_drop]; exact so
  have su' : Sums (s.take q ++ s.drop q) (all.take k) := by rw [List.take_append_drop]; exact su
  exact ⟨ref_ins so' a1 a2, su'.ins (ref_new so' a1 a2)⟩
theorem Cs.take {w : World} {b n cap q : Nat} {l : List Cnt} (h : Cs w (.slice (some ⟨b, 0, none⟩) n cap) l) (hq : q ≤ l.length) : Cs w (.slice (some ⟨b, 0, none⟩) q q) (l.take q) := by
  obtain ⟨A', cap', e, h1, h2, h3⟩ := h
  cases e
  have hlen : (l.take q).length = q := by rw [List.length_take]; omega
  refine ⟨_, q, by rw [hlen], by omega, by omega, fun h0 => ?_⟩
  obtain ⟨b', off, e, hc⟩ := h3 (by omega)
  cases e
  refine ⟨b, 0, rfl, fun i hi j u hu => ?_⟩
  rw [List.getElem_take] at hu
  exact hc i (by omega) j u hu
theorem Cs.none (w : World) (A : Option Addr) (c : Nat) (hc : c ≤ maxLen) : Cs w (.slice A 0 c) [] := ⟨A, c, rfl, Nat.zero_le _, by unfold maxLen at hc; omega, fun h => by cases h⟩
theorem Cs.dropAt {w : World} {b n cap q : Nat} {l : List Cnt} (h : Cs w (.slice (some ⟨b, 0, Option.none⟩) n cap) l) (hq : q < l.length) : Cs w (.slice (some ⟨b, q * 4, Option.none⟩) (n - q) (cap - q)) (l.drop q) := by
  obtain ⟨A', cap', e, h1, h2, h3⟩ := h
  cases e
  have hlen : (l.drop q).length = l.length - q := List.length_drop
  refine ⟨_, cap - q, by rw [hlen], by omega, by omega, fun h0 => ?_⟩
  obtain ⟨b', off, e, hc⟩ := h3 (by omega)
  cases e
  refine ⟨b, q * 4, rfl, fun i hi j u hu => ?_⟩
  rw [List.getElem_drop] at hu
  have := hc (q + i) (by omega) j u hu
  rw [show q * 4 + i * 4 + j = 0 + (q + i) * 4 + j by omega]
  exact this
theorem RS.put {w wr w' : World} {vo v' : Value} {all s : List Cnt} {k q : Nat} (hR : RS w wr vo s all k) (hk : k < all.length) (hq : q ≤ s.length) (h1 : ∀ (p : Nat) (hp : p < s.length), p < q → keyLt s[p] all[k]) (h2 : ∀ (h : q < s.length), keyLt all[k] s[q])
    (ho : Own w.heap.size w' v' (s.take q ++ all[k] :: s.drop q)) (hb : Below w.heap.size w w') : RS w w' v' (s.take q ++ all[k] :: s.drop q) all (k + 1) := by
  have hp := RS.ins hk hq hR.so hR.su h1 h2
  exact ⟨ho, hb, hp.1, hp.2, by have := hR.le; simp [List.length_take, List.length_drop]; omega⟩
theorem cnt_cell {w : World} {A : Option Addr} {n cap : Nat} {l : List Cnt} (h : Cs w (.slice A n cap) l) {i : Nat} (hi : i < l.length) : ∃ b off, A = some ⟨b, off, none⟩ ∧ b < w.heap.size ∧ w.cell? ⟨b, off + i * 4, none⟩ = some (.int .i64 l[i].frm) ∧ w.cell? ⟨b, off + i * 4 + 1, none⟩ = some (.int .i64 l[i].to) ∧ w.cell? ⟨b, off + i * 4 + 2, none⟩ = some (.string l[i].kind) ∧ w.cell? ⟨b, off + i * 4 + 3, none⟩ = some (.int .i64 l[i].many) := by
  obtain ⟨A', cap', e, h1, h2, h3⟩ := h
  obtain ⟨b, off, h4, hc⟩ := h3 (by omega)
  cases e
  subst h4
  have x0 := hc i hi 0 _ rfl
  exact ⟨b, off, rfl, World.block_lt_of_cell? w _ x0, by simpa using x0, hc i hi 1 _ rfl, hc i hi 2 _ rfl, hc i hi 3 _ rfl⟩
theorem held8 {a b c d e f g h : Prop} {W u : World} (x : a ∧ b ∧ c ∧ d ∧ e ∧ f ∧ g ∧ h ∧ Below W.heap.size W u) : Below W.heap.size W u := x.2.2.2.2.2.2.2.2
/-- two counts in memory, and what is beneath -/
def Two (W u : World) (b o : Nat) (x : Cnt) (c p : Nat) (y : Cnt) : Prop :=
  u.cell? ⟨b, o, none⟩ = some (.int .i64 x.frm) ∧ u.cell? ⟨b, o + 1, none⟩ = some (.int .i64 x.to) ∧ u.cell? ⟨b, o + 2, none⟩ = some (.string x.kind) ∧ u.cell? ⟨b, o + 3, none⟩ = some (.int .i64 x.many) ∧
    u.cell? ⟨c, p, none⟩ = some (.int .i64 y.frm) ∧ u.cell? ⟨c, p + 1, none⟩ = some (.int .i64 y.to) ∧ u.cell? ⟨c, p + 2, none⟩ = some (.string y.kind) ∧ u.cell? ⟨c, p + 3, none⟩ = some (.int .i64 y.many) ∧ Below W.heap.size W u
theorem Two.of {W u : World} {b o c p : Nat} {x y : Cnt} (h : Two W W b o x c p y) (hb : b < W.heap.size) (hc : c < W.heap.size) (hu : Below W.heap.size W u) : Two W u b o x c p y := by
  obtain ⟨h0, h1, h2, h3, k0, k1, k2, k3, -⟩ := h
  exact ⟨(hu.cell (p := ⟨b, o, none⟩) hb).trans h0, (hu.cell (p := ⟨b, o + 1, none⟩) hb).trans h1, (hu.cell (p := ⟨b, o + 2, none⟩) hb).trans h2, (hu.cell (p := ⟨b, o + 3, none⟩) hb).trans h3,
    (hu.cell (p := ⟨c, p, none⟩) hc).trans k0, (hu.cell (p := ⟨c, p + 1, none⟩) hc).trans k1, (hu.cell (p := ⟨c, p + 2, none⟩) hc).trans k2, (hu.cell (p := ⟨c, p + 3, none⟩) hc).trans k3, hu⟩
def RSumE (all : List Cnt) (w : World) (e : Ending) (w' : World) : Prop := ∃ u s, e = .returned u ∧ Cs w' u (some0 s) ∧ s.Pairwise keyLt ∧ Sums s all ∧ Below w.heap.size w w'
set_option maxHeartbeats 16000000 in
set_option maxRecDepth 100000 in
theorem rsum_at (l m : List Cnt) (v x : Value) (w : World) (hv : Cs w v l) (hx : Cs w x m) (hn : ∀ c ∈ l ++ m, near c) (hl : l.length ≤ 400) (hm : m.length ≤ 400) :
    Calls Tryz.prog 10 #[v, x] w (RSumE (l ++ m) w) := by
  obtain ⟨all, hall⟩ : ∃ a, l ++ m = a := ⟨_, rfl⟩
  have hal : all.length ≤ 800 := by rw [← hall, List.length_append]; omega
  rw [hall] at hn ⊢
  have h0 : Own w.heap.size (w.alloc (.cells #[] 32)) (.slice (some ⟨w.heap.size, 0, none⟩) 0 0) [] := ⟨rfl, .inr ⟨w.heap.size, 0, #[], rfl, Nat.le_refl _, heap_alloc_new w _, Nat.le_refl _, by unfold maxLen; omega, rfl, rfl⟩⟩
  have b0 : Below w.heap.size w (w.alloc (.cells #[] 32)) := (Below.refl _ _).alloc (Nat.le_refl _) _
  have HV := Lib.hid (And.intro hv hx)
  have HL := Lib.hid (And.intro hl hm)
  have HN := Lib.hid hn
  have hv0 := hv.below b0
  clear hv hx hn
  go_enter Tryz.func10, Tryz.ntmps10
  go_wp2_with (at_builtin; refine wpList_append_cs rfl _ _ rfl w.heap.size b0.size _ v [] l rfl rfl h0 hv0 (by simp; omega) ?_)
  intro u1 w1 h1 hg1
  have b1 := b0.grown hg1 b0.size (fun k hk => (World.ownsRow.lt h0 k hk).1)
  have hx1 := HV.out.2.below b1
  clear h0 hg1 hv0 b0
  go_wp2_with (at_builtin; refine wpList_append_cs rfl _ _ rfl w.heap.size b1.size _ x l m rfl rfl h1 hx1 (by omega) ?_)
  intro u2 w2 h2 hg2
  have b2 := b1.grown hg2 b1.size (fun k hk => (World.ownsRow.lt h1 k hk).1)
  clear h1 hg2 hx1 b1
  have H0 := Lib.hid (show RS w2 w2 (.slice none 0 0) [] all 0 from ⟨Own.nil _ _, Below.refl _ _, List.Pairwise.nil, Sums.nil, Nat.le_refl _⟩)
  obtain ⟨Aa, ca, rfl, k1, k2, k3⟩ := h2.form
  have HA := Lib.hid (And.intro h2 b2)
  obtain ⟨n, hna⟩ : ∃ n, all.length = n := ⟨_, rfl⟩
  have HNA := Lib.hid hna
  clear h2 b2 k3
  rw [hna] at k1 hal HA ⊢
  have hn9 : (n : Int) ≤ 800 := by omega
  clear hna hall
  go_wp2_with fail
  go_loopw [6, 7] (fun vo i wr => ∃ (k : Nat) (s : List Cnt), k ≤ n ∧ i = .int .i64 k ∧ RS w2 wr vo s all k) (fun _ i _ => n - (intOf i).toNat)
  case atStart => exact ⟨0, [], Nat.zero_le _, rfl, H0.out⟩
  case round =>
    clear H0
    obtain ⟨k, s, hk, rfl, hR⟩ := hrel
    have hk0 : (0 : Int) ≤ (k : Int) := by omega
    have hk9 : (k : Int) ≤ 800 := by omega
    by_cases hlt : k < n
    · have hk1 : (k : Int) < (n : Int) := by omega
      obtain ⟨Ao, co, rfl, f1, f2, -⟩ := hR.own.form
      have hsl := hR.le
      obtain ⟨ns, hns⟩ : ∃ x, s.length = x := ⟨_, rfl⟩
      have HNS := Lib.hid hns
      rw [hns] at hR f1 hsl ⊢
      have hs0 : (0 : Int) ≤ (ns : Int) := by omega
      have hs9 : (ns : Int) ≤ 800 := by omega
      have HR := Lib.hid hR
      clear hR hns
      obtain ⟨W1, hW1⟩ : ∃ x, x = wr := ⟨_, rfl⟩
      subst hW1
      go_wp2_with fail
      go_loopw [8] (fun j wy => ∃ q : Nat, q ≤ ns ∧ j = .int .i64 q ∧ Hid (Below W1.heap.size W1 wy ∧ ∀ (p : Nat) (hp : p < s.length) (hk : k < all.length), p < q → keyLt s[p] all[k])) (fun j _ => ns - (intOf j).toNat)
      case atStart => exact ⟨0, Nat.zero_le _, rfl, Lib.hid ⟨Below.refl _ _, fun p hp hk h => by omega⟩⟩
      case round =>
        obtain ⟨q, hq, rfl, hQ⟩ := hrel
        have hq0 : (0 : Int) ≤ (q : Int) := by omega
        have hq9 : (q : Int) ≤ 800 := by omega
        have hka : k < all.length := by rw [HNA.out]; exact hlt
        have HRB := Lib.hid (HR.out.below hQ.out.1)
        have hAw : Cs wr (.slice Aa n ca) all := HA.out.1.cs.below (HR.out.be.trans (hQ.out.1.mono HR.out.be.size))
        by_cases hql : q < ns
        · have hq1 : (q : Int) < (ns : Int) := by omega
          have hsq : q < s.length := by rw [HNS.out]; exact hql
          obtain ⟨bo, rfl, hbB, hbo, x0, x1, x2, x3, xf⟩ := HRB.out.own.at hsq
          obtain ⟨ba, oa, rfl, hba, y0, y1, y2, y3⟩ := cnt_cell hAw hka
          obtain ⟨sx, hsx⟩ : ∃ x, s[q] = x := ⟨_, rfl⟩
          obtain ⟨cx, hcx⟩ : ∃ x, all[k] = x := ⟨_, rfl⟩
          rw [hsx] at x0 x1 x2 x3
          rw [hcx] at y0 y1 y2 y3
          have HSX := Lib.hid hsx
          have HCX := Lib.hid hcx
          have HXF := Lib.hid xf
          have HTW := Lib.hid (fun (u : World) (hu : Below wr.heap.size wr u) => Two.of (show Two wr wr bo (q * 4) sx ba (oa + k * 4) cx from ⟨x0, x1, x2, x3, y0, y1, y2, y3, Below.refl _ _⟩) hbo hba hu)
          unfold Two at HTW
          have KL := fun u => Lib.hid (less_at sx cx u)
          clear hsx hcx xf
          cases hb : lessB sx cx
          · rw [hb] at KL
            clear x0 x1 x2 x3 y0 y1 y2 y3
            go_wp2_with fail
            go_region_held3 (fun w' => w'.cell? ⟨bo, q * 4, none⟩ = some (.int .i64 sx.frm) ∧ w'.cell? ⟨bo, q * 4 + 1, none⟩ = some (.int .i64 sx.to) ∧ w'.cell? ⟨bo, q * 4 + 2, none⟩ = some (.string sx.kind) ∧ w'.cell? ⟨bo, q * 4 + 3, none⟩ = some (.int .i64 sx.many) ∧ w'.cell? ⟨ba, oa + k * 4, none⟩ = some (.int .i64 cx.frm) ∧ w'.cell? ⟨ba, oa + k * 4 + 1, none⟩ = some (.int .i64 cx.to) ∧ w'.cell? ⟨ba, oa + k * 4 + 2, none⟩ = some (.string cx.kind) ∧ w'.cell? ⟨ba, oa + k * 4 + 3, none⟩ = some (.int .i64 cx.many) ∧ Below wr.heap.size wr w')
              (first | assumption | exact HTW.out _ (Below.refl _ _) | exact HTW.out _ (Below.refl _ _).drew | exact HTW.out _ (held8 (by assumption)).drew | exact hS)
              (first | (go_at_call 23; refine (KL _).out.mono ?_; rintro e5 w5 ⟨rfl, hb5⟩; have hS := HTW.out _ ((held8 (by assumption)).trans (hb5.mono (held8 (by assumption)).size))))
            rename_i hS2
            have hbr := held8 hS2
            have hn7 : ¬ keyLt sx cx := fun h => by rw [(lessB_iff sx cx).2 h] at hb; cases hb
            have HN7 := Lib.hid hn7
            have KL2 := fun u => Lib.hid (less_at cx sx u)
            clear hn7 hb
            cases hb2 : lessB cx sx
            · rw [hb2] at KL2
              have hn8 : ¬ keyLt cx sx := fun h => by rw [(lessB_iff cx sx).2 h] at hb2; cases hb2
              have HN8 := Lib.hid hn8
              clear hn8 hb2
              go_wp2_with fail
              go_region_held3 (fun w' => w'.cell? ⟨bo, q * 4, none⟩ = some (.int .i64 sx.frm) ∧ w'.cell? ⟨bo, q * 4 + 1, none⟩ = some (.int .i64 sx.to) ∧ w'.cell? ⟨bo, q * 4 + 2, none⟩ = some (.string sx.kind) ∧ w'.cell? ⟨bo, q * 4 + 3, none⟩ = some (.int .i64 sx.many) ∧ w'.cell? ⟨ba, oa + k * 4, none⟩ = some (.int .i64 cx.frm) ∧ w'.cell? ⟨ba, oa + k * 4 + 1, none⟩ = some (.int .i64 cx.to) ∧ w'.cell? ⟨ba, oa + k * 4 + 2, none⟩ = some (.string cx.kind) ∧ w'.cell? ⟨ba, oa + k * 4 + 3, none⟩ = some (.int .i64 cx.many) ∧ Below wr.heap.size wr w')
                (first | assumption | exact HTW.out _ hbr.drew | exact HTW.out _ (held8 (by assumption)).drew | exact hS)
                (first | (go_at_call 23; refine (KL2 _).out.mono ?_; rintro e6 w6 ⟨rfl, hb6⟩; have hS := HTW.out _ ((held8 (by assumption)).trans (hb6.mono (held8 (by assumption)).size))))
              rename_i hS3
              have hbr6 := held8 hS3
              have z3 := hS3.2.2.2.1
              have t3 := hS3.2.2.2.2.2.2.2.1
              have zf := (hbr6.frozen (p := ⟨bo, q * 4 + 3, none⟩) hbo).trans HXF.out
              have hab := HR.out.su.abs (fun c hc => HN.out c (List.mem_of_mem_take hc)) (List.getElem_mem hsq)
              rw [HSX.out, List.length_take] at hab
              have hcn := HN.out cx (HCX.out ▸ List.getElem_mem hka)
              unfold near at hcn
              have hzw : wrap64 (sx.many + cx.many) = s[q].many + all[k].many := by
                have hmin : min k all.length ≤ 800 := by have := HNA.out; omega
                have e1 : ((min k all.length : Nat) : Int) * 1099511627776 ≤ 800 * 1099511627776 := by omega
                rw [HSX.out, HCX.out]
                unfold wrap64; omega
              have HNX : Hid (RS w2 (w6.setCell ⟨bo, q * 4 + 3, none⟩ (.int .i64 (wrap64 (sx.many + cx.many)))).drew (.slice (some ⟨bo, 0, none⟩) ns co) (s.set q { s[q] with many := s[q].many + all[k].many }) all (k + 1)) := by
                have hR6 := HRB.out.below hbr6
                have hst := hR6.own.store hsq (s[q].many + all[k].many)
                have hp := RS.add hka hsq HR.out.so HR.out.su (by rw [HSX.out, HCX.out]; exact HN7.out) (by rw [HSX.out, HCX.out]; exact HN8.out)
                rw [hzw]
                exact Lib.hid ⟨hst, (hR6.be.setCell (p := ⟨bo, q * 4 + 3, none⟩) hbB _).trans (Below.refl _ _).drew, hp.1, hp.2, by rw [List.length_set]; have := HR.out.le; omega⟩
              clear hzw
              clear hS3 hbr6 hS2 hbr HTW KL KL2 hab hcn HRB hQ HXF HN7 HN8 HSX HCX
              go_wp2_with fail
              go_region
              go_wp2_with fail
              exact ⟨⟨k + 1, _, by omega, by go_num, HNX.out⟩, by simp [intOf]; omega⟩
            · rw [hb2] at KL2
              have HL8 := Lib.hid ((lessB_iff cx sx).1 hb2)
              clear hb2
              go_wp2_with fail
              go_region_held3 (fun w' => w'.cell? ⟨bo, q * 4, none⟩ = some (.int .i64 sx.frm) ∧ w'.cell? ⟨bo, q * 4 + 1, none⟩ = some (.int .i64 sx.to) ∧ w'.cell? ⟨bo, q * 4 + 2, none⟩ = some (.string sx.kind) ∧ w'.cell? ⟨bo, q * 4 + 3, none⟩ = some (.int .i64 sx.many) ∧ w'.cell? ⟨ba, oa + k * 4, none⟩ = some (.int .i64 cx.frm) ∧ w'.cell? ⟨ba, oa + k * 4 + 1, none⟩ = some (.int .i64 cx.to) ∧ w'.cell? ⟨ba, oa + k * 4 + 2, none⟩ = some (.string cx.kind) ∧ w'.cell? ⟨ba, oa + k * 4 + 3, none⟩ = some (.int .i64 cx.many) ∧ Below wr.heap.size wr w')
                (first | assumption | exact HTW.out _ hbr.drew | exact HTW.out _ (held8 (by assumption)).drew | exact hS)
                (first | (go_at_call 23; refine (KL2 _).out.mono ?_; rintro e6 w6 ⟨rfl, hb6⟩; have hS := HTW.out _ ((held8 (by assumption)).trans (hb6.mono (held8 (by assumption)).size))))
              rename_i hS3
              have hbr6 := held8 hS3
              have hco : q < co := by omega
              have hco1 : (q : Int) < (co : Int) := by omega
              have hco2 : q ≤ co := by omega
              have hco3 : ¬ (co = q) := by omega
              have hco9 : (co : Int) ≤ 9223372036854775807 := by unfold maxLen at f2; omega
              have hz2 : w2.heap.size ≤ w6.heap.size := (HRB.out.below hbr6).be.size
              have hbx : Below wr.heap.size wr (w6.alloc (.cells #[.int .i64 cx.frm, .int .i64 cx.to, .string cx.kind, .int .i64 cx.many] 32)).drew := (hbr6.alloc hbr6.size _).drew
              have hone := Lib.hid ((Own.one hbr6.size cx rfl).below (Below.refl (w6.alloc (.cells #[.int .i64 cx.frm, .int .i64 cx.to, .string cx.kind, .int .i64 cx.many] 32)).heap.size _).drew)
              have HDR := Lib.hid ((HRB.out.own.below hbx).cs.dropAt hsq)
              have HBX := Lib.hid hbx
              have HTK := Lib.hid (fun u (hu : Below wr.heap.size wr u) => (HRB.out.own.below hu).cs.take (Nat.le_of_lt hsq))
              have hsl2 : s.length ≤ 800 := by rw [HNS.out]; omega
              have HLA := Lib.hid (show [cx].length + (s.drop q).length ≤ 100000 by simp; omega)
              have HLB := Lib.hid (show (s.take q).length + ([cx] ++ s.drop q).length ≤ 100000 by simp; omega)
              have HPUT := Lib.hid (fun v' w' ho hb => RS.put (w' := w') (v' := v') HR.out hka (Nat.le_of_lt hsq) (fun p hp hpq => hQ.out.2 p hp hka hpq) (fun _ => by rw [HSX.out, HCX.out]; exact HL8.out) ho hb)
              rw [HCX.out] at HPUT
              have hz3 : w2.heap.size ≤ wr.heap.size := HRB.out.be.size
              have HBE := Lib.hid HRB.out.be
              have t0 := (HTW.out _ hbr6).2.2.2.2.1
              have t1 := (HTW.out _ hbr6).2.2.2.2.2.1
              have t2 := (HTW.out _ hbr6).2.2.2.2.2.2.1
              have t3 := (HTW.out _ hbr6).2.2.2.2.2.2.2.1
              clear hS3 hbx hbr6 hb6 hb5 hbr hS2 HTW KL KL2 hS
              go_wp2_with fail
              go_region_law (first
                | (refine step_append_cs rfl (.tmp 76) (.tmp 79) (by rfl) wr.heap.size HBX.out.size _ _ [cx] (s.drop q) (by rfl) (by rfl) hone.out HDR.out HLA.out ?_; intro v1 w7 h7 hg7; have hb7 := HBX.out.grown hg7 HBX.out.size (fun k hk => (World.ownsRow.lt hone.out k hk).1))
                | (refine step_append_full rfl (.tmp 71) (.tmp 80) (by rfl) w2.heap.size (Nat.le_trans hz3 hb7.size) (some ⟨bo, 0, none⟩) q v1 (s.take q) ([cx] ++ s.drop q) (by rfl) (by rfl) (HTK.out _ hb7) h7.cs (by simp) HLB.out ?_; intro v8 w8 h8 hg8; have hb8 := hb7.grown hg8 hb7.size (fun k hk => by cases hk)))
              all_goals
                go_wp2_with fail
                exact ⟨⟨k + 1, _, by omega, by go_num, by first | exact HPUT.out _ _ h8 (HBE.out.trans (hb8.mono hz3)) | exact (HPUT.out _ _ h8 (HBE.out.trans (hb8.mono hz3))).below (Below.refl _ _).drew⟩, by simp [intOf]; omega⟩
          · rw [hb] at KL
            have HLT := Lib.hid ((lessB_iff sx cx).1 hb)
            clear x0 x1 x2 x3 y0 y1 y2 y3
            go_wp2_with fail
            go_region_held3 (fun w' => w'.cell? ⟨bo, q * 4, none⟩ = some (.int .i64 sx.frm) ∧ w'.cell? ⟨bo, q * 4 + 1, none⟩ = some (.int .i64 sx.to) ∧ w'.cell? ⟨bo, q * 4 + 2, none⟩ = some (.string sx.kind) ∧ w'.cell? ⟨bo, q * 4 + 3, none⟩ = some (.int .i64 sx.many) ∧ w'.cell? ⟨ba, oa + k * 4, none⟩ = some (.int .i64 cx.frm) ∧ w'.cell? ⟨ba, oa + k * 4 + 1, none⟩ = some (.int .i64 cx.to) ∧ w'.cell? ⟨ba, oa + k * 4 + 2, none⟩ = some (.string cx.kind) ∧ w'.cell? ⟨ba, oa + k * 4 + 3, none⟩ = some (.int .i64 cx.many) ∧ Below wr.heap.size wr w')
              (first | assumption | exact HTW.out _ (Below.refl _ _) | exact HTW.out _ (Below.refl _ _).drew | exact HTW.out _ (held8 (by assumption)).drew | exact hS)
              (first | (go_at_call 23; refine (KL _).out.mono ?_; rintro e5 w5 ⟨rfl, hb5⟩; have hS := HTW.out _ ((held8 (by assumption)).trans (hb5.mono (held8 (by assumption)).size))))
            rename_i hS2
            have hbr := held8 hS2
            have HQ2 : Hid (Below W1.heap.size W1 w5 ∧ ∀ (p : Nat) (hp : p < s.length) (hk : k < all.length), p < q + 1 → keyLt s[p] all[k]) := Lib.hid ⟨hQ.out.1.trans (hbr.mono hQ.out.1.size), fun p hp hk hpq => by
              by_cases e : p = q
              · subst e; rw [HSX.out, HCX.out]; exact HLT.out
              · exact hQ.out.2 p hp hk (by omega)⟩
            clear hS2 hbr hQ KL HRB HTW
            go_wp2_with fail
            exact ⟨⟨q + 1, by omega, by go_num, HQ2⟩, by simp [intOf]; omega⟩
        · obtain rfl : q = ns := by omega
          have hq1 : ¬ ((q : Int) < (q : Int)) := by omega
          have hq2 : decide ((q : Int) < (q : Int)) = false := by simp
          have hsq : q = s.length := HNS.out.symm
          obtain ⟨ba, oa, rfl, hba, y0, y1, y2, y3⟩ := cnt_cell hAw hka
          obtain ⟨cx, hcx⟩ : ∃ x, all[k] = x := ⟨_, rfl⟩
          rw [hcx] at y0 y1 y2 y3
          have HCX := Lib.hid hcx
          have HPUT := Lib.hid (fun v' w' ho hb => RS.put (q := q) (w' := w') (v' := v') HR.out hka (Nat.le_of_eq hsq) (fun p hp hpq => hQ.out.2 p hp hka hpq) (fun h => absurd h (by omega)) ho hb)
          rw [hcx] at HPUT
          have hd0 : s.drop q = [] := by rw [hsq]; exact List.drop_length
          have ht0 : s.take q = s := by rw [hsq]; exact List.take_length
          rw [hd0, ht0] at HPUT
          have hz3 : w2.heap.size ≤ wr.heap.size := HRB.out.be.size
          have HBE := Lib.hid HRB.out.be
          have hbx : Below wr.heap.size wr (wr.drew.drew.alloc (.cells #[.int .i64 cx.frm, .int .i64 cx.to, .string cx.kind, .int .i64 cx.many] 32)).drew := ((Below.refl _ _).drew.drew.alloc (Nat.le_refl _) _).drew
          have hone := Lib.hid ((Own.one (w := wr.drew.drew) (Nat.le_refl wr.heap.size) cx rfl).below (Below.refl (wr.drew.drew.alloc (.cells #[.int .i64 cx.frm, .int .i64 cx.to, .string cx.kind, .int .i64 cx.many] 32)).heap.size _).drew)
          have HBX := Lib.hid hbx
          have HLA := Lib.hid (show [cx].length + ([] : List Cnt).length ≤ 100000 by simp)
          have HLB := Lib.hid (show s.length + ([cx] ++ ([] : List Cnt)).length ≤ 100000 by simp; omega)
          clear hbx hcx hd0 ht0
          rcases HRB.out.own.2 with ⟨hv0, hl0⟩ | ⟨g, cg, cur, hv0, hg, hb, h1, h2, h3, h4⟩
          · rw [← hsq] at hl0
            obtain rfl : q = 0 := hl0
            cases hv0
            have hs0 : s = [] := List.eq_nil_of_length_eq_zero hsq.symm
            · have HDR : Hid (Cs (wr.drew.drew.alloc (.cells #[.int .i64 cx.frm, .int .i64 cx.to, .string cx.kind, .int .i64 cx.many] 32)).drew (.slice none 0 0) []) := Lib.hid (Cs.none _ _ _ (by omega))
              have HTK : Hid (∀ u (hu : Below wr.heap.size wr u), Cs u (.slice none 0 0) s) := Lib.hid (fun u hu => by rw [hs0]; exact Cs.none _ _ _ (by omega))
              clear hQ HRB hAw hsq hs0 hq0 hq9 hk0 hsl hs9 hq
              go_wp2_with fail
              go_region
              go_wp2_with fail
              go_region
              go_wp2_with fail
              go_region_law (first
                | (refine step_append_cs rfl (.tmp 76) (.tmp 79) (by rfl) wr.heap.size HBX.out.size _ _ [cx] [] (by rfl) (by rfl) hone.out HDR.out HLA.out ?_; intro v1 w7 h7 hg7; have hb7 := HBX.out.grown hg7 HBX.out.size (fun k hk => (World.ownsRow.lt hone.out k hk).1))
                | (refine step_append_full rfl (.tmp 71) (.tmp 80) (by rfl) w2.heap.size (Nat.le_trans hz3 hb7.size) none 0 v1 s ([cx] ++ []) (by rfl) (by rfl) (HTK.out _ hb7) h7.cs (by simp) HLB.out ?_; intro v8 w8 h8 hg8; have hb8 := hb7.grown hg8 hb7.size (fun k hk => by cases hk)))
              all_goals
                go_wp2_with fail
                exact ⟨⟨k + 1, _, by omega, by go_num, by first | exact HPUT.out _ _ h8 (HBE.out.trans (hb8.mono hz3)) | exact (HPUT.out _ _ h8 (HBE.out.trans (hb8.mono hz3))).below (Below.refl _ _).drew⟩, by simp [intOf]; omega⟩
          · rw [← hsq] at hv0 h1
            cases hv0
            have hco2 : q ≤ co := h1
            have hco9 : (co : Int) ≤ 9223372036854775807 := by unfold maxLen at f2; omega
            by_cases hcc : q < co
            · have hco1 : (q : Int) < (co : Int) := by omega
              have hco3 : ¬ (co = q) := by omega
              have HDR : Hid (Cs (wr.drew.drew.alloc (.cells #[.int .i64 cx.frm, .int .i64 cx.to, .string cx.kind, .int .i64 cx.many] 32)).drew (.slice (some ⟨g, q * 4, none⟩) 0 (co - q)) []) := Lib.hid (Cs.none _ _ _ (by omega))
              have HTK : Hid (∀ u (hu : Below wr.heap.size wr u), Cs u (.slice (some ⟨g, 0, none⟩) q q) s) := Lib.hid (fun u hu => by have := (HRB.out.own.below hu).cs.take (Nat.le_of_eq hsq); rwa [show s.take q = s by rw [hsq]; exact List.take_length] at this)
              clear hQ HRB hAw hsq
              go_wp2_with fail
              go_region
              go_wp2_with fail
              go_region
              go_wp2_with fail
              go_region_law (first
                | (refine step_append_cs rfl (.tmp 76) (.tmp 79) (by rfl) wr.heap.size HBX.out.size _ _ [cx] [] (by rfl) (by rfl) hone.out HDR.out HLA.out ?_; intro v1 w7 h7 hg7; have hb7 := HBX.out.grown hg7 HBX.out.size (fun k hk => (World.ownsRow.lt hone.out k hk).1))
                | (refine step_append_full rfl (.tmp 71) (.tmp 80) (by rfl) w2.heap.size (Nat.le_trans hz3 hb7.size) (some ⟨g, 0, none⟩) q v1 s ([cx] ++ []) (by rfl) (by rfl) (HTK.out _ hb7) h7.cs (by simp) HLB.out ?_; intro v8 w8 h8 hg8; have hb8 := hb7.grown hg8 hb7.size (fun k hk => by cases hk)))
              all_goals
                go_wp2_with fail
                exact ⟨⟨k + 1, _, by omega, by go_num, by first | exact HPUT.out _ _ h8 (HBE.out.trans (hb8.mono hz3)) | exact (HPUT.out _ _ h8 (HBE.out.trans (hb8.mono hz3))).below (Below.refl _ _).drew⟩, by simp [intOf]; omega⟩
            · obtain rfl : co = q := by omega
              have HDR : Hid (Cs (wr.drew.drew.alloc (.cells #[.int .i64 cx.frm, .int .i64 cx.to, .string cx.kind, .int .i64 cx.many] 32)).drew (.slice (some ⟨g, 0, none⟩) 0 0) []) := Lib.hid (Cs.none _ _ _ (by omega))
              have HTK : Hid (∀ u (hu : Below wr.heap.size wr u), Cs u (.slice (some ⟨g, 0, none⟩) co co) s) := Lib.hid (fun u hu => by have := (HRB.out.own.below hu).cs.take (Nat.le_of_eq hsq); rwa [show s.take co = s by rw [hsq]; exact List.take_length] at this)
              clear hQ HRB hAw hsq
              go_wp2_with fail
              go_region
              go_wp2_with fail
              go_region
              go_wp2_with fail
              go_region_law (first
                | (refine step_append_cs rfl (.tmp 76) (.tmp 79) (by rfl) wr.heap.size HBX.out.size _ _ [cx] [] (by rfl) (by rfl) hone.out HDR.out HLA.out ?_; intro v1 w7 h7 hg7; have hb7 := HBX.out.grown hg7 HBX.out.size (fun k hk => (World.ownsRow.lt hone.out k hk).1))
                | (refine step_append_full rfl (.tmp 71) (.tmp 80) (by rfl) w2.heap.size (Nat.le_trans hz3 hb7.size) (some ⟨g, 0, none⟩) co v1 s ([cx] ++ []) (by rfl) (by rfl) (HTK.out _ hb7) h7.cs (by simp) HLB.out ?_; intro v8 w8 h8 hg8; have hb8 := hb7.grown hg8 hb7.size (fun k hk => by cases hk)))
              all_goals
                go_wp2_with fail
                exact ⟨⟨k + 1, _, by omega, by go_num, by first | exact HPUT.out _ _ h8 (HBE.out.trans (hb8.mono hz3)) | exact (HPUT.out _ _ h8 (HBE.out.trans (hb8.mono hz3))).below (Below.refl _ _).drew⟩, by simp [intOf]; omega⟩
    · obtain rfl : k = n := by omega
      have hk1 : ¬ ((k : Int) < (k : Int)) := by omega
      obtain ⟨Ao, co, rfl, f1, f2, -⟩ := hR.own.form
      have hsl := hR.le
      have htk : all.take k = all := by rw [← HNA.out]; exact List.take_length
      have HSU := Lib.hid (And.intro hR.so (htk ▸ hR.su))
      have HOW := Lib.hid hR.own
      have HBZ := Lib.hid (HA.out.2.trans (hR.be.mono HA.out.2.size))
      obtain ⟨ns, hns⟩ : ∃ x, s.length = x := ⟨_, rfl⟩
      have HNS := Lib.hid hns
      rw [hns] at HOW f1 hsl ⊢
      have hs0 : (0 : Int) ≤ (ns : Int) := by omega
      have hs9 : (ns : Int) ≤ 800 := by omega
      clear hR hns htk
      obtain ⟨W3, hW3⟩ : ∃ x, x = wr := ⟨_, rfl⟩
      subst hW3
      go_wp2_with fail
      go_loopw [9, 10] (fun vs j wy => ∃ q : Nat, q ≤ ns ∧ j = .int .i64 q ∧ Own W3.heap.size wy vs (some0 (s.take q)) ∧ Below W3.heap.size W3 wy) (fun _ j _ => ns - (intOf j).toNat)
      case atStart => exact ⟨0, Nat.zero_le _, rfl, Own.nil _ _, Below.refl _ _⟩
      case round =>
        obtain ⟨q, hq, rfl, hO, hbe⟩ := hrel
        have hq0 : (0 : Int) ≤ (q : Int) := by omega
        have hq9 : (q : Int) ≤ 800 := by omega
        have HB := Lib.hid (And.intro hO hbe)
        by_cases hql : q < ns
        · have hq1 : (q : Int) < (ns : Int) := by omega
          have hsq : q < s.length := by rw [HNS.out]; exact hql
          obtain ⟨bo, rfl, hbB, hbo, x0, x1, x2, x3, xf⟩ := (HOW.out.below hbe).at hsq
          have hl2 : (some0 (s.take q)).length ≤ 800 := Nat.le_trans (List.length_filter_le _ _) (by rw [List.length_take]; omega)
          obtain ⟨sx, hsx⟩ : ∃ x, s[q] = x := ⟨_, rfl⟩
          rw [hsx] at x0 x1 x2 x3
          have HSX := Lib.hid hsx
          clear hO hbe hsx xf hsl
          by_cases hz : sx.many = 0
          · have hs1 : some0 (s.take (q + 1)) = some0 (s.take q) := by
              rw [List.take_succ_eq_append_getElem hsq]
              unfold some0
              rw [List.filter_append, HSX.out]
              simp [hz]
            have HS1 := Lib.hid hs1
            have hz2 : (sx.many == 0) = true := by simp [hz]
            clear hs1
            go_wp2_with fail
            exact ⟨⟨q + 1, by omega, by go_num, by rw [HS1.out]; exact HB.out.1, HB.out.2⟩, by simp [intOf]; omega⟩
          · have hs1 : some0 (s.take (q + 1)) = some0 (s.take q) ++ [sx] := by
              rw [List.take_succ_eq_append_getElem hsq]
              unfold some0
              rw [List.filter_append, HSX.out]
              simp [hz]
            have HS1 := Lib.hid hs1
            have hz2 : (sx.many == 0) = false := by simp [hz]
            clear hs1
            have hone := Lib.hid (Own.one (Nat.le_refl wr.heap.size) sx rfl)
            have hbx : Below wr.heap.size wr (wr.alloc (.cells #[.int .i64 sx.frm, .int .i64 sx.to, .string sx.kind, .int .i64 sx.many] 32)) := (Below.refl _ _).alloc (Nat.le_refl _) _
            have HOX := Lib.hid (And.intro (HB.out.1.below hbx) (HB.out.2.trans (hbx.mono HB.out.2.size)))
            have hsz := HOX.out.2.size
            clear hbx
            go_wp2_with (at_builtin; refine wpList_append_cs rfl (.tmp 94) (.tmp 99) rfl W3.heap.size hsz _ _ (some0 (s.take q)) [sx] rfl rfl HOX.out.1 hone.out.cs (by simp; omega) ?_)
            intro v7 w7 h7 hg7
            have hb7 := HOX.out.2.grown hg7 hsz (fun k hk => (World.ownsRow.lt HOX.out.1 k hk).1)
            go_wp2_with fail
            exact ⟨⟨q + 1, by omega, by go_num, by rw [HS1.out]; exact h7, hb7⟩, by simp [intOf]; omega⟩
        · obtain rfl : q = ns := by omega
          have hq1 : ¬ ((q : Int) < (q : Int)) := by omega
          have htk : s.take q = s := by rw [← HNS.out]; exact List.take_length
          rw [htk] at HB
          clear hO hbe htk
          go_wp2_with fail
          go_ret
          exact ⟨_, s, rfl, HB.out.1.cs, HSU.out.1, HSU.out.2, HBZ.out.trans (HB.out.2.mono HBZ.out.size)⟩
end Go.Proofs.YtacjgphfcailmaaGreatDoor
