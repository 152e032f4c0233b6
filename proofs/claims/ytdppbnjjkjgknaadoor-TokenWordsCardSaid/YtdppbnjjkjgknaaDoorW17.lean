/-
  The walks of Valid of package token, and of the statement on where tokens stand.
-/
import Derived.Test.YtdppbnjjkjgknaaDoorW15
import Derived.IntWalk
import Derived.Test.YtdppbnjjkjgknaaDoorPlain2
namespace Go.Proofs.YtdppbnjjkjgknaaDoor
open Go.RowKit
open Tok
set_option linter.unusedVariables false

/-- is a token valid: its text is read as itself -/
def valid (k t : ByteArray) : Bool := decide (first t.data.toList = some (k.data.toList, t.data.toList))
theorem mk_inj (l : List UInt8) (b : ByteArray) : ((⟨l.toArray⟩ : ByteArray).toList == b.toList) = decide (l = b.data.toList) := by
  rw [Lib.toList_data, Lib.toList_data, Bool.eq_iff_iff]
  simp

set_option maxHeartbeats 1000000 in
theorem valid_any (k t : ByteArray) (n : Int) (w : World) (hT : Tab w) (ht : t.size ≤ 4611686018427387904) :
    Calls Tryd.prog 15 #[.agg #[.string k, .string t, .int .i64 n]] w fun e w' => e = .returned (.bool (valid k t)) ∧ Below w.heap.size w w' := by
  have HT := fun o => hide' (hT.alloc o)
  clear hT
  go_enter Tryd.func15, Tryd.ntmps15
  go_wp2_with fail
  refine (first_any t _ (HT _).out ht).mono ?_
  rintro e w1 ⟨hf, hb1⟩
  have hz := hb1.size
  simp only [World.size_alloc] at hz
  have c0 : ∀ o, (w1.alloc o).cell? ⟨w.heap.size, 0, none⟩ = some (.string k) := fun o => (World.cell?_alloc_lt _ _ _ (show w.heap.size < w1.heap.size by omega)).trans ((hb1.cell (by simp)).trans (cells_new' w #[.string k, .string t, .int .i64 n] 30 0 _ rfl rfl))
  have c1 : ∀ o, (w1.alloc o).cell? ⟨w.heap.size, 1, none⟩ = some (.string t) := fun o => (World.cell?_alloc_lt _ _ _ (show w.heap.size < w1.heap.size by omega)).trans ((hb1.cell (by simp)).trans (cells_new' w #[.string k, .string t, .int .i64 n] 30 1 _ rfl rfl))
  have hbw : Below w.heap.size w w1 := Below.trans ((Below.refl _ _).alloc (Nat.le_refl _) _) (hb1.mono (by simp))
  rcases hf with ⟨k1, t1, hf, rfl⟩ | ⟨hf, k1, t1, rfl⟩
  · have hv : Hid (valid k t = (decide (k1 = k.data.toList) && decide (t1 = t.data.toList))) := by
      show _ = _
      unfold valid
      rw [hf]
      simp
    obtain ⟨kb, hkb⟩ : ∃ kb : ByteArray, kb = ⟨k1.toArray⟩ := ⟨_, rfl⟩
    obtain ⟨tb, htb⟩ : ∃ tb : ByteArray, tb = ⟨t1.toArray⟩ := ⟨_, rfl⟩
    have ek := mk_inj k1 k
    have et := mk_inj t1 t
    rw [← hkb] at ek ⊢
    rw [← htb] at et ⊢
    rw [← ek, ← et] at hv
    clear hkb htb ek et hf hb1
    go_wp2_with fail
    all_goals (go_ret; refine ⟨?_, hbw.alloc hbw.size _⟩; rw [hv.out]; simp_all)
  · have hv : Hid (valid k t = false) := by
      show _ = _
      unfold valid
      rw [hf]; simp
    clear hf hb1
    go_wp2_with fail
    go_ret
    exact ⟨by rw [hv.out]; rfl, hbw.alloc hbw.size _⟩

/-- the tokens from the i-th on follow an offset -/
def FollowAt (l : List UInt8) (ts : List T) (i e : Nat) : Prop := Follow l e (ts.drop i)
theorem FollowAt.step {l : List UInt8} {ts : List T} {i e : Nat} (h : FollowAt l ts i e) (hi : i < ts.length) :
    ∃ a : Nat, ts[i].at_ = a ∧ e ≤ a ∧ a + ts[i].text.length ≤ l.length ∧ (l.drop a).take ts[i].text.length = ts[i].text ∧ first ts[i].text = some (ts[i].kind, ts[i].text) ∧ FollowAt l ts (i + 1) (a + ts[i].text.length) := by
  unfold FollowAt at h ⊢
  rw [List.drop_eq_getElem_cons hi] at h
  exact h
theorem valid_of {k t : List UInt8} (h : first t = some (k, t)) : valid ⟨k.toArray⟩ ⟨t.toArray⟩ = true := by
  unfold valid
  simpa using h

set_option maxHeartbeats 4000000 in
set_option maxRecDepth 100000 in
theorem places_walk (s : ByteArray) (w : World) (hT : Tab w) :
    Calls Tryd.prog 5 #[.string s] w fun e w' => e = .returned (.bool true) ∧ Below w.heap.size w w' := by
  have HC := hide' (tokens_any s w hT)
  have HT := hide' hT
  clear hT
  go_enter Tryd.func5, Tryd.ntmps5
  go_wp2_with fail
  refine HC.out.mono ?_
  rintro e w1 ⟨hend, hb⟩
  have hT1 := hide' (HT.out.on hb)
  have hts : ∃ v c ts, e = .returned (.tuple #[v, .int .i64 c]) ∧ TokSl w1 v ts ∧ FollowAt s.data.toList ts 0 0 ∧ (0 < ts.length → s.size ≤ 10000) := by
    rcases hend with ⟨_, rfl⟩ | ⟨_, _, rfl⟩ | ⟨hs, ts, v, h2, rfl, hown⟩
    · exact ⟨_, _, [], rfl, TokSl.nil _, trivial, fun h => absurd h (by simp)⟩
    · exact ⟨_, _, [], rfl, TokSl.nil _, trivial, fun h => absurd h (by simp)⟩
    · exact ⟨_, _, ts, rfl, TokSl.own hown, tokens_follow _ _ h2, fun _ => hs⟩
  obtain ⟨v, c, ts, rfl, ⟨A, cap, rfl, hca, hma, hA⟩, hfol, hsz⟩ := hts
  have hmax : maxLen = 9223372036854775807 := rfl
  rw [hmax] at hma
  have HF := hide' hfol
  clear hend HC HT hmax hfol
  rcases Nat.eq_zero_or_pos ts.length with h0 | h0
  · rw [h0]
    clear hA hca HF h0 hsz
    go_wp2_with fail
    refine wp_loop_rounds 1 ?_
    rw [rounds_succ]
    go_wp2_with fail
    refine (First_any _ hT1.out).mono ?_
    rintro e w2 ⟨rfl, hb2⟩
    go_wp2_with fail
    go_ret
    exact ⟨rfl, hb.trans (hb2.mono hb.size)⟩
  · obtain ⟨b, off, rfl, hCA⟩ := hA h0
    have hss := hsz h0
    have HA := hide' hCA
    clear hA hCA hsz
    go_wp2_with fail
    go_loopw [5, 6] (fun a i wr => ∃ (k e : Nat), k ≤ ts.length ∧ i = .int .i64 k ∧ a = .int .i64 e ∧ e ≤ s.size ∧ Hid (FollowAt s.data.toList ts k e) ∧ Hid (TokCells wr b off ts) ∧ Hid (Tab wr) ∧ Below w.heap.size w wr) (fun _ i _ => ts.length - (intOf i).toNat)
    case atStart => exact ⟨0, 0, Nat.zero_le _, rfl, rfl, Nat.zero_le _, HF, HA, hT1, hb⟩
    case round =>
      obtain ⟨k, e, hk, rfl, rfl, he, hf, hc, hTr, hnx⟩ := hrel
      by_cases hlt : k < ts.length
      · obtain ⟨a, ha, hea, hal, htx, hfst, hnext⟩ := hf.out.step hlt
        obtain ⟨x1, x2, x3⟩ := hc.out k hlt
        rw [ha] at x3
        rw [← Lib.size_eq] at hal
        have hvd := valid_of hfst
        obtain ⟨kb, hkb⟩ : ∃ kb : ByteArray, kb = ⟨ts[k].kind.toArray⟩ := ⟨_, rfl⟩
        obtain ⟨tb, htb⟩ : ∃ tb : ByteArray, tb = ⟨ts[k].text.toArray⟩ := ⟨_, rfl⟩
        have htl : ts[k].text.length = tb.size := by rw [htb]; simp [ByteArray.size]
        have hex : s.extract a (a + tb.size) = tb := by
          rw [ext_mid_mk, htb]
          congr 2
          rw [← htb, ← htl, show a + ts[k].text.length - a = ts[k].text.length from by omega]
          exact htx
        have hx2 : ((s.extract a (a + tb.size)).toList == tb.toList) = true := (Lib.bytes_beq_iff _ _).2 hex
        rw [← hkb] at x1 hvd
        rw [← htb] at x2 hvd
        rw [htl] at hal hnext
        have Hn := hide' hnext
        clear hf hnext hkb htb ha htx hfst hex htl HF HA
        have HTA := hide' (hTr.out.alloc (.cells #[.string kb, .string tb, .int .i64 a] 30))
        have hts : tb.size ≤ 4611686018427387904 := by omega
        have k1 : (wr.alloc (.cells #[.string kb, .string tb, .int .i64 a] 30)).cell? ⟨wr.heap.size, 1, none⟩ = some (.string tb) := cells_new' wr #[.string kb, .string tb, .int .i64 a] 30 1 _ rfl rfl
        have k2 : (wr.alloc (.cells #[.string kb, .string tb, .int .i64 a] 30)).cell? ⟨wr.heap.size, 2, none⟩ = some (.int .i64 a) := cells_new' wr #[.string kb, .string tb, .int .i64 a] 30 2 _ rfl rfl
        have K0 : Hid ((wr.alloc (.cells #[.string kb, .string tb, .int .i64 a] 30)).cell? ⟨wr.heap.size, 0, none⟩ = some (.string kb)) := cells_new' wr #[.string kb, .string tb, .int .i64 a] 30 0 _ rfl rfl
        have K1 := hide' k1
        have K2 := hide' k2
        clear k1 k2
        have f1 : decide (a < e) = false := by simp; omega
        have b1 : (a : Int) + tb.size ≤ s.size := by omega
        have b2 : (0 : Int) ≤ (a : Int) + tb.size := by omega
        have b3 : (a : Int) ≤ (a : Int) + tb.size := by omega
        have g1 : IntKind.i64.wrap ((s.size : Int) - tb.size) = (s.size : Int) - tb.size := IntWalk.i64_in _ (by omega)
        have g2 : IntKind.i64.wrap ((a : Int) + tb.size) = (a : Int) + tb.size := IntWalk.i64_in _ (by omega)
        have g3 : ((a : Int) + tb.size).toNat = a + tb.size := by omega
        have f2 : decide ((s.size : Int) - tb.size < a) = false := by simp; omega
        go_wp2_with fail
        go_region_held3 (fun w' => w'.cell? ⟨wr.heap.size, 0, none⟩ = some (.string kb) ∧ w'.cell? ⟨wr.heap.size, 1, none⟩ = some (.string tb) ∧ w'.cell? ⟨wr.heap.size, 2, none⟩ = some (.int .i64 a)) (first | exact ⟨K0.out, K1.out, K2.out⟩ | exact ⟨d0, d1, d2⟩) (first | (go_at_call 15; refine (valid_any _ _ _ _ (by exact HTA.out) hts).mono ?_; rintro e2 w2 ⟨rfl, hb2⟩; have d0 : w2.cell? ⟨wr.heap.size, 0, none⟩ = some (.string kb) := (hb2.cell (by simp)).trans K0.out; have d1 : w2.cell? ⟨wr.heap.size, 1, none⟩ = some (.string tb) := (hb2.cell (by simp)).trans K1.out; have d2 : w2.cell? ⟨wr.heap.size, 2, none⟩ = some (.int .i64 a) := (hb2.cell (by simp)).trans K2.out))
        have hbr : Below wr.heap.size wr w2 := Below.trans (((Below.refl _ _).alloc (Nat.le_refl _) _).drew) (hb2.mono (B' := wr.heap.size) (by simp))
        clear g1 g2 g3 f1 f2 x1 x2 x3 hx2 hvd hb2 b2 b3
        go_wp2_with fail
        go_roundw
        case rel => exact ⟨k + 1, a + tb.size, by omega, by go_num, by first | rfl | (congr 1; omega), by omega, Hn, hc.out.on hbr, hTr.out.on hbr, hnx.trans (hbr.mono hnx.size)⟩
        case measure => simp [intOf]; omega
      · clear HF HA hf
        go_wp2_with fail
        refine (First_any _ hTr.out).mono ?_
        rintro e w2 ⟨rfl, hb2⟩
        go_wp2_with fail
        go_ret
        exact ⟨rfl, hnx.trans (hb2.mono hnx.size)⟩

end Go.Proofs.YtdppbnjjkjgknaaDoor
