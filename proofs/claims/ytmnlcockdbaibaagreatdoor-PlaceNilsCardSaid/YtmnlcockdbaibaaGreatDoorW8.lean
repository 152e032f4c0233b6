/-
  The walks of words, names and spaces of the reference of layer 1.
-/
import Derived.Test.YtmnlcockdbaibaaGreatDoorW5
namespace Go.Proofs.YtmnlcockdbaibaaGreatDoor
open Go.RowKit
open Tok

theorem rDigit_any (c : Int) (w : World) : Calls Tryz.prog 181 #[.int .u8 c] w fun e w' => e = .returned (.bool (digB c)) ∧ w = w' := by
  go_enter Tryz.func181, Tryz.ntmps181
  go_wp2
  all_goals (go_ret; refine ⟨?_, rfl⟩; simp [digB]; try omega)
theorem rSmall_any (c : Int) (w : World) : Calls Tryz.prog 178 #[.int .u8 c] w fun e w' => e = .returned (.bool (letB c)) ∧ w = w' := by
  go_enter Tryz.func178, Tryz.ntmps178
  go_wp2
  all_goals (go_ret; refine ⟨?_, rfl⟩; simp [letB]; try omega)
theorem rInner_any (c : Int) (w : World) : Calls Tryz.prog 179 #[.int .u8 c] w fun e w' => e = .returned (.bool (innB c)) ∧ w = w' := by
  go_enter Tryz.func179, Tryz.ntmps179
  go_wp2_with (first
    | (go_at_call 178; refine (rSmall_any _ _).mono ?_; rintro e w' ⟨rfl, rfl⟩)
    | (go_at_call 181; refine (rDigit_any _ _).mono ?_; rintro e w' ⟨rfl, rfl⟩))
  all_goals (go_ret; refine ⟨?_, rfl⟩; simp_all [innB, beq_eq_dec]; try omega)

theorem inn_of_let (c : Int) (h : letB c = true) : innB c = true := by unfold innB; rw [h]; rfl
theorem isWord_cons (c : UInt8) (r : List UInt8) : isWord (c :: r) = (isLet c && decide (run isInn (c :: r) = r.length + 1)) := by
  unfold isWord wordLen
  cases hc : isLet c
  · simp [hc]
  · have h2 : isInn c = true := inn_of_let _ hc
    simp [run, h2, hc]

set_option maxHeartbeats 400000 in
theorem rWord_any (s : ByteArray) (w : World) (hs : s.size ≤ 4611686018427387904) :
    Calls Tryz.prog 255 #[.string s] w fun e w' => e = .returned (.bool (isWord s.data.toList)) ∧ w = w' := by
  by_cases h0 : s.size = 0
  · have H := Lib.hid (list_empty s h0)
    have he := is_empty s h0
    clear h0
    go_enter Tryz.func255, Tryz.ntmps255
    go_wp2
    go_ret
    exact ⟨by rw [H.out]; rfl, rfl⟩
  · have hp : 0 < s.size := by omega
    clear h0
    have hne := not_empty s hp
    have hd := drop_cons s 0 hp
    rw [List.drop_zero] at hd
    by_cases hl : letB (s[0].toNat : Int) = true
    · have H : Hid (isWord s.data.toList = decide (run isInn s.data.toList = s.size)) := by
        show _ = _
        have e : isWord s.data.toList = (isLet s[0] && decide (run isInn s.data.toList = s.size)) := by
          conv => lhs; rw [hd]
          rw [isWord_cons, ← hd]
          have := congrArg List.length hd
          rw [← Lib.size_eq] at this
          simp only [List.length_cons] at this
          rw [← this]
        rw [e, show isLet s[0] = true from hl]; rfl
      clear hd
      go_enter Tryz.func255, Tryz.ntmps255
      go_wp2_with (go_at_call 178; refine (rSmall_any _ _).mono ?_; rintro e w' ⟨rfl, rfl⟩)
      go_loop [3] (fun n => ∃ k : Nat, k ≤ s.size ∧ n = .int .i64 k ∧ Hid (run isInn s.data.toList = k + run isInn (s.data.toList.drop k))) (fun n => s.size - (intOf n).toNat)
      case atStart => exact ⟨0, Nat.zero_le _, rfl, by show _ = _; simp⟩
      case round =>
        obtain ⟨k, hk, rfl, hr⟩ := hrel
        by_cases hlt : k < s.size
        · by_cases hi : innB (s[k].toNat : Int) = true
          · have hr' : Hid (run isInn s.data.toList = (k + 1) + run isInn (s.data.toList.drop (k + 1))) := by
              have h1 := run_at isInn s k hlt hi
              have h2 := hr.out
              show _ = _; omega
            clear hr
            go_wp2_with (go_at_call 179; refine (rInner_any _ _).mono ?_; rintro e w' ⟨rfl, rfl⟩)
            go_round
            case rel => exact ⟨k + 1, by omega, by go_num, hr'⟩
            case measure => simp [intOf]; omega
          · have hi' : innB (s[k].toNat : Int) = false := by simpa using hi
            clear hi
            have hr' : Hid (isWord s.data.toList = false) := by
              have h1 := run_end isInn s k hlt hi'
              have h2 := hr.out
              show _ = _; rw [H.out]; simp; omega
            clear hr
            go_wp2_with (go_at_call 179; refine (rInner_any _ _).mono ?_; rintro e w' ⟨rfl, rfl⟩)
            go_ret
            exact ⟨by rw [hr'.out]; rfl, rfl⟩
        · have hr' : Hid (isWord s.data.toList = true) := by
            have h1 := drop_end s k (by omega)
            have h2 := hr.out
            rw [h1] at h2
            have h3 : run isInn ([] : List UInt8) = 0 := rfl
            show _ = _; rw [H.out]; simp; omega
          clear hr
          go_wp2
          go_ret
          exact ⟨by rw [hr'.out]; rfl, rfl⟩
    · have hl' : letB (s[0].toNat : Int) = false := by simpa using hl
      clear hl
      have H : Hid (isWord s.data.toList = false) := by
        show _ = _
        rw [hd, isWord_cons, show isLet s[0] = false from hl']; rfl
      clear hd
      go_enter Tryz.func255, Tryz.ntmps255
      go_wp2_with (go_at_call 178; refine (rSmall_any _ _).mono ?_; rintro e w' ⟨rfl, rfl⟩)
      go_ret
      exact ⟨by rw [H.out]; rfl, rfl⟩

/-- strings in memory -/
def strs (l : List (List UInt8)) : List Value := l.map fun x => .string ⟨x.toArray⟩
theorem strs_at (l : List (List UInt8)) (i : Nat) (h : i < l.length) : (strs l)[i]? = some (.string ⟨(l[i]).toArray⟩) := by
  simp [strs, h]
theorem own_cell {w : World} {base : Nat} {e : TypeId} {v : Value} {n : Nat} {xs : List Value} (h : w.ownsRow base e 1 v n xs) (hn : 0 < n) :
    ∃ g cap, v = .slice (some ⟨g, 0, none⟩) n cap ∧ n ≤ cap ∧ cap ≤ maxLen ∧ ∀ j, j < n → w.cell? ⟨g, j, none⟩ = xs[j]? := by
  rcases h.2 with ⟨_, h0⟩ | ⟨g, cap, cur, rfl, _, _, hnc, hm, _, _⟩
  · omega
  · exact ⟨g, cap, rfl, hnc, hm, fun j hj => h.cellAt j (by omega)⟩

def hasW (l : List (List UInt8)) (x : ByteArray) : Bool := l.contains x.data.toList

set_option maxHeartbeats 400000 in
/-- Has, over strings that the caller owns -/
theorem has_any (l : List (List UInt8)) (v : Value) (base : Nat) (x : ByteArray) (w : World) (hn : 0 < l.length) (hown : w.ownsRow base 9 1 v l.length (strs l)) :
    Calls Tryz.prog 256 #[v, .string x] w fun e w' => e = .returned (.bool (hasW l x)) ∧ w = w' := by
  obtain ⟨g, cap, rfl, hnc, hm, hcell⟩ := own_cell hown hn
  have hc : ∀ j (h : j < l.length), w.cell? ⟨g, j, none⟩ = some (.string ⟨(l[j]).toArray⟩) := fun j h => by rw [hcell j h, strs_at l j h]
  unfold maxLen at hm
  clear hown hcell
  go_enter Tryz.func256, Tryz.ntmps256
  go_wp2
  go_loop [5] (fun n => ∃ k : Nat, k ≤ l.length ∧ n = .int .i64 k ∧ Hid (∀ j (h : j < l.length), j < k → l[j] ≠ x.data.toList)) (fun n => l.length - (intOf n).toNat)
  case atStart => exact ⟨0, Nat.zero_le _, rfl, fun j _ h => absurd h (by omega)⟩
  case round =>
    obtain ⟨k, hk, rfl, hr⟩ := hrel
    by_cases hlt : k < l.length
    · obtain ⟨y, hy⟩ : ∃ y : ByteArray, y = ⟨(l[k]).toArray⟩ := ⟨_, rfl⟩
      have hcy : w.cell? ⟨g, k, none⟩ = some (.string y) := by rw [hy]; exact hc k hlt
      have hyl : y.data.toList = l[k] := by rw [hy]
      by_cases he : y = x
      · have hfin : Hid (hasW l x = true) := by
          show _ = _
          unfold hasW
          rw [← he, hyl]; simp
        have ht : (y.toList == x.toList) = true := (Lib.bytes_beq_iff y x).2 he
        clear hr hy hyl he hc
        go_wp2
        go_ret
        exact ⟨by rw [hfin.out]; rfl, rfl⟩
      · have ht : (y.toList == x.toList) = false := (Lib.bytes_beq_false_iff y x).2 he
        have hr' : Hid (∀ j (h : j < l.length), j < k + 1 → l[j] ≠ x.data.toList) := by
          intro j h hj
          rcases Nat.lt_or_ge j k with h1 | h1
          · exact hr.out j h h1
          · have : j = k := by omega
            subst this
            intro e
            rw [← hyl] at e
            exact he (ByteArray.ext (Array.toList_inj.mp e))
        clear hr hy hyl he hc
        go_wp2
        go_round
        case rel => exact ⟨k + 1, by omega, by go_num, hr'⟩
        case measure => simp [intOf]; omega
    · have hfin : Hid (hasW l x = false) := by
        show _ = _
        unfold hasW
        rw [Bool.eq_false_iff]
        intro h
        rw [List.contains_iff_mem] at h
        obtain ⟨j, hj, e⟩ := List.getElem_of_mem h
        exact hr.out j hj (by omega) e
      clear hr hc
      go_wp2
      go_ret
      exact ⟨by rw [hfin.out]; rfl, rfl⟩

end Go.Proofs.YtmnlcockdbaibaaGreatDoor

namespace Go.Proofs.YtmnlcockdbaibaaGreatDoor
open Go.RowKit
open Tok

theorem cells_new' (w : World) (cs : Array Value) (t : TypeId) (j : Nat) (u : Value) (h : cs.toList[j]? = some u) {b : Nat} (hb : w.heap.size = b) : (w.alloc (.cells cs t)).cell? ((⟨b, 0, none⟩ : Addr).add j) = some u := by
  subst hb
  have e : (w.alloc (.cells cs t)).heap[w.heap.size]? = some (.cells cs t) := by
    show (w.heap.push (.cells cs t))[w.heap.size]? = _
    simp
  have hj : cs[j]? = some u := by simpa using h
  have ea : (⟨w.heap.size, 0, none⟩ : Addr).add j = ⟨w.heap.size, j, none⟩ := by
    unfold Addr.add
    by_cases h0 : j = 0
    · rw [if_pos h0, h0]
    · rw [if_neg h0]; simp
  rw [ea]
  unfold World.cell?
  simp only [e]
  simpa using hj

theorem strInfo : (Tryz.prog.info? 9).map (fun i => (i.zero, i.size, i.bytes)) = some (some (.string ⟨#[]⟩), 1, 16) := by kernel_rfl

theorem strs_snoc (l : List (List UInt8)) (b : ByteArray) : strs (l ++ [b.data.toList]) = strs l ++ [.string b] := by
  simp [strs]
theorem words_sp (cur r : List UInt8) (h : cur.isEmpty = true) : wordsGo cur (32 :: r) = wordsGo [] r := by
  simp [wordsGo, h]
theorem words_end (cur r : List UInt8) (h : cur.isEmpty = false) : wordsGo cur (32 :: r) = cur :: wordsGo [] r := by
  simp [wordsGo, h]
theorem words_more (cur r : List UInt8) (c : UInt8) (h : (c == 32) = false) : wordsGo cur (c :: r) = wordsGo (cur ++ [c]) r := by
  simp [wordsGo, h]
theorem u8_of (c : UInt8) (n : Nat) (_hn : n < 256) (h : (c.toNat : Int) = n) : c = UInt8.ofNat n := by
  have h2 : c.toNat = n := by omega
  rw [← h2]; simp
theorem ext_one (s : ByteArray) (k : Nat) (h : k < s.size) : (s.extract k (k + 1)).data.toList = [s[k]] := by
  rw [Lib.extract_data, drop_cons s k h]; simp
theorem app_data (a b : ByteArray) : (a ++ b).data.toList = a.data.toList ++ b.data.toList := by
  simp [ByteArray.data_append]

/-- what is left to be read of the words -/
def Words (s : ByteArray) (done : List (List UInt8)) (cur : ByteArray) (k : Nat) : Prop := wordsGo [] s.data.toList = done ++ wordsGo cur.data.toList (s.data.toList.drop k)

set_option maxHeartbeats 1000000 in
set_option maxRecDepth 100000 in
theorem words_any (s : ByteArray) (w : World) (hs : s.size ≤ 10000) :
    Calls Tryz.prog 182 #[.string s] w fun e w' => (∃ v, e = .returned v ∧ w'.ownsRow w.heap.size 9 1 v (wordsGo [] s.data.toList).length (strs (wordsGo [] s.data.toList))) ∧ Below w.heap.size w w' := by
  obtain ⟨i0, hi, hz0, hz1, hz2⟩ := info_parts strInfo
  go_enter Tryz.func182, Tryz.ntmps182
  go_wp2_with fail
  go_loopw [3, 4, 5] (fun v u i wr => ∃ (k : Nat) (cur : ByteArray) (done : List (List UInt8)), k ≤ s.size ∧ i = .int .i64 k ∧ u = .string cur ∧ cur.size ≤ k ∧ done.length ≤ k ∧ wr.ownsRow w.heap.size 9 1 v done.length (strs done) ∧ Below w.heap.size w wr ∧ Hid (Words s done cur k)) (fun _ _ i _ => s.size - (intOf i).toNat)
  case atStart => exact ⟨0, ⟨#[]⟩, [], Nat.zero_le _, rfl, rfl, Nat.le_refl _, Nat.le_refl _, World.ownsRow_nil _ _ _ _, Below.refl _ _, by show _ = _; simp⟩
  case round =>
    obtain ⟨k, cur, done, hk, rfl, rfl, hcs, hdl, hown, hnx, hr⟩ := hrel
    by_cases hlt : k < s.size
    · by_cases hsp : (s[k].toNat : Int) = 32
      · have h32 := u8_of _ 32 (by omega) hsp
        have hd := drop_cons s k hlt
        by_cases hcur : cur.size = 0
        · have he := is_empty cur hcur
          have hr' : Hid (Words s done ⟨#[]⟩ (k + 1)) := by
            have := hr.out
            unfold Words at this
            rw [hd, h32] at this
            show _ = _
            rw [this, list_empty cur hcur]
            exact congrArg _ (words_sp [] _ rfl)
          have hb32 : (!((s[k].toNat : Int) == 32)) = false := by simpa using hsp
          clear hr hd h32 hcur
          go_wp2_with fail
          go_roundw
          case rel => exact ⟨k + 1, ⟨#[]⟩, done, by omega, by go_num, rfl, Nat.zero_le _, by omega, hown, hnx, hr'⟩
          case measure => simp [intOf]; omega
        · have he := not_empty cur (by omega)
          have hr' : Hid (Words s (done ++ [cur.data.toList]) ⟨#[]⟩ (k + 1)) := by
            have := hr.out
            unfold Words at this
            rw [hd, h32] at this
            show _ = _
            rw [this]
            have hce : cur.data.toList.isEmpty = false := by rw [← Lib.toList_data]; exact he
            rw [show (UInt8.ofNat 32) = (32 : UInt8) from rfl, words_end _ _ hce]
            simp
          have hb32 : (!((s[k].toNat : Int) == 32)) = false := by simpa using hsp
          clear hr hd h32 hcur
          go_wp2_with (at_builtin; go_must (refine wpList_append_own _ rfl _ _ 30 rfl w.heap.size 9 i0 _ 1 16 Tryz.underlying30 hi hz0 hz1 hz2 rfl (by decide) _ _ _ rfl (hown.alloc _) ⟨wr.heap.size, 0, none⟩ 1 1 [.string cur] rfl rfl ?c1 ?c2 ?c3 ?c4 ?c5 ?_))
          case c1 =>
            intro j u hu
            exact cells_new' wr _ _ j u hu rfl
          case c2 => intro u hu; simp at hu; subst hu; rfl
          case c3 => unfold maxLen; omega
          case c4 => omega
          case c5 => have := hnx.size; simp; omega
          intro v' w2 hown2 hg2 _
          have hb2 : Below w.heap.size w w2 := (hnx.alloc hnx.size _).grown hg2 (by have := hnx.size; simp; omega) (fun k hk => (hown.lt k hk).1)
          clear hg2 hown hnx
          go_wp2_with fail
          go_roundw
          case rel => exact ⟨k + 1, ⟨#[]⟩, _, by omega, by go_num, rfl, Nat.zero_le _, by simp; omega, by rw [strs_snoc]; simpa using hown2, hb2, hr'⟩
          case measure => simp [intOf]; omega
      · have hr' : Hid (Words s done (cur ++ s.extract k (k + 1)) (k + 1)) := by
          have hd := drop_cons s k hlt
          have := hr.out
          unfold Words at this
          rw [hd] at this
          show _ = _
          rw [this, words_more, app_data, ext_one s k hlt]
          rw [beq_eq_false_iff_ne]
          intro e
          rw [e] at hsp
          exact hsp rfl
        have hb32 : (!((s[k].toNat : Int) == 32)) = true := by simpa using hsp
        have hsz : (cur ++ s.extract k (k + 1)).size = cur.size + 1 := by
          rw [Lib.size_eq, app_data, ext_one s k hlt, List.length_append, ← Lib.size_eq]; rfl
        have H := hide' hsz
        clear hr hsz
        go_wp2_with fail
        go_roundw
        case rel => exact ⟨k + 1, _, done, by omega, by go_num, rfl, by rw [H.out]; omega, by omega, hown, hnx, hr'⟩
        case measure => simp [intOf]; omega
    · have hfin : Hid (wordsGo [] s.data.toList = done) := by
        have := hr.out
        unfold Words at this
        rw [drop_end s k (by omega)] at this
        show _ = _
        rw [this]; simp [wordsGo]
      clear hr
      go_wp2_with fail
      go_ret
      exact ⟨⟨_, rfl, by rw [hfin.out]; exact hown⟩, hnx⟩

set_option maxRecDepth 100000 in
theorem refKeys_any (s : ByteArray) (w : World) (hs : s.data.toList = refKeyText) :
    Calls Tryz.prog 182 #[.string s] w fun e w' => ∃ v, e = .returned v ∧ w'.ownsRow w.heap.size 9 1 v keys.length (strs keys) ∧ Below w.heap.size w w' := by
  refine (words_any s w (by rw [Lib.size_eq, hs]; decide +kernel)).mono fun e w' ⟨⟨v, h1, h2⟩, h3⟩ => ⟨v, h1, ?_, h3⟩
  rw [hs, refKeys] at h2
  exact h2
theorem refSigns_any (s : ByteArray) (w : World) (hs : s.data.toList = refSignText) :
    Calls Tryz.prog 182 #[.string s] w fun e w' => ∃ v, e = .returned v ∧ w'.ownsRow w.heap.size 9 1 v signs.length (strs signs) ∧ Below w.heap.size w w' := by
  refine (words_any s w (by rw [Lib.size_eq, hs]; decide +kernel)).mono fun e w' ⟨⟨v, h1, h2⟩, h3⟩ => ⟨v, h1, ?_, h3⟩
  rw [hs, refSigns] at h2
  exact h2

theorem isName_first (l : List UInt8) (h : isWord l = true) : kindOf l = if isName l then kName else kKey := by
  unfold kindOf isName
  rw [h]
  cases isKey l <;> rfl

set_option maxRecDepth 100000 in
theorem rIsName_any (s : ByteArray) (w : World) (hs : s.size ≤ 4611686018427387904) :
    Calls Tryz.prog 180 #[.string s] w fun e w' => e = .returned (.bool (isName s.data.toList)) ∧ Below w.heap.size w w' := by
  cases hb : isWord s.data.toList
  · have hfin : Hid (isName s.data.toList = false) := by show _ = _; unfold isName; rw [hb]; rfl
    go_enter Tryz.func180, Tryz.ntmps180
    go_wp2_with fail
    refine (rWord_any _ _ hs).mono ?_
    rintro e w' ⟨rfl, rfl⟩
    go_wp2_with fail
    go_ret
    exact ⟨by rw [hfin.out]; rfl, Below.refl _ _⟩
  · have hfin : Hid (isName s.data.toList = !(hasW keys s)) := by show _ = _; unfold isName; rw [hb]; rfl
    go_enter Tryz.func180, Tryz.ntmps180
    go_wp2_with fail
    refine (rWord_any _ _ hs).mono ?_
    rintro e w' ⟨rfl, rfl⟩
    go_wp2_with fail
    refine (refKeys_any _ _ ?_).mono ?_
    · decide +kernel
    rintro e w1 ⟨v, rfl, hown, hb1⟩
    go_wp2_with fail
    refine (has_any keys v _ s _ (by rw [keys_len]; omega) hown).mono ?_
    rintro e w' ⟨rfl, rfl⟩
    go_wp2_with fail
    go_ret
    exact ⟨by rw [hfin.out]; rfl, hb1⟩

end Go.Proofs.YtmnlcockdbaibaaGreatDoor
