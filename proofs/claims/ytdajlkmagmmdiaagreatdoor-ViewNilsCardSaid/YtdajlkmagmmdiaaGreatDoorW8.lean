/-
  The walks of words, names and spaces of the reference of layer 1.
-/
import Derived.Test.YtdajlkmagmmdiaaGreatDoorW7
namespace Go.Proofs.YtdajlkmagmmdiaaGreatDoor
open Go.RowKit
open Tok

theorem cells_new' (w : World) (cs : Array Value) (t : TypeId) (j : Nat) (u : Value) (h : cs.toList[j]? = some u) {b : Nat} (hb : w.heap.size = b) : (w.alloc (.cells cs t)).cell? ((⟨b, 0, none⟩ : Addr).add j) = some u := by
  subst hb
  have e : (w.alloc (.cells cs t)).heap[w.heap.size]? = some (.cells cs t) := by
    show (w.heap.push (.cells cs t))[w.heap.size]? = _
    simp
  have hj : cs[j]? = some u := by simpa using h
  have ea : (⟨w.heap.size, 0, none⟩ : Addr).add j = ⟨w.heap.size, j, none⟩ := by
    unfold Addr.add
    by_cases h0 : j = 0
    · rw [if_pos h0, h0]
    · rw [if_neg h0]; simp
  rw [ea]
  unfold World.cell?
  simp only [e]
  simpa using hj

theorem strInfo : (Tryz.prog.info? 9).map (fun i => (i.zero, i.size, i.bytes)) = some (some (.string ⟨#[]⟩), 1, 16) := by kernel_rfl

theorem strs_snoc (l : List (List UInt8)) (b : ByteArray) : strs (l ++ [b.data.toList]) = strs l ++ [.string b] := by
  simp [strs]
theorem words_sp (cur r : List UInt8) (h : cur.isEmpty = true) : wordsGo cur (32 :: r) = wordsGo [] r := by
  simp [wordsGo, h]
theorem words_end (cur r : List UInt8) (h : cur.isEmpty = false) : wordsGo cur (32 :: r) = cur :: wordsGo [] r := by
  simp [wordsGo, h]
theorem words_more (cur r : List UInt8) (c : UInt8) (h : (c == 32) = false) : wordsGo cur (c :: r) = wordsGo (cur ++ [c]) r := by
  simp [wordsGo, h]
theorem u8_of (c : UInt8) (n : Nat) (_hn : n < 256) (h : (c.toNat : Int) = n) : c = UInt8.ofNat n := by
  have h2 : c.toNat = n := by omega
  rw [← h2]; simp
theorem ext_one (s : ByteArray) (k : Nat) (h : k < s.size) : (s.extract k (k + 1)).data.toList = [s[k]] := by
  rw [Lib.extract_data, drop_cons s k h]; simp
theorem app_data (a b : ByteArray) : (a ++ b).data.toList = a.data.toList ++ b.data.toList := by
  simp [ByteArray.data_append]

/-- what is left to be read of the words -/
def Words (s : ByteArray) (done : List (List UInt8)) (cur : ByteArray) (k : Nat) : Prop := wordsGo [] s.data.toList = done ++ wordsGo cur.data.toList (s.data.toList.drop k)

set_option maxHeartbeats 1000000 in
set_option maxRecDepth 100000 in
theorem words_any (s : ByteArray) (w : World) (hs : s.size ≤ 10000) :
    Calls Tryz.prog 139 #[.string s] w fun e w' => (∃ v, e = .returned v ∧ w'.ownsRow w.heap.size 9 1 v (wordsGo [] s.data.toList).length (strs (wordsGo [] s.data.toList))) ∧ Below w.heap.size w w' := by
  obtain ⟨i0, hi, hz0, hz1, hz2⟩ := info_parts strInfo
  go_enter Tryz.func139, Tryz.ntmps139
  go_wp2_with fail
  go_loopw [3, 4, 5] (fun v u i wr => ∃ (k : Nat) (cur : ByteArray) (done : List (List UInt8)), k ≤ s.size ∧ i = .int .i64 k ∧ u = .string cur ∧ cur.size ≤ k ∧ done.length ≤ k ∧ wr.ownsRow w.heap.size 9 1 v done.length (strs done) ∧ Below w.heap.size w wr ∧ Hid (Words s done cur k)) (fun _ _ i _ => s.size - (intOf i).toNat)
  case atStart => exact ⟨0, ⟨#[]⟩, [], Nat.zero_le _, rfl, rfl, Nat.le_refl _, Nat.le_refl _, World.ownsRow_nil _ _ _ _, Below.refl _ _, by show _ = _; simp⟩
  case round =>
    obtain ⟨k, cur, done, hk, rfl, rfl, hcs, hdl, hown, hnx, hr⟩ := hrel
    by_cases hlt : k < s.size
    · by_cases hsp : (s[k].toNat : Int) = 32
      · have h32 := u8_of _ 32 (by omega) hsp
        have hd := drop_cons s k hlt
        by_cases hcur : cur.size = 0
        · have he := is_empty cur hcur
          have hr' : Hid (Words s done ⟨#[]⟩ (k + 1)) := by
            have := hr.out
            unfold Words at this
            rw [hd, h32] at this
            show _ = _
            rw [this, list_empty cur hcur]
            exact congrArg _ (words_sp [] _ rfl)
          have hb32 : (!((s[k].toNat : Int) == 32)) = false := by simpa using hsp
          clear hr hd h32 hcur
          go_wp2_with fail
          go_roundw
          case rel => exact ⟨k + 1, ⟨#[]⟩, done, by omega, by go_num, rfl, Nat.zero_le _, by omega, hown, hnx, hr'⟩
          case measure => simp [intOf]; omega
        · have he := not_empty cur (by omega)
          have hr' : Hid (Words s (done ++ [cur.data.toList]) ⟨#[]⟩ (k + 1)) := by
            have := hr.out
            unfold Words at this
            rw [hd, h32] at this
            show _ = _
            rw [this]
            have hce : cur.data.toList.isEmpty = false := by rw [← Lib.toList_data]; exact he
            rw [show (UInt8.ofNat 32) = (32 : UInt8) from rfl, words_end _ _ hce]
            simp
          have hb32 : (!((s[k].toNat : Int) == 32)) = false := by simpa using hsp
          clear hr hd h32 hcur
          go_wp2_with (at_builtin; go_must (refine wpList_append_own _ rfl _ _ 42 rfl w.heap.size 9 i0 _ 1 16 Tryz.underlying42 hi hz0 hz1 hz2 rfl (by decide) _ _ _ rfl (hown.alloc _) ⟨wr.heap.size, 0, none⟩ 1 1 [.string cur] rfl rfl ?c1 ?c2 ?c3 ?c4 ?c5 ?_))
          case c1 =>
            intro j u hu
            exact cells_new' wr _ _ j u hu rfl
          case c2 => intro u hu; simp at hu; subst hu; rfl
          case c3 => unfold maxLen; omega
          case c4 => omega
          case c5 => have := hnx.size; simp; omega
          intro v' w2 hown2 hg2 _
          have hb2 : Below w.heap.size w w2 := (hnx.alloc hnx.size _).grown hg2 (by have := hnx.size; simp; omega) (fun k hk => (hown.lt k hk).1)
          clear hg2 hown hnx
          go_wp2_with fail
          go_roundw
          case rel => exact ⟨k + 1, ⟨#[]⟩, _, by omega, by go_num, rfl, Nat.zero_le _, by simp; omega, by rw [strs_snoc]; simpa using hown2, hb2, hr'⟩
          case measure => simp [intOf]; omega
      · have hr' : Hid (Words s done (cur ++ s.extract k (k + 1)) (k + 1)) := by
          have hd := drop_cons s k hlt
          have := hr.out
          unfold Words at this
          rw [hd] at this
          show _ = _
          rw [this, words_more, app_data, ext_one s k hlt]
          rw [beq_eq_false_iff_ne]
          intro e
          rw [e] at hsp
          exact hsp rfl
        have hb32 : (!((s[k].toNat : Int) == 32)) = true := by simpa using hsp
        have hsz : (cur ++ s.extract k (k + 1)).size = cur.size + 1 := by
          rw [Lib.size_eq, app_data, ext_one s k hlt, List.length_append, ← Lib.size_eq]; rfl
        have H := hide' hsz
        clear hr hsz
        go_wp2_with fail
        go_roundw
        case rel => exact ⟨k + 1, _, done, by omega, by go_num, rfl, by rw [H.out]; omega, by omega, hown, hnx, hr'⟩
        case measure => simp [intOf]; omega
    · have hfin : Hid (wordsGo [] s.data.toList = done) := by
        have := hr.out
        unfold Words at this
        rw [drop_end s k (by omega)] at this
        show _ = _
        rw [this]; simp [wordsGo]
      clear hr
      go_wp2_with fail
      go_ret
      exact ⟨⟨_, rfl, by rw [hfin.out]; exact hown⟩, hnx⟩

set_option maxRecDepth 100000 in
theorem refKeys_any (s : ByteArray) (w : World) (hs : s.data.toList = refKeyText) :
    Calls Tryz.prog 139 #[.string s] w fun e w' => ∃ v, e = .returned v ∧ w'.ownsRow w.heap.size 9 1 v keys.length (strs keys) ∧ Below w.heap.size w w' := by
  refine (words_any s w (by rw [Lib.size_eq, hs]; decide +kernel)).mono fun e w' ⟨⟨v, h1, h2⟩, h3⟩ => ⟨v, h1, ?_, h3⟩
  rw [hs, refKeys] at h2
  exact h2
theorem refSigns_any (s : ByteArray) (w : World) (hs : s.data.toList = refSignText) :
    Calls Tryz.prog 139 #[.string s] w fun e w' => ∃ v, e = .returned v ∧ w'.ownsRow w.heap.size 9 1 v signs.length (strs signs) ∧ Below w.heap.size w w' := by
  refine (words_any s w (by rw [Lib.size_eq, hs]; decide +kernel)).mono fun e w' ⟨⟨v, h1, h2⟩, h3⟩ => ⟨v, h1, ?_, h3⟩
  rw [hs, refSigns] at h2
  exact h2

theorem isName_first (l : List UInt8) (h : isWord l = true) : kindOf l = if isName l then kName else kKey := by
  unfold kindOf isName
  rw [h]
  cases isKey l <;> rfl

set_option maxRecDepth 100000 in
theorem rIsName_any (s : ByteArray) (w : World) (hs : s.size ≤ 4611686018427387904) :
    Calls Tryz.prog 137 #[.string s] w fun e w' => e = .returned (.bool (isName s.data.toList)) ∧ Below w.heap.size w w' := by
  cases hb : isWord s.data.toList
  · have hfin : Hid (isName s.data.toList = false) := by show _ = _; unfold isName; rw [hb]; rfl
    go_enter Tryz.func137, Tryz.ntmps137
    go_wp2_with fail
    refine (rWord_any _ _ hs).mono ?_
    rintro e w' ⟨rfl, rfl⟩
    go_wp2_with fail
    go_ret
    exact ⟨by rw [hfin.out]; rfl, Below.refl _ _⟩
  · have hfin : Hid (isName s.data.toList = !(hasW keys s)) := by show _ = _; unfold isName; rw [hb]; rfl
    go_enter Tryz.func137, Tryz.ntmps137
    go_wp2_with fail
    refine (rWord_any _ _ hs).mono ?_
    rintro e w' ⟨rfl, rfl⟩
    go_wp2_with fail
    refine (refKeys_any _ _ ?_).mono ?_
    · decide +kernel
    rintro e w1 ⟨v, rfl, hown, hb1⟩
    go_wp2_with fail
    refine (has_any keys v _ s _ (by rw [keys_len]; omega) hown).mono ?_
    rintro e w' ⟨rfl, rfl⟩
    go_wp2_with fail
    go_ret
    exact ⟨by rw [hfin.out]; rfl, hb1⟩

end Go.Proofs.YtdajlkmagmmdiaaGreatDoor
