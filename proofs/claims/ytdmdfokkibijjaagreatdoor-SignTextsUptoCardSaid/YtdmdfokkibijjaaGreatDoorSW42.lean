/-
  Layer 9: the walk of Parse of the program.
-/
import Derived.Test.YtdmdfokkibijjaaGreatDoorSW40
import Derived.Lib.AtoiErrMem
import Derived.Deep.DeepCutAuto
import Derived.Maps.AppendAt
namespace Go.Proofs.YtdmdfokkibijjaaGreatDoor
open Go.RowKit
open Sgn
set_option linter.unusedVariables false
set_option linter.unusedSimpArgs false

/-- the variables of the library that Parse reads -/
def Env (w : World) : Prop :=
  (∃ m, w.cell? ⟨0, 0, none⟩ = some (.int .i64 m)) ∧ (∃ ev, w.cell? ⟨1, 0, none⟩ = some ev ∧ (ev = .nilIface ∨ ∃ te pe, ev = .iface te pe)) ∧
  (∃ ev, w.cell? ⟨2, 0, none⟩ = some ev ∧ (ev = .nilIface ∨ ∃ te pe, ev = .iface te pe))
theorem Env.on {w w' : World} (h : Env w) (hb : Below w.heap.size w w') : Env w' := by
  obtain ⟨⟨m, h1⟩, ⟨e, h2, h2'⟩, ⟨f, h3, h3'⟩⟩ := h
  exact ⟨⟨m, (hb.cell (cell_lt h1)).trans h1⟩, ⟨e, (hb.cell (cell_lt h2)).trans h2, h2'⟩, ⟨f, (hb.cell (cell_lt h3)).trans h3, h3'⟩⟩
theorem Cut_b (s sep : ByteArray) (w : World) (hE : Env w) (hs : s.size ≤ 2000000) :
    Calls Tryz.prog 14 #[.string s, .string sep] w fun e w' => e = .returned (.tuple #[.string ⟨(Lib.cut s.data.toList sep.data.toList).1.toArray⟩, .string ⟨(Lib.cut s.data.toList sep.data.toList).2.1.toArray⟩, .bool (Lib.cut s.data.toList sep.data.toList).2.2]) ∧ Below w.heap.size w w' := by
  obtain ⟨⟨m, h1⟩, _⟩ := hE
  refine (Tryz.strings_Cut s sep m w (by omega) h1).mono fun e w' ⟨he, n, hw⟩ => ⟨he, ?_⟩
  rw [hw]
  exact below_draws (Below.refl _ _) n
def AtoiE (s : ByteArray) (e : Ending) : Prop := ∃ z ev, e = .returned (.tuple #[.int .i64 z, ev]) ∧ ((Lib.atoiAll s.data.toList = .ok z ∧ ev = .nilIface) ∨ ((∀ v, Lib.atoiAll s.data.toList ≠ .ok v) ∧ ∃ t p, ev = .iface t p))
theorem Atoi_b (s : ByteArray) (w : World) (hE : Env w) (hs : s.size ≤ 2000000) :
    Calls Tryz.prog 17 #[.string s] w fun e w' => AtoiE s e ∧ Below w.heap.size w w' := by
  obtain ⟨_, ⟨e2, h2, h2'⟩, ⟨e3, h3, h3'⟩⟩ := hE
  cases h : Lib.atoiAll s.data.toList
  · rename_i v
    refine (Tryz.strconv_Atoi_ok s (by omega) v h w).mono fun e w' ⟨he, hw⟩ => ⟨⟨v, .nilIface, he, .inl ⟨h, rfl⟩⟩, ?_⟩
    rcases hw with rfl | ⟨t, rfl⟩
    · exact Below.refl _ _
    · exact Lib.bytesWorld_below w _ t
  · refine (Tryz.strconv_Atoi_syntax s (by omega) h e2 w h2 h2').mono fun e w' ⟨N, he, _, _, hb⟩ => ⟨⟨_, _, he, .inr ⟨(fun v hv => by rw [h] at hv; cases hv), _, _, rfl⟩⟩, hb⟩
  · refine (Tryz.strconv_Atoi_range s (by omega) h e3 w h3 h3').mono fun e w' ⟨N, he, _, _, hb⟩ => ⟨⟨_, _, he, .inr ⟨(fun v hv => by rw [h] at hv; cases hv), _, _, rfl⟩⟩, hb⟩

theorem cut_sizes (s : ByteArray) (sep : List UInt8) : (Lib.cut s.data.toList sep).1.length ≤ s.size ∧ (Lib.cut s.data.toList sep).2.1.length ≤ s.size := by
  have hl : s.data.toList.length = s.size := by simp
  unfold Lib.cut
  split
  · constructor
    · simp only [List.length_take]; omega
    · simp only [List.length_drop]; omega
  · simp
theorem splitB_sizes (sep : ByteArray) : ∀ (k : Nat) (s : ByteArray), ∀ x ∈ Lib.splitB sep 0 k s, x.size ≤ s.size
  | 0, s, x, h => by
    rw [Lib.splitB_zero] at h
    have : x = s := by simpa using h
    rw [this]
    exact Nat.le_refl _
  | k + 1, s, x, h => by
    unfold Lib.splitB at h
    split at h
    · have : x = s := by simpa using h
      rw [this]
      exact Nat.le_refl _
    · rcases List.mem_cons.1 h with rfl | h
      · rw [ByteArray.size_extract]; omega
      · have := splitB_sizes sep k _ x h
        rw [ByteArray.size_extract] at this
        omega
/-- the pieces of a text between the commas -/
def piecesB (s : ByteArray) : List ByteArray := Lib.splitB ⟨#[32, 44, 32]⟩ 0 (Lib.countB s ⟨#[32, 44, 32]⟩) s
theorem pieces_len (s : ByteArray) : (piecesB s).length = Lib.countB s ⟨#[32, 44, 32]⟩ + 1 := Lib.splitB_all _ (by decide) 0 _ s rfl
theorem pieces_data (s : ByteArray) : (piecesB s).map (·.data.toList) = Lib.split s.data.toList [32, 44, 32] := Lib.splitB_data _ 0 _ s
theorem pieces_count (s : ByteArray) : (piecesB s).length ≤ s.size + 1 := by
  rw [pieces_len]
  have := Lib.countB_le ⟨#[32, 44, 32]⟩ (by decide) s.size s (Nat.le_refl _)
  omega
theorem Split_b (s : ByteArray) (w : World) (hE : Env w) (hs : s.size ≤ 2000000) :
    Calls Tryz.prog 15 #[.string s, .string ⟨#[32, 44, 32]⟩] w fun e w' => e = .returned (.slice (some ⟨w.heap.size, 0, none⟩) (piecesB s).length (piecesB s).length) ∧ Below w.heap.size w w' ∧ Hid (∀ j (h : j < (piecesB s).length), w'.cell? ⟨w.heap.size, j, none⟩ = some (.string (piecesB s)[j])) := by
  obtain ⟨⟨m, h1⟩, _⟩ := hE
  refine (Tryz.strings_Split s ⟨#[32, 44, 32]⟩ m w (by omega) h1 (by decide)).mono fun e w' ⟨he, hw⟩ => ⟨by rw [he, pieces_len], ?_, ?_⟩
  · rw [hw]; exact (Below.refl _ _).alloc (Nat.le_refl _) _
  · intro j hj
    rw [hw]
    have h := cells_new' w ((piecesB s).map Value.string).toArray 9 j (.string (piecesB s)[j]) (by
      show ((piecesB s).map Value.string)[j]? = _
      rw [List.getElem?_map, List.getElem?_eq_getElem hj]
      rfl) rfl
    rw [show (⟨w.heap.size, 0, none⟩ : Addr).add j = ⟨w.heap.size, j, none⟩ by (simp [Addr.add]; exact fun h => h.symm)] at h
    exact h

end Go.Proofs.YtdmdfokkibijjaaGreatDoor

namespace Go.Proofs.YtdmdfokkibijjaaGreatDoor
open Go.RowKit
open Sgn
set_option linter.unusedVariables false
set_option linter.unusedSimpArgs false

theorem Cut_c (s sep x y : ByteArray) (L : List UInt8) (ok : Bool) (hL : sep.data.toList = L) (h : Lib.cut s.data.toList L = (x.data.toList, y.data.toList, ok)) (w : World) (hE : Env w) (hs : s.size ≤ 2000000) :
    Calls Tryz.prog 14 #[.string s, .string sep] w fun e w' => e = .returned (.tuple #[.string x, .string y, .bool ok]) ∧ Below w.heap.size w w' := by
  subst hL
  have := Cut_b s sep w hE hs
  rw [h] at this
  simp only [bytes_back] at this
  exact this
theorem cut_ex (l sep : List UInt8) : ∃ (x y : ByteArray) (ok : Bool), Lib.cut l sep = (x.data.toList, y.data.toList, ok) := ⟨⟨(Lib.cut l sep).1.toArray⟩, ⟨(Lib.cut l sep).2.1.toArray⟩, (Lib.cut l sep).2.2, rfl⟩
theorem cut_le {s x y : ByteArray} {sep : List UInt8} {ok : Bool} (h : Lib.cut s.data.toList sep = (x.data.toList, y.data.toList, ok)) : x.size ≤ s.size ∧ y.size ≤ s.size := by
  have := cut_sizes s sep
  rw [h] at this
  simpa using this
theorem trim_le (l p : List UInt8) : (Lib.trimSuffix l p).length ≤ l.length := by
  unfold Lib.trimSuffix
  split
  · rw [List.length_take]; omega
  · exact Nat.le_refl _
theorem progS_of {t : List UInt8} {nm rs ib res : ByteArray} {ok1 ok2 : Bool} (h1 : Lib.cut t [32, 40, 32] = (nm.data.toList, rs.data.toList, ok1)) (h2 : Lib.cut rs.data.toList [41, 32, 58, 32] = (ib.data.toList, res.data.toList, ok2)) :
    progS t = if (ok1 && ok2) = true then some ⟨nm, if ib.data.toList = [] then [] else (Lib.split (Lib.trimSuffix ib.data.toList [32]) [32, 44, 32]).map parseW, res⟩ else none := by
  unfold progS
  rw [h1]
  simp only
  rw [h2]
theorem parseW_of {p k r : ByteArray} {ok : Bool} (h : Lib.cut p.data.toList [32] = (k.data.toList, r.data.toList, ok)) :
    (ok = false → parseW p.data.toList = ⟨k, 0⟩) ∧ (ok = true → (∀ v, Lib.atoiAll r.data.toList ≠ .ok v) → parseW p.data.toList = ⟨k, 0⟩) ∧ (ok = true → ∀ v, Lib.atoiAll r.data.toList = .ok v → parseW p.data.toList = ⟨k, v⟩) := by
  unfold parseW
  rw [h]
  simp only [bytes_back]
  refine ⟨fun e => ?_, fun e hv => ?_, fun e v hv => ?_⟩
  · subst e; rfl
  · subst e
    rw [if_pos rfl]
    cases ha : Lib.atoiAll r.data.toList
    · exact absurd ha (hv _)
    · rfl
    · rfl
  · subst e
    rw [if_pos rfl, hv]

theorem trim_c (s x : ByteArray) (w : World) (hs : s.size ≤ 2000000) (h : x = ⟨(Lib.trimSuffix s.data.toList [32]).toArray⟩) :
    Calls Tryz.prog 16 #[.string s, .string ⟨#[32]⟩] w fun e w' => e = .returned (.string x) ∧ w' = w := by
  subst h
  exact Tryz.strings_TrimSuffix s ⟨#[32]⟩ w (by omega)
/-- the pieces lie in a block -/
def Pcs (w : World) (g : Nat) (P : List ByteArray) : Prop := ∀ j (h : j < P.length), w.cell? ⟨g, j, none⟩ = some (.string P[j])
theorem Pcs.below {w u : World} {g : Nat} {P : List ByteArray} (h : Pcs w g P) (hb : Below w.heap.size w u) : Pcs u g P := fun j hj => (hb.cell (cell_lt (h j hj))).trans (h j hj)
theorem Pcs.set {w : World} {g : Nat} {P : List ByteArray} (h : Pcs w g P) (a : Addr) (v : Value) (ha : g ≠ a.block) : Pcs (w.setCell a v) g P := fun j hj => (World.cell?_setCell_far w a ⟨g, j, none⟩ v (by simpa using fun e => ha e.symm)).trans (h j hj)
theorem Pcs.block {w u : World} {g : Nat} {P : List ByteArray} (h : Pcs w g P) (hb : u.heap[g]? = w.heap[g]?) : Pcs u g P := fun j hj => (World.cell?_of_block (a := ⟨g, j, none⟩) hb).trans (h j hj)

set_option maxHeartbeats 32000000 in
set_option maxRecDepth 100000 in
theorem Parse9_any (s : ByteArray) (w : World) (hT : Tab w) (hE : Env w) (hs : s.size ≤ 2000000) :
    Calls Tryz.prog 6 #[.string s] w fun e w' => ParseE (parseR (progS s.data.toList) s.data.toList) w w' e := by
  have HT := fun u (hb : Below w.heap.size w u) => hide' (hT.on hb)
  have HE := fun u (hb : Below w.heap.size w u) => hide' (hE.on hb)
  obtain ⟨nm, rs, ok1, h1⟩ := cut_ex s.data.toList [32, 40, 32]
  obtain ⟨ib, res, ok2, h2⟩ := cut_ex rs.data.toList [41, 32, 58, 32]
  have HP := hide' (progS_of h1 h2)
  have hl1 := cut_le h1
  have hl2 := cut_le h2
  have HC1 := fun u (hb : Below w.heap.size w u) => hide' (Cut_c s ⟨#[32, 40, 32]⟩ nm rs [32, 40, 32] ok1 rfl h1 u (hE.on hb) hs)
  have HC2 := fun u (hb : Below w.heap.size w u) => hide' (Cut_c rs ⟨#[41, 32, 58, 32]⟩ ib res [41, 32, 58, 32] ok2 rfl h2 u (hE.on hb) (by omega))
  obtain ⟨tb, htb⟩ : ∃ x : ByteArray, x = ⟨(Lib.trimSuffix ib.data.toList [32]).toArray⟩ := ⟨_, rfl⟩
  have htl : tb.size ≤ ib.size := by
    rw [htb]
    have := trim_le ib.data.toList [32]
    show (Lib.trimSuffix ib.data.toList [32]).length ≤ ib.data.toList.length
    exact this
  have HSP := fun u (hb : Below w.heap.size w u) => hide' (Split_b tb u (hE.on hb) (by omega))
  have hpc := pieces_count tb
  have hsz := splitB_sizes ⟨#[32, 44, 32]⟩ (Lib.countB tb ⟨#[32, 44, 32]⟩) tb
  have hpd : (piecesB tb).map (fun p => parseW p.data.toList) = (Lib.split (Lib.trimSuffix ib.data.toList [32]) [32, 44, 32]).map parseW := by
    have e : Lib.trimSuffix ib.data.toList [32] = tb.data.toList := by rw [htb]
    rw [e, ← pieces_data, List.map_map]
    rfl
  have hsz' : ∀ x ∈ piecesB tb, x.size ≤ 2000000 := fun x hx => by
    have := hsz x hx
    omega
  obtain ⟨P, hP⟩ : ∃ x, piecesB tb = x := ⟨_, rfl⟩
  rw [hP] at HSP hpc hpd hsz'
  have hPl : P.length ≤ 2000001 := by omega
  have HTB := hide' htb
  have HPD := hide' hpd
  have HSZ := hide' hsz'
  clear hpd hsz' hsz htb hP h1 h2 hT hE hpc
  go_enter Tryz.func6, Tryz.ntmps6
  go_wp2_with fail
  refine (HC1 _ ((Below.refl _ _).alloc (Nat.le_refl _) _)).out.mono ?_
  rintro e w1 ⟨rfl, hb1⟩
  have HB1 := hide' (box_below hb1)
  have hR0 : w1.cell? ⟨w.heap.size, 0, none⟩ = some (.string ⟨#[]⟩) ∧ w1.cell? ⟨w.heap.size, 1, none⟩ = some (.slice none 0 0) ∧ w1.cell? ⟨w.heap.size, 2, none⟩ = some (.string ⟨#[]⟩) := box3 hb1
  have hR1 : w1.frozen? ⟨w.heap.size, 0, none⟩ = false ∧ w1.frozen? ⟨w.heap.size, 1, none⟩ = false ∧ w1.frozen? ⟨w.heap.size, 2, none⟩ = false := ⟨(hb1.frozen (by simp)).trans (by simp), (hb1.frozen (by simp)).trans (by simp), (hb1.frozen (by simp)).trans (by simp)⟩
  have hRb : w.heap.size < w1.heap.size := by have := hb1.size; simp at this; omega
  have HR0 := hide' hR0
  have HR1 := hide' hR1
  clear HC1 hb1 hR0 hR1
  go_wp2_with fail
  refine (HC2 _ HB1.out).out.mono ?_
  rintro e w2 ⟨rfl, hb2⟩
  have r0 := (hb2.cell (p := ⟨w.heap.size, 0, none⟩) hRb).trans HR0.out.1
  have r1 := (hb2.cell (p := ⟨w.heap.size, 1, none⟩) hRb).trans HR0.out.2.1
  have r2 := (hb2.cell (p := ⟨w.heap.size, 2, none⟩) hRb).trans HR0.out.2.2
  have s0 := (hb2.frozen (p := ⟨w.heap.size, 0, none⟩) hRb).trans HR1.out.1
  have s1 := (hb2.frozen (p := ⟨w.heap.size, 1, none⟩) hRb).trans HR1.out.2.1
  have s2 := (hb2.frozen (p := ⟨w.heap.size, 2, none⟩) hRb).trans HR1.out.2.2
  have hRb2 : w.heap.size < w2.heap.size := Nat.lt_of_lt_of_le hRb hb2.size
  have HB2 := hide' (HB1.out.trans (hb2.mono HB1.out.size))
  clear HC2 hb2 HB1 HR0 HR1 hRb
  cases hok : (ok1 && ok2)
  · have hp := hide' (show parseR (progS s.data.toList) s.data.toList = none by rw [HP.out, hok]; rfl)
    have hS := set3 (a := .string ⟨#[]⟩) (b := .slice none 0 0) (c := .string ⟨#[]⟩) r0 r1 r2
    have hB := (((HB2.out.setCell (p := ⟨w.heap.size, 0, none⟩) (Nat.le_refl _) (.string ⟨#[]⟩)).setCell (p := ⟨w.heap.size, 1, none⟩) (Nat.le_refl _) (.slice none 0 0)).setCell (p := ⟨w.heap.size, 2, none⟩) (Nat.le_refl _) (.string ⟨#[]⟩))
    obtain ⟨t0, t1, t2⟩ := hS
    have hE2 : ok1 = false ∨ (ok1 = true ∧ ok2 = false) := by cases ok1 <;> simp_all
    rcases hE2 with rfl | ⟨rfl, rfl⟩
    all_goals
      clear hok HP
      go_wp2_with fail
      generalize ((w2.setCell ⟨w.heap.size, 0, none⟩ (.string ⟨#[]⟩)).setCell ⟨w.heap.size, 1, none⟩ (.slice none 0 0)).setCell ⟨w.heap.size, 2, none⟩ (.string ⟨#[]⟩) = wz at *
      exact bodyPost_ret (v := .tuple #[.agg #[.string ⟨#[]⟩, .slice none 0 0, .string ⟨#[]⟩], .int .i64 3]) (by simp [results, Tryz.results6, go_sem, t0, t1, t2]) rfl (by rw [hp.out]; exact ⟨_, rfl, ⟨_, rfl, FSl.nil _⟩, hB⟩)
  · obtain ⟨rfl, rfl⟩ : ok1 = true ∧ ok2 = true := by cases ok1 <;> simp_all
    clear hok
    go_upto_if 44 with fail
    go_cut [] (fun wx => ∃ (done : List F) (v : Value) (base : Nat), w2.heap.size ≤ base ∧ Hid (done = (if ib.data.toList = [] then [] else (Lib.split (Lib.trimSuffix ib.data.toList [32]) [32, 44, 32]).map parseW)) ∧ done.length ≤ 2000001 ∧ wx.cell? ⟨w2.heap.size, 0, none⟩ = some (.string nm) ∧ wx.cell? ⟨w2.heap.size, 1, none⟩ = some v ∧ wx.cell? ⟨w2.heap.size, 2, none⟩ = some (.string res) ∧ wx.ownsRow base 35 2 v done.length (fcells done) ∧ Below w2.heap.size w2 wx)
    case first =>
      have hB3 : Below w2.heap.size w2 (w2.alloc (.cells #[.string nm, .slice none 0 0, .string res] 25)) := (Below.refl _ _).alloc (Nat.le_refl _) _
      have e0 : (w2.alloc (.cells #[.string nm, .slice none 0 0, .string res] 25)).cell? ⟨w2.heap.size, 0, none⟩ = some (.string nm) := cells_new' w2 #[.string nm, .slice none 0 0, .string res] 25 0 _ rfl rfl
      have e1 : (w2.alloc (.cells #[.string nm, .slice none 0 0, .string res] 25)).cell? ⟨w2.heap.size, 1, none⟩ = some (.slice none 0 0) := cells_new' w2 #[.string nm, .slice none 0 0, .string res] 25 1 _ rfl rfl
      have e2 : (w2.alloc (.cells #[.string nm, .slice none 0 0, .string res] 25)).cell? ⟨w2.heap.size, 2, none⟩ = some (.string res) := cells_new' w2 #[.string nm, .slice none 0 0, .string res] 25 2 _ rfl rfl
      have e3 : (w2.alloc (.cells #[.string nm, .slice none 0 0, .string res] 25)).frozen? ⟨w2.heap.size, 1, none⟩ = false := by simp
      generalize (w2.alloc (.cells #[.string nm, .slice none 0 0, .string res] 25)) = w3 at *
      clear r0 r1 r2 s0 s1 s2 HP
      cases hin : ib.toList.isEmpty
      · have hne : ib.data.toList ≠ [] := fun h => by
          rw [Lib.toList_data, h] at hin
          cases hin
        have HDD := hide' (show P.map (fun p => parseW p.data.toList) = (if ib.data.toList = [] then [] else (Lib.split (Lib.trimSuffix ib.data.toList [32]) [32, 44, 32]).map parseW) by rw [if_neg hne]; exact HPD.out)
        have hin' : (!ib.toList.isEmpty) = true := by rw [hin]; rfl
        have HTR := fun (u : World) => hide' (trim_c ib tb u (by omega) HTB.out)
        have HB3 := hide' (HB2.out.trans (hB3.mono HB2.out.size))
        have hlt3 := cell_lt e0
        have hlt3' : w2.heap.size < w3.heap.size := hlt3
        clear hne HPD HTB
        go_wp2_with fail
        refine (HTR _).out.mono ?_
        rintro e wt ⟨rfl, rfl⟩
        clear HTR
        go_wp2_with fail
        refine (HSP _ HB3.out).out.mono ?_
        rintro e w4 ⟨rfl, hb4, hcl⟩
        have hPc : Pcs w4 wt.heap.size P := hcl.out
        have d0 := (hb4.cell hlt3').trans e0
        have d1 := (hb4.cell (p := ⟨w2.heap.size, 1, none⟩) hlt3').trans e1
        have d2 := (hb4.cell (p := ⟨w2.heap.size, 2, none⟩) hlt3').trans e2
        have d3 := (hb4.frozen (p := ⟨w2.heap.size, 1, none⟩) hlt3').trans e3
        have hB4 := hB3.trans (hb4.mono hB3.size)
        have hb4s : wt.heap.size ≤ w4.heap.size := hb4.size
        have HSZ' := HSZ
        have HFS := hide' (show P.map (fun p => parseW p.data.toList) = ([] : List F) ++ (P.drop 0).map (fun p => parseW p.data.toList) by simp)
        have hPn : wt.heap.size < w4.heap.size ∨ P.length = 0 := by
          by_cases h : P.length = 0
          · exact .inr h
          · exact .inl (cell_lt (hPc 0 (by omega)))
        clear hcl e0 e1 e2 e3 hb4 hB3 HB3 HSP HSZ
        obtain ⟨i0, hi, hz0, hz1, hz2⟩ := info_parts formalInfo
        go_wp2_with fail
        go_loopw [49] (fun c wr => ∃ (i : Nat) (done : List F) (v : Value), c = .int .i64 i ∧ i ≤ P.length ∧ done.length = i ∧ wr.cell? ⟨w2.heap.size, 0, none⟩ = some (.string nm) ∧ wr.cell? ⟨w2.heap.size, 1, none⟩ = some v ∧ wr.cell? ⟨w2.heap.size, 2, none⟩ = some (.string res) ∧ wr.frozen? ⟨w2.heap.size, 1, none⟩ = false ∧ wr.ownsRow w4.heap.size 35 2 v done.length (fcells done) ∧ Below w2.heap.size w2 wr ∧ Pcs wr wt.heap.size P ∧ w4.heap.size ≤ wr.heap.size ∧ Hid (P.map (fun p => parseW p.data.toList) = done ++ (P.drop i).map (fun p => parseW p.data.toList))) (fun c _ => P.length + 1 - (intOf c).toNat)
        case atStart => exact ⟨0, [], .slice none 0 0, rfl, Nat.zero_le _, rfl, d0, d1, d2, d3, World.ownsRow_nil _ _ _ _, hB4, hPc, Nat.le_refl _, HFS.out⟩
        case round =>
          clear d0 d1 d2 d3 hB4 hPc HFS
          obtain ⟨i, done, v, rfl, hip, hdl, c0, c1, c2, c3, hown, hnx, hPc, hsz4, hD⟩ := hrel
          have HDL := hide' hdl
          clear hdl
          by_cases hlt : i < P.length
          · have hd : decide ((i : Int) < (P.length : Int)) = true := decide_eq_true (by omega)
            have yp := hPc i hlt
            have hk0 : (0 : Int) ≤ (i : Int) := by omega
            have hk1 : (i : Int) < (P.length : Int) := by omega
            have hps := HSZ'.out P[i] (List.getElem_mem _)
            have hdr := List.drop_eq_getElem_cons hlt
            have hD' := hD.out
            rw [hdr, List.map_cons] at hD'
            obtain ⟨p, hp⟩ : ∃ x, P[i] = x := ⟨_, rfl⟩
            rw [hp] at yp hps hD'
            obtain ⟨k, r, okr, hc⟩ := cut_ex p.data.toList [32]
            obtain ⟨f1, f2, f3⟩ := parseW_of hc
            have hrs := (cut_le hc).2
            have HF1 := hide' f1
            have HF2 := hide' f2
            have HF3 := hide' f3
            have HCR := fun u (hb : Below w.heap.size w u) => hide' (Cut_c p ⟨#[32]⟩ k r [32] okr rfl hc u (HE u hb).out hps)
            have HAT := fun u (hb : Below w.heap.size w u) => hide' (Atoi_b r u (HE u hb).out (by omega))
            have HD1 := hide' hD'
            have HNX := hide' hnx
            clear f1 f2 f3 hc hp hD hD' hdr hnx
            go_wp2_with fail
            refine (HCR _ (HB2.out.trans (HNX.out.mono HB2.out.size))).out.mono ?_
            rintro e wa ⟨rfl, hba⟩
            have a0 := (hba.cell (cell_lt c0)).trans c0
            have a1 := (hba.cell (cell_lt c1)).trans c1
            have a2 := (hba.cell (cell_lt c2)).trans c2
            have a3 := (hba.frozen (p := ⟨w2.heap.size, 1, none⟩) (cell_lt c1)).trans c3
            have hown := ownsRow_below hown hba
            have HNX := hide' (HNX.out.trans (hba.mono HNX.out.size))
            have hPc := hPc.below hba
            have hsz4 := Nat.le_trans hsz4 hba.size
            clear c0 c1 c2 c3 hba HCR yp
            go_wp2_with fail
            have hg4 : wt.heap.size < w4.heap.size := hPn.resolve_right (by omega)
            refine (HAT _ (HB2.out.trans (((HNX.out.trans ((Below.refl _ _).alloc (HNX.out.size) _))).mono HB2.out.size))).out.mono ?_
            rintro e wc ⟨⟨z, ev, rfl, hz⟩, hbc⟩
            have hbw := box_below hbc
            have b0 := (hbw.cell (cell_lt a0)).trans a0
            have b1 := (hbw.cell (cell_lt a1)).trans a1
            have b2 := (hbw.cell (cell_lt a2)).trans a2
            have b3 := (hbw.frozen (p := ⟨w2.heap.size, 1, none⟩) (cell_lt a1)).trans a3
            have zf0 : wc.cell? ⟨wa.heap.size, 0, none⟩ = some (.string k) := (hbc.cell (by simp)).trans (cells_new' wa #[.string k, .int .i64 0] 35 0 _ rfl rfl)
            have zf1 : wc.cell? ⟨wa.heap.size, 1, none⟩ = some (.int .i64 0) := (hbc.cell (by simp)).trans (cells_new' wa #[.string k, .int .i64 0] 35 1 _ rfl rfl)
            have zf2 : wc.frozen? ⟨wa.heap.size, 1, none⟩ = false := (hbc.frozen (by simp)).trans (by simp)
            have hBa : w2.heap.size < wa.heap.size := cell_lt a1
            have hBc : wa.heap.size < wc.heap.size := cell_lt zf1
            have hownc := ownsRow_below hown hbw
            have kbe' := hide' (HNX.out.trans (hbw.mono HNX.out.size))
            have hPcc := hPc.below hbw
            have hsc : w4.heap.size ≤ wc.heap.size := Nat.le_trans hsz4 hbw.size
            have hfara : v.ownBlock ≠ some wa.heap.size := fun e => by
              have := (hown.lt _ e).2
              omega
            clear a0 a1 a2 a3 hbc hbw hown hPc HAT
            have HZ := hide' hz
            cases okr
            · clear hz
              have hrem := hide' (show P.map (fun p => parseW p.data.toList) = (done ++ [⟨k, 0⟩]) ++ (P.drop (i + 1)).map (fun p => parseW p.data.toList) by
                rw [HD1.out, HF1.out rfl]; simp)
              obtain ⟨wy, rfl⟩ : ∃ x : World, x = wc := ⟨_, rfl⟩
              have k0 := b0
              have k1 := b1
              have k2 := b2
              have k3 := b3
              have kown := hownc
              have kbe := kbe'
              have kPc := hPcc
              clear b0 b1 b2 b3 hownc kbe' hPcc HF1 HF2 HF3 HD1 HZ HDD hfara
              have hfar : v.ownBlock ≠ some w2.heap.size := fun h => by have := (kown.lt _ h).1; omega
              have hfarg : v.ownBlock ≠ some wt.heap.size := fun h => by have := (kown.lt _ h).1; omega
              go_wp2_with (at_builtin; go_must (refine wpList_append_own_at _ rfl _ _ 23 rfl w4.heap.size 35 i0 _ 2 24 Tryz.underlying23 hi hz0 hz1 hz2 rfl (by decide) _ _ _ rfl (kown.alloc _) ⟨wy.heap.size, 0, none⟩ 1 1 [.string k, .int .i64 0] rfl rfl ?a1 ?a2 ?a3 ?a4 ?a5 ?_))
              try (case a1 => (intro j u hu; exact cells_new' wy _ _ j u hu rfl))
              case a2 => first | (intro u hu; simp at hu; rcases hu with rfl | rfl <;> rfl) | exact ⟨rfl, rfl⟩
              case a3 => have := HDL.out; unfold maxLen; omega
              case a4 => have := HDL.out; omega
              case a5 => simp; omega
              intro v' w6 hn6 hg6 _ hloc
              have kbl := hg6.block w2.heap.size (by simp; omega) (fun e => hfar e.symm)
              have kbg := hg6.block wt.heap.size (by simp; omega) (fun e => hfarg e.symm)
              have hPc6 := ((kPc.below ((Below.refl _ _).alloc (Nat.le_refl _) (.cells #[.string k, .int .i64 0] 35))).block kbg)
              have j0 := (World.cell?_of_block (a := ⟨w2.heap.size, 0, none⟩) kbl).trans (cell_alloc k0)
              have j1 := (World.cell?_of_block (a := ⟨w2.heap.size, 1, none⟩) kbl).trans (cell_alloc k1)
              have j2 := (World.cell?_of_block (a := ⟨w2.heap.size, 2, none⟩) kbl).trans (cell_alloc k2)
              have j3 : w6.frozen? ⟨w2.heap.size, 1, none⟩ = false := (World.frozen?_of_block (a := ⟨w2.heap.size, 1, none⟩) kbl).trans ((((Below.refl _ _).alloc (Nat.le_refl _) _).frozen (p := ⟨w2.heap.size, 1, none⟩) (cell_lt k1)).trans k3)
              have hfar6 := far_new40 hfar (show w2.heap.size < wy.heap.size + 1 by omega) hloc
              have hb6 := (kbe.out.alloc kbe.out.size (.cells #[.string k, .int .i64 0] 35)).grown hg6 (by have := kbe.out.size; simp; omega) (fun k hk => Nat.le_trans (by omega) (kown.lt k hk).1)
              obtain ⟨g6, cap6, rfl⟩ : ∃ g6 cap6, v' = .slice (some ⟨g6, 0, none⟩) (done.length + 1) cap6 := by
                rcases hn6.2 with ⟨_, h0⟩ | ⟨g6, cap6, cur, e6, _⟩
                · cases h0
                · exact ⟨g6, cap6, e6⟩
              have hlt6 : w4.heap.size ≤ w6.heap.size := by have := hg6.size; simp at this; omega
              have l1 := World.cell?_setCell_same w6 ⟨w2.heap.size, 1, none⟩ (.slice (some ⟨g6, 0, none⟩) (done.length + 1) cap6) j1
              have l0 := (World.cell?_setCell_other (w := w6) (a := ⟨w2.heap.size, 1, none⟩) (b := ⟨w2.heap.size, 0, none⟩) (v := .slice (some ⟨g6, 0, none⟩) (done.length + 1) cap6) (h := by simp)).trans j0
              have l2 := (World.cell?_setCell_other (w := w6) (a := ⟨w2.heap.size, 1, none⟩) (b := ⟨w2.heap.size, 2, none⟩) (v := .slice (some ⟨g6, 0, none⟩) (done.length + 1) cap6) (h := by simp)).trans j2
              have l3 : (w6.setCell ⟨w2.heap.size, 1, none⟩ (.slice (some ⟨g6, 0, none⟩) (done.length + 1) cap6)).frozen? ⟨w2.heap.size, 1, none⟩ = false := by simpa using j3
              have l4 := ownsRow_setCell_other hn6 (a := ⟨w2.heap.size, 1, none⟩) hfar6 (.slice (some ⟨g6, 0, none⟩) (done.length + 1) cap6)
              have hb7 := hb6.setCell (p := ⟨w2.heap.size, 1, none⟩) (Nat.le_refl _) (.slice (some ⟨g6, 0, none⟩) (done.length + 1) cap6)
              have hPc7 := hPc6.set ⟨w2.heap.size, 1, none⟩ (.slice (some ⟨g6, 0, none⟩) (done.length + 1) cap6) (show wt.heap.size ≠ w2.heap.size by omega)
              have hlt7 : w4.heap.size ≤ (w6.setCell ⟨w2.heap.size, 1, none⟩ (.slice (some ⟨g6, 0, none⟩) (done.length + 1) cap6)).heap.size := by simp; omega
              have hfc : fcells (done ++ [(⟨k, 0⟩ : F)]) = fcells done ++ [.string k, .int .i64 0] := by simp [fcells]
              have hll : (done ++ [(⟨k, 0⟩ : F)]).length = done.length + 1 := by simp
              have HFC := hide' hfc
              have HLL := hide' hll
              clear hloc kbl kbg hPc6 kPc hg6 hn6 hb6 kown k0 k1 k2 k3 hfc hll
              go_wp2_with fail
              go_roundw
              case rel => exact ⟨i + 1, done ++ [(⟨k, 0⟩ : F)], _, by go_num, by omega, by rw [HLL.out, HDL.out], l0, l1, l2, l3, by rw [HFC.out, HLL.out]; exact l4, hb7, hPc7, hlt7, hrem.out⟩
              case measure => simp [intOf]; omega
            · rcases hz with ⟨hz, rfl⟩ | ⟨hz, te, pe, rfl⟩
              · have HZO := hide' hz
                clear hz HZ
                have hrem := hide' (show P.map (fun p => parseW p.data.toList) = (done ++ [⟨k, z⟩]) ++ (P.drop (i + 1)).map (fun p => parseW p.data.toList) by
                  rw [HD1.out, HF3.out rfl z HZO.out]; simp)
                go_upto_region 15 with fail
                have k0 := (World.cell?_setCell_far wc ⟨wa.heap.size, 1, none⟩ ⟨w2.heap.size, 0, none⟩ (.int .i64 z) (by simp; omega)).trans b0
                have k1 := (World.cell?_setCell_far wc ⟨wa.heap.size, 1, none⟩ ⟨w2.heap.size, 1, none⟩ (.int .i64 z) (by simp; omega)).trans b1
                have k2 := (World.cell?_setCell_far wc ⟨wa.heap.size, 1, none⟩ ⟨w2.heap.size, 2, none⟩ (.int .i64 z) (by simp; omega)).trans b2
                have k3 : (wc.setCell ⟨wa.heap.size, 1, none⟩ (.int .i64 z)).frozen? ⟨w2.heap.size, 1, none⟩ = false := by simpa using b3
                have kown := ownsRow_setCell_other hownc (a := ⟨wa.heap.size, 1, none⟩) hfara (.int .i64 z)
                have kbe := hide' (kbe'.out.setCell (p := ⟨wa.heap.size, 1, none⟩) (Nat.le_of_lt hBa) (.int .i64 z))
                have kPc := hPcc.set ⟨wa.heap.size, 1, none⟩ (.int .i64 z) (show wt.heap.size ≠ wa.heap.size by omega)
                have zg0 := (World.cell?_setCell_other (w := wc) (a := ⟨wa.heap.size, 1, none⟩) (b := ⟨wa.heap.size, 0, none⟩) (v := .int .i64 z) (h := by simp)).trans zf0
                have zg1 := World.cell?_setCell_same wc ⟨wa.heap.size, 1, none⟩ (.int .i64 z) zf1
                have hszw : wc.heap.size ≤ (wc.setCell ⟨wa.heap.size, 1, none⟩ (.int .i64 z)).heap.size := by simp
                clear b0 b1 b2 b3 hownc kbe' hPcc zf0 zf1 zf2 HF1 HF2 HF3 HD1 HDD HZO hfara
                generalize wc.setCell ⟨wa.heap.size, 1, none⟩ (.int .i64 z) = wy at *
                have hfar : v.ownBlock ≠ some w2.heap.size := fun h => by have := (kown.lt _ h).1; omega
                have hfarg : v.ownBlock ≠ some wt.heap.size := fun h => by have := (kown.lt _ h).1; omega
                go_wp2_with (at_builtin; go_must (refine wpList_append_own_at _ rfl _ _ 23 rfl w4.heap.size 35 i0 _ 2 24 Tryz.underlying23 hi hz0 hz1 hz2 rfl (by decide) _ _ _ rfl (kown.alloc _) ⟨wy.heap.size, 0, none⟩ 1 1 [.string k, .int .i64 z] rfl rfl ?b1 ?b2 ?b3 ?b4 ?b5 ?_))
                try (case b1 => (intro j u hu; exact cells_new' wy _ _ j u hu rfl))
                case b2 => first | (intro u hu; simp at hu; rcases hu with rfl | rfl <;> rfl) | exact ⟨rfl, rfl⟩
                case b3 => have := HDL.out; unfold maxLen; omega
                case b4 => have := HDL.out; omega
                case b5 => simp; omega
                intro v' w6 hn6 hg6 _ hloc
                have kbl := hg6.block w2.heap.size (by simp; omega) (fun e => hfar e.symm)
                have kbg := hg6.block wt.heap.size (by simp; omega) (fun e => hfarg e.symm)
                have hPc6 := ((kPc.below ((Below.refl _ _).alloc (Nat.le_refl _) (.cells #[.string k, .int .i64 z] 35))).block kbg)
                have j0 := (World.cell?_of_block (a := ⟨w2.heap.size, 0, none⟩) kbl).trans (cell_alloc k0)
                have j1 := (World.cell?_of_block (a := ⟨w2.heap.size, 1, none⟩) kbl).trans (cell_alloc k1)
                have j2 := (World.cell?_of_block (a := ⟨w2.heap.size, 2, none⟩) kbl).trans (cell_alloc k2)
                have j3 : w6.frozen? ⟨w2.heap.size, 1, none⟩ = false := (World.frozen?_of_block (a := ⟨w2.heap.size, 1, none⟩) kbl).trans ((((Below.refl _ _).alloc (Nat.le_refl _) _).frozen (p := ⟨w2.heap.size, 1, none⟩) (cell_lt k1)).trans k3)
                have hfar6 := far_new40 hfar (show w2.heap.size < wy.heap.size + 1 by omega) hloc
                have hb6 := (kbe.out.alloc kbe.out.size (.cells #[.string k, .int .i64 z] 35)).grown hg6 (by have := kbe.out.size; simp; omega) (fun k hk => Nat.le_trans (by omega) (kown.lt k hk).1)
                obtain ⟨g6, cap6, rfl⟩ : ∃ g6 cap6, v' = .slice (some ⟨g6, 0, none⟩) (done.length + 1) cap6 := by
                  rcases hn6.2 with ⟨_, h0⟩ | ⟨g6, cap6, cur, e6, _⟩
                  · cases h0
                  · exact ⟨g6, cap6, e6⟩
                have hlt6 : w4.heap.size ≤ w6.heap.size := by have := hg6.size; simp at this; omega
                have l1 := World.cell?_setCell_same w6 ⟨w2.heap.size, 1, none⟩ (.slice (some ⟨g6, 0, none⟩) (done.length + 1) cap6) j1
                have l0 := (World.cell?_setCell_other (w := w6) (a := ⟨w2.heap.size, 1, none⟩) (b := ⟨w2.heap.size, 0, none⟩) (v := .slice (some ⟨g6, 0, none⟩) (done.length + 1) cap6) (h := by simp)).trans j0
                have l2 := (World.cell?_setCell_other (w := w6) (a := ⟨w2.heap.size, 1, none⟩) (b := ⟨w2.heap.size, 2, none⟩) (v := .slice (some ⟨g6, 0, none⟩) (done.length + 1) cap6) (h := by simp)).trans j2
                have l3 : (w6.setCell ⟨w2.heap.size, 1, none⟩ (.slice (some ⟨g6, 0, none⟩) (done.length + 1) cap6)).frozen? ⟨w2.heap.size, 1, none⟩ = false := by simpa using j3
                have l4 := ownsRow_setCell_other hn6 (a := ⟨w2.heap.size, 1, none⟩) hfar6 (.slice (some ⟨g6, 0, none⟩) (done.length + 1) cap6)
                have hb7 := hb6.setCell (p := ⟨w2.heap.size, 1, none⟩) (Nat.le_refl _) (.slice (some ⟨g6, 0, none⟩) (done.length + 1) cap6)
                have hPc7 := hPc6.set ⟨w2.heap.size, 1, none⟩ (.slice (some ⟨g6, 0, none⟩) (done.length + 1) cap6) (show wt.heap.size ≠ w2.heap.size by omega)
                have hlt7 : w4.heap.size ≤ (w6.setCell ⟨w2.heap.size, 1, none⟩ (.slice (some ⟨g6, 0, none⟩) (done.length + 1) cap6)).heap.size := by simp; omega
                have hfc : fcells (done ++ [(⟨k, z⟩ : F)]) = fcells done ++ [.string k, .int .i64 z] := by simp [fcells]
                have hll : (done ++ [(⟨k, z⟩ : F)]).length = done.length + 1 := by simp
                have HFC := hide' hfc
                have HLL := hide' hll
                clear hloc kbl kbg hPc6 kPc hg6 hn6 hb6 kown k0 k1 k2 k3 hfc hll
                go_wp2_with fail
                go_roundw
                case rel => exact ⟨i + 1, done ++ [(⟨k, z⟩ : F)], _, by go_num, by omega, by rw [HLL.out, HDL.out], l0, l1, l2, l3, by rw [HFC.out, HLL.out]; exact l4, hb7, hPc7, hlt7, hrem.out⟩
                case measure => simp [intOf]; omega
              · clear hz
                have HZN := hide' (HZ.out.elim (fun h => (nomatch h.2)) (fun h => h.1) : ∀ v, Lib.atoiAll r.data.toList ≠ .ok v)
                have hrem := hide' (show P.map (fun p => parseW p.data.toList) = (done ++ [⟨k, 0⟩]) ++ (P.drop (i + 1)).map (fun p => parseW p.data.toList) by
                  rw [HD1.out, HF2.out rfl HZN.out]; simp)
                obtain ⟨wy, rfl⟩ : ∃ x : World, x = wc := ⟨_, rfl⟩
                have k0 := b0
                have k1 := b1
                have k2 := b2
                have k3 := b3
                have kown := hownc
                have kbe := kbe'
                have kPc := hPcc
                clear b0 b1 b2 b3 hownc kbe' hPcc HZN HF1 HF2 HF3 HD1 HZ HDD hfara
                have hfar : v.ownBlock ≠ some w2.heap.size := fun h => by have := (kown.lt _ h).1; omega
                have hfarg : v.ownBlock ≠ some wt.heap.size := fun h => by have := (kown.lt _ h).1; omega
                go_wp2_with (at_builtin; go_must (refine wpList_append_own_at _ rfl _ _ 23 rfl w4.heap.size 35 i0 _ 2 24 Tryz.underlying23 hi hz0 hz1 hz2 rfl (by decide) _ _ _ rfl (kown.alloc _) ⟨wy.heap.size, 0, none⟩ 1 1 [.string k, .int .i64 0] rfl rfl ?c1 ?c2 ?c3 ?c4 ?c5 ?_))
                try (case c1 => (intro j u hu; exact cells_new' wy _ _ j u hu rfl))
                case c2 => first | (intro u hu; simp at hu; rcases hu with rfl | rfl <;> rfl) | exact ⟨rfl, rfl⟩
                case c3 => have := HDL.out; unfold maxLen; omega
                case c4 => have := HDL.out; omega
                case c5 => simp; omega
                intro v' w6 hn6 hg6 _ hloc
                have kbl := hg6.block w2.heap.size (by simp; omega) (fun e => hfar e.symm)
                have kbg := hg6.block wt.heap.size (by simp; omega) (fun e => hfarg e.symm)
                have hPc6 := ((kPc.below ((Below.refl _ _).alloc (Nat.le_refl _) (.cells #[.string k, .int .i64 0] 35))).block kbg)
                have j0 := (World.cell?_of_block (a := ⟨w2.heap.size, 0, none⟩) kbl).trans (cell_alloc k0)
                have j1 := (World.cell?_of_block (a := ⟨w2.heap.size, 1, none⟩) kbl).trans (cell_alloc k1)
                have j2 := (World.cell?_of_block (a := ⟨w2.heap.size, 2, none⟩) kbl).trans (cell_alloc k2)
                have j3 : w6.frozen? ⟨w2.heap.size, 1, none⟩ = false := (World.frozen?_of_block (a := ⟨w2.heap.size, 1, none⟩) kbl).trans ((((Below.refl _ _).alloc (Nat.le_refl _) _).frozen (p := ⟨w2.heap.size, 1, none⟩) (cell_lt k1)).trans k3)
                have hfar6 := far_new40 hfar (show w2.heap.size < wy.heap.size + 1 by omega) hloc
                have hb6 := (kbe.out.alloc kbe.out.size (.cells #[.string k, .int .i64 0] 35)).grown hg6 (by have := kbe.out.size; simp; omega) (fun k hk => Nat.le_trans (by omega) (kown.lt k hk).1)
                obtain ⟨g6, cap6, rfl⟩ : ∃ g6 cap6, v' = .slice (some ⟨g6, 0, none⟩) (done.length + 1) cap6 := by
                  rcases hn6.2 with ⟨_, h0⟩ | ⟨g6, cap6, cur, e6, _⟩
                  · cases h0
                  · exact ⟨g6, cap6, e6⟩
                have hlt6 : w4.heap.size ≤ w6.heap.size := by have := hg6.size; simp at this; omega
                have l1 := World.cell?_setCell_same w6 ⟨w2.heap.size, 1, none⟩ (.slice (some ⟨g6, 0, none⟩) (done.length + 1) cap6) j1
                have l0 := (World.cell?_setCell_other (w := w6) (a := ⟨w2.heap.size, 1, none⟩) (b := ⟨w2.heap.size, 0, none⟩) (v := .slice (some ⟨g6, 0, none⟩) (done.length + 1) cap6) (h := by simp)).trans j0
                have l2 := (World.cell?_setCell_other (w := w6) (a := ⟨w2.heap.size, 1, none⟩) (b := ⟨w2.heap.size, 2, none⟩) (v := .slice (some ⟨g6, 0, none⟩) (done.length + 1) cap6) (h := by simp)).trans j2
                have l3 : (w6.setCell ⟨w2.heap.size, 1, none⟩ (.slice (some ⟨g6, 0, none⟩) (done.length + 1) cap6)).frozen? ⟨w2.heap.size, 1, none⟩ = false := by simpa using j3
                have l4 := ownsRow_setCell_other hn6 (a := ⟨w2.heap.size, 1, none⟩) hfar6 (.slice (some ⟨g6, 0, none⟩) (done.length + 1) cap6)
                have hb7 := hb6.setCell (p := ⟨w2.heap.size, 1, none⟩) (Nat.le_refl _) (.slice (some ⟨g6, 0, none⟩) (done.length + 1) cap6)
                have hPc7 := hPc6.set ⟨w2.heap.size, 1, none⟩ (.slice (some ⟨g6, 0, none⟩) (done.length + 1) cap6) (show wt.heap.size ≠ w2.heap.size by omega)
                have hlt7 : w4.heap.size ≤ (w6.setCell ⟨w2.heap.size, 1, none⟩ (.slice (some ⟨g6, 0, none⟩) (done.length + 1) cap6)).heap.size := by simp; omega
                have hfc : fcells (done ++ [(⟨k, 0⟩ : F)]) = fcells done ++ [.string k, .int .i64 0] := by simp [fcells]
                have hll : (done ++ [(⟨k, 0⟩ : F)]).length = done.length + 1 := by simp
                have HFC := hide' hfc
                have HLL := hide' hll
                clear hloc kbl kbg hPc6 kPc hg6 hn6 hb6 kown k0 k1 k2 k3 hfc hll
                go_wp2_with fail
                go_roundw
                case rel => exact ⟨i + 1, done ++ [(⟨k, 0⟩ : F)], _, by go_num, by omega, by rw [HLL.out, HDL.out], l0, l1, l2, l3, by rw [HFC.out, HLL.out]; exact l4, hb7, hPc7, hlt7, hrem.out⟩
                case measure => simp [intOf]; omega
          · have hd : decide ((i : Int) < (P.length : Int)) = false := decide_eq_false (by omega)
            have HDF := hide' (show done = (if ib.data.toList = [] then [] else (Lib.split (Lib.trimSuffix ib.data.toList [32]) [32, 44, 32]).map parseW) by
              rw [← HDD.out, hD.out, List.drop_eq_nil_of_le (by omega)]; simp)
            clear hD HDD
            go_wp2_with fail
            go_meet
            exact ⟨done, v, w4.heap.size, by omega, HDF, by have := HDL.out; omega, c0, c1, c2, hown, hnx⟩
      · have h0 : ib.data.toList = [] := by
          rw [Lib.toList_data] at hin
          exact List.isEmpty_iff.1 hin
        have hin' : (!ib.toList.isEmpty) = false := by rw [hin]; rfl
        have HD0 := hide' (show ([] : List F) = (if ib.data.toList = [] then [] else (Lib.split (Lib.trimSuffix ib.data.toList [32]) [32, 44, 32]).map parseW) by rw [if_pos h0])
        clear h0 HSP
        go_wp2_with fail
        go_meet
        exact ⟨[], _, w2.heap.size, Nat.le_refl _, HD0, by simp, e0, e1, e2, World.ownsRow_nil _ _ _ _, hB3⟩
    case rest =>
      obtain ⟨done, v, base, hbase, hD, hdl, c0, c1, c2, hown, hnx⟩ := hcut
      have hfw : v.ownBlock ≠ some w.heap.size := fun h => by have := (hown.lt _ h).1; omega
      have hFS := FSl.own hown
      obtain ⟨A9, cap9, rfl⟩ : ∃ A cap, v = .slice A done.length cap := by
        obtain ⟨A9, cap9, e9, _⟩ := hFS
        exact ⟨A9, cap9, e9⟩
      have hGV : GV wc (.agg #[.string nm, .slice A9 done.length cap9, .string res]) ⟨nm, done, res⟩ := ⟨_, rfl, hFS⟩
      have hbw := HB2.out.trans (hnx.mono HB2.out.size)
      have HTT := hide' (Text9_any ⟨nm, done, res⟩ _ wc (HT wc hbw).out hGV (by show nm.size ≤ _; omega))
      have HPP := hide' (show progS s.data.toList = some ⟨nm, done, res⟩ by rw [HP.out, hD.out]; rfl)
      have u0 := (hnx.cell (p := ⟨w.heap.size, 0, none⟩) hRb2).trans r0
      have u1 := (hnx.cell (p := ⟨w.heap.size, 1, none⟩) hRb2).trans r1
      have u2 := (hnx.cell (p := ⟨w.heap.size, 2, none⟩) hRb2).trans r2
      have v0 := (hnx.frozen (p := ⟨w.heap.size, 0, none⟩) hRb2).trans s0
      have v1 := (hnx.frozen (p := ⟨w.heap.size, 1, none⟩) hRb2).trans s1
      have v2 := (hnx.frozen (p := ⟨w.heap.size, 2, none⟩) hRb2).trans s2
      have HBW := hide' hbw
      clear hD hFS hGV hbw HP HPD HTB HSZ HSP r0 r1 r2 s0 s1 s2
      go_wp2_with fail
      refine HTT.out.mono ?_
      rintro e w5 ⟨hTE, hb5⟩
      have hown5 := ownsRow_below hown hb5
      have q0 := (hb5.cell (cell_lt u0)).trans u0
      have q1 := (hb5.cell (cell_lt u1)).trans u1
      have q2 := (hb5.cell (cell_lt u2)).trans u2
      have p0 := (hb5.frozen (p := ⟨w.heap.size, 0, none⟩) (cell_lt u0)).trans v0
      have p1 := (hb5.frozen (p := ⟨w.heap.size, 1, none⟩) (cell_lt u1)).trans v1
      have p2 := (hb5.frozen (p := ⟨w.heap.size, 2, none⟩) (cell_lt u2)).trans v2
      have d0 := (hb5.cell (cell_lt c0)).trans c0
      have d1 := (hb5.cell (cell_lt c1)).trans c1
      have d2 := (hb5.cell (cell_lt c2)).trans c2
      have HB5 := hide' (HBW.out.trans (hb5.mono HBW.out.size))
      clear HTT u0 u1 u2 v0 v1 v2 hb5 hown c0 c1 c2 hnx HT HBW
      rcases hTE with ⟨hno, rfl⟩ | ⟨hyes, rfl⟩
      · have hp := hide' (show parseR (progS s.data.toList) s.data.toList = none by rw [HPP.out]; unfold parseR; simp only; rw [if_neg (fun h => by rw [hno] at h; cases h.1)])
        clear hno HPP
        have hS := set3 (a := .string ⟨#[]⟩) (b := .slice none 0 0) (c := .string ⟨#[]⟩) q0 q1 q2
        have hB := (((HB5.out.setCell (p := ⟨w.heap.size, 0, none⟩) (Nat.le_refl _) (.string ⟨#[]⟩)).setCell (p := ⟨w.heap.size, 1, none⟩) (Nat.le_refl _) (.slice none 0 0)).setCell (p := ⟨w.heap.size, 2, none⟩) (Nat.le_refl _) (.string ⟨#[]⟩))
        obtain ⟨t0, t1, t2⟩ := hS
        go_wp2_with fail
        generalize ((w5.setCell ⟨w.heap.size, 0, none⟩ (.string ⟨#[]⟩)).setCell ⟨w.heap.size, 1, none⟩ (.slice none 0 0)).setCell ⟨w.heap.size, 2, none⟩ (.string ⟨#[]⟩) = wz at *
        exact bodyPost_ret (v := .tuple #[.agg #[.string ⟨#[]⟩, .slice none 0 0, .string ⟨#[]⟩], .int .i64 3]) (by simp [results, Tryz.results6, go_sem, t0, t1, t2]) rfl (by rw [hp.out]; exact ⟨_, rfl, ⟨_, rfl, FSl.nil _⟩, hB⟩)
      · obtain ⟨tx, htx⟩ : ∃ x : ByteArray, x = ⟨(textL ⟨nm, done, res⟩).toArray⟩ := ⟨_, rfl⟩
        rw [← htx]
        cases hq : (tx.toList == s.toList)
        · have hp := hide' (show parseR (progS s.data.toList) s.data.toList = none by
            rw [HPP.out]; unfold parseR; simp only; rw [if_neg (fun h => by
              rw [beq_eq_false_iff_ne, htx, Lib.toList_data, Lib.toList_data] at hq
              exact hq h.2)])
          have hq' : (tx.toList != s.toList) = true := by simp only [bne, hq]; rfl
          clear hyes htx HPP
          have hS := set3 (a := .string ⟨#[]⟩) (b := .slice none 0 0) (c := .string ⟨#[]⟩) q0 q1 q2
          have hB := (((HB5.out.setCell (p := ⟨w.heap.size, 0, none⟩) (Nat.le_refl _) (.string ⟨#[]⟩)).setCell (p := ⟨w.heap.size, 1, none⟩) (Nat.le_refl _) (.slice none 0 0)).setCell (p := ⟨w.heap.size, 2, none⟩) (Nat.le_refl _) (.string ⟨#[]⟩))
          obtain ⟨t0, t1, t2⟩ := hS
          go_wp2_with fail
          generalize ((w5.setCell ⟨w.heap.size, 0, none⟩ (.string ⟨#[]⟩)).setCell ⟨w.heap.size, 1, none⟩ (.slice none 0 0)).setCell ⟨w.heap.size, 2, none⟩ (.string ⟨#[]⟩) = wz at *
          exact bodyPost_ret (v := .tuple #[.agg #[.string ⟨#[]⟩, .slice none 0 0, .string ⟨#[]⟩], .int .i64 3]) (by simp [results, Tryz.results6, go_sem, t0, t1, t2]) rfl (by rw [hp.out]; exact ⟨_, rfl, ⟨_, rfl, FSl.nil _⟩, hB⟩)
        · have hp := hide' (show parseR (progS s.data.toList) s.data.toList = some ⟨nm, done, res⟩ by
            rw [HPP.out]; unfold parseR; simp only; rw [if_pos ⟨hyes, by
              rw [beq_iff_eq, htx, Lib.toList_data, Lib.toList_data] at hq
              exact hq⟩])
          have hq' : (tx.toList != s.toList) = false := by simp only [bne, hq]; rfl
          clear hyes htx HPP
          have hS := set3 (a := .string nm) (b := .slice A9 done.length cap9) (c := .string res) q0 q1 q2
          have hB := (((HB5.out.setCell (p := ⟨w.heap.size, 0, none⟩) (Nat.le_refl _) (.string nm)).setCell (p := ⟨w.heap.size, 1, none⟩) (Nat.le_refl _) (.slice A9 done.length cap9)).setCell (p := ⟨w.heap.size, 2, none⟩) (Nat.le_refl _) (.string res))
          have hO := ownsRow_setCell_other (ownsRow_setCell_other (ownsRow_setCell_other hown5 (a := ⟨w.heap.size, 0, none⟩) hfw (.string nm)) (a := ⟨w.heap.size, 1, none⟩) hfw (.slice A9 done.length cap9)) (a := ⟨w.heap.size, 2, none⟩) hfw (.string res)
          obtain ⟨t0, t1, t2⟩ := hS
          go_wp2_with fail
          generalize ((w5.setCell ⟨w.heap.size, 0, none⟩ (.string nm)).setCell ⟨w.heap.size, 1, none⟩ (.slice A9 done.length cap9)).setCell ⟨w.heap.size, 2, none⟩ (.string res) = wz at *
          exact bodyPost_ret (v := .tuple #[.agg #[.string nm, .slice A9 done.length cap9, .string res], .int .i64 0]) (by simp [results, Tryz.results6, go_sem, t0, t1, t2]) rfl (by rw [hp.out]; exact ⟨_, rfl, ⟨_, rfl, FSl.own hO⟩, hB⟩)

end Go.Proofs.YtdmdfokkibijjaaGreatDoor
