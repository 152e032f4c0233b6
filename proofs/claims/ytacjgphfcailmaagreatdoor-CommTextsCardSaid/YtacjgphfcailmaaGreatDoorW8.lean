/-
  The walks of words, names and spaces of the reference of layer 1.
-/
import Derived.Test.YtacjgphfcailmaaGreatDoorW5
namespace Go.Proofs.YtacjgphfcailmaaGreatDoor
open Go.RowKit
open Tok

theorem inn_of_let (c : Int) (h : letB c = true) : innB c = true := by unfold innB; rw [h]; rfl
theorem isWord_cons (c : UInt8) (r : List UInt8) : isWord (c :: r) = (isLet c && decide (run isInn (c :: r) = r.length + 1)) := by
  unfold isWord wordLen
  cases hc : isLet c
  · simp [hc]
  · have h2 : isInn c = true := inn_of_let _ hc
    simp [run, h2, hc]

/-- strings in memory -/
def strs (l : List (List UInt8)) : List Value := l.map fun x => .string ⟨x.toArray⟩
theorem strs_at (l : List (List UInt8)) (i : Nat) (h : i < l.length) : (strs l)[i]? = some (.string ⟨(l[i]).toArray⟩) := by
  simp [strs, h]
theorem own_cell {w : World} {base : Nat} {e : TypeId} {v : Value} {n : Nat} {xs : List Value} (h : w.ownsRow base e 1 v n xs) (hn : 0 < n) :
    ∃ g cap, v = .slice (some ⟨g, 0, none⟩) n cap ∧ n ≤ cap ∧ cap ≤ maxLen ∧ ∀ j, j < n → w.cell? ⟨g, j, none⟩ = xs[j]? := by
  rcases h.2 with ⟨_, h0⟩ | ⟨g, cap, cur, rfl, _, _, hnc, hm, _, _⟩
  · omega
  · exact ⟨g, cap, rfl, hnc, hm, fun j hj => h.cellAt j (by omega)⟩

def hasW (l : List (List UInt8)) (x : ByteArray) : Bool := l.contains x.data.toList

end Go.Proofs.YtacjgphfcailmaaGreatDoor

namespace Go.Proofs.YtacjgphfcailmaaGreatDoor
open Go.RowKit
open Tok

theorem cells_new' (w : World) (cs : Array Value) (t : TypeId) (j : Nat) (u : Value) (h : cs.toList[j]? = some u) {b : Nat} (hb : w.heap.size = b) : (w.alloc (.cells cs t)).cell? ((⟨b, 0, none⟩ : Addr).add j) = some u := by
  subst hb
  have e : (w.alloc (.cells cs t)).heap[w.heap.size]? = some (.cells cs t) := by
    show (w.heap.push (.cells cs t))[w.heap.size]? = _
    simp
  have hj : cs[j]? = some u := by simpa using h
  have ea : (⟨w.heap.size, 0, none⟩ : Addr).add j = ⟨w.heap.size, j, none⟩ := by
    unfold Addr.add
    by_cases h0 : j = 0
    · rw [if_pos h0, h0]
    · rw [if_neg h0]; simp
  rw [ea]
  unfold World.cell?
  simp only [e]
  simpa using hj

theorem strInfo : (Tryz.prog.info? 9).map (fun i => (i.zero, i.size, i.bytes)) = some (some (.string ⟨#[]⟩), 1, 16) := by kernel_rfl

theorem strs_snoc (l : List (List UInt8)) (b : ByteArray) : strs (l ++ [b.data.toList]) = strs l ++ [.string b] := by
  simp [strs]
theorem words_sp (cur r : List UInt8) (h : cur.isEmpty = true) : wordsGo cur (32 :: r) = wordsGo [] r := by
  simp [wordsGo, h]
theorem words_end (cur r : List UInt8) (h : cur.isEmpty = false) : wordsGo cur (32 :: r) = cur :: wordsGo [] r := by
  simp [wordsGo, h]
theorem words_more (cur r : List UInt8) (c : UInt8) (h : (c == 32) = false) : wordsGo cur (c :: r) = wordsGo (cur ++ [c]) r := by
  simp [wordsGo, h]
theorem u8_of (c : UInt8) (n : Nat) (_hn : n < 256) (h : (c.toNat : Int) = n) : c = UInt8.ofNat n := by
  have h2 : c.toNat = n := by omega
  rw [← h2]; simp
theorem ext_one (s : ByteArray) (k : Nat) (h : k < s.size) : (s.extract k (k + 1)).data.toList = [s[k]] := by
  rw [Lib.extract_data, drop_cons s k h]; simp
theorem app_data (a b : ByteArray) : (a ++ b).data.toList = a.data.toList ++ b.data.toList := by
  simp [ByteArray.data_append]

/-- what is left to be read of the words -/
def Words (s : ByteArray) (done : List (List UInt8)) (cur : ByteArray) (k : Nat) : Prop := wordsGo [] s.data.toList = done ++ wordsGo cur.data.toList (s.data.toList.drop k)

theorem isName_first (l : List UInt8) (h : isWord l = true) : kindOf l = if isName l then kName else kKey := by
  unfold kindOf isName
  rw [h]
  cases isKey l <;> rfl

end Go.Proofs.YtacjgphfcailmaaGreatDoor
