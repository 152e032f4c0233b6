/-
  Runs of the operations on a map whose keys are (from, to, kind, 0).
-/
import Derived.Test.YtdajlkmagmmdiaaGreatDoorEvV
namespace Go.Proofs.YtdajlkmagmmdiaaGreatDoor
open Go.RowKit
namespace Ev
set_option linter.unusedVariables false
set_option linter.unusedSimpArgs false

/-- what the types must be: the map's, its key's, its element's -/
structure CKeyT (P : Program) (t kt it : Nat) (fs : Array Field) : Prop where
  map : P.underlying t = some (.map kt it)
  key : P.underlying kt = some (.struct fs)
  zero : ∀ w, (zeroValue it).run P w = .ok (.int .i64 0) w
  held : P.stoodInHeld kt = false
  same : ∀ (x y : Int) (n v : Nat) (x' y' : Int) (n' v' : Nat), sameF P fs.toList 0 [.int .i64 x, .int .i64 y, .str n v, .int .i64 0] [.int .i64 x', .int .i64 y', .str n' v', .int .i64 0] =
    some ((x == x') && ((y == y') && ((Nat.beq n n' && Nat.beq (v % 256 ^ n) (v' % 256 ^ n')) && true)))
  chk : ∀ (em : Bool) (x y : Int) (s : ByteArray) (w : World), (Instr.checkKey em 10000 kt (cKey x y s)).run P w = .ok () w

theorem str_of (s : ByteArray) : ∃ n v, s = ⟨(strOf n v).toArray⟩ := by
  have h : VR ρ0 (.str s.data.toList.length (numOf s.data.toList)) (.string s) := vr_str s
  simp only [VR, Value.string.injEq] at h
  exact ⟨_, _, h⟩
theorem same_cKey (x y : Int) (s : ByteArray) : Instr.sameBits 10000 (cKey x y s) (cKey x y s) = true := by
  show Instr.sameBits (9999 + 1) (.agg _) (.agg _) = true
  generalize 9999 = n
  simp [Instr.sameBits, beq_toListBytes]
section
variable {P : Program} {t kt it : Nat} {fs : Array Field} (C : CKeyT P t kt it fs)
include C
theorem equal_key (x y : Int) (s : ByteArray) (x' y' : Int) (s' : ByteArray) (w : World) : (Op.equal kt (cKey x y s) (cKey x' y' s')).run P w = .ok ((x == x') && ((y == y') && (s.toList == s'.toList))) w := by
  obtain ⟨n, v, rfl⟩ := str_of s
  obtain ⟨n', v', rfl⟩ := str_of s'
  have hf : P.fieldsOf kt = fs := by simp [Program.fieldsOf, C.key]
  have h1 : VRL ρ0 [.int .i64 x, .int .i64 y, .str n v, .int .i64 0] [.int .i64 x, .int .i64 y, .string ⟨(strOf n v).toArray⟩, .int .i64 0] := .cons (by simp only [VR]) (.cons (by simp only [VR]) (.cons (by simp only [VR]) (.cons (by simp only [VR]) VRL.nil)))
  have h2 : VRL ρ0 [.int .i64 x', .int .i64 y', .str n' v', .int .i64 0] [.int .i64 x', .int .i64 y', .string ⟨(strOf n' v').toArray⟩, .int .i64 0] := .cons (by simp only [VR]) (.cons (by simp only [VR]) (.cons (by simp only [VR]) (.cons (by simp only [VR]) VRL.nil)))
  have := eqF_sound (P := P) (ρ := ρ0) 9998 (X := #[.int .i64 x, .int .i64 y, .string ⟨(strOf n v).toArray⟩, .int .i64 0]) (Y := #[.int .i64 x', .int .i64 y', .string ⟨(strOf n' v').toArray⟩, .int .i64 0]) w h1 h2 (fun i z hz => by simpa using hz) (fun i z hz => by simpa using hz) (C.same x y n v x' y' n' v')
  show (Op.equalIn (9999 + 1) kt _ _).run P w = _
  unfold cKey
  rw [run_equalIn_agg w 9999 kt _ _ (by rw [hf]; exact C.key) C.held, hf]
  rw [this]
  simp only [ByteArray.toList_mk, str_beq, Bool.and_true]
theorem asking_none (x y : Int) (s : ByteArray) (w : World) : ∀ (L : List MapEntry) (i : Nat), (∀ e ∈ L, Other x y s e) → (Instr.findAsking kt (cKey x y s) L i).run P w = .ok none w
  | [], i, _ => by simp [Instr.findAsking]
  | e :: L, i, h => by
    obtain ⟨x', y', s', q, h1, h2, h3⟩ := h e List.mem_cons_self
    have ih := asking_none x y s w L (i + 1) fun e' he => h e' (List.mem_cons_of_mem _ he)
    simp [Instr.findAsking, h1, equal_key C, h3, ih]
theorem asking_some (x y : Int) (s : ByteArray) (w : World) : ∀ (L : List MapEntry) (i j : Nat) (e0 : MapEntry), (∀ e ∈ L.take j, Other x y s e) → L[j]? = some e0 → e0.key = cKey x y s → (Instr.findAsking kt (cKey x y s) L i).run P w = .ok (some (i + j, e0.val)) w
  | [], i, j, e0, _, h, _ => by simp at h
  | e :: L, i, 0, e0, _, h, hk => by
    simp at h
    subst h
    simp [Instr.findAsking, hk, equal_key C]
  | e :: L, i, j + 1, e0, h, hj, hk => by
    obtain ⟨x', y', s', q, h1, h2, h3⟩ := h e (by simp)
    have ih := asking_some x y s w L (i + 1) j e0 (fun e' he => h e' (by simp [he])) (by simpa using hj) hk
    simp [Instr.findAsking, h1, equal_key C, h3, ih]
    omega
theorem findKey_asking (k : Value) (L : List MapEntry) (w : World) : (Instr.findKey kt k L).run P w = (Instr.findAsking kt k L).run P w := by
  cases L with
  | nil => simp [Instr.findKey, run_underlying C.key, Instr.findNow, Instr.findAsking]
  | cons e L =>
    have : Instr.findNow (.struct fs) k (e :: L) 0 = none := by
      simp only [Instr.findNow]
      have : Instr.sameNow (.struct fs) k e.key = none := by unfold Instr.sameNow; rfl
      rw [this]
    simp [Instr.findKey, run_underlying C.key, this]
variable {w : World} {m c : Nat} {E : Array MapEntry} {x y : Int} {s : ByteArray} (hm : w.heap[m]? = some (.map E c))
include hm
theorem lookup_new (h : ∀ e ∈ E.toList, Other x y s e) : (Instr.lookup t (.map (some m)) (cKey x y s) false).run P w = .ok (.int .i64 0) w := by
  simp [Instr.lookup, run_underlying C.map, run_getObj hm (by intros; simp), C.chk, findKey_asking C, asking_none C x y s w E.toList 0 h, C.zero]
theorem lookup_old {j : Nat} {e0 : MapEntry} (h : ∀ e ∈ E.toList.take j, Other x y s e) (h0 : E.toList[j]? = some e0) (hk : e0.key = cKey x y s) : (Instr.lookup t (.map (some m)) (cKey x y s) false).run P w = .ok e0.val w := by
  simp [Instr.lookup, run_underlying C.map, run_getObj hm (by intros; simp), C.chk, findKey_asking C, asking_some C x y s w E.toList 0 j e0 h h0 hk]
theorem entry_new (h : ∀ e ∈ E.toList, Other x y s e) : (Instr.mapEntry t (.map (some m)) (cKey x y s)).run P w = .ok (.tuple #[.int .i64 0, .int .i64 c]) { w with heap := w.heap.setIfInBounds m (.map (E.push ⟨cKey x y s, .int .i64 0, c⟩) (c + 1)) } := by
  simp [Instr.mapEntry, run_underlying C.map, run_getObj hm (by intros; simp), C.chk, findKey_asking C, asking_none C x y s w E.toList 0 h, C.zero, run_setObj hm (by intros; simp), goInt]
theorem entry_old {j : Nat} {e0 : MapEntry} (h : ∀ e ∈ E.toList.take j, Other x y s e) (h0 : E.toList[j]? = some e0) (hk : e0.key = cKey x y s) : (Instr.mapEntry t (.map (some m)) (cKey x y s)).run P w = .ok (.tuple #[e0.val, .int .i64 e0.born]) { w with heap := w.heap.setIfInBounds m (.map (E.modify j fun e => { e with key := cKey x y s }) c) } := by
  have hj : E[j]? = some e0 := by simpa using h0
  simp [Instr.mapEntry, run_underlying C.map, run_getObj hm (by intros; simp), C.chk, findKey_asking C, asking_some C x y s w E.toList 0 j e0 h h0 hk, hj, hk, Instr.keyThatStays, same_cKey, run_setObj hm (by intros; simp), goInt]
end
theorem find_born {l : List MapEntry} {j : Nat} {e0 : MapEntry} (h : l[j]? = some e0) (hn : ∀ e ∈ l.take j, e.born ≠ e0.born) : l.findIdx? (fun e => ((e.born : Nat) : Int) == ((e0.born : Nat) : Int)) = some j := by
  induction l generalizing j with
  | nil => simp at h
  | cons a r ih =>
    cases j with
    | zero =>
      simp only [List.getElem?_cons_zero, Option.some.injEq] at h
      subst h
      simp [List.findIdx?_cons]
    | succ j =>
      simp only [List.getElem?_cons_succ] at h
      have hne : (((a.born : Nat) : Int) == ((e0.born : Nat) : Int)) = false := by
        simp only [beq_eq_false_iff_ne, ne_eq, Int.natCast_inj]
        exact hn a (by simp)
      rw [List.findIdx?_cons, hne]
      simp [ih h fun e he => hn e (by simp [he])]
section
variable {P : Program} {t : Nat} {w : World} {m c : Nat} {E : Array MapEntry} {x y : Int} {s : ByteArray} {val : Value}
theorem store_at {j : Nat} {e0 : MapEntry} (hm : w.heap[m]? = some (.map E c)) (h0 : E.toList[j]? = some e0) (hn : ∀ e ∈ E.toList.take j, e.born ≠ e0.born) :
    (Instr.entryStore t (.map (some m)) (.int .i64 e0.born) val).run P w = .ok () { w with heap := w.heap.setIfInBounds m (.map (E.modify j fun e => { e with val := val }) c) } := by
  have hf : E.findIdx? (fun e => ((e.born : Nat) : Int) == ((e0.born : Nat) : Int)) = some j := by
    have := find_born h0 hn
    cases E
    simpa using this
  simp [Instr.entryStore, run_getObj hm (by intros; simp), asInt, asIntOf, hf, run_setObj hm (by intros; simp)]
theorem push_modify (a : MapEntry) : (E.push a).modify E.size (fun e => { e with val := val }) = E.push { a with val := val } := by
  apply Array.ext'
  rw [Array.toList_modify, Array.toList_push, Array.toList_push, ← Array.length_toList]
  generalize E.toList = l
  induction l with
  | nil => rfl
  | cons b r ih => simp [List.modify_succ_cons, ih]
theorem push_take (a : MapEntry) : (E.push a).toList.take E.size = E.toList := by
  rw [Array.toList_push, ← Array.length_toList]
  simp
theorem push_at (a : MapEntry) : (E.push a).toList[E.size]? = some a := by
  rw [Array.toList_push, ← Array.length_toList]
  simp
theorem modify_take (f : MapEntry → MapEntry) (j : Nat) : (E.modify j f).toList.take j = E.toList.take j := by
  rw [Array.toList_modify]
  generalize E.toList = l
  induction l generalizing j with
  | nil => cases j <;> simp
  | cons b r ih => cases j with
    | zero => simp
    | succ j => simp [List.modify_succ_cons, ih]
theorem modify_at (f : MapEntry → MapEntry) {j : Nat} {e0 : MapEntry} (h : E.toList[j]? = some e0) : (E.modify j f).toList[j]? = some (f e0) := by
  rw [Array.toList_modify]
  simp [List.getElem?_modify, h]
theorem modify_twice (f g : MapEntry → MapEntry) (j : Nat) : (E.modify j f).modify j g = E.modify j (fun e => g (f e)) := by
  apply Array.ext'
  rw [Array.toList_modify, Array.toList_modify, Array.toList_modify]
  generalize E.toList = l
  induction l generalizing j with
  | nil => cases j <;> simp
  | cons b r ih => cases j with
    | zero => simp
    | succ j => simp [List.modify_succ_cons, ih]
end
end Ev
end Go.Proofs.YtdajlkmagmmdiaaGreatDoor
