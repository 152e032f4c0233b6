/-
  A small machine that runs code of the program on values whose addresses are names: values, memory, and what a step looks at.
-/
import Derived.Test.YtacjgphfcailmaaGreatDoorProg
import Derived.WalkKit
import Derived.Below
namespace Go.Proofs.YtacjgphfcailmaaGreatDoor
namespace Ev
set_option linter.unusedVariables false

/-- values; a string is its length and its bytes as a number, the first byte lowest -/
inductive AV where
  | bool (b : Bool)
  | int (k : IntKind) (n : Int)
  | str (n v : Nat)
  | nilp
  | ptr (b o : Nat)
  | nils
  | slice (b o len : Nat) (opn : Bool) (c : Nat)
  | nilm
  | map (b : Nat)
  | fn (f : Nat) (cap : List AV)
  | nilf
  | iface (t : Nat) (v : AV)
  | nili
  | agg (cs : List AV)
  | tup (vs : List AV)
  | yld (b : Nat)

def undefA : AV := .tup []

/-- the bytes of a string -/
def strOf : Nat → Nat → List UInt8
  | 0, _ => []
  | n + 1, v => UInt8.ofNat (v % 256) :: strOf n (v / 256)
def numOf : List UInt8 → Nat
  | [] => 0
  | b :: l => b.toNat + 256 * numOf l

/-- finite maps from numbers -/
inductive T (α : Type) where
  | leaf
  | node (l : T α) (v : Option α) (r : T α)
noncomputable def T.get {α : Type} (t : T α) : Nat → Option α :=
  T.rec (motive := fun _ => Nat → Option α) (fun _ => none)
    (fun _ v _ il ir k => Nat.rec (motive := fun _ => Option α) v (fun k _ => Nat.rec (motive := fun _ => Option α) (il (k / 2)) (fun _ _ => ir (k / 2)) (k % 2)) k) t
noncomputable def T.set {α : Type} (x : α) (f : Nat) : T α → Nat → T α :=
  Nat.rec (motive := fun _ => T α → Nat → T α) (fun t _ => t)
    (fun _ ih t k => T.rec (motive := fun _ => T α)
      (Nat.rec (motive := fun _ => T α) (.node .leaf (some x) .leaf) (fun k _ => Nat.rec (motive := fun _ => T α) (.node (ih .leaf (k / 2)) none .leaf) (fun _ _ => .node .leaf none (ih .leaf (k / 2))) (k % 2)) k)
      (fun l v r _ _ => Nat.rec (motive := fun _ => T α) (.node l (some x) r) (fun k _ => Nat.rec (motive := fun _ => T α) (.node (ih l (k / 2)) v r) (fun _ _ => .node l v (ih r (k / 2))) (k % 2)) k) t) f

/-- temporaries: how many there are, and their values -/
structure Tm where
  n : Nat
  t : T AV
noncomputable def nth (m : Tm) (k : Nat) : AV := Tm.rec (motive := fun _ => AV) (fun _ t => Option.rec (motive := fun _ => AV) undefA (fun x => x) (T.get t k)) m
noncomputable def put (x : AV) (m : Tm) (k : Nat) : Tm := Tm.rec (motive := fun _ => Tm) (fun n t => Bool.rec (motive := fun _ => Tm) ⟨n, t⟩ ⟨n, T.set x 12 t k⟩ (Nat.blt k n)) m
/-- a number is worked out before it is handed on -/
noncomputable def forceN {α : Type} (k : Nat) (f : Nat → α) : α := Nat.rec (motive := fun _ => α) (f 0) (fun k _ => f (k + 1)) k
noncomputable def fromL (l : List AV) : Nat → T AV := List.rec (motive := fun _ => Nat → T AV) (fun _ => .leaf) (fun a _ ih k => T.set a 12 (ih (k + 1)) k) l

/-- blocks: a row of cells (its elements' type and size; 'opn': it may be longer than is known; 'ro': it is not written), a map, an iterator of a string; a range over a function (with the block of its deferred calls); a block that is no longer looked at -/
inductive AB where
  | row (e s : Nat) (cs : List AV) (opn ro : Bool)
  | mp (es : List (AV × AV × Nat)) (clock : Nat)
  | it (n v pos : Nat)
  | mi (m since : Nat) (seen : List Nat) (last : Nat)
  | lp (st : LoopState) (tm : Tm) (ps : List Nat) (asg body : Code) (pend : Option Code) (df : Nat)
  | df
  | dead

abbrev Heap := T AB
/-- what was looked at: written?, the block, and 0 for all of it, 1 for its form, o + 2 for the cell o -/
abbrev Log := List (Bool × Nat × Nat)

inductive R (α : Type) where
  | fail
  | ok (x : α) (n : Nat) (h : Heap) (l : Log)
def M (α : Type) := Nat → Heap → Log → R α

namespace M
def ret {α : Type} (x : α) : M α := fun n h l => .ok x n h l
def err {α : Type} : M α := fun _ _ _ => .fail
noncomputable def bnd {α β : Type} (m : M α) (f : α → M β) : M β := fun n h l => R.rec (motive := fun _ => R β) .fail f (m n h l)
def opt {α : Type} : Option α → M α
  | some x => ret x
  | none => err
def test (b : Bool) : M Unit := match b with
  | true => ret ()
  | false => err
end M

def logs (w : Bool) (b : Nat) : Nat → Nat → Log → Log
  | _, 0, l => (false, b, 1) :: l
  | o, n + 1, l => (w, b, o + 2) :: logs w b (o + 1) n l

noncomputable def getR (b o n : Nat) : M (List AV) := fun k h l =>
  match h.get b with
  | some (.row _ _ cs _ _) =>
    match ((cs.drop o).take n).length == n with
    | true => .ok ((cs.drop o).take n) k h (logs false b o n l)
    | false => .fail
  | _ => .fail

noncomputable def setR (b o : Nat) (vs : List AV) : M Unit := fun k h l =>
  match h.get b with
  | some (.row e s cs opn false) =>
    match Nat.ble (o + vs.length) cs.length && Nat.ble b 1000000000 with
    | true => .ok () k (T.set (.row e s (cs.take o ++ (vs ++ cs.drop (o + vs.length))) opn false) 40 h b) (logs true b o vs.length l)
    | false => .fail
  | _ => .fail

noncomputable def getB (b : Nat) : M AB := fun k h l =>
  match h.get b with
  | some x => .ok x k h ((false, b, 0) :: l)
  | none => .fail
noncomputable def setB (b : Nat) (x : AB) : M Unit := fun k h l =>
  match h.get b with
  | some _ => match Nat.ble b 1000000000 with
    | true => .ok () k (T.set x 40 h b) ((true, b, 0) :: l)
    | false => .fail
  | none => .fail
/-- the form of a row: its elements' type and size, how many cells are known, 'opn', 'ro' -/
noncomputable def form (b : Nat) : M (Nat × Nat × Nat × Bool × Bool) := fun k h l =>
  match h.get b with
  | some (.row e s cs opn false) => .ok (e, s, cs.length, opn, false) k h ((false, b, 1) :: l)
  | _ => .fail
noncomputable def alloc (x : AB) : M Nat := fun k h l =>
  match Nat.ble k 1000000000 with
  | true => match h.get k with
    | none => .ok k (k + 1) (T.set x 40 h k) l
    | some _ => .fail
  | false => .fail

/-- drops what was looked at twice or in blocks of one's own -/
def oldD (n n' : Nat) : Log → Log
  | [] => []
  | (w, b, o) :: d =>
    match Nat.ble n b && Nat.blt b n' with
    | true => oldD n n' d
    | false => match (oldD n n' d).any (fun e => (!w || e.1) && Nat.beq e.2.1 b && Nat.beq e.2.2 o) with
      | true => oldD n n' d
      | false => (w, b, o) :: oldD n n' d
def inner {α : Type} (m : M α) : M α := fun n h l =>
  match m n h [] with
  | .fail => .fail
  | .ok x n' h' d => .ok x n' h' (oldD n n' d ++ l)
/-- what an operation has looked at, and which blocks it has made -/
abbrev Mk := Log × Nat × Nat
def traced {α : Type} (m : M α) : M (α × Mk) := fun n h l =>
  match m n h [] with
  | .fail => .fail
  | .ok x n' h' d => .ok (x, d, n, n') n' h' (d ++ l)
end Ev
end Go.Proofs.YtacjgphfcailmaaGreatDoor
