/-
  The small machine: operations, regions, code and calls.
-/
import Derived.Test.YtclafjbbdhnhlaaGreatDoorEvA
namespace Go.Proofs.YtclafjbbdhnhlaaGreatDoor
namespace Ev
set_option linter.unusedVariables false

def ofScalar : Value → Option AV
  | .bool b => some (.bool b)
  | .int k n => some (.int k n)
  | .string s => some (.str s.data.toList.length (numOf s.data.toList))
  | .pointer none => some .nilp
  | .slice none 0 0 => some .nils
  | .map none => some .nilm
  | .nilFunc => some .nilf
  | .nilIface => some .nili
  | _ => none
def ofScalars : List Value → Option (List AV)
  | [] => some []
  | v :: l => match ofScalar v, ofScalars l with
    | some a, some aas => some (a :: aas)
    | _, _ => none
def ofValue : Value → Option AV
  | .agg cs => (ofScalars cs.toList).map .agg
  | v => ofScalar v

def nth : List AV → Nat → AV
  | [], _ => undefA
  | a :: l, k => match k with
    | 0 => a
    | k + 1 => nth l k
def put (x : AV) : List AV → Nat → List AV
  | [], _ => []
  | a :: l, k => match k with
    | 0 => x :: l
    | k + 1 => a :: put x l k

def evA (tm : List AV) : Operand → Option AV
  | .tmp t => some (nth tm t)
  | .const v => ofValue v
  | .global g => none
  | .func f => some (.fn f [])

def cellsA : AV → List AV
  | .agg cs => cs
  | v => [v]
def plainA : AV → Bool
  | .agg _ => false
  | .tup _ => false
  | _ => true
def aggT : TypeDesc → Bool
  | .struct _ => true
  | .array _ _ => true
  | _ => false
def rep (z : List AV) : Nat → List AV
  | 0 => []
  | n + 1 => z ++ rep z n
def bytesA : Nat → Nat → List AV
  | 0, _ => []
  | n + 1, v => .int .u8 (v % 256 : Nat) :: bytesA n (v / 256)

section
variable (P : Program)

def zeroA (t : TypeId) : Option AV := ((P.info? t).bind (·.zero)).bind ofValue
def sizeA (t : TypeId) : Option Nat := (P.info? t).map (·.size)

open M

def loadA (t b o : Nat) : M AV :=
  match sizeA P t, P.underlying t with
  | some s, some d =>
    match aggT d with
    | true => bnd (getR b o s) fun cs => ret (.agg cs)
    | false => bnd (getR b o 1) fun cs => match cs with
      | [v] => ret v
      | _ => err
  | _, _ => err
def storeA (t b o : Nat) (v : AV) : M AV :=
  match sizeA P t with
  | some s =>
    match Nat.beq (cellsA v).length s && (cellsA v).all plainA with
    | true => bnd (setR b o (cellsA v)) fun _ => ret undefA
    | false => err
  | none => err
def newA (t : Nat) (cs : List AV) (opn : Bool) : M Nat :=
  match sizeA P t with
  | some s => alloc (.row t s cs opn false)
  | none => err

def fillA (place : Nat → Option (Nat × Nat)) : List AV → List (Nat × AV) → Option (List AV)
  | cs, [] => some cs
  | cs, (i, v) :: rest => match place i with
    | none => none
    | some (off, size) =>
      match Nat.beq (cellsA v).length size && Nat.ble (off + (cellsA v).length) cs.length with
      | true => fillA place (cs.take off ++ (cellsA v ++ cs.drop (off + (cellsA v).length))) rest
      | false => none
def evParts (ev : Operand → Option AV) : List (Nat × Operand) → Option (List (Nat × AV))
  | [] => some []
  | (i, x) :: l => match ev x, evParts ev l with
    | some a, some aas => some ((i, a) :: aas)
    | _, _ => none
def evs (ev : Operand → Option AV) : List Operand → Option (List AV)
  | [] => some []
  | x :: l => match ev x, evs ev l with
    | some a, some aas => some (a :: aas)
    | _, _ => none

def buildA (t : Nat) (parts : List (Nat × AV)) : Option AV :=
  match zeroA P t, P.underlying t with
  | some z, some (.struct fs) =>
    match fs.toList.all fun f => (P.info? f.type).isSome with
    | true => (fillA (fun i => (fs.toList[i]?).bind fun f => (sizeA P f.type).map fun s => (f.offset, s)) (cellsA z) parts).map .agg
    | false => none
  | some z, some (.array _ e) => match sizeA P e with
    | some s => (fillA (fun i => some (i * s, s)) (cellsA z) parts).map .agg
    | none => none
  | _, _ => none
def buildSliceA (t len : Nat) (parts : List (Nat × AV)) : M AV :=
  match P.underlying t with
  | some (.slice e) => match sizeA P e, zeroA P e with
    | some s, some z =>
      match Nat.beq (cellsA z).length s && Nat.ble 1 s && Nat.ble len 10000 && Nat.ble s 1000 with
      | true => match fillA (fun i => some (i * s, s)) (rep (cellsA z) len) parts with
        | some cs => bnd (newA P e cs false) fun b => ret (.slice b 0 len false len)
        | none => err
      | false => err
    | _, _ => err
  | _ => err

/-- whether two values are the same, if that can be told: numbers, strings, bools, and pointers to rows -/
def sameA : AV → AV → Option Bool
  | .bool a, .bool b => some (a == b)
  | .int j a, .int k b => match j == k with
    | true => some (a == b)
    | false => none
  | .str n v, .str m w => some (Nat.beq n m && Nat.beq (v % 256 ^ n) (w % 256 ^ m))
  | _, _ => none
def keyT : TypeDesc → AV → Bool
  | .int _, .int _ _ => true
  | .string, .str _ _ => true
  | .bool, .bool _ => true
  | _, _ => false
/-- structs of scalars, a cell for each field, no blank -/
def sameF (P : Program) : List Field → Nat → List AV → List AV → Option Bool
  | [], _, [], [] => some true
  | f :: fs, o, a :: l, b :: m => match P.underlying f.type with
    | some d => match !(f.name == "_") && Nat.beq f.offset o && keyT d a && keyT d b with
      | true => match sameA a b, sameF P fs (o + 1) l m with
        | some x, some y => some (x && y)
        | _, _ => none
      | false => none
    | none => none
  | _, _, _, _ => none
def equalD (t : Nat) (d : TypeDesc) (x y : AV) : Option Bool :=
  match d, x, y with
  | .pointer _, .nilp, .nilp => some true
  | .pointer _, .nilp, .ptr _ _ => some false
  | .pointer _, .ptr _ _, .nilp => some false
  | .slice _, .nils, .nils => some true
  | .slice _, .nils, .slice .. => some false
  | .slice _, .slice .., .nils => some false
  | .map _ _, .nilm, .nilm => some true
  | .map _ _, .nilm, .map _ => some false
  | .map _ _, .map _, .nilm => some false
  | .func _ _ _, .nilf, .nilf => some true
  | .func _ _ _, .nilf, .fn .. => some false
  | .func _ _ _, .fn .., .nilf => some false
  | .interface _, .nili, .iface .. => some false
  | .interface _, .iface .., .nili => some false
  | .bool, .bool a, .bool b => some (a == b)
  | .struct fs, .agg a, .agg b => match !(P.stoodInHeld t) && !(P.eqGuardType P.depth t) with
    | true => sameF P fs.toList 0 a b
    | false => none
  | _, _, _ => none
def equalA (t : Nat) (x y : AV) : Option Bool :=
  match P.underlying t with
  | some d => equalD P t d x y
  | none => none

def lessL : List UInt8 → List UInt8 → Bool
  | _, [] => false
  | [], _ :: _ => true
  | a :: x, b :: y => match Nat.blt a.toNat b.toNat with
    | true => true
    | false => match Nat.beq a.toNat b.toNat with
      | true => lessL x y
      | false => false

def strOp (op : BinOp) (n v m w : Nat) : Option AV :=
  match op with
  | .add => match Nat.ble (n + m) 1000000000 with
    | true => some (.str (n + m) (v % 256 ^ n + w * 256 ^ n))
    | false => none
  | .eql => some (.bool (Nat.beq n m && Nat.beq (v % 256 ^ n) (w % 256 ^ m)))
  | .neq => some (.bool (!(Nat.beq n m && Nat.beq (v % 256 ^ n) (w % 256 ^ m))))
  | .lss => some (.bool (lessL (strOf n v) (strOf m w)))
  | .leq => some (.bool (!lessL (strOf m w) (strOf n v)))
  | .gtr => some (.bool (lessL (strOf m w) (strOf n v)))
  | .geq => some (.bool (!lessL (strOf n v) (strOf m w)))
  | _ => none

def intOp (op : BinOp) (k : IntKind) (a b : Int) : Option AV :=
  match op with
  | .add => some (.int k (k.wrap (a + b)))
  | .sub => some (.int k (k.wrap (a - b)))
  | .mul => some (.int k (k.wrap (a * b)))
  | .quo => match b == 0 with
    | true => none
    | false => some (.int k (k.wrap (a.tdiv b)))
  | .rem => match b == 0 with
    | true => none
    | false => some (.int k (a.tmod b))
  | .eql => some (.bool (a == b))
  | .neq => some (.bool (!(a == b)))
  | .lss => some (.bool (decide (a < b)))
  | .leq => some (.bool (decide (a ≤ b)))
  | .gtr => some (.bool (decide (b < a)))
  | .geq => some (.bool (decide (b ≤ a)))
  | .and => some (.int k (k.wrap ((BitVec.ofInt k.bits a &&& BitVec.ofInt k.bits b).toNat : Nat)))
  | .or => some (.int k (k.wrap ((BitVec.ofInt k.bits a ||| BitVec.ofInt k.bits b).toNat : Nat)))
  | .xor => some (.int k (k.wrap ((BitVec.ofInt k.bits a ^^^ BitVec.ofInt k.bits b).toNat : Nat)))
  | _ => none
def shiftOp (op : BinOp) (k : IntKind) (a b : Int) : Option AV :=
  match decide (b < 0) with
  | true => none
  | false => match op with
    | .shl => some (.int k (k.wrap (a * 2 ^ (min b.toNat k.bits))))
    | .shr => some (.int k (a.fdiv (2 ^ (min b.toNat k.bits))))
    | _ => none

/-- two addresses: the blocks must be rows that are looked at -/
def equalM (t : Nat) (x y : AV) : M Bool :=
  match x, y with
  | .ptr b o, .ptr c p => match P.underlying t with
    | some (.pointer e) => match sizeA P e with
      | some (_ + 1) => bnd (form b) fun _ => bnd (form c) fun _ => ret (Nat.beq b c && Nat.beq o p)
      | _ => err
    | _ => err
  | x, y => opt (equalA P t x y)
def binA (op : BinOp) (t : Nat) (x y : AV) : M AV :=
  match x, y with
  | .int j a, .int k b => match op with
    | .shl => opt (shiftOp op j a b)
    | .shr => opt (shiftOp op j a b)
    | _ => match decide (j = k) with
      | true => opt (intOp op j a b)
      | false => err
  | .str n v, .str m w => opt (strOp op n v m w)
  | x, y => match op with
    | .eql => bnd (equalM P t x y) fun b => ret (.bool b)
    | .neq => bnd (equalM P t x y) fun b => ret (.bool (!b))
    | _ => err

def unA (op : UnOp) (x : AV) : Option AV :=
  match op, x with
  | .neg, .int k n => some (.int k (k.wrap (0 - n)))
  | .not, .bool b => some (.bool (!b))
  | _, _ => none

def convA (src dst : Nat) (x : AV) : M AV :=
  match P.underlying src, P.underlying dst, x with
  | some _, some (.int k), .int _ n => ret (.int k (k.wrap n))
  | some _, some .string, .str n v => ret (.str n v)
  | some (.slice e), some .string, .nils => match P.underlying e with
    | some (.int .u8) => ret (.str 0 0)
    | _ => err
  | _, _, _ => err

/-- the place of an element, and of a field -/
def fieldA (t b o i : Nat) : Option AV :=
  match P.underlying t with
  | some (.struct fs) => match fs.toList[i]? with
    | some f => match sizeA P f.type with
      | some (_ + 1) => some (.ptr b (o + f.offset))
      | _ => none
    | none => none
  | _ => none
def partA (t : Nat) (cs : List AV) (off : Nat) : Option AV :=
  match P.underlying t, sizeA P t with
  | some d, some s => match aggT d with
    | true => some (.agg ((cs.drop off).take s))
    | false => cs[off]?
  | _, _ => none
def indexAddrA (t : Nat) (x ix : AV) : Option AV :=
  match ix with
  | .int _ i => match P.underlying t, x with
    | some (.slice e), .slice b o len opn c => match sizeA P e, decide (0 ≤ i) && decide (i < len) with
      | some s, true => some (.ptr b (o + i.toNat * s))
      | _, _ => none
    | some (.array len e), .ptr b o => match sizeA P e, decide (0 ≤ i) && decide (i < len) with
      | some s, true => some (.ptr b (o + i.toNat * s))
      | _, _ => none
    | _, _ => none
  | _ => none
def indexA (t : Nat) (x ix : AV) : Option AV :=
  match ix with
  | .int _ i => match P.underlying t, x with
    | some .string, .str n v => match decide (0 ≤ i) && decide (i < n) with
      | true => some (.int .u8 (v / 256 ^ i.toNat % 256 : Nat))
      | false => none
    | some (.array len e), .agg cs => match sizeA P e, decide (0 ≤ i) && decide (i < len) with
      | some s, true => partA P e cs (i.toNat * s)
      | _, _ => none
    | _, _ => none
  | _ => none

def boundA (d : Nat) : Option AV → Option Nat
  | none => some d
  | some (.int _ i) => match decide (0 ≤ i) with
    | true => some i.toNat
    | false => none
  | _ => none
def sliceA (t : Nat) (x : AV) (lo hi mx : Option AV) : Option AV :=
  match P.underlying t, x with
  | some .string, .str n v => match mx, boundA 0 lo, boundA n hi with
    | none, some l, some h => match Nat.ble l h && Nat.ble h n with
      | true => some (.str (h - l) (v / 256 ^ l))
      | false => none
    | _, _, _ => none
  | some (.slice e), .nils => match sizeA P e, boundA 0 lo, boundA 0 hi, boundA 0 mx with
    | some _, some 0, some 0, some 0 => match mx, hi with
      | some _, none => none
      | _, _ => some .nils
    | _, _, _, _ => none
  | some (.slice e), .slice b o len opn c => match sizeA P e, boundA 0 lo, boundA len hi with
    | some s, some l, some h =>
      match mx with
      | none =>
        match Nat.ble l h && (Nat.ble h len || (!opn && Nat.ble h c)) with
        | true => some (.slice b (o + l * s) (h - l) opn (match opn with | true => c + l | false => c - l))
        | false => none
      | some m => match boundA 0 (some m), hi with
        | some m, some _ => match Nat.ble l h && Nat.ble h m && (Nat.ble m len || (!opn && Nat.ble m c)) with
          | true => some (.slice b (o + l * s) (h - l) false (m - l))
          | false => none
        | _, _ => none
    | _, _, _ => none
  | some (.array n e), .ptr b o => match mx, sizeA P e, boundA 0 lo, boundA n hi with
    | none, some s, some l, some h => match Nat.ble l h && Nat.ble h n with
      | true => some (.slice b (o + l * s) (h - l) false (n - l))
      | false => none
    | _, _, _, _ => none
  | _, _ => none

def makeSliceA (t : Nat) (l c : AV) : M AV :=
  match P.underlying t, l, c with
  | some (.slice e), .int _ l, .int _ c => match sizeA P e, (P.info? e).map (·.bytes), zeroA P e with
    | some s, some by_, some z =>
      match decide (0 ≤ l) && decide (l ≤ c) && decide (c ≤ 100000) && Nat.ble by_ 10000 && Nat.beq (cellsA z).length s && Nat.ble 1 s with
      | true => bnd (newA P e (rep (cellsA z) c.toNat) false) fun b => ret (.slice b 0 l.toNat false c.toNat)
      | false => err
    | _, _, _ => err
  | _, _, _ => err

/-- the first cells of what is appended or copied -/
def firstA (size n : Nat) : AV → M (List AV)
  | .nils => ret []
  | .slice b o len opn c => match n with
    | 0 => ret []
    | n + 1 => getR b o ((n + 1) * size)
  | .str m v => match size with
    | 1 => ret (bytesA n v)
    | _ => err
  | _ => err
def lenA : AV → Option Nat
  | .nils => some 0
  | .slice b o len opn c => some len
  | .str n v => some n
  | _ => none

def sliceOrStr : TypeDesc → Bool
  | .slice _ => true
  | .string => true
  | _ => false
/-- cells are appended to a slice that has a row -/
def growA (e size n : Nat) (new : List AV) (b o len : Nat) (opn : Bool) (c : Nat) : M AV :=
  match Nat.ble len 1000000 with
  | false => err
  | true => bnd (form b) fun (e', s', known, bo, ro) =>
    match ro || !(Nat.beq s' size && Nat.beq e' e) with
    | true => err
    | false => match opn with
      | false => match Nat.ble (len + n) c with
        | true => bnd (setR b (o + len * size) new) fun _ => ret (.slice b o (len + n) false c)
        | false => bnd (firstA size len (.slice b o len opn c)) fun was => bnd (newA P e (was ++ new) true) fun b' => ret (.slice b' 0 (len + n) true 0)
      | true => match bo && Nat.beq o (c * size) with
        | false => err
        | true => match Nat.ble (o + (len + n) * size) known with
          | true => bnd (setR b (o + len * size) new) fun _ => ret (.slice b o (len + n) true c)
          | false => bnd (firstA size len (.slice b o len opn c)) fun was => bnd (setB b .dead) fun _ => bnd (newA P e (was ++ new) true) fun b' => ret (.slice b' 0 (len + n) true 0)
def appendA (ts : List Nat) (args : List AV) : M AV :=
  match ts, args with
  | [st, xt], [s, x] => match P.underlying st, P.underlying xt with
    | some (.slice e), some xd => match sizeA P e, (P.info? e).map (·.bytes), zeroA P e with
      | some size, some by_, some z =>
        match Nat.ble 1 size && Nat.ble by_ 10000 && Nat.beq (cellsA z).length size && (cellsA z).all plainA with
        | false => err
        | true => match xd, x with
          | .int _, .int .i64 l => match s, decide (1 ≤ l) && decide (l ≤ 100000) with
            | .nils, true => bnd (newA P e (rep (cellsA z) l.toNat) true) fun b => ret (.slice b 0 l.toNat true 0)
            | _, _ => err
          | .int _, _ => err
          | xd, x => match sliceOrStr xd, lenA x with
            | true, some n => bnd (firstA size n x) fun new =>
              match Nat.ble n 100000 && Nat.beq new.length (n * size) && new.all plainA with
              | false => err
              | true => match n with
                | 0 => match s with
                  | .nils => ret s
                  | .slice .. => ret s
                  | _ => err
                | n + 1 => match s with
                  | .nils => bnd (newA P e new true) fun b => ret (.slice b 0 (n + 1) true 0)
                  | .slice b o len opn c => growA P e size (n + 1) new b o len opn c
                  | _ => err
            | _, _ => err
      | _, _, _ => err
    | _, _ => err
  | _, _ => err

def copyA (ts : List Nat) (args : List AV) : M AV :=
  match ts, args with
  | dt :: _, [d, x] => match P.underlying dt with
    | some (.slice e) => match sizeA P e, lenA x, lenA d, d with
      | some size, some m, some n, .slice b o len opn c =>
        bnd (firstA size (min m n) x) fun new =>
          match new.all plainA && Nat.beq new.length (min m n * size) with
          | false => err
          | true => match min m n with
            | 0 => ret (.int .i64 0)
            | k + 1 => bnd (setR b o new) fun _ => ret (.int .i64 (k + 1 : Nat))
      | some size, some m, some n, .nils => ret (.int .i64 0)
      | _, _, _, _ => err
    | _ => err
  | _, _ => err

def clearA (ts : List Nat) (args : List AV) : M AV :=
  match ts, args with
  | t :: _, [x] => match P.underlying t, x with
    | some (.slice e), .nils => ret undefA
    | some (.slice e), .slice b o len opn c => match sizeA P e, zeroA P e with
      | some s, some z => match Nat.beq (cellsA z).length s && (cellsA z).all plainA && Nat.ble 1 s && Nat.ble len 100000 with
        | true => match len with
          | 0 => ret undefA
          | _ => bnd (setR b o (rep (cellsA z) len)) fun _ => ret undefA
        | false => err
      | _, _ => err
    | _, _ => err
  | _, _ => err
def lenOp (ts : List Nat) (args : List AV) : M AV :=
  match ts, args with
  | t :: _, [x] => match P.underlying t, x with
    | some .string, .str n v => ret (.int .i64 n)
    | some (.slice _), .nils => ret (.int .i64 0)
    | some (.slice _), .slice b o n opn c => ret (.int .i64 n)
    | some (.array n _), _ => ret (.int .i64 n)
    | some (.map _ _), .nilm => ret (.int .i64 0)
    | some (.map _ _), .map b => bnd (getB b) fun x => match x with
      | .mp es _ => ret (.int .i64 es.length)
      | _ => err
    | _, _ => err
  | _, _ => err
def capOp (ts : List Nat) (args : List AV) : M AV :=
  match ts, args with
  | t :: _, [x] => match P.underlying t, x with
    | some (.slice _), .nils => ret (.int .i64 0)
    | some (.slice _), .slice b o n false c => ret (.int .i64 c)
    | _, _ => err
  | _, _ => err
def minOp (mx : Bool) : List AV → Option AV
  | [.int j a, .int k b] => match decide (j = k) with
    | true => some (.int j (match mx with
      | true => match decide (a < b) with | true => b | false => a
      | false => match decide (b < a) with | true => b | false => a))
    | false => none
  | _ => none

/-- the place and the value of a key in a map -/
def findA (k : AV) : List (AV × AV × Nat) → Nat → Option (Option (Nat × AV))
  | [], _ => some none
  | (k', v, _) :: es, i => match sameA k k' with
    | some true => some (some (i, v))
    | some false => findA k es (i + 1)
    | none => none
def entriesA : AV → M (List (AV × AV × Nat) × Nat)
  | .nilm => ret ([], 0)
  | .map b => bnd (getB b) fun x => match x with
    | .mp es c => ret (es, c)
    | _ => err
  | _ => err
def lookupA (t : Nat) (x k : AV) (ok : Bool) : M AV :=
  match P.underlying t with
  | some (.map kt e) => match P.underlying kt, zeroA P e with
    | some kd, some z => match keyT kd k with
      | true => bnd (entriesA x) fun (es, _) => match findA k es 0 with
        | some (some (_, v)) => ret (match ok with | true => .tup [v, .bool true] | false => v)
        | some none => ret (match ok with | true => .tup [z, .bool false] | false => z)
        | none => err
      | false => err
    | _, _ => err
  | _ => err
def setAt {α : Type} (x : α) : List α → Nat → List α
  | [], _ => []
  | a :: l, k => match k with
    | 0 => x :: l
    | k + 1 => a :: setAt x l k
def updateA (t : Nat) (m k v : AV) : M AV :=
  match P.underlying t, m with
  | some (.map kt _), .map b => match P.underlying kt with
    | some kd => match keyT kd k with
      | true => bnd (getB b) fun x => match x with
        | .mp es c => match findA k es 0 with
          | some (some (i, _)) => match es[i]? with
            | some (k', _, born) => bnd (setB b (.mp (setAt (k, v, born) es i) c)) fun _ => ret undefA
            | none => err
          | some none => bnd (setB b (.mp (es ++ [(k, v, c)]) (c + 1))) fun _ => ret undefA
          | none => err
        | _ => err
      | false => err
    | none => err
  | _, _ => err
def deleteA (ts : List Nat) (args : List AV) : M AV :=
  match ts, args with
  | t :: _, [m, k] => match P.underlying t, m with
    | some (.map kt _), .map b => match P.underlying kt with
      | some kd => match keyT kd k with
        | true => bnd (getB b) fun x => match x with
          | .mp es c => match findA k es 0 with
            | some (some (i, _)) => bnd (setB b (.mp (es.take i ++ es.drop (i + 1)) c)) fun _ => ret (.tup [])
            | some none => bnd (setB b (.mp es c)) fun _ => ret (.tup [])
            | none => err
          | _ => err
        | false => err
      | none => err
    | _, _ => err
  | _, _ => err

inductive Ex where
  | normal
  | ret
  | exit (id : Nat)

/-- a function with a body -/
def fnOf (f : Nat) : Option (Func × Code) :=
  match P.funcs[f]? with
  | some fn => match fn.name == "runtime.NumGoroutine" with
    | true => none
    | false => match fn.body with
      | some c => some (fn, c)
      | none => none
  | none => none
abbrev Rec := Bool → Code → List AV → List Nat → M (Ex × List AV × List Nat)
def jumpOf : Ex → Option Code
  | .normal => none
  | .ret => some .ret
  | .exit id => some (.exit id)
def exOf : Option Code → Option Ex
  | none => some .normal
  | some .ret => some .ret
  | some (.exit id) => some (.exit id)
  | _ => none
def putAll : List AV → List Nat → List AV → List AV
  | tm, p :: ps, a :: l => putAll (put a tm p) ps l
  | tm, _, _ => tm
def readyS : LoopState → Bool
  | .ready => true
  | _ => false
def busyS : LoopState → Bool
  | .busy => true
  | _ => false
/-- a round of a range over a function -/
def yieldA (rec : Rec) (b : Nat) (args : List AV) : M AV :=
  bnd (getB b) fun x => match x with
  | .lp st tm ps asg body pend df =>
    match Nat.beq args.length ps.length with
    | false => err
    | true => bnd (rec true asg (putAll tm ps args) []) fun (e, tm1, ds) => match e, ds with
      | .normal, [] => bnd (getB b) fun y => match y with
        | .lp st tm' ps' asg' body' pend' df' => match readyS st with
          | false => err
          | true => bnd (setB b (.lp .busy tm' ps' asg' body' pend' df')) fun _ => bnd (rec true body tm1 []) fun (e, tm2, ds) => match ds with
            | [] => bnd (getB b) fun z => match z with
              | .lp st tm' ps' asg' body' pend' df' => match jumpOf e with
                | none => bnd (setB b (.lp .ready tm' ps' asg' body' none df')) fun _ => ret (.bool true)
                | some c => bnd (setB b (.lp .done tm' ps' asg' body' (some c) df')) fun _ => ret (.bool false)
              | _ => err
            | _ => err
        | _ => err
      | _, _ => err
  | _ => err
/-- the deferred calls of ranges over functions: there are none -/
def endA : List Nat → M Unit
  | [] => ret ()
  | d :: ds => bnd (getB d) fun x => match x with
    | .df => bnd (setB d .dead) fun _ => endA ds
    | _ => err
def resultA (tm : List AV) : List ResultVar → M (List AV)
  | [] => ret []
  | .tmp t :: l => bnd (resultA tm l) fun vs => ret (nth tm t :: vs)
  | .cell a t :: l => match nth tm a with
    | .ptr b o => bnd (loadA P t b o) fun v => bnd (resultA tm l) fun vs => ret (v :: vs)
    | _ => err
def oneA : List AV → AV
  | [v] => v
  | vs => .tup vs
def callA (rec : Rec) (f : Nat) (args : List AV) : M AV :=
  match fnOf P f with
  | some (fn, c) => inner (bnd (rec false c (args ++ List.replicate (fn.ntmps - args.length) undefA) []) fun (e, tm, ds) => match e with
    | .exit _ => err
    | _ => bnd (endA ds) fun _ => bnd (resultA P tm fn.results.toList) fun vs => ret (oneA vs))
  | none => err

def builtinA (b : Builtin) (ts : List Nat) (args : List AV) : M AV :=
  match b with
  | .append => appendA P ts args
  | .len => lenOp P ts args
  | .cap => capOp P ts args
  | .copy => copyA P ts args
  | .delete => deleteA P ts args
  | .clear => clearA P ts args
  | .min => opt (minOp false args)
  | .max => opt (minOp true args)
  | _ => err

def evO (ev : Operand → Option AV) : Option Operand → Option (Option AV)
  | none => some none
  | some x => (ev x).map some

def ifaceT : TypeDesc → Bool
  | .interface _ => true
  | _ => false

def evOp (rec : Rec) (ev : Operand → Option AV) (o : Op) : M AV :=
  match o with
  | .move x => opt (ev x)
  | .assign x => opt (ev x)
  | .pick c a b => match ev c with
    | some (.bool true) => opt (ev a)
    | some (.bool false) => opt (ev b)
    | _ => err
  | .alloc t => match zeroA P t with
    | some z => bnd (newA P t (cellsA z) false) fun b => ret (.ptr b 0)
    | none => err
  | .box t x => match ev x with
    | some v => match (cellsA v).all plainA with
      | true => bnd (newA P t (cellsA v) false) fun b => ret (.ptr b 0)
      | false => err
    | none => err
  | .build t ps => match evParts ev ps.toList with
    | some l => opt (buildA P t l)
    | none => err
  | .buildSlice t n ps => match evParts ev ps.toList with
    | some l => buildSliceA P t n l
    | none => err
  | .load t a => match ev a with
    | some (.ptr b o) => loadA P t b o
    | _ => err
  | .store t a x => match ev a, ev x with
    | some (.ptr b o), some v => storeA P t b o v
    | _, _ => err
  | .nilCheck x => match ev x with
    | some .nilp => err
    | some .nilf => err
    | some .nili => err
    | some v => ret v
    | none => err
  | .binOp op t x y _ => match ev x, ev y with
    | some a, some b => binA P op t a b
    | _, _ => err
  | .unOp op _ x => match ev x with
    | some a => opt (unA op a)
    | none => err
  | .convert s d x => match ev x with
    | some a => convA P s d a
    | none => err
  | .makeInterface t x => match ev x, P.underlying t with
    | some a, some d => match ifaceT d with
      | false => ret (.iface t a)
      | true => err
    | _, _ => err
  | .makeFunc (.func f) first cap => match first.toList, evs ev cap.toList with
    | [], some l => ret (.fn f l)
    | _, _ => err
  | .makeMap t none => bnd (alloc (.mp [] 0)) fun b => ret (.map b)
  | .makeMap t (some x) => match ev x, P.underlying t with
    | some (.int _ _), some (.map _ _) => bnd (alloc (.mp [] 0)) fun b => ret (.map b)
    | _, _ => err
  | .makeSlice t l c => match ev l, ev c with
    | some l, some c => makeSliceA P t l c
    | _, _ => err
  | .slice t x lo hi mx => match ev x, evO ev lo, evO ev hi, evO ev mx with
    | some x, some lo, some hi, some mx => opt (sliceA P t x lo hi mx)
    | _, _, _, _ => err
  | .fieldAddr t x i => match ev x with
    | some (.ptr b o) => opt (fieldA P t b o i)
    | _ => err
  | .field t x i => match ev x, P.underlying t with
    | some (.agg cs), some (.struct fs) => match fs.toList[i]? with
      | some f => opt (partA P f.type cs f.offset)
      | none => err
    | _, _ => err
  | .indexAddr t x i => match ev x, ev i with
    | some x, some i => opt (indexAddrA P t x i)
    | _, _ => err
  | .index t x i => match ev x, ev i with
    | some x, some i => opt (indexA P t x i)
    | _, _ => err
  | .lookup t x i ok => match ev x, ev i with
    | some x, some i => lookupA P t x i ok
    | _, _ => err
  | .mapUpdate t m k v => match ev m, ev k, ev v with
    | some m, some k, some v => updateA P t m k v
    | _, _, _ => err
  | .insert t m k v => match ev m, ev k, ev v with
    | some m, some k, some v => updateA P t m k v
    | _, _, _ => err
  | .extract x i => match ev x with
    | some (.tup vs) => opt (vs[i]?)
    | _ => err
  | .call ⟨.value f, aas, _⟩ => match ev f, evs ev aas.toList with
    | some (.fn f cap), some l => callA P rec f (l ++ cap)
    | some (.yld b), some l => yieldA rec b l
    | _, _ => err
  | .call ⟨.builtin b, aas, ts⟩ => match evs ev aas.toList with
    | some l => builtinA P b ts.toList l
    | none => err
  | _ => err

/-- the operations of a region, from first to last, each with what it has looked at -/
def wantedA (ops : Array Oper) (tm : List AV) (o : Oper) : Option Bool :=
  match o.guard with
  | none => some true
  | some (j, want) => match (ops[j]?).bind (·.dst) with
    | some t => match nth tm t with
      | .bool b => some (b == want)
      | .tup [] => some false
      | _ => none
    | none => none
def putA (tm : List AV) (d : Option Nat) (v : AV) : List AV :=
  match d with
  | none => tm
  | some d => put v tm d
def stepA (rec : Rec) (ops : Array Oper) (o : Oper) (tm : List AV) : M (List AV) :=
  match wantedA ops tm o with
  | some true => bnd (evOp P rec (evA tm) o.op) fun v => ret (putA tm o.dst v)
  | some false => ret (putA tm o.dst undefA)
  | none => err
def opsA (rec : Rec) (ops : Array Oper) : List Oper → List AV → M (List AV)
  | [], tm => ret tm
  | o :: l, tm => bnd (stepA P rec ops o tm) fun tm => opsA rec ops l tm

/-- which operations must stand ahead of one: a bit for each -/
def ancStep (acc : List Nat) (s : Nat) (e : Edge) : Nat :=
  match Region.binds .any e with
  | true => s ||| 2 ^ e.on ||| acc.getD e.on 0
  | false => s
def ancOf (acc : List Nat) (o : Oper) : Nat := o.after.toList.foldl (ancStep acc) 0
def ancs : List Oper → List Nat → List Nat
  | [], acc => acc
  | o :: l, acc => ancs l (acc ++ [ancOf acc o])
def loose (aas : List Nat) : Nat → List (Nat × Nat)
  | 0 => []
  | j + 1 => loose aas j ++ ((List.range j).filter fun i => !((aas.getD j 0).testBit i)).map fun i => (i, j)
/-- the pairs of operations that may change places -/
def pairsOf (ops : Array Oper) : List (Nat × Nat) := loose (ancs ops.toList []) ops.size
/-- what stands ahead has a lower number -/
def orderedB (ops : Array Oper) : Bool := (List.range ops.size).all fun j => match ops[j]? with
  | some o => o.after.toList.all fun e => !Region.binds .any e || Nat.blt e.on j
  | none => true
def apartAll (ops : Array Oper) : Bool :=
  Region.noSelect ops && orderedB ops && (pairsOf ops).all fun (i, j) => match ops[i]?, ops[j]? with
    | some x, some y => x.apart ops y
    | _, _ => false
def clash (x y : Mk) : Bool :=
  x.1.any fun e => (Nat.ble y.2.1 e.2.1 && Nat.blt e.2.1 y.2.2) || y.1.any fun g => (e.1 || g.1) && Nat.beq e.2.1 g.2.1 && (Nat.beq e.2.2 0 || Nat.beq g.2.2 0 || Nat.beq e.2.2 g.2.2)
def inside (x y : Mk) : Bool := y.1.any fun e => Nat.ble x.2.1 e.2.1 && Nat.blt e.2.1 x.2.2
def marksA (rec : Rec) (ops : Array Oper) : List Oper → List AV → List Mk → M (List AV × List Mk)
  | [], tm, ms => ret (tm, ms)
  | o :: l, tm, ms => bnd (traced (stepA P rec ops o tm)) fun (tm, mk) => marksA rec ops l tm (ms ++ [mk])
def formW (x : Mk) : Bool := x.1.any fun e => e.1 && Nat.beq e.2.2 1
def wrong (ops : Array Oper) (ms : List Mk) : Bool :=
  ms.any formW || (pairsOf ops).any fun (i, j) => match ms[i]?, ms[j]? with
    | some x, some y => clash x y || inside x y
    | _, _ => true
def drawA (rec : Rec) (ops : Array Oper) (tm : List AV) : M (List AV) :=
  match apartAll ops with
  | false => err
  | true => bnd (marksA P rec ops ops.toList tm []) fun (tm, ms) => match wrong ops ms with
    | true => err
    | false => ret tm

/-- a range over a function, outside of a round -/
def rangeA (rec : Rec) (g : Operand) (ps : Array Nat) (asg body : Code) (tm : List AV) (ds : List Nat) : M (Ex × List AV × List Nat) :=
  match evA tm g with
  | some (.fn f cap) => bnd (alloc .df) fun d => bnd (alloc (.lp .ready tm ps.toList asg body none d)) fun b =>
    bnd (callA P rec f (.yld b :: cap)) fun _ => bnd (getB b) fun x => match x with
    | .lp st tm' ps' asg' body' pend df' => match busyS st, exOf pend with
      | false, some e => bnd (setB b (.lp .exhausted tm' ps' asg' body' pend df')) fun _ => ret (e, tm, d :: ds)
      | _, _ => err
    | _ => err
  | _ => err

/-- code; the Bool: within a round of a range over a function -/
def evC : Nat → Rec
  | 0, _, _, _, _ => err
  | f + 1, r, c, tm, ds =>
    match c with
    | .skip => ret (.normal, tm, ds)
    | .label _ => ret (.normal, tm, ds)
    | .ret => ret (.ret, tm, ds)
    | .exit id => ret (.exit id, tm, ds)
    | .seq a b => bnd (evC f r a tm ds) fun (e, tm, ds) => match e with
      | .normal => evC f r b tm ds
      | e => ret (e, tm, ds)
    | .cond x a b => match evA tm x with
      | some (.bool true) => evC f r a tm ds
      | some (.bool false) => evC f r b tm ds
      | _ => err
    | .block id c => bnd (evC f r c tm ds) fun (e, tm, ds) => match e with
      | .exit id' => match Nat.beq id' id with
        | true => ret (.normal, tm, ds)
        | false => ret (.exit id', tm, ds)
      | e => ret (e, tm, ds)
    | .scope c => evC f r c tm ds
    | .loop c => bnd (evC f r c tm ds) fun (e, tm, ds) => match e with
      | .normal => evC f r (.loop c) tm ds
      | e => ret (e, tm, ds)
    | .region _ ops false => bnd (opsA P (evC f) ops ops.toList tm) fun tm => ret (.normal, tm, ds)
    | .region _ ops true => bnd (drawA P (evC f) ops tm) fun tm => ret (.normal, tm, ds)
    | .rangeFunc g ps asg body => match r with
      | false => rangeA P (evC f) g ps asg body tm ds
      | true => err
    | _ => err
end
end Ev
end Go.Proofs.YtclafjbbdhnhlaaGreatDoor
