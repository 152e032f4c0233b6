/-
  The small machine: operations, regions, code and calls.
-/
import Derived.Test.YtacjgphfcailmaaGreatDoorEvA
import Derived.Lib.Bytealg
import Derived.Test.YtacjgphfcailmaaGreatDoorPlain
namespace Go.Proofs.YtacjgphfcailmaaGreatDoor
namespace Ev
set_option linter.unusedVariables false

noncomputable def ofScalar : Value → Option AV
  | .bool b => some (.bool b)
  | .int k n => some (.int k n)
  | .string s => some (.str s.data.toList.length (numOf s.data.toList))
  | .pointer none => some .nilp
  | .slice none 0 0 => some .nils
  | .map none => some .nilm
  | .nilFunc => some .nilf
  | .nilIface => some .nili
  | _ => none
noncomputable def ofScalars : List Value → Option (List AV)
  | [] => some []
  | v :: l => match ofScalar v, ofScalars l with
    | some a, some aas => some (a :: aas)
    | _, _ => none
noncomputable def ofValue : Value → Option AV
  | .agg cs => (ofScalars cs.toList).map .agg
  | v => ofScalar v

noncomputable def evA (tm : Tm) : Operand → Option AV
  | .tmp t => some (nth tm t)
  | .const v => ofValue v
  | .global g => match Nat.blt g 64 with
    | true => some (.ptr g 0)
    | false => none
  | .func f => match Nat.blt f 1000000 with
    | true => some (.fn f [])
    | false => none

noncomputable def cellsA : AV → List AV
  | .agg cs => cs
  | v => [v]
noncomputable def plainA : AV → Bool
  | .agg _ => false
  | .tup _ => false
  | _ => true
noncomputable def aggT : TypeDesc → Bool
  | .struct _ => true
  | .array _ _ => true
  | _ => false
noncomputable def rep (z : List AV) : Nat → List AV
  | 0 => []
  | n + 1 => z ++ rep z n
noncomputable def bytesA : Nat → Nat → List AV
  | 0, _ => []
  | n + 1, v => .int .u8 (v % 256 : Nat) :: bytesA n (v / 256)

section
variable (P : Program)

noncomputable def zeroA (t : TypeId) : Option AV := ((P.info? t).bind (·.zero)).bind ofValue
noncomputable def sizeA (t : TypeId) : Option Nat := (P.info? t).map (·.size)

open M

noncomputable def loadA (t b o : Nat) : M AV :=
  match sizeA P t, P.underlying t with
  | some s, some d =>
    match aggT d with
    | true => bnd (getR b o s) fun cs => ret (.agg cs)
    | false => bnd (getR b o 1) fun cs => match cs with
      | [v] => ret v
      | _ => err
  | _, _ => err
noncomputable def storeA (t b o : Nat) (v : AV) : M AV :=
  match sizeA P t with
  | some s =>
    match Nat.beq (cellsA v).length s && (cellsA v).all plainA with
    | true => bnd (setR b o (cellsA v)) fun _ => ret undefA
    | false => err
  | none => err
noncomputable def newA (t : Nat) (cs : List AV) (opn : Bool) : M Nat :=
  match sizeA P t with
  | some s => alloc (.row t s cs opn false)
  | none => err

noncomputable def fillA (place : Nat → Option (Nat × Nat)) : List AV → List (Nat × AV) → Option (List AV)
  | cs, [] => some cs
  | cs, (i, v) :: rest => match place i with
    | none => none
    | some (off, size) =>
      match Nat.beq (cellsA v).length size && Nat.ble (off + (cellsA v).length) cs.length with
      | true => fillA place (cs.take off ++ (cellsA v ++ cs.drop (off + (cellsA v).length))) rest
      | false => none
noncomputable def evParts (ev : Operand → Option AV) : List (Nat × Operand) → Option (List (Nat × AV))
  | [] => some []
  | (i, x) :: l => match ev x, evParts ev l with
    | some a, some aas => some ((i, a) :: aas)
    | _, _ => none
noncomputable def evs (ev : Operand → Option AV) : List Operand → Option (List AV)
  | [] => some []
  | x :: l => match ev x, evs ev l with
    | some a, some aas => some (a :: aas)
    | _, _ => none

noncomputable def buildA (t : Nat) (parts : List (Nat × AV)) : Option AV :=
  match zeroA P t, P.underlying t with
  | some z, some (.struct fs) =>
    match fs.toList.all fun f => (P.info? f.type).isSome with
    | true => (fillA (fun i => (fs.toList[i]?).bind fun f => (sizeA P f.type).map fun s => (f.offset, s)) (cellsA z) parts).map .agg
    | false => none
  | some z, some (.array _ e) => match sizeA P e with
    | some s => (fillA (fun i => some (i * s, s)) (cellsA z) parts).map .agg
    | none => none
  | _, _ => none
noncomputable def buildSliceA (t len : Nat) (parts : List (Nat × AV)) : M AV :=
  match P.underlying t with
  | some (.slice e) => match sizeA P e, zeroA P e with
    | some s, some z =>
      match Nat.beq (cellsA z).length s && Nat.ble 1 s && Nat.ble len 10000 && Nat.ble s 1000 with
      | true => match fillA (fun i => some (i * s, s)) (rep (cellsA z) len) parts with
        | some cs => bnd (newA P e cs false) fun b => ret (.slice b 0 len false len)
        | none => err
      | false => err
    | _, _ => err
  | _ => err

/-- whether two values are the same, if that can be told: numbers, strings, bools, and pointers to rows -/
noncomputable def sameA : AV → AV → Option Bool
  | .bool a, .bool b => some (a == b)
  | .int j a, .int k b => match j == k with
    | true => some (a == b)
    | false => none
  | .str n v, .str m w => some (Nat.beq n m && Nat.beq (v % 256 ^ n) (w % 256 ^ m))
  | _, _ => none
noncomputable def keyT : TypeDesc → AV → Bool
  | .int _, .int _ _ => true
  | .string, .str _ _ => true
  | .bool, .bool _ => true
  | _, _ => false
/-- structs of scalars, a cell for each field, no blank -/
noncomputable def sameF (P : Program) : List Field → Nat → List AV → List AV → Option Bool
  | [], _, [], [] => some true
  | f :: fs, o, a :: l, b :: m => match P.underlying f.type with
    | some d => match !(f.name == "_") && Nat.beq f.offset o && keyT d a && keyT d b with
      | true => match sameA a b, sameF P fs (o + 1) l m with
        | some x, some y => some (x && y)
        | _, _ => none
      | false => none
    | none => none
  | _, _, _, _ => none
noncomputable def equalD (t : Nat) (d : TypeDesc) (x y : AV) : Option Bool :=
  match d, x, y with
  | .pointer _, .nilp, .nilp => some true
  | .pointer _, .nilp, .ptr _ _ => some false
  | .pointer _, .ptr _ _, .nilp => some false
  | .slice _, .nils, .nils => some true
  | .slice _, .nils, .slice .. => some false
  | .slice _, .slice .., .nils => some false
  | .map _ _, .nilm, .nilm => some true
  | .map _ _, .nilm, .map _ => some false
  | .map _ _, .map _, .nilm => some false
  | .func _ _ _, .nilf, .nilf => some true
  | .func _ _ _, .nilf, .fn .. => some false
  | .func _ _ _, .fn .., .nilf => some false
  | .interface _, .nili, .iface .. => some false
  | .interface _, .iface .., .nili => some false
  | .bool, .bool a, .bool b => some (a == b)
  | .struct fs, .agg a, .agg b => match !(P.stoodInHeld t) && !(P.eqGuardType P.depth t) with
    | true => sameF P fs.toList 0 a b
    | false => none
  | _, _, _ => none
noncomputable def equalA (t : Nat) (x y : AV) : Option Bool :=
  match P.underlying t with
  | some d => equalD P t d x y
  | none => none

noncomputable def lessL : List UInt8 → List UInt8 → Bool
  | _, [] => false
  | [], _ :: _ => true
  | a :: x, b :: y => match Nat.blt a.toNat b.toNat with
    | true => true
    | false => match Nat.beq a.toNat b.toNat with
      | true => lessL x y
      | false => false

noncomputable def strOp (op : BinOp) (n v m w : Nat) : Option AV :=
  match op with
  | .add => match Nat.ble (n + m) 1000000000 with
    | true => some (.str (n + m) (v % 256 ^ n + w * 256 ^ n))
    | false => none
  | .eql => some (.bool (Nat.beq n m && Nat.beq (v % 256 ^ n) (w % 256 ^ m)))
  | .neq => some (.bool (!(Nat.beq n m && Nat.beq (v % 256 ^ n) (w % 256 ^ m))))
  | .lss => some (.bool (lessL (strOf n v) (strOf m w)))
  | .leq => some (.bool (!lessL (strOf m w) (strOf n v)))
  | .gtr => some (.bool (lessL (strOf m w) (strOf n v)))
  | .geq => some (.bool (!lessL (strOf n v) (strOf m w)))
  | _ => none

noncomputable def int_add (k : IntKind) (a b : Int) : Option AV := some (.int k (k.wrap (a + b)))
noncomputable def int_sub (k : IntKind) (a b : Int) : Option AV := some (.int k (k.wrap (a - b)))
noncomputable def int_mul (k : IntKind) (a b : Int) : Option AV := some (.int k (k.wrap (a * b)))
noncomputable def int_quo (k : IntKind) (a b : Int) : Option AV := match b == 0 with
    | true => none
    | false => some (.int k (k.wrap (a.tdiv b)))
noncomputable def int_rem (k : IntKind) (a b : Int) : Option AV := match b == 0 with
    | true => none
    | false => some (.int k (a.tmod b))
noncomputable def int_and (k : IntKind) (a b : Int) : Option AV := some (.int k (k.wrap ((BitVec.ofInt k.bits a &&& BitVec.ofInt k.bits b).toNat : Nat)))
noncomputable def int_or (k : IntKind) (a b : Int) : Option AV := some (.int k (k.wrap ((BitVec.ofInt k.bits a ||| BitVec.ofInt k.bits b).toNat : Nat)))
noncomputable def int_xor (k : IntKind) (a b : Int) : Option AV := some (.int k (k.wrap ((BitVec.ofInt k.bits a ^^^ BitVec.ofInt k.bits b).toNat : Nat)))
noncomputable def int_andNot (k : IntKind) (a b : Int) : Option AV := some (.int k (k.wrap ((BitVec.ofInt k.bits a &&& ~~~BitVec.ofInt k.bits b).toNat : Nat)))
noncomputable def int_eql (k : IntKind) (a b : Int) : Option AV := some (.bool (a == b))
noncomputable def int_neq (k : IntKind) (a b : Int) : Option AV := some (.bool (!(a == b)))
noncomputable def int_lss (k : IntKind) (a b : Int) : Option AV := some (.bool (decide (a < b)))
noncomputable def int_leq (k : IntKind) (a b : Int) : Option AV := some (.bool (decide (a ≤ b)))
noncomputable def int_gtr (k : IntKind) (a b : Int) : Option AV := some (.bool (decide (b < a)))
noncomputable def int_geq (k : IntKind) (a b : Int) : Option AV := some (.bool (decide (b ≤ a)))
noncomputable def intOp (op : BinOp) (k : IntKind) (a b : Int) : Option AV :=
  BinOp.rec (motive := fun _ => Option AV) (int_add k a b) (int_sub k a b) (int_mul k a b) (int_quo k a b) (int_rem k a b) (int_and k a b) (int_or k a b) (int_xor k a b) none none (int_andNot k a b) (int_eql k a b) (int_neq k a b) (int_lss k a b) (int_leq k a b) (int_gtr k a b) (int_geq k a b) op
noncomputable def shiftOp (op : BinOp) (k : IntKind) (a b : Int) : Option AV :=
  match decide (b < 0) with
  | true => none
  | false => match op with
    | .shl => some (.int k (k.wrap (a * 2 ^ (min b.toNat k.bits))))
    | .shr => some (.int k (a.fdiv (2 ^ (min b.toNat k.bits))))
    | _ => none

/-- two addresses: the blocks must be rows that are looked at -/
noncomputable def equalM (t : Nat) (x y : AV) : M Bool :=
  match x, y with
  | .ptr b o, .ptr c p => match P.underlying t with
    | some (.pointer e) => match sizeA P e with
      | some (_ + 1) => bnd (form b) fun _ => bnd (form c) fun _ => ret (Nat.beq b c && Nat.beq o p)
      | _ => err
    | _ => err
  | x, y => opt (equalA P t x y)
noncomputable def binA (op : BinOp) (t : Nat) (x y : AV) : M AV :=
  match x, y with
  | .int j a, .int k b => match op with
    | .shl => opt (shiftOp op j a b)
    | .shr => opt (shiftOp op j a b)
    | _ => match decide (j = k) with
      | true => opt (intOp op j a b)
      | false => err
  | .str n v, .str m w => opt (strOp op n v m w)
  | x, y => match op with
    | .eql => bnd (equalM P t x y) fun b => ret (.bool b)
    | .neq => bnd (equalM P t x y) fun b => ret (.bool (!b))
    | _ => err

noncomputable def unA (op : UnOp) (x : AV) : Option AV :=
  match op, x with
  | .neg, .int k n => some (.int k (k.wrap (0 - n)))
  | .xor, .int k n => some (.int k (k.wrap ((BitVec.ofInt k.bits (if k.signed then -1 else k.max) ^^^ BitVec.ofInt k.bits n).toNat : Nat)))
  | .not, .bool b => some (.bool (!b))
  | _, _ => none

noncomputable def convA (src dst : Nat) (x : AV) : M AV :=
  match P.underlying src, P.underlying dst, x with
  | some _, some (.int k), .int _ n => ret (.int k (k.wrap n))
  | some _, some .string, .str n v => ret (.str n v)
  | some (.slice e), some .string, .nils => match P.underlying e with
    | some (.int .u8) => ret (.str 0 0)
    | _ => err
  | _, _, _ => err

/-- the place of an element, and of a field -/
noncomputable def fieldA (t b o i : Nat) : Option AV :=
  match P.underlying t with
  | some (.struct fs) => match fs.toList[i]? with
    | some f => match sizeA P f.type with
      | some (_ + 1) => some (.ptr b (o + f.offset))
      | _ => none
    | none => none
  | _ => none
noncomputable def partA (t : Nat) (cs : List AV) (off : Nat) : Option AV :=
  match P.underlying t, sizeA P t with
  | some d, some s => match aggT d with
    | true => some (.agg ((cs.drop off).take s))
    | false => cs[off]?
  | _, _ => none
noncomputable def indexAddrA (t : Nat) (x ix : AV) : Option AV :=
  match ix with
  | .int _ i => match P.underlying t, x with
    | some (.slice e), .slice b o len opn c => match sizeA P e, decide (0 ≤ i) && decide (i < len) with
      | some s, true => some (.ptr b (o + i.toNat * s))
      | _, _ => none
    | some (.array len e), .ptr b o => match sizeA P e, decide (0 ≤ i) && decide (i < len) with
      | some s, true => some (.ptr b (o + i.toNat * s))
      | _, _ => none
    | _, _ => none
  | _ => none
noncomputable def indexA (t : Nat) (x ix : AV) : Option AV :=
  match ix with
  | .int _ i => match P.underlying t, x with
    | some .string, .str n v => match decide (0 ≤ i) && decide (i < n) with
      | true => some (.int .u8 (v / 256 ^ i.toNat % 256 : Nat))
      | false => none
    | some (.array len e), .agg cs => match sizeA P e, decide (0 ≤ i) && decide (i < len) with
      | some s, true => partA P e cs (i.toNat * s)
      | _, _ => none
    | _, _ => none
  | _ => none

noncomputable def boundA (d : Nat) : Option AV → Option Nat
  | none => some d
  | some (.int _ i) => match decide (0 ≤ i) with
    | true => some i.toNat
    | false => none
  | _ => none
noncomputable def sliceA (t : Nat) (x : AV) (lo hi mx : Option AV) : Option AV :=
  match P.underlying t, x with
  | some .string, .str n v => match mx, boundA 0 lo, boundA n hi with
    | none, some l, some h => match Nat.ble l h && Nat.ble h n with
      | true => some (.str (h - l) (v / 256 ^ l))
      | false => none
    | _, _, _ => none
  | some (.slice e), .nils => match sizeA P e, boundA 0 lo, boundA 0 hi, boundA 0 mx with
    | some _, some 0, some 0, some 0 => match mx, hi with
      | some _, none => none
      | _, _ => some .nils
    | _, _, _, _ => none
  | some (.slice e), .slice b o len opn c => match sizeA P e, boundA 0 lo, boundA len hi with
    | some s, some l, some h =>
      match mx with
      | none =>
        match Nat.ble l h && (Nat.ble h len || (!opn && Nat.ble h c)) with
        | true => some (.slice b (o + l * s) (h - l) opn (match opn with | true => c + l | false => c - l))
        | false => none
      | some m => match boundA 0 (some m), hi with
        | some m, some _ => match Nat.ble l h && Nat.ble h m && (Nat.ble m len || (!opn && Nat.ble m c)) with
          | true => some (.slice b (o + l * s) (h - l) false (m - l))
          | false => none
        | _, _ => none
    | _, _, _ => none
  | some (.array n e), .ptr b o => match mx, sizeA P e, boundA 0 lo, boundA n hi with
    | none, some s, some l, some h => match Nat.ble l h && Nat.ble h n with
      | true => some (.slice b (o + l * s) (h - l) false (n - l))
      | false => none
    | _, _, _, _ => none
  | _, _ => none

/-- a slice of a row with unknown room, beyond its length, as far as the cells are known -/
noncomputable def sliceX (t : Nat) (x : AV) (lo hi mx : Option AV) : M AV :=
  match P.underlying t, x, mx with
  | some (.slice e), .slice b o len true c, none => match sizeA P e, boundA 0 lo, boundA len hi with
    | some s, some l, some h => bnd (form b) fun f => match Nat.ble l h && (Nat.ble ((c + h) * s) f.2.2.1 && (Nat.ble 1 s && Nat.beq f.2.1 s)) with
      | true => match f.2.2.2.1 with
        | true => ret (.slice b (o + l * s) (h - l) true (c + l))
        | false => err
      | false => err
    | _, _, _ => err
  | _, _, _ => err
noncomputable def sliceM (t : Nat) (x : AV) (lo hi mx : Option AV) : M AV :=
  match sliceA P t x lo hi mx with
  | some v => ret v
  | none => sliceX P t x lo hi mx

noncomputable def makeSliceA (t : Nat) (l c : AV) : M AV :=
  match P.underlying t, l, c with
  | some (.slice e), .int _ l, .int _ c => match sizeA P e, (P.info? e).map (·.bytes), zeroA P e with
    | some s, some by_, some z =>
      match decide (0 ≤ l) && decide (l ≤ c) && decide (c ≤ 100000) && Nat.ble by_ 10000 && Nat.beq (cellsA z).length s && Nat.ble 1 s with
      | true => bnd (newA P e (rep (cellsA z) c.toNat) false) fun b => ret (.slice b 0 l.toNat false c.toNat)
      | false => err
    | _, _, _ => err
  | _, _, _ => err

/-- the first cells of what is appended or copied -/
noncomputable def firstA (size n : Nat) : AV → M (List AV)
  | .nils => ret []
  | .slice b o len opn c => match n with
    | 0 => ret []
    | n + 1 => getR b o ((n + 1) * size)
  | .str m v => match size with
    | 1 => ret (bytesA n v)
    | _ => err
  | _ => err
noncomputable def lenA : AV → Option Nat
  | .nils => some 0
  | .slice b o len opn c => some len
  | .str n v => some n
  | _ => none

noncomputable def sliceOrStr : TypeDesc → Bool
  | .slice _ => true
  | .string => true
  | _ => false
/-- cells are appended to a slice that has a row -/
noncomputable def growA (e size n : Nat) (new : List AV) (b o len : Nat) (opn : Bool) (c : Nat) : M AV :=
  match Nat.ble len 1000000 with
  | false => err
  | true => bnd (form b) fun (e', s', known, bo, ro) =>
    match ro || !(Nat.beq s' size && Nat.beq e' e) with
    | true => err
    | false => match opn with
      | false => match Nat.ble (len + n) c with
        | true => bnd (setR b (o + len * size) new) fun _ => ret (.slice b o (len + n) false c)
        | false => bnd (firstA size len (.slice b o len opn c)) fun was => bnd (newA P e (was ++ new) true) fun b' => ret (.slice b' 0 (len + n) true 0)
      | true => match bo && Nat.beq o (c * size) with
        | false => err
        | true => match Nat.ble (o + (len + n) * size) known with
          | true => bnd (setR b (o + len * size) new) fun _ => ret (.slice b o (len + n) true c)
          | false => bnd (firstA size len (.slice b o len opn c)) fun was => bnd (setB b .dead) fun _ => bnd (newA P e (was ++ new) true) fun b' => ret (.slice b' 0 (len + n) true 0)
noncomputable def appendA (ts : List Nat) (args : List AV) : M AV :=
  match ts, args with
  | [st, xt], [s, x] => match P.underlying st, P.underlying xt with
    | some (.slice e), some xd => match sizeA P e, (P.info? e).map (·.bytes), zeroA P e with
      | some size, some by_, some z =>
        match Nat.ble 1 size && Nat.ble by_ 10000 && Nat.beq (cellsA z).length size && (cellsA z).all plainA with
        | false => err
        | true => match xd, x with
          | .int _, .int .i64 l => match s, decide (1 ≤ l) && decide (l ≤ 100000) with
            | .nils, true => bnd (newA P e (rep (cellsA z) l.toNat) true) fun b => ret (.slice b 0 l.toNat true 0)
            | _, _ => err
          | .int _, _ => err
          | xd, x => match sliceOrStr xd, lenA x with
            | true, some n => bnd (firstA size n x) fun new =>
              match Nat.ble n 100000 && Nat.beq new.length (n * size) && new.all plainA with
              | false => err
              | true => match n with
                | 0 => match s with
                  | .nils => ret s
                  | .slice .. => ret s
                  | _ => err
                | n + 1 => match s with
                  | .nils => bnd (newA P e new true) fun b => ret (.slice b 0 (n + 1) true 0)
                  | .slice b o len opn c => growA P e size (n + 1) new b o len opn c
                  | _ => err
            | _, _ => err
      | _, _, _ => err
    | _, _ => err
  | _, _ => err

noncomputable def copyA (ts : List Nat) (args : List AV) : M AV :=
  match ts, args with
  | dt :: _, [d, x] => match P.underlying dt with
    | some (.slice e) => match sizeA P e, lenA x, lenA d, d with
      | some size, some m, some n, .slice b o len opn c =>
        bnd (firstA size (min m n) x) fun new =>
          match new.all plainA && Nat.beq new.length (min m n * size) with
          | false => err
          | true => match min m n with
            | 0 => ret (.int .i64 0)
            | k + 1 => bnd (setR b o new) fun _ => ret (.int .i64 (k + 1 : Nat))
      | some size, some m, some n, .nils => ret (.int .i64 0)
      | _, _, _, _ => err
    | _ => err
  | _, _ => err

noncomputable def clearA (ts : List Nat) (args : List AV) : M AV :=
  match ts, args with
  | t :: _, [x] => match P.underlying t, x with
    | some (.slice e), .nils => ret undefA
    | some (.slice e), .slice b o len opn c => match sizeA P e, zeroA P e with
      | some s, some z => match Nat.beq (cellsA z).length s && (cellsA z).all plainA && Nat.ble 1 s && Nat.ble len 100000 with
        | true => match len with
          | 0 => ret undefA
          | _ => bnd (setR b o (rep (cellsA z) len)) fun _ => ret undefA
        | false => err
      | _, _ => err
    | _, _ => err
  | _, _ => err
noncomputable def lenOp (ts : List Nat) (args : List AV) : M AV :=
  match ts, args with
  | t :: _, [x] => match P.underlying t, x with
    | some .string, .str n v => ret (.int .i64 n)
    | some (.slice _), .nils => ret (.int .i64 0)
    | some (.slice _), .slice b o n opn c => ret (.int .i64 n)
    | some (.array n _), _ => ret (.int .i64 n)
    | some (.map _ _), .nilm => ret (.int .i64 0)
    | some (.map _ _), .map b => bnd (getB b) fun x => match x with
      | .mp es _ => ret (.int .i64 es.length)
      | _ => err
    | _, _ => err
  | _, _ => err
noncomputable def capOp (ts : List Nat) (args : List AV) : M AV :=
  match ts, args with
  | t :: _, [x] => match P.underlying t, x with
    | some (.slice _), .nils => ret (.int .i64 0)
    | some (.slice _), .slice b o n false c => ret (.int .i64 c)
    | _, _ => err
  | _, _ => err
noncomputable def minOp (mx : Bool) : List AV → Option AV
  | [.int j a, .int k b] => match decide (j = k) with
    | true => some (.int j (match mx with
      | true => match decide (a < b) with | true => b | false => a
      | false => match decide (b < a) with | true => b | false => a))
    | false => none
  | _ => none

/-- the place and the value of a key in a map -/
noncomputable def findA (k : AV) : List (AV × AV × Nat) → Nat → Option (Option (Nat × AV))
  | [], _ => some none
  | (k', v, _) :: es, i => match sameA k k' with
    | some true => some (some (i, v))
    | some false => findA k es (i + 1)
    | none => none
noncomputable def entriesA : AV → M (List (AV × AV × Nat) × Nat)
  | .nilm => ret ([], 0)
  | .map b => bnd (getB b) fun x => match x with
    | .mp es c => ret (es, c)
    | _ => err
  | _ => err
noncomputable def lookupA (t : Nat) (x k : AV) (ok : Bool) : M AV :=
  match P.underlying t with
  | some (.map kt e) => match P.underlying kt, zeroA P e with
    | some kd, some z => match keyT kd k with
      | true => bnd (entriesA x) fun (es, _) => match findA k es 0 with
        | some (some (_, v)) => ret (match ok with | true => .tup [v, .bool true] | false => v)
        | some none => ret (match ok with | true => .tup [z, .bool false] | false => z)
        | none => err
      | false => err
    | _, _ => err
  | _ => err
/-- an iterator of a map -/
noncomputable def rangeMapA (t : Nat) (x : AV) : M AV :=
  match P.underlying t, x with
  | some (.map _ _), .map m => bnd (getB m) fun y => match y with
    | .mp _ c => bnd (alloc (.mi m c [] c)) fun b => ret (.ptr b 0)
    | _ => err
  | _, _ => err
/-- what may come next, if there is no choice: none, or one entry -/
noncomputable def candA (es : List (AV × AV × Nat)) (since : Nat) (seen : List Nat) (last : Nat) : Option (Option (AV × AV × Nat)) :=
  match !seen.isEmpty && !es.isEmpty && es.all (fun e => Nat.ble last e.2.2) with
  | true => none
  | false => match es.filter (fun e => !seen.contains e.2.2) with
    | [] => some none
    | [e] => match Nat.blt e.2.2 since with
      | true => some (some e)
      | false => none
    | _ => none
noncomputable def nextA (x : AV) : M AV :=
  match x with
  | .ptr b 0 => bnd (getB b) fun y => match y with
    | .mi m since seen last => bnd (getB m) fun z => match z with
      | .mp es c => match candA es since seen last with
        | some none => ret (.tup [.bool false])
        | some (some (k, v, born)) => bnd (setB b (.mi m since (seen ++ [born]) c)) fun _ => ret (.tup [.bool true, k, v])
        | none => err
      | _ => err
    | _ => err
  | _ => err
/-- the entry that the last step has handed out -/
noncomputable def entryA (x : AV) : M AV :=
  match x with
  | .ptr b 0 => bnd (getB b) fun y => match y with
    | .mi m since seen last => bnd (getB m) fun z => match z with
      | .mp es c => match Nat.beq c last, seen.getLast? with
        | true, some st => match es.find? (fun e => Nat.beq e.2.2 st) with
          | some e => ret (.tup [e.1, e.2.1])
          | none => err
        | _, _ => err
      | _ => err
    | _ => err
  | _ => err
noncomputable def setAt {α : Type} (x : α) : List α → Nat → List α
  | [], _ => []
  | a :: l, k => match k with
    | 0 => x :: l
    | k + 1 => a :: setAt x l k
noncomputable def updateA (t : Nat) (m k v : AV) : M AV :=
  match P.underlying t, m with
  | some (.map kt _), .map b => match P.underlying kt with
    | some kd => match keyT kd k with
      | true => bnd (getB b) fun x => match x with
        | .mp es c => match findA k es 0 with
          | some (some (i, _)) => match es[i]? with
            | some (k', _, born) => bnd (setB b (.mp (setAt (k, v, born) es i) c)) fun _ => ret undefA
            | none => err
          | some none => bnd (setB b (.mp (es ++ [(k, v, c)]) (c + 1))) fun _ => ret undefA
          | none => err
        | _ => err
      | false => err
    | none => err
  | _, _ => err
noncomputable def deleteA (ts : List Nat) (args : List AV) : M AV :=
  match ts, args with
  | t :: _, [m, k] => match P.underlying t, m with
    | some (.map kt _), .map b => match P.underlying kt with
      | some kd => match keyT kd k with
        | true => bnd (getB b) fun x => match x with
          | .mp es c => match findA k es 0 with
            | some (some (i, _)) => bnd (setB b (.mp (es.take i ++ es.drop (i + 1)) c)) fun _ => ret (.tup [])
            | some none => bnd (setB b (.mp es c)) fun _ => ret (.tup [])
            | none => err
          | _ => err
        | false => err
      | none => err
    | _, _ => err
  | _, _ => err

inductive Ex where
  | normal
  | ret
  | exit (id : Nat)

/-- a function with a body -/
noncomputable def fnOf (f : Nat) : Option (Func × Code) :=
  match P.funcs[f]? with
  | some fn => match fn.name == "runtime.NumGoroutine" with
    | true => none
    | false => match fn.body with
      | some c => some (fn, c)
      | none => none
  | none => none
abbrev Rec := Bool → Code → Tm → List Nat → M (Ex × Tm × List Nat)
noncomputable def jumpOf : Ex → Option Code
  | .normal => none
  | .ret => some .ret
  | .exit id => some (.exit id)
noncomputable def exOf : Option Code → Option Ex
  | none => some .normal
  | some .ret => some .ret
  | some (.exit id) => some (.exit id)
  | _ => none
noncomputable def putAll : Tm → List Nat → List AV → Tm
  | tm, p :: ps, a :: l => putAll (put a tm p) ps l
  | tm, _, _ => tm
noncomputable def readyS : LoopState → Bool
  | .ready => true
  | _ => false
noncomputable def busyS : LoopState → Bool
  | .busy => true
  | _ => false
/-- a round of a range over a function -/
noncomputable def yieldA (rec : Rec) (b : Nat) (args : List AV) : M AV :=
  bnd (getB b) fun x => match x with
  | .lp st tm ps asg body pend df =>
    match Nat.beq args.length ps.length with
    | false => err
    | true => bnd (rec true asg (putAll tm ps args) []) fun (e, tm1, ds) => match e, ds with
      | .normal, [] => bnd (getB b) fun y => match y with
        | .lp st tm' ps' asg' body' pend' df' => match readyS st with
          | false => err
          | true => bnd (setB b (.lp .busy tm' ps' asg' body' pend' df')) fun _ => bnd (rec true body tm1 []) fun (e, tm2, ds) => match ds with
            | [] => bnd (getB b) fun z => match z with
              | .lp st tm' ps' asg' body' pend' df' => match jumpOf e with
                | none => bnd (setB b (.lp .ready tm' ps' asg' body' none df')) fun _ => ret (.bool true)
                | some c => bnd (setB b (.lp .done tm' ps' asg' body' (some c) df')) fun _ => ret (.bool false)
              | _ => err
            | _ => err
        | _ => err
      | _, _ => err
  | _ => err
/-- the deferred calls of ranges over functions: there are none -/
noncomputable def endA : List Nat → M Unit
  | [] => ret ()
  | d :: ds => bnd (getB d) fun x => match x with
    | .df => bnd (setB d .dead) fun _ => endA ds
    | _ => err
noncomputable def resultA (tm : Tm) : List ResultVar → M (List AV)
  | [] => ret []
  | .tmp t :: l => bnd (resultA tm l) fun vs => ret (nth tm t :: vs)
  | .cell a t :: l => match nth tm a with
    | .ptr b o => bnd (loadA P t b o) fun v => bnd (resultA tm l) fun vs => ret (v :: vs)
    | _ => err
noncomputable def oneA : List AV → AV
  | [v] => v
  | vs => .tup vs
/-- stand-ins of the model for functions of the library without a body -/
noncomputable def extN (fn : Func) (args : List AV) : Option AV :=
  match fn.origin == "" with
  | false => none
  | true => match fn.name == "internal/bytealg.CountString", args with
    | true, [.str n v, .int .u8 c] => some (.int .i64 (Lib.countByte (strOf n v) c.toNat.toUInt8 : Nat))
    | _, args => match fn.name == "internal/bytealg.IndexByteString", args with
      | true, [.str n v, .int .u8 c] => some (.int .i64 (Lib.indexByte (strOf n v) c.toNat.toUInt8))
      | _, _ => none
/-- functions whose answers are known by their contracts -/
noncomputable def strA (l : List UInt8) : AV := .str l.length (numOf l)
noncomputable def orcN (name : String) (args : List AV) : Option AV :=
  match name == "purlieu/token.IsName" || name == "purlieu/purlieuref01.IsName" with
  | true => match args with
    | [.str n v] => match Nat.ble n 10000 with
      | true => some (.bool (Tok.isName (strOf n v)))
      | false => none
    | _ => none
  | false => match name == "purlieu/purlieuref01.one" with
    | true => match args with
      | [.str n v, .int .i64 (.ofNat a)] => match Nat.ble n 10000 && Nat.blt a n with
        | true => match Tok.first ((strOf n v).drop a) with
          | some (k, t) => some (.tup [.agg [strA k, strA t, .int .i64 (.ofNat a)], .bool true])
          | none => none
        | false => none
      | _ => none
    | false => none
noncomputable def extA (f : Nat) (args : List AV) : Option AV :=
  match fnOf P f with
  | some (fn, _) => orcN fn.name args
  | none => match P.funcs[f]? with
    | some fn => match fn.body with
      | some _ => none
      | none => extN fn args
    | none => none
/-- functions that count in a map, by their contract: m.counts[key]++ -/
def isCount (nm : String) : Bool := nm == "(*purlieu/engine.World).count"
noncomputable def offOf (fs : List Field) : Option Nat := (fs.find? fun x => x.name == "counts").map (·.offset)
noncomputable def countOff (f : Nat) : Option Nat :=
  match P.funcs[f]? with
  | some fn => match fn.params[0]? with
    | some t => match P.underlying t with
      | some (.pointer e) => match P.underlying e with
        | some (.struct fs) => offOf fs.toList
        | _ => none
      | _ => none
    | none => none
  | none => none
/-- the entry of a key (from, to, kind): its place, its number and its stamp -/
noncomputable def findC (x y : Int) (n v : Nat) : List (AV × AV × Nat) → Nat → Option (Option (Nat × Int × Nat))
  | [], _ => some none
  | (.agg [.int .i64 x', .int .i64 y', .str n' v', .int .i64 (.ofNat 0)], .int .i64 q, born) :: es, i =>
    match (x == x') && ((y == y') && (Nat.beq n n' && Nat.beq (v % 256 ^ n) (v' % 256 ^ n'))) with
    | true => some (some (i, q, born))
    | false => findC x y n v es (i + 1)
  | _, _ => none
noncomputable def countA (f : Nat) (args : List AV) : M AV :=
  match args with
  | [.ptr b o, .str n v, .int .i64 x, .int .i64 y] => match x == y with
    | true => ret (.tup [])
    | false => match countOff P f with
      | some k => bnd (getR b (o + k) 1) fun cs => match cs with
        | [.map m] => bnd (getB m) fun z => match z with
          | .mp es c => match findC x y n v es 0 with
            | some (some (i, q, born)) => match (es.take i).all fun e => !Nat.beq e.2.2 born with
              | true => bnd (setB m (.mp (setAt (.agg [.int .i64 x, .int .i64 y, .str n v, .int .i64 0], .int .i64 (IntKind.i64.wrap (q + 1)), born) es i) c)) fun _ => ret (.tup [])
              | false => err
            | some none => match es.all fun e => !Nat.beq e.2.2 c with
              | true => bnd (setB m (.mp (es ++ [(.agg [.int .i64 x, .int .i64 y, .str n v, .int .i64 0], .int .i64 1, c)]) (c + 1))) fun _ => ret (.tup [])
              | false => err
            | none => err
          | _ => err
        | _ => err
      | none => err
  | _ => err
noncomputable def orcM (f : Nat) (args : List AV) : Option (M AV) :=
  match fnOf P f with
  | some (fn, _) => match isCount fn.name with
    | true => some (countA P f args)
    | false => none
  | none => none
noncomputable def callA (rec : Rec) (f : Nat) (args : List AV) : M AV :=
  match fnOf P f with
  | some (fn, c) => forceN (max fn.ntmps args.length) fun k => match Nat.ble k 4000 with
    | true => inner (bnd (rec false c ⟨k, fromL args 0⟩ []) fun (e, tm, ds) => match e with
      | .exit _ => err
      | _ => bnd (endA ds) fun _ => bnd (resultA P tm fn.results.toList) fun vs => ret (oneA vs))
    | false => err
  | none => err

noncomputable def builtinA (b : Builtin) (ts : List Nat) (args : List AV) : M AV :=
  match b with
  | .append => appendA P ts args
  | .len => lenOp P ts args
  | .cap => capOp P ts args
  | .copy => copyA P ts args
  | .delete => deleteA P ts args
  | .clear => clearA P ts args
  | .min => opt (minOp false args)
  | .max => opt (minOp true args)
  | _ => err

noncomputable def evO (ev : Operand → Option AV) : Option Operand → Option (Option AV)
  | none => some none
  | some x => (ev x).map some

noncomputable def ifaceT : TypeDesc → Bool
  | .interface _ => true
  | _ => false

noncomputable def op_move (rec : Rec) (ev : Operand → Option AV) (x : Operand) : M AV :=
  opt (ev x)
noncomputable def op_assign (rec : Rec) (ev : Operand → Option AV) (x : Operand) : M AV :=
  opt (ev x)
noncomputable def op_pick (rec : Rec) (ev : Operand → Option AV) (c : Operand) (a : Operand) (b : Operand) : M AV :=
  match ev c with
    | some (.bool true) => opt (ev a)
    | some (.bool false) => opt (ev b)
    | _ => err
noncomputable def op_alloc (rec : Rec) (ev : Operand → Option AV) (t : Nat) : M AV :=
  match zeroA P t with
    | some z => bnd (newA P t (cellsA z) false) fun b => ret (.ptr b 0)
    | none => err
noncomputable def op_box (rec : Rec) (ev : Operand → Option AV) (t : Nat) (x : Operand) : M AV :=
  match ev x with
    | some v => match (cellsA v).all plainA with
      | true => bnd (newA P t (cellsA v) false) fun b => ret (.ptr b 0)
      | false => err
    | none => err
noncomputable def op_build (rec : Rec) (ev : Operand → Option AV) (t : Nat) (ps : Array (Nat × Operand)) : M AV :=
  match evParts ev ps.toList with
    | some l => opt (buildA P t l)
    | none => err
noncomputable def op_buildSlice (rec : Rec) (ev : Operand → Option AV) (t : Nat) (n : Nat) (ps : Array (Nat × Operand)) : M AV :=
  match evParts ev ps.toList with
    | some l => buildSliceA P t n l
    | none => err
noncomputable def op_insert (rec : Rec) (ev : Operand → Option AV) (t : Nat) (m : Operand) (k : Operand) (v : Operand) : M AV :=
  match ev m, ev k, ev v with
    | some m, some k, some v => updateA P t m k v
    | _, _, _ => err
noncomputable def op_load (rec : Rec) (ev : Operand → Option AV) (t : Nat) (a : Operand) : M AV :=
  match ev a with
    | some (.ptr b o) => loadA P t b o
    | _ => err
noncomputable def op_store (rec : Rec) (ev : Operand → Option AV) (t : Nat) (a : Operand) (x : Operand) : M AV :=
  match ev a, ev x with
    | some (.ptr b o), some v => storeA P t b o v
    | _, _ => err
noncomputable def op_nilCheck (rec : Rec) (ev : Operand → Option AV) (x : Operand) : M AV :=
  match ev x with
    | some .nilp => err
    | some .nilf => err
    | some .nili => err
    | some v => ret v
    | none => err
noncomputable def op_binOp (rec : Rec) (ev : Operand → Option AV) (op : BinOp) (t : Nat) (x : Operand) (y : Operand) (_y4 : Nat) : M AV :=
  match ev x, ev y with
    | some a, some b => binA P op t a b
    | _, _ => err
noncomputable def op_unOp (rec : Rec) (ev : Operand → Option AV) (op : UnOp) (_y1 : Nat) (x : Operand) : M AV :=
  match ev x with
    | some a => opt (unA op a)
    | none => err
noncomputable def op_convert (rec : Rec) (ev : Operand → Option AV) (s : Nat) (d : Nat) (x : Operand) : M AV :=
  match ev x with
    | some a => convA P s d a
    | none => err
noncomputable def op_makeInterface (rec : Rec) (ev : Operand → Option AV) (t : Nat) (x : Operand) : M AV :=
  match ev x, P.underlying t with
    | some a, some d => match ifaceT d with
      | false => ret (.iface t a)
      | true => err
    | _, _ => err
noncomputable def op_makeFunc (rec : Rec) (ev : Operand → Option AV) (y0 : Fn) (y1 : Array Operand) (y2 : Array Operand) : M AV :=
  match y0, y1, y2 with
  | (.func f), first, cap => match Nat.blt f 1000000, evs ev first.toList, evs ev cap.toList with
    | true, some [], some l => ret (.fn f l)
    | true, some (a :: l), some [] => ret (.fn (f + 1000000) (a :: l))
    | _, _, _ => err
  | _, _, _ => err
noncomputable def op_makeMap (rec : Rec) (ev : Operand → Option AV) (y0 : Nat) (y1 : Option Operand) : M AV :=
  match y0, y1 with
  | t, none => bnd (alloc (.mp [] 0)) fun b => ret (.map b)
  | t, (some x) => match ev x, P.underlying t with
    | some (.int _ _), some (.map _ _) => bnd (alloc (.mp [] 0)) fun b => ret (.map b)
    | _, _ => err
noncomputable def op_makeSlice (rec : Rec) (ev : Operand → Option AV) (t : Nat) (l : Operand) (c : Operand) : M AV :=
  match ev l, ev c with
    | some l, some c => makeSliceA P t l c
    | _, _ => err
noncomputable def op_slice (rec : Rec) (ev : Operand → Option AV) (t : Nat) (x : Operand) (lo : Option Operand) (hi : Option Operand) (mx : Option Operand) : M AV :=
  match ev x, evO ev lo, evO ev hi, evO ev mx with
    | some x, some lo, some hi, some mx => sliceM P t x lo hi mx
    | _, _, _, _ => err
noncomputable def op_fieldAddr (rec : Rec) (ev : Operand → Option AV) (t : Nat) (x : Operand) (i : Nat) : M AV :=
  match ev x with
    | some (.ptr b o) => opt (fieldA P t b o i)
    | _ => err
noncomputable def op_field (rec : Rec) (ev : Operand → Option AV) (t : Nat) (x : Operand) (i : Nat) : M AV :=
  match ev x, P.underlying t with
    | some (.agg cs), some (.struct fs) => match fs.toList[i]? with
      | some f => opt (partA P f.type cs f.offset)
      | none => err
    | _, _ => err
noncomputable def op_indexAddr (rec : Rec) (ev : Operand → Option AV) (t : Nat) (x : Operand) (i : Operand) : M AV :=
  match ev x, ev i with
    | some x, some i => opt (indexAddrA P t x i)
    | _, _ => err
noncomputable def op_index (rec : Rec) (ev : Operand → Option AV) (t : Nat) (x : Operand) (i : Operand) : M AV :=
  match ev x, ev i with
    | some x, some i => opt (indexA P t x i)
    | _, _ => err
noncomputable def op_lookup (rec : Rec) (ev : Operand → Option AV) (t : Nat) (x : Operand) (i : Operand) (ok : Bool) : M AV :=
  match ev x, ev i with
    | some x, some i => lookupA P t x i ok
    | _, _ => err
noncomputable def op_mapUpdate (rec : Rec) (ev : Operand → Option AV) (t : Nat) (m : Operand) (k : Operand) (v : Operand) : M AV :=
  match ev m, ev k, ev v with
    | some m, some k, some v => updateA P t m k v
    | _, _, _ => err
noncomputable def op_range (rec : Rec) (ev : Operand → Option AV) (t : Nat) (x : Operand) : M AV :=
  match ev x with
    | some x => rangeMapA P t x
    | none => err
noncomputable def op_next (rec : Rec) (ev : Operand → Option AV) (y0 : Operand) (y1 : Bool) : M AV :=
  match y0, y1 with
  | x, false => match ev x with
    | some x => nextA x
    | none => err
  | _, _ => err
noncomputable def op_entry (rec : Rec) (ev : Operand → Option AV) (x : Operand) : M AV :=
  match ev x with
    | some x => entryA x
    | none => err
noncomputable def op_extract (rec : Rec) (ev : Operand → Option AV) (x : Operand) (i : Nat) : M AV :=
  match ev x with
    | some (.tup vs) => opt (vs[i]?)
    | _ => err
noncomputable def op_call (rec : Rec) (ev : Operand → Option AV) (y0 : Call) : M AV :=
  match y0 with
  | ⟨.value f, aas, _⟩ => match ev f, evs ev aas.toList with
    | some (.fn f cap), some l => match Nat.blt f 1000000 with
      | true => match extA P f (l ++ cap) with
        | some v => ret v
        | none => match orcM P f (l ++ cap) with
          | some act => act
          | none => callA P rec f (l ++ cap)
      | false => callA P rec (f - 1000000) (cap ++ l)
    | some (.yld b), some l => yieldA rec b l
    | _, _ => err
  | ⟨.builtin b, aas, ts⟩ => match evs ev aas.toList with
    | some l => builtinA P b ts.toList l
    | none => err
  | _ => err
noncomputable def evOp (rec : Rec) (ev : Operand → Option AV) (o : Op) : M AV :=
  Op.rec (motive := fun _ => M AV) (op_move rec ev) (op_assign rec ev) (op_pick rec ev) (op_alloc P rec ev) (op_box P rec ev) (op_build P rec ev) (op_buildSlice P rec ev) (op_insert P rec ev) (op_load P rec ev) (op_store P rec ev) (fun _ => err) (fun _ => err) (op_nilCheck rec ev) (op_binOp P rec ev) (op_unOp rec ev) (op_convert P rec ev) (fun _ _ => err) (op_makeInterface P rec ev) (op_makeFunc rec ev) (op_makeMap P rec ev) (fun _ _ => err) (op_makeSlice P rec ev) (op_slice P rec ev) (op_fieldAddr P rec ev) (op_field P rec ev) (op_indexAddr P rec ev) (op_index P rec ev) (op_lookup P rec ev) (op_mapUpdate P rec ev) (fun _ _ _ => err) (fun _ _ _ _ => err) (op_range P rec ev) (op_next rec ev) (op_entry rec ev) (fun _ _ _ _ => err) (op_extract rec ev) (op_call P rec ev) (fun _ => err) (fun _ => err) (fun _ => err) (fun _ _ => err) (fun _ _ _ => err) (fun _ _ => err) o

/-- the operations of a region, from first to last, each with what it has looked at -/
noncomputable def wantedA (ops : Array Oper) (tm : Tm) (o : Oper) : Option Bool :=
  match o.guard with
  | none => some true
  | some (j, want) => match (ops[j]?).bind (·.dst) with
    | some t => match nth tm t with
      | .bool b => some (b == want)
      | .tup [] => some false
      | _ => none
    | none => none
noncomputable def putA (tm : Tm) (d : Option Nat) (v : AV) : Tm :=
  match d with
  | none => tm
  | some d => put v tm d
noncomputable def stepA (rec : Rec) (ops : Array Oper) (o : Oper) (tm : Tm) : M Tm :=
  match wantedA ops tm o with
  | some true => bnd (evOp P rec (evA tm) o.op) fun v => ret (putA tm o.dst v)
  | some false => ret (putA tm o.dst undefA)
  | none => err
noncomputable def opsA (rec : Rec) (ops : Array Oper) (l : List Oper) : Tm → M Tm := List.rec (motive := fun _ => Tm → M Tm) (fun tm => ret tm) (fun o _ ih tm => bnd (stepA P rec ops o tm) ih) l

/-- which operations must stand ahead of one: a bit for each -/
noncomputable def ancStep (acc : List Nat) (s : Nat) (e : Edge) : Nat :=
  match Region.binds .any e with
  | true => s ||| 2 ^ e.on ||| acc.getD e.on 0
  | false => s
noncomputable def ancOf (acc : List Nat) (o : Oper) : Nat := o.after.toList.foldl (ancStep acc) 0
noncomputable def ancs : List Oper → List Nat → List Nat
  | [], acc => acc
  | o :: l, acc => ancs l (acc ++ [ancOf acc o])
noncomputable def loose (aas : List Nat) : Nat → List (Nat × Nat)
  | 0 => []
  | j + 1 => loose aas j ++ ((List.range j).filter fun i => !((aas.getD j 0).testBit i)).map fun i => (i, j)
/-- the pairs of operations that may change places -/
noncomputable def pairsOf (ops : Array Oper) : List (Nat × Nat) := loose (ancs ops.toList []) ops.size
/-- what stands ahead has a lower number -/
noncomputable def orderedB (ops : Array Oper) : Bool := (List.range ops.size).all fun j => match ops[j]? with
  | some o => o.after.toList.all fun e => !Region.binds .any e || Nat.blt e.on j
  | none => true
noncomputable def apartAll (ops : Array Oper) : Bool :=
  Region.noSelect ops && orderedB ops && (pairsOf ops).all fun (i, j) => match ops[i]?, ops[j]? with
    | some x, some y => x.apart ops y
    | _, _ => false
noncomputable def clash (x y : Mk) : Bool :=
  x.1.any fun e => (Nat.ble y.2.1 e.2.1 && Nat.blt e.2.1 y.2.2) || y.1.any fun g => (e.1 || g.1) && Nat.beq e.2.1 g.2.1 && (Nat.beq e.2.2 0 || Nat.beq g.2.2 0 || Nat.beq e.2.2 g.2.2)
noncomputable def inside (x y : Mk) : Bool := y.1.any fun e => Nat.ble x.2.1 e.2.1 && Nat.blt e.2.1 x.2.2
noncomputable def marksA (rec : Rec) (ops : Array Oper) : List Oper → Tm → List Mk → M (Tm × List Mk)
  | [], tm, ms => ret (tm, ms)
  | o :: l, tm, ms => bnd (traced (stepA P rec ops o tm)) fun (tm, mk) => marksA rec ops l tm (ms ++ [mk])
noncomputable def formW (x : Mk) : Bool := x.1.any fun e => e.1 && Nat.beq e.2.2 1
noncomputable def wrong (ops : Array Oper) (ms : List Mk) : Bool :=
  ms.any formW || (pairsOf ops).any fun (i, j) => match ms[i]?, ms[j]? with
    | some x, some y => clash x y || inside x y
    | _, _ => true
noncomputable def noneB (x : Mk) : Bool := match x.1 with
  | [] => Nat.beq x.2.1 x.2.2
  | _ => false
noncomputable def fewB : List Mk → Bool
  | [] => true
  | x :: l => match noneB x with
    | true => fewB l
    | false => l.all noneB
noncomputable def readsB (x : Mk) : Bool := Nat.beq x.2.1 x.2.2 && x.1.all fun e => !e.1
noncomputable def wrongQ (ops : Array Oper) (ms : List Mk) : Bool := match fewB ms || ms.all readsB with
  | true => ms.any formW
  | false => wrong ops ms
noncomputable def drawA (rec : Rec) (ops : Array Oper) (tm : Tm) : M Tm :=
  match apartAll ops with
  | false => err
  | true => bnd (marksA P rec ops ops.toList tm []) fun (tm, ms) => match wrongQ ops ms with
    | true => err
    | false => ret tm

/-- a range over a function, outside of a round -/
noncomputable def rangeA (rec : Rec) (g : Operand) (ps : Array Nat) (asg body : Code) (tm : Tm) (ds : List Nat) : M (Ex × Tm × List Nat) :=
  match evA tm g with
  | some (.fn f cap) => match Nat.blt f 1000000 with
    | true => bnd (alloc .df) fun d => bnd (alloc (.lp .ready tm ps.toList asg body none d)) fun b =>
      bnd (callA P rec f (.yld b :: cap)) fun _ => bnd (getB b) fun x => match x with
      | .lp st tm' ps' asg' body' pend df' => match busyS st, exOf pend with
        | false, some e => bnd (setB b (.lp .exhausted tm' ps' asg' body' pend df')) fun _ => ret (e, tm, d :: ds)
        | _, _ => err
      | _ => err
    | false => err
  | _ => err

noncomputable def k_seq (rec : Rec) (r : Bool) (b : Code) (x : Ex × Tm × List Nat) : M (Ex × Tm × List Nat) := match x with
  | (e, tm, ds) => match e with
    | .normal => rec r b tm ds
    | e => ret (e, tm, ds)
noncomputable def c_seq (rec : Rec) (r : Bool) (a b : Code) (tm : Tm) (ds : List Nat) : M (Ex × Tm × List Nat) := bnd (rec r a tm ds) (k_seq rec r b)
noncomputable def c_cond (rec : Rec) (r : Bool) (x : Operand) (a b : Code) (tm : Tm) (ds : List Nat) : M (Ex × Tm × List Nat) := match evA tm x with
  | some (.bool true) => rec r a tm ds
  | some (.bool false) => rec r b tm ds
  | _ => err
noncomputable def c_block (rec : Rec) (r : Bool) (id : Nat) (c : Code) (tm : Tm) (ds : List Nat) : M (Ex × Tm × List Nat) := bnd (rec r c tm ds) fun (e, tm, ds) => match e with
  | .exit id' => match Nat.beq id' id with
    | true => ret (.normal, tm, ds)
    | false => ret (.exit id', tm, ds)
  | e => ret (e, tm, ds)
noncomputable def c_region (rec : Rec) (ops : Array Oper) (dr : Bool) (tm : Tm) (ds : List Nat) : M (Ex × Tm × List Nat) := match dr with
  | false => bnd (opsA P rec ops ops.toList tm) fun tm => ret (.normal, tm, ds)
  | true => bnd (drawA P rec ops tm) fun tm => ret (.normal, tm, ds)
noncomputable def c_rf (rec : Rec) (r : Bool) (g : Operand) (ps : Array Nat) (asg body : Code) (tm : Tm) (ds : List Nat) : M (Ex × Tm × List Nat) := match r with
  | false => rangeA P rec g ps asg body tm ds
  | true => err
noncomputable def stepC (rec : Rec) (r : Bool) (c : Code) (tm : Tm) (ds : List Nat) : M (Ex × Tm × List Nat) :=
  Code.casesOn (motive := fun _ => M (Ex × Tm × List Nat)) c (ret (.normal, tm, ds)) (fun _ ops dr => c_region P rec ops dr tm ds) (fun a b => c_seq rec r a b tm ds) (fun x a b => c_cond rec r x a b tm ds) (fun id c => c_block rec r id c tm ds)
    (fun c => bnd (rec r c tm ds) (k_seq rec r (.loop c))) (fun g ps asg body => c_rf P rec r g ps asg body tm ds) (fun id => ret (.exit id, tm, ds)) (fun c => rec r c tm ds) (fun _ => ret (.normal, tm, ds)) (fun _ => err) (ret (.ret, tm, ds)) (fun _ => err)
/-- code; the Bool: within a round of a range over a function -/
noncomputable def evC (f : Nat) : Rec := Nat.rec (motive := fun _ => Rec) (fun _ _ _ _ => err) (fun _ ih => stepC P ih) f
end
end Ev
end Go.Proofs.YtacjgphfcailmaaGreatDoor
