/-
 An abstract machine in plain Lean: it runs a program's code over virtual blocks, and is later shown to tell what the model's machine does, in whatever world and on whatever tape. What Go leaves open it leaves open: where the order of operations is drawn, whatever may come early or late must tell the same; what an append answers may lie in its old row or in a new one. What an abstract value, block and heap stand for in a world; and how looking, storing and making new blocks keep that. The heap of the abstract machine and a world's: what each step does to both. Loads, stores, and the three ways of an append, in the abstract heap and in a world's.
-/
import Derived.Calls
import Derived.Laws.Sem
import Derived.Laws.World
set_option linter.unusedSimpArgs false
set_option linter.unusedVariables false
namespace Go.Eng
open Go

/-- what a name is of -/
inductive Ty where
 | int (k : IntKind) | str | bool | lst

/-- Names of values that are not known: what they are of what else. 'fn': what a function, by a number, tells of two. -/
inductive Tok where
 | v (y : Ty) (n : Nat)
 | ki (k : IntKind) (n : Int) | ks (l : List UInt8) | kb (b : Bool)
 | len (s : Tok)
 | ar (op : Nat) (k : IntKind) (a b : Tok)
 | cv (k : IntKind) (a : Tok)
 | idx (s i : Tok)
 | sub (s lo hi : Tok)
 | cat (a b : Tok)
 | cmp (op : Nat) (a b : Tok)
 | seq (a b : Tok)
 | fits (a b : Tok)
 | fn (y : Ty) (f : Nat) (a b : Tok)
 | pk (a b : Tok) | lnil | snoc (l x : Tok) | llen (l : Tok) | lget (j : Nat) (y : Ty) (l i : Tok)

/-- 'sq': a slice of the row of a block, of as many elements as a name says; 'sp': a place in such a row. Abstract values: 'at': itself; 'unk': whatever, of one cell; 'ptr', 'sl', 'map', 'yield': by virtual blocks; 'slz': a slice without elements, whose place is not known. -/
inductive AV where
 | at (v : Value) | sym (n : Tok) | unk | str (l : List UInt8) | ptr (b o : Nat)
 | sl (b o len cap e : Nat) (ex : Bool) | slz (ex : Bool) | map (b : Nat) | fn (f : Fn) (first cap : List AV) | yield (b : Nat)
 | iface (t : TypeId) (v : AV) | agg (l : List AV) | tup (l : List AV)
 | sq (b e : Nat) (n : Tok) | sp (b e : Nat) (i : Tok) (o : Nat)

inductive Tr (α : Type) where
 | leaf | node (l : Tr α) (v : Option α) (r : Tr α)

def Tr.get {α : Type} : Tr α → Nat → Option α
 | .leaf, _ => none
 | .node l v r, n => match n with
  | 0 => v
  | k + 1 => bif Nat.beq (k % 2) 0 then l.get (k / 2) else r.get (k / 2)

def Tr.set {α : Type} : Nat → Tr α → Nat → α → Tr α
 | 0, t, _, _ => t
 | f + 1, .leaf, n, a => match n with
  | 0 => .node .leaf (some a) .leaf
  | k + 1 => bif Nat.beq (k % 2) 0 then .node (Tr.set f .leaf (k / 2) a) none .leaf else .node .leaf none (Tr.set f .leaf (k / 2) a)
 | f + 1, .node l v r, n, a => match n with
  | 0 => .node l (some a) r
  | k + 1 => bif Nat.beq (k % 2) 0 then .node (Tr.set f l (k / 2) a) v r else .node l v (Tr.set f r (k / 2) a)

inductive ADef where
 | call (f : FuncId) (args : List AV)
 | coll (b : Nat)

inductive AObj where
 | cells (el : TypeId) (l : List AV) (solo front : Bool)
 | map (es : List (AV × AV)) 
 | loop (st : LoopState) (pend : Option Code) (fn : FuncId) (tmps : List AV) (params : Array Tmp) (assign body : Code) (defers : Nat)
 | dfr (l : Option (List ADef))
 | seq (el : TypeId) (tys : List Ty) (l : Tok) (front : Bool)

structure AHeap where
 t : Tr AObj
 n : Nat

def AHeap.get (h : AHeap) (b : Nat) : Option AObj := h.t.get b
def AHeap.put (h : AHeap) (b : Nat) (o : AObj) : AHeap := { t := Tr.set (b + 1) h.t b o, n := h.n }
def AHeap.new (h : AHeap) (o : AObj) : AHeap := { t := Tr.set (h.n + 1) h.t h.n o, n := h.n + 1 }

structure TI where
 u : TypeDesc
 size : Nat
 bytes : Nat
 zero : AV

inductive Ext where
 | idxStr | cntStr | idxBytes | add64 | same | noZero

/-- What the machine leans on: tables of the program's own. -/
structure Env where
 P : Program
 ty : Nat → Option TI
 fn : Nat → Option Func
 ext : Nat → Option Ext
 flat : Nat → Bool
 glob : Nat → Bool
 byte : TypeId
 orc : AHeap → Nat → List AV → Option (AV × AHeap)
 orq : AHeap → (Operand → AV) → Op → Option AV
 orx : Ext → List AV → Option AV
 orb : AHeap → (Operand → AV) → Op → Option (AV × AHeap)

def ofValue1 : Value → AV
 | .string s => .str s.data.toList
 | v => .at v
def ofValue : Value → AV
 | .string s => .str s.data.toList
 | .func f ⟨[]⟩ ⟨[]⟩ => .fn f [] []
 | .agg cs => .agg (cs.toList.map ofValue1)
 | v => .at v

def isAggT : TypeDesc → Bool
 | .struct _ | .array _ _ => true
 | _ => false

def AV.cells : AV → List AV
 | .agg l => l
 | v => [v]

/-- of one cell for sure -/
def AV.cell : AV → Bool
 | .agg _ | .tup _ | .unk => false
 | .at v => match v with
  | .agg _ | .tuple _ => false
  | _ => true
 | _ => true

def pureRun {α : Type} (P : Program) : Sem α → Option α
 | .pure a => some a
 | .program k => pureRun P (k P)
 | .mark _ k => pureRun P k
 | _ => none

def setRange {α : Type} : List α → Nat → List α → List α
 | l, _, [] => l
 | [], _, _ :: _ => []
 | _ :: xs, 0, c :: cs => c :: setRange xs 0 cs
 | x :: xs, n + 1, c :: cs => x :: setRange xs n (c :: cs)

def lenGe : List AV → Nat → Bool
 | _, 0 => true
 | [], _ + 1 => false
 | _ :: xs, n + 1 => lenGe xs n

section
variable (E : Env)

def loadN (h : AHeap) (b o n : Nat) : Option (List AV) :=
 match h.get b with
 | some (.cells _ l _ _) => bif lenGe l (o + n) then some ((l.drop o).take n) else none
 | _ => none

def load1 (h : AHeap) (b o : Nat) : Option AV :=
 match h.get b with
 | some (.cells _ l _ _) => l[o]?
 | _ => none

def loadT (h : AHeap) (ti : TI) (b o : Nat) : Option AV :=
 bif isAggT ti.u then (match loadN h b o ti.size with | some l => some (.agg l) | none => none) else load1 h b o

def storeN (h : AHeap) (b o : Nat) (vs : List AV) : Option AHeap :=
 match h.get b with
 | some (.cells el l solo fr) => bif solo && (lenGe l (o + vs.length) && vs.all AV.cell) then some (h.put b (.cells el (setRange l o vs) true fr)) else none
 | _ => none

def partA (ti : TI) (l : List AV) (off : Nat) : Option AV :=
 bif isAggT ti.u then (bif lenGe l (off + ti.size) then some (.agg ((l.drop off).take ti.size)) else none) else l[off]?

def kindB (a b : IntKind) : Bool := match a, b with
 | .i8, .i8 | .i16, .i16 | .i32, .i32 | .i64, .i64 | .u8, .u8 | .u16, .u16 | .u32, .u32 | .u64, .u64 => true
 | _, _ => false

/-- equality of cells that are atoms -/
def eqAtom : TypeDesc → AV → AV → Option Bool
 | .int _, .at (.int j a), .at (.int k b) => bif kindB j k then some (a == b) else none
 | .bool, .at (.bool a), .at (.bool b) => some (a == b)
 | .string, .str a, .str b => some (a == b)
 | _, _, _ => none

def eqCells : List Field → List AV → List AV → Option Bool
 | [], [], [] => some true
 | f :: fs, a :: xs, b :: ys => match E.ty f.type with
  | some fi => match eqAtom fi.u a b with
   | some true => eqCells fs xs ys
   | some false => some false
   | none => none
  | none => none
 | _, _, _ => none

/-- ==, where one side is no atom -/
def eqA (t : TypeId) (x y : AV) : Option Bool :=
 match E.ty t with
 | none => none
 | some ti =>
  match ti.u, x, y with
  | .struct fs, .agg a, .agg b => bif E.flat t then eqCells E fs.toList a b else none
  | .pointer e, .ptr b o, .ptr b' o' => match E.ty e with
   | some ei => bif Nat.beq b b' && Nat.beq o o' && !(Nat.beq ei.size 0) then some true else none
   | none => none
  | .pointer _, .ptr _ _, .at (.pointer none) => some false
  | .pointer _, .at (.pointer none), .ptr _ _ => some false
  | .slice _, .sl .., .at (.slice none _ _) => some false
  | .slice _, .at (.slice none _ _), .sl .. => some false
  | .slice _, .slz _, .at (.slice none _ _) => some false
  | .map _ _, .map _, .at (.map none) => some false
  | .func _ _ _, .fn .., .at .nilFunc => some false
  | .func _ _ _, .yield _, .at .nilFunc => some false
  | .interface _, .iface .., .at .nilIface => some false
  | _, _, _ => none

def binO (op : BinOp) (t : TypeId) (x y : AV) : Option AV :=
 match op with
 | .eql => match eqA E t x y with
  | some b => some (.at (.bool b))
  | none => none
 | .neq => match eqA E t x y with
  | some b => some (.at (.bool (!b)))
  | none => none
 | _ => none

def binA (op : BinOp) (t : TypeId) (xo yo : Operand) (x y : AV) : Option AV :=
 match x, y with
 | .at a, .at b => match pureRun E.P (do eqGuard op t xo yo a b; binOp op t a b) with
  | some v => some (.at v)
  | none => none
 | .str a, .str b =>
  match op with
  | .add => bif Nat.ble (a.length + b.length) 1000000 then some (.str (a ++ b)) else none
  | .eql => some (.at (.bool (a == b)))
  | .neq => some (.at (.bool (!(a == b))))
  | .lss => some (.at (.bool (Op.bytesLess a b)))
  | .leq => some (.at (.bool (Op.bytesLess a b || a == b)))
  | .gtr => some (.at (.bool (!(Op.bytesLess a b || a == b))))
  | .geq => some (.at (.bool (!Op.bytesLess a b)))
  | _ => none
 | x, y => binO E op t x y

def fillA (place : Nat → Option (Nat × Nat)) (cells : List AV) : List (Nat × AV) → Option (List AV)
 | [] => some cells
 | (i, v) :: rest =>
  match place i with
  | none => none
  | some (off, size) =>
   bif Nat.beq v.cells.length size && (lenGe cells (off + size) && v.cells.all AV.cell) then fillA place (setRange cells off v.cells) rest else none

def fieldsA (fields : Array Field) (i : Nat) : Option (Nat × Nat) :=
 match fields[i]? with
 | some f => match E.ty f.type with
  | some fi => some (f.offset, fi.size)
  | none => none
 | none => none

/-- are all the fields' types known? -/
def fieldsKnown (fields : List Field) : Bool := fields.all fun f => (E.ty f.type).isSome

def buildA (t : TypeId) (parts : List (Nat × AV)) : Option AV :=
 match E.ty t with
 | some ti => match ti.u with
  | .struct fields => bif fieldsKnown E fields.toList then
    match fillA (fieldsA E fields) ti.zero.cells parts with
    | some l => some (.agg l)
    | none => none
   else none
  | .array _ elem => match E.ty elem with
   | some ei => match fillA (fun i => some (i * ei.size, ei.size)) ti.zero.cells parts with
    | some l => some (.agg l)
    | none => none
   | none => none
  | _ => none
 | none => none

def rep (z : List AV) : Nat → List AV
 | 0 => []
 | n + 1 => z ++ rep z n

def bound (v : Option AV) (dflt lim : Nat) : Option Nat :=
 match v with
 | none => some dflt
 | some (.at (.int _ (.ofNat n))) => bif Nat.ble n lim then some n else none
 | _ => none

/-- low, high, max of a cut -/
def bounds3 (len cap : Nat) (lo hi mx : Option AV) : Option (Nat × Nat × Nat) :=
 match bound mx cap cap with
 | some m => match bound hi len m with
  | some h => match bound lo 0 h with
   | some k => match hi, mx with
    | none, some _ => none
    | _, _ => some (k, h, m)
   | none => none
  | none => none
 | none => none

def sliceA (hp : AHeap) (t : TypeId) (x : AV) (lo hi mx : Option AV) : Option AV :=
 match E.ty t with
 | none => none
 | some ti =>
  match ti.u, x with
  | .string, .str l => match mx, bounds3 l.length l.length lo hi none with
   | none, some (k, h, _) => some (.str ((l.drop k).take (h - k)))
   | _, _ => none
  | .slice e, .at (.slice none 0 0) => match E.ty e, bounds3 0 0 lo hi mx with
   | some _, some _ => some (.at (.slice none 0 0))
   | _, _ => none
  | .slice e, .slz ex => match E.ty e, bounds3 0 0 lo hi mx with
   | some _, some _ => some (.slz (ex || mx.isSome))
   | _, _ => none
  | .slice el, .sl b o len cap e ex => match E.ty el, bounds3 len cap lo hi mx with
   | some ei, some (k, h, m) => bif Nat.beq ei.size e then
     (bif Nat.beq m k then some (.slz (ex || mx.isSome)) else some (.sl b (o + k * e) (h - k) (m - k) e (ex || mx.isSome)))
    else none
   | _, _ => none
  | .array n el, .ptr b o => match E.ty el, bounds3 n n lo hi mx with
   | some ei, some (k, h, m) => match hp.get b with
    | some (.cells _ l _ _) => bif Nat.beq ei.size 0 || !lenGe l (o + n * ei.size) then none else
     (bif Nat.beq m k then some (.slz true) else some (.sl b (o + k * ei.size) (h - k) (m - k) ei.size true))
    | _ => none
   | _, _ => none
  | _, _ => none

def elemOfSlice (t : TypeId) : Option (TypeId × TI) :=
 match E.ty t with
 | some ti => match ti.u with
  | .slice e => match E.ty e with
   | some ei => some (e, ei)
   | none => none
  | _ => none
 | none => none

def bytesA : List AV → Option (List UInt8)
 | [] => some []
 | .at (.int .u8 (.ofNat n)) :: cs => bif Nat.blt n 256 then (match bytesA cs with
  | some l => some (UInt8.ofNat n :: l)
  | none => none) else none
 | _ => none

def cellsOfStr (l : List UInt8) : List AV := l.map fun b => .at (.int .u8 (.ofNat b.toNat))

/-- the elements of a slice, or a string, of elements of e cells: how many, and their cells -/
def srcCells (h : AHeap) (e : Nat) : AV → Option (Nat × List AV)
 | .at (.slice none 0 0) => some (0, [])
 | .slz _ => some (0, [])
 | .str l => bif Nat.beq e 1 then some (l.length, cellsOfStr l) else none
 | .sl b o len _ e' _ => bif Nat.beq e e' then (match loadN h b o (len * e) with
  | some c => some (len, c)
  | none => none) else none
 | _ => none

def isIntT : TypeDesc → Bool
 | .int _ => true
 | _ => false

def appendA (h : AHeap) (t u : TypeId) (s x : AV) : Option (AV × AHeap) :=
 match elemOfSlice E t, E.ty u with
 | some (el, ei), some ui =>
  bif isIntT ui.u || Nat.beq ei.size 0 then none else
  match srcCells h ei.size x with
  | none => none
  | some (n, new) =>
   bif Nat.ble n 1000000 && (Nat.ble (ei.bytes * (2 * (n + 1000000))) (2 ^ 47) && new.all AV.cell) then
   match s with
   | .at (.slice none 0 0) => bif Nat.beq n 0 then some (s, h) else some (.sl h.n 0 n n ei.size false, h.new (.cells el new true true))
   | .slz ex => bif Nat.beq n 0 then some (s, h) else bif ex then some (.sl h.n 0 n n ei.size false, h.new (.cells el new true true)) else none
   | .sl b o len cap e ex =>
    bif Nat.beq e ei.size && Nat.ble cap 1000000 then
     bif Nat.beq n 0 then some (s, h)
     else bif Nat.ble (len + n) cap then
      match storeN h b (o + len * e) new with
      | some h' => some (.sl b o (len + n) cap e ex, h')
      | none => none
     else match loadN h b o (len * e), h.get b with
      | some old, some (.cells el' l _ front) =>
       bif ex then some (.sl h.n 0 (len + n) (len + n) e false, h.new (.cells el (old ++ new) true true))
       else bif front && Nat.beq l.length (o + len * e) && Nat.beq el el' then
        some (.sl h.n 0 (len + n) (len + n) e false, (h.put b (.cells el' l false false)).new (.cells el (old ++ new) false true))
       else none
      | _, _ => none
    else none
   | _ => none
   else none
 | _, _ => none

/-- conversions that make no memory -/
def convQ (h : AHeap) (src dst : TypeId) (x : AV) : Option AV :=
 match E.ty src, E.ty dst with
 | some s, some d =>
  match s.u, d.u, x with
  | .int _, .int k, .at (.int _ n) => some (.at (.int k (k.wrap n)))
  | .string, .string, .str l => some (.str l)
  | .pointer t, .unsafePointer, .ptr b o => match load1 h b o, E.ty t with
   | some _, some ti => bif Nat.beq ti.size 0 then none else some (.ptr b o)
   | _, _ => none
  | .unsafePointer, .pointer t, .ptr b 0 => match h.get b, E.ty t with
   | some (.cells el l true false), some ti => bif Nat.beq el t && Nat.beq l.length ti.size && !(Nat.beq ti.size 0) then some (.ptr b 0) else none
   | _, _ => none
  | .slice e, .string, x => match E.ty e with
   | some ei => match ei.u with
    | .int .u8 => match srcCells h 1 x with
     | some (_, cs) => match x, bytesA cs with
      | .str _, _ => none
      | _, some l => some (.str l)
      | _, none => none
     | none => none
    | _ => none
   | none => none
  | _, _, _ => none
 | _, _ => none

inductive ANext where
 | val (v : AV) (h : AHeap)
 | enter (f : FuncId) (args : List AV) (h : AHeap)
 | told (f : FuncId) (args : List AV) (v : AV) (h : AHeap)
 | round (b : Nat) (args : List AV) (h : AHeap)
 | dfr (d : ADef) (h : AHeap)
 | recov (h : AHeap)

def lookA (u : TypeDesc) (k : AV) : List (AV × AV) → Option (Option (Nat × AV))
 | [] => some none
 | (k', v) :: es => match eqAtom u k k' with
  | some true => some (some (0, v))
  | some false => match lookA u k es with
   | some (some (i, v)) => some (some (i + 1, v))
   | r => r
  | none => none

def updA (k v : AV) : List (AV × AV) → Nat → List (AV × AV)
 | [], _ => [(k, v)]
 | _ :: es, 0 => (k, v) :: es
 | e :: es, i + 1 => e :: updA k v es i

def idxA (l : List UInt8) (c : Nat) : Int := match l.findIdx? (fun b => Nat.beq b.toNat c) with
 | some i => .ofNat i
 | none => -1

def externA (x : Ext) (args : List AV) (h : AHeap) : Option (AV × AHeap) :=
 match x, args with
 | .idxStr, [.str l, .at (.int .u8 (.ofNat c))] => bif Nat.blt c 256 then
   some (.at (.int .i64 (idxA l c)), h) else none
 | .cntStr, [.str l, .at (.int .u8 (.ofNat c))] => bif Nat.blt c 256 then some (.at (.int .i64 (.ofNat (l.countP (fun b => Nat.beq b.toNat c)))), h) else none
 | .idxBytes, [x, .at (.int .u8 (.ofNat c))] =>
  match x with
  | .str _ => none
  | _ => match srcCells h 1 x with
   | some (_, cs) => match bytesA cs with
    | some l => bif Nat.blt c 256 then
      some (.at (.int .i64 (idxA l c)), h) else none
    | none => none
   | none => none
 | .add64, [.at (.int .u64 (.ofNat x)), .at (.int .u64 (.ofNat y)), .at (.int .u64 (.ofNat c))] =>
  bif Nat.ble c 1 then some (.tup [.at (.int .u64 (.ofNat ((x + y + c) % 2 ^ 64))), .at (.int .u64 (.ofNat ((x + y + c) / 2 ^ 64)))], h) else none
 | .same, [x] => some (x, h)
 | .noZero, [.at (.int .i64 (.ofNat n))] => bif Nat.beq n 0 || !Nat.ble n 1000000 then none else some (.sl h.n 0 n n 1 false, h.new (.cells E.byte (rep [.unk] n) true true))
 | _, _ => none

def externB (x : Ext) (args : List AV) (h : AHeap) : Option (AV × AHeap) :=
 match E.orx x args with
 | some v => some (v, h)
 | none => externA E x args h

def callA (h : AHeap) (fv : AV) (args : List AV) : Option ANext :=
 match fv with
 | .fn (.func f) first cap =>
  match E.ext f with
  | some x => match externB E x (first ++ args ++ cap) h with
   | some (v, h) => some (.val v h)
   | none => none
  | none => match E.fn f with
   | some fn => match fn.body with
    | some _ => match E.orc h f (first ++ (args ++ cap)) with
     | some (v, h') => some (.told f (first ++ (args ++ cap)) v h')
     | none => some (.enter f (first ++ (args ++ cap)) h)
    | none => none
   | none => none
 | .yield b => some (.round b args h)
 | _ => none

/-- builtins that only look -/
def builtinQ (h : AHeap) (b : Builtin) (ts : Array TypeId) (args : List AV) : Option AV :=
 match b, args with
 | .len, [x] => match ts[0]? with
  | some t => match E.ty t with
   | some ti => match ti.u, x with
    | .string, .str l => some (.at (.int .i64 (.ofNat l.length)))
    | .slice _, .sl _ _ n _ _ _ => some (.at (.int .i64 (.ofNat n)))
    | .slice _, .slz _ => some (.at (.int .i64 0))
    | .slice _, .at (.slice none n _) => some (.at (.int .i64 (.ofNat n)))
    | .map _ _, .at (.map none) => some (.at (.int .i64 0))
    | .map _ _, .map b => match h.get b with
     | some (.map es) => some (.at (.int .i64 (.ofNat es.length)))
     | _ => none
    | _, _ => none
   | none => none
  | none => none
 | .cap, [x] => match ts[0]? with
  | some t => match E.ty t with
   | some ti => match ti.u, x with
    | .slice _, .sl _ _ _ n _ true => some (.at (.int .i64 (.ofNat n)))
    | .slice _, .at (.slice none _ n) => some (.at (.int .i64 (.ofNat n)))
    | _, _ => none
   | none => none
  | none => none
 | .min, [.at (.int k x), .at (.int _ y)] => some (.at (.int k (if y < x then y else x)))
 | .max, [.at (.int k x), .at (.int _ y)] => some (.at (.int k (if x < y then y else x)))
 | _, _ => none

def builtinE (h : AHeap) (b : Builtin) (ts : Array TypeId) (args : List AV) : Option ANext :=
 match b, args with
 | .append, [s, x] => match ts[0]?, ts[1]? with
  | some t, some u => match appendA E h t u s x with
   | some (v, h) => some (.val v h)
   | none => none
  | _, _ => none
 | .copy, [.sl b o len _ e _, x] => match ts[0]? with
  | some t => match elemOfSlice E t with
   | some (_, ei) => bif Nat.beq ei.size e then
     match srcCells h e x with
     | some (n, cs) => match storeN h b o (cs.take (Nat.min n len * e)) with
      | some h' => some (.val (.at (.int .i64 (.ofNat (Nat.min n len)))) h')
      | none => none
     | none => none
    else none
   | none => none
  | none => none
 | .recover, [] => some (.recov h)
 | .unsafeSliceData, [.sl b o _ cap _ _] => bif Nat.beq cap 0 then none else some (.val (.ptr b o) h)
 | .unsafeString, [.ptr b 0, .at (.int _ (.ofNat n))] => match ts[0]? with
  | some t => match E.ty t with
   | some ti => match ti.u with
    | .pointer e => bif Nat.beq e E.byte && (!Nat.beq n 0 && Nat.ble n 1000000) then
      match loadN h b 0 n, h.get b with
      | some cs, some (.cells el l _ fr) => bif Nat.beq el E.byte && fr then
        match bytesA cs with
        | some s => some (.val (.str s) (h.put b (.cells el l false false)))
        | none => none
       else none
      | _, _ => none
     else none
    | _ => none
   | none => none
  | none => none
 | _, _ => none

/-- operations that make nothing and change nothing -/
def qop0 (h : AHeap) (ev : Operand → AV) (o : Op) : Option AV :=
 match o with
 | .move x | .assign x => some (ev x)
 | .pick c a b => match ev c with
  | .at (.bool t) => some (bif t then ev a else ev b)
  | _ => none
 | .build t parts => buildA E t (parts.toList.map fun p => (p.1, ev p.2))
 | .load t a => match ev a, E.ty t with
  | .ptr b o, some ti => loadT h ti b o
  | _, _ => none
 | .nilCheck x => match ev x with
  | .ptr b o => some (.ptr b o)
  | .fn (.func f) a b => some (.fn (.func f) a b)
  | .yield b => some (.yield b)
  | _ => none
 | .binOp op t x y _ => binA E op t x y (ev x) (ev y)
 | .unOp op _ x => match ev x with
  | .at v => match pureRun E.P (Op.unary op v) with
   | some v => some (.at v)
   | none => none
  | _ => none
 | .convert s d x => convQ E h s d (ev x)
 | .makeInterface t x => match E.ty t with
  | some ti => match ti.u with
   | .interface _ => none
   | _ => some (.iface t (ev x))
  | none => none
 | .makeFunc f first cap => some (.fn f (first.toList.map ev) (cap.toList.map ev))
 | .slice t x lo hi mx => sliceA E h t (ev x) (lo.map ev) (hi.map ev) (mx.map ev)
 | .fieldAddr s x f => match E.ty s, ev x with
  | some ti, .ptr b o => match ti.u with
   | .struct fields => match fields[f]? with
    | some fd => match E.ty fd.type with
     | some fi => bif Nat.beq fi.size 0 then none else some (.ptr b (o + fd.offset))
     | none => none
    | none => none
   | _ => none
  | _, _ => none
 | .field s x f => match E.ty s, ev x with
  | some ti, .agg l => match ti.u with
   | .struct fields => match fields[f]? with
    | some fd => match E.ty fd.type with
     | some fi => partA fi l fd.offset
     | none => none
    | none => none
   | _ => none
  | _, _ => none
 | .indexAddr t x i => match E.ty t, ev i, ev x with
  | some ti, .at (.int _ (.ofNat k)), .sl b o len _ e _ => match ti.u with
   | .slice elem => match E.ty elem with
    | some ei => bif Nat.beq ei.size e && Nat.blt k len then some (.ptr b (o + k * e)) else none
    | none => none
   | _ => none
  | some ti, .at (.int _ (.ofNat k)), .ptr b o => match ti.u with
   | .array n elem => match E.ty elem with
    | some ei => bif Nat.blt k n then some (.ptr b (o + k * ei.size)) else none
    | none => none
   | _ => none
  | _, _, _ => none
 | .index t x i => match E.ty t, ev i, ev x with
  | some ti, .at (.int _ (.ofNat k)), .str l => match ti.u with
   | .string => match l[k]? with
    | some b => some (.at (.int .u8 (.ofNat b.toNat)))
    | none => none
   | _ => none
  | some ti, .at (.int _ (.ofNat k)), .agg l => match ti.u with
   | .array n elem => match E.ty elem with
    | some ei => bif Nat.blt k n then partA ei l (k * ei.size) else none
    | none => none
   | _ => none
  | _, _, _ => none
 | .lookup t m k ok => match ev m, E.ty t with
  | .map b, some ti => match h.get b, ti.u with
   | some (.map es), .map key elem => match E.ty key, E.ty elem with
    | some ki, some ei => match ki.u, lookA ki.u (ev k) es with
     | .int _, some r | .string, some r =>
      let v := match r with | some (_, v) => v | none => ei.zero
      some (bif ok then .tup [v, .at (.bool r.isSome)] else v)
     | _, _ => none
    | _, _ => none
   | _, _ => none
  | _, _ => none
 | .extract x i => match ev x with
  | .tup l => l[i]?
  | _ => none
 | .call c => match c.callee with
  | .builtin b => builtinQ E h b c.argTypes (c.args.toList.map ev)
  | _ => none
 | _ => none

/-- the same; what is told of values that are not known comes first -/
def qop (h : AHeap) (ev : Operand → AV) (o : Op) : Option AV :=
 match E.orq h ev o with
 | some v => some v
 | none => qop0 E h ev o

/-- a new variable: its type, its cells -/
def allocA (ev : Operand → AV) (o : Op) : Option (TypeId × List AV) :=
 match o with
 | .alloc t => match E.ty t with
  | some ti => some (t, ti.zero.cells)
  | none => none
 | .box t x => bif (ev x).cells.all AV.cell then some (t, (ev x).cells) else none
 | .buildSlice t len parts => match elemOfSlice E t with
  | some (el, ei) => bif Nat.ble (len * ei.size) 1000000 && (!Nat.beq ei.size 0 && !Nat.beq len 0) then
    match fillA (fun i => some (i * ei.size, ei.size)) (rep ei.zero.cells len) (parts.toList.map fun p => (p.1, ev p.2)) with
    | some cs => bif Nat.beq cs.length (len * ei.size) then some (el, cs) else none
    | none => none
   else none
  | none => none
 | _ => none

/-- what stands for the new variable: a pointer, or a slice of all of it -/
def newA (o : Op) (n b : Nat) : AV :=
 match o with
 | .buildSlice _ len _ => .sl b 0 len len (n / len) true
 | _ => .ptr b 0

/-- operations that make memory, change it, or call -/
def eop0 (h : AHeap) (ev : Operand → AV) (o : Op) : Option ANext :=
 match o with
 | .buildSlice t len parts => match elemOfSlice E t with
  | some (el, ei) => bif Nat.ble (len * ei.size) 1000000 && !Nat.beq ei.size 0 then
    match fillA (fun i => some (i * ei.size, ei.size)) (rep ei.zero.cells len) (parts.toList.map fun p => (p.1, ev p.2)) with
    | some cs => some (.val (bif Nat.beq len 0 then .slz true else .sl h.n 0 len len ei.size true) (h.new (.cells el cs true false)))
    | none => none
   else none
  | none => none
 | .store t a x => match ev a, E.ty t with
  | .ptr b o, some ti => bif Nat.beq (ev x).cells.length ti.size then
    match storeN h b o (ev x).cells with
    | some h' => some (.val (.tup []) h')
    | none => none
   else none
  | _, _ => none
 | .convert s d x => match E.ty s, E.ty d, ev x with
  | some si, some di, .str l => match si.u, di.u with
   | .string, .slice e => match E.ty e with
    | some ei => match ei.u with
     | .int .u8 => some (.val (.sl h.n 0 l.length l.length 1 false) (h.new (.cells e (cellsOfStr l) true true)))
     | _ => none
    | none => none
   | _, _ => none
  | _, _, _ => none
 | .makeMap _ none => some (.val (.map h.n) (h.new (.map [])))
 | .makeSlice t l c => match elemOfSlice E t, ev l, ev c with
  | some (el, ei), .at (.int _ (.ofNat n)), .at (.int _ (.ofNat m)) =>
   bif Nat.ble n m && (Nat.ble m 1000000 && (Nat.ble (ei.bytes * m) (2 ^ 40) && !Nat.beq ei.size 0)) then
    some (.val (bif Nat.beq m 0 then .slz true else .sl h.n 0 n m ei.size true) (h.new (.cells el (rep ei.zero.cells m) true false))) else none
  | _, _, _ => none
 | .mapUpdate t m k x | .insert t m k x => match ev m, E.ty t with
  | .map b, some ti => match h.get b, ti.u with
   | some (.map es), .map key _ => match E.ty key with
    | some ki => match ki.u, lookA ki.u (ev k) es with
     | .int _, some r | .string, some r => some (.val (.tup []) (h.put b (.map (updA (ev k) (ev x) es (match r with | some (i, _) => i | none => es.length)))))
     | _, _ => none
    | none => none
   | _, _ => none
  | _, _ => none
 | .call c => match c.callee with
  | .value f => callA E h (ev f) (c.args.toList.map ev)
  | .builtin b => builtinE E h b c.argTypes (c.args.toList.map ev)
  | .invoke _ _ => none
 | .defer c => match c.callee with
  | .value f => match ev f with
   | .fn (.func g) first cap => match E.ext g with
    | some _ => none
    | none => some (.dfr (.call g (first ++ (c.args.toList.map ev ++ cap))) h)
   | _ => none
  | _ => none
 | _ => none

/-- the same; what is told of a call of Go's own comes first -/
def eop (h : AHeap) (ev : Operand → AV) (o : Op) : Option ANext :=
 match o with
 | .call c => match E.orb h ev (.call c) with
  | some (v, h') => some (.val v h')
  | none => eop0 E h ev (.call c)
 | o => eop0 E h ev o

/-- 1: it only looks; 3: a new variable; 0: all else -/
def opK (o : Op) : Nat :=
 match o with
 | .move _ | .assign _ | .pick _ _ _ | .build _ _ | .nilCheck _ | .binOp _ _ _ _ _ | .unOp _ _ _ | .makeInterface _ _ | .makeFunc _ _ _ | .slice _ _ _ _ _ | .fieldAddr _ _ _
 | .field _ _ _ | .indexAddr _ _ _ | .index _ _ _ | .extract _ _ | .load _ _ | .lookup _ _ _ _ => 1
 | .convert _ d _ => match E.ty d with
  | some di => match di.u with
   | .slice _ => 0
   | _ => 1
  | none => 1
 | .box _ _ | .alloc _ => 3
 | .buildSlice _ len _ => bif Nat.beq len 0 then 0 else 3
 | .call c => match c.callee with
  | .builtin .len | .builtin .cap | .builtin .min | .builtin .max => 1
  | _ => 0
 | _ => 0

def aop (h : AHeap) (ev : Operand → AV) (o : Op) : Option ANext :=
 match opK E o with
 | 1 => match qop E h ev o with
  | some v => some (.val v h)
  | none => none
 | 3 => match allocA E ev o with
  | some (t, cs) => some (.val (newA o cs.length h.n) (h.new (.cells t cs true false)))
  | none => none
 | _ => eop E h ev o

end

inductive AItem where
 | code (c : Code) | inBlock (id : Nat) | inLoop (body : Code) | inScope (body : Code)
 | ops (l : List Oper) (all : Array Oper)
 | any (all : Array Oper) (st : List Nat) (al : List (Nat × Nat)) (wait : Option Nat)
 | inRange (b : Nat) | endRange (b : Nat) | beginRound

structure AFrame where
 fn : FuncId
 tmps : List AV
 todo : List AItem
 defers : List ADef
 ret : Bool
 dfd : Bool
 round : Option Nat

structure ACfg where
 fr : AFrame
 callers : List AFrame
 h : AHeap

def undefA : AV := .tup []

def evA (gl : Nat → Bool) (tmps : List AV) : Operand → AV
 | .tmp t => match tmps[t]? with
  | some v => v
  | none => undefA
 | .const v => ofValue v
 | .global k => bif gl k then .ptr k 0 else .unk
 | .func f => .fn (.func f) [] []

def AFrame.put (fr : AFrame) (d : Option Nat) (v : AV) (todo : List AItem) : AFrame :=
 { fr with todo := todo, tmps := match d with
  | some t => fr.tmps.set t v
  | none => fr.tmps }

def exitToA (id : Nat) : List AItem → Option (List AItem)
 | .inBlock id' :: k => bif Nat.beq id' id then some k else exitToA id k
 | _ :: k => exitToA id k
 | [] => none

def gotoInA (l : Nat) : List AItem → Option (List AItem)
 | .inScope body :: k =>
  match findLabel body l with
  | some rest => some (.code rest :: .inScope body :: k)
  | none => gotoInA l k
 | _ :: k => gotoInA l k
 | [] => none

/-- the temporaries that an operation looks at -/
def opTmps (o : Oper) (all : Array Oper) : List Nat :=
 (o.op.operands.toList.filterMap fun x => match x with | .tmp t => some t | _ => none) ++
 (match o.guard with
  | some (g, _) => (match all[g]? with
   | some og => og.dst.toList
   | none => [])
  | none => [])

/-- is d read or written by one of the first n? -/
def touched (all : Array Oper) (d : Nat) : List Oper → Nat → Bool
 | _, 0 => false
 | [], _ + 1 => false
 | o :: os, n + 1 => (match o.dst with | some e => Nat.beq e d | none => false) || ((opTmps o all).any (Nat.beq d) || touched all d os n)

def bindsAny (e : Edge) : Bool := match e.ground with
 | .textOnly _ | .gcOnly _ => false
 | _ => true

def memN (l : List Nat) (n : Nat) : Bool := l.any (Nat.beq n)

/-- whoever of the first n writes what is looked at must stand among the forerunners -/
def depsOk (ts : List Nat) (after : List Edge) : List Oper → Nat → Nat → Bool
 | _, _, 0 => true
 | [], _, _ + 1 => true
 | o :: os, k, n + 1 => (match o.dst with
  | some d => !memN ts d || after.any (fun e => bindsAny e && Nat.beq e.on k)
  | none => true) && depsOk ts after os (k + 1) n

/-- do all forerunners stand ahead? -/
def topoL : List Oper → Nat → Bool
 | [], _ => true
 | o :: os, i => o.after.toList.all (fun e => !bindsAny e || Nat.blt e.on i) && topoL os (i + 1)

/-- does an operation's result stand: 1 reckoned, 2 surely carried out, 0 neither -/
def stAt (st : List Nat) (i : Nat) : Nat := match st[i]? with
 | some s => s
 | none => 0

def readyA (st : List Nat) (after : List Edge) : Bool := after.all fun e => !bindsAny e || !Nat.beq (stAt st e.on) 0

def wantedA (all : Array Oper) (tmps : List AV) (o : Oper) : Option Bool :=
 match o.guard with
 | none => some true
 | some (j, want) => match all[j]? with
  | some oj => match oj.dst with
   | some d => match tmps[d]? with
    | some (.at (.bool b)) => some (b == want)
    | some (.tup []) => some false
    | _ => none
   | none => none
  | none => none

def markAnc : List Oper → List Nat → List Nat   -- from the last one back to the first, each one's number the length of the rest
 | [], marks => marks
 | o :: os, marks => markAnc os (bif memN marks os.length then (o.after.toList.filterMap fun e => bif bindsAny e then some e.on else none) ++ marks else marks)

/-- those that are surely carried out by now -/
def setSure : List Nat → Nat → List Nat → List Nat
 | [], _, _ => []
 | s :: l, i, m => (bif memN m i then 2 else s) :: setSure l (i + 1) m

def Ty.beq : Ty → Ty → Bool
 | .int a, .int b => kindB a b
 | .str, .str => true
 | .bool, .bool => true
 | .lst, .lst => true
 | _, _ => false
def intB : Int → Int → Bool
 | .ofNat a, .ofNat b => Nat.beq a b
 | .negSucc a, .negSucc b => Nat.beq a b
 | _, _ => false
def bytesB : List UInt8 → List UInt8 → Bool
 | [], [] => true
 | a :: l, b :: m => Nat.beq a.toNat b.toNat && bytesB l m
 | _, _ => false
def Tok.beq : Tok → Tok → Bool
 | .v y n, .v z m => y.beq z && Nat.beq n m
 | .ki k n, .ki j m => kindB k j && intB n m
 | .ks l, .ks m => bytesB l m
 | .kb a, .kb b => a == b
 | .len a, .len b => a.beq b
 | .ar o k a b, .ar p j c d => Nat.beq o p && (kindB k j && (a.beq c && b.beq d))
 | .cv k a, .cv j b => kindB k j && a.beq b
 | .idx a b, .idx c d => a.beq c && b.beq d
 | .sub a b c, .sub d e f => a.beq d && (b.beq e && c.beq f)
 | .cat a b, .cat c d => a.beq c && b.beq d
 | .cmp o a b, .cmp p c d => Nat.beq o p && (a.beq c && b.beq d)
 | .seq a b, .seq c d => a.beq c && b.beq d
 | .fits a b, .fits c d => a.beq c && b.beq d
 | .fn y f a b, .fn z g c d => y.beq z && (Nat.beq f g && (a.beq c && b.beq d))
 | .pk a b, .pk c d => a.beq c && b.beq d
 | .lnil, .lnil => true
 | .snoc a b, .snoc c d => a.beq c && b.beq d
 | .llen a, .llen b => a.beq b
 | .lget j y a b, .lget k z c d => Nat.beq j k && (y.beq z && (a.beq c && b.beq d))
 | _, _ => false

mutual
def sameAV : AV → AV → Bool
 | .at (.int j a), .at (.int k b) => kindB j k && a == b
 | .at (.bool a), .at (.bool b) => a == b
 | .at (.pointer none), .at (.pointer none) | .at (.map none), .at (.map none) | .at .nilFunc, .at .nilFunc | .at .nilIface, .at .nilIface => true
 | .at (.slice none 0 0), .at (.slice none 0 0) => true
 | .str a, .str b => a == b
 | .sym a, .sym b => a.beq b
 | .ptr a b, .ptr c d => Nat.beq a c && Nat.beq b d
 | .sl a b c d e f, .sl a' b' c' d' e' f' => Nat.beq a a' && (Nat.beq b b' && (Nat.beq c c' && (Nat.beq d d' && (Nat.beq e e' && f == f'))))
 | .map a, .map b => Nat.beq a b
 | .fn (.func f) a b, .fn (.func g) c d => Nat.beq f g && (sameAVs a c && sameAVs b d)
 | .slz a, .slz b => a == b
 | .agg a, .agg b => sameAVs a b
 | .tup a, .tup b => sameAVs a b
 | .yield a, .yield b => Nat.beq a b
 | .unk, .unk => true
 | .iface t a, .iface u b => Nat.beq t u && sameAV a b
 | .sq a e n, .sq b f m => Nat.beq a b && (Nat.beq e f && n.beq m)
 | .sp a e i o, .sp b f j p => Nat.beq a b && (Nat.beq e f && (i.beq j && Nat.beq o p))
 | _, _ => false
def sameAVs : List AV → List AV → Bool
 | [], [] => true
 | a :: l, b :: r => sameAV a b && sameAVs l r
 | _, _ => false
end

section
variable (E : Env)

/-- how an operation stands in a region whose order is drawn: one whose result is looked at, or written, ahead of it is not reckoned early -/
def kindOf (all : Array Oper) (i : Nat) (o : Oper) : Nat :=
 match o.dst with
 | some d => bif touched all d all.toList i then 0 else opK E o.op
 | none => 0

structure Pass where
 h : AHeap
 t : List AV
 st : List Nat
 al : List (Nat × Nat)
 sp : Option Nat

/-- one pass: what only looks, and is ready, is reckoned; the operation with an effect that is ready -/
def pass (all : Array Oper) : List Oper → Nat → Pass → Option Pass
 | [], _, p => some p
 | o :: os, i, p =>
  bif Nat.beq (stAt p.st i) 0 && readyA p.st o.after.toList then
   match kindOf E all i o, o.dst with
   | 1, some d => match wantedA all p.t o with
    | some true => match qop E p.h (evA E.glob p.t) o.op with
     | some v => pass all os (i + 1) { p with t := p.t.set d v, st := p.st.set i 1 }
     | none => none
    | some false => pass all os (i + 1) { p with t := p.t.set d undefA, st := p.st.set i 1 }
    | none => none
   | 3, some d => match wantedA all p.t o with
    | some true => match allocA E (evA E.glob p.t) o.op with
     | some (ty, cs) => pass all os (i + 1) { p with h := p.h.new (.cells ty cs true false), t := p.t.set d (newA o.op cs.length p.h.n), st := p.st.set i 1, al := (i, p.h.n) :: p.al }
     | none => none
    | some false => pass all os (i + 1) { p with t := p.t.set d undefA, st := p.st.set i 1 }
    | none => none
   | _, _ => match p.sp with
    | none => pass all os (i + 1) { p with sp := some i }
    | some _ => none
  else pass all os (i + 1) p

/-- what may still be to come tells what was reckoned; and nothing is ready but what was told -/
def again (all : Array Oper) (p : Pass) : List Oper → Nat → Bool
 | [], _ => true
 | o :: os, i =>
  (match stAt p.st i with
  | 0 => !readyA p.st o.after.toList || (match p.sp with | some j => Nat.beq j i | none => false)
  | 1 => match o.dst with
   | some d => depsOk (opTmps o all) o.after.toList all.toList 0 i && (!touched all d all.toList i && (!memN (opTmps o all) d &&
    (match p.t[d]? with
    | some v' => match wantedA all p.t o with
     | some true => (match opK E o.op with
      | 1 => match qop E p.h (evA E.glob p.t) o.op with
       | some v => sameAV v v'
       | none => false
      | 3 => match allocA E (evA E.glob p.t) o.op, p.al.lookup i with
       | some (ty, cs), some b => sameAV v' (newA o.op cs.length b) && (match p.h.get b with
        | some (.cells ty' l true false) => Nat.beq ty ty' && sameAVs cs l
        | _ => false)
       | _, _ => false
      | _ => false)
     | some false => sameAV v' undefA
     | none => false
    | none => false)))
   | none => false
  | _ => true) && again all p os (i + 1)

def allDone : List Nat → Bool
 | [] => true
 | 0 :: _ => false
 | (_ + 1) :: l => allDone l

def enterA (f : FuncId) (args : List AV) (dfd : Bool) : Option AFrame :=
 match E.fn f with
 | some fn => match fn.body with
  | some body => some { fn := f, tmps := args ++ List.replicate (fn.ntmps - args.length) undefA, todo := [.code body], defers := [], ret := false, dfd := dfd, round := none }
  | none => none
 | none => none

/-- what the head of a frame's list makes of a value -/
def finishA (fr : AFrame) (v : AV) : Option AFrame :=
 match fr.todo with
 | .ops (o :: os) all :: k => some (fr.put o.dst v (.ops os all :: k))
 | .any all st al (some i) :: k => match all[i]? with
  | some o => some (fr.put o.dst v (.any all (setSure st 0 (markAnc ((all.toList.take (i + 1)).reverse) [i])) al none :: k))
  | none => none
 | .inRange b :: k => some { fr with todo := .endRange b :: k }
 | _ => none

def setMany : List Nat → List AV → List AV → List AV
 | p :: ps, a :: xs, t => setMany ps xs (t.set p a)
 | _, _, t => t

/-- what an operation comes to, in its frame -/
def apply (fr : AFrame) (callers : List AFrame) (n : ANext) : Option ACfg :=
 match n with
 | .val v h => match finishA fr v with
  | some fr' => some ⟨fr', callers, h⟩
  | none => none
 | .enter f args h => match enterA E f args false with
  | some fr' => some ⟨fr', fr :: callers, h⟩
  | none => none
 | .told _ _ v h => match finishA fr v with
  | some fr' => some ⟨fr', callers, h⟩
  | none => none
 | .round b args h => match h.get b with
  | some (.loop _ _ fn tmps params assign body _) =>
   bif Nat.beq args.length params.size then
    some ⟨{ fn := fn, tmps := setMany params.toList args tmps, todo := [.code assign, .beginRound, .code body], defers := [], ret := false, dfd := false, round := some b }, fr :: callers, h⟩
   else none
  | _ => none
 | .dfr d h => match fr.round, finishA fr undefA with
  | none, some fr' => some ⟨{ fr' with defers := d :: fr.defers }, callers, h⟩
  | _, _ => none
 | .recov h => match fr.dfd, fr.round, callers with
  | true, none, c :: _ => bif c.ret then (match finishA fr (.at .nilIface) with
   | some fr' => some ⟨fr', callers, h⟩
   | none => none) else none
  | _, _, _ => none

def result1 (h : AHeap) (tmps : List AV) (r : ResultVar) : Option AV :=
 match r with
 | .tmp t => match tmps[t]? with
  | some v => some v
  | none => some undefA
 | .cell a ty => match tmps[a]?, E.ty ty with
  | some (.ptr b o), some ti => loadT h ti b o
  | _, _ => none

def resultsL (h : AHeap) (tmps : List AV) : List ResultVar → Option (List AV)
 | [] => some []
 | r :: rs => match result1 E h tmps r, resultsL h tmps rs with
  | some v, some l => some (v :: l)
  | _, _ => none

def resultsA (h : AHeap) (fn : Func) (tmps : List AV) : Option AV :=
 match resultsL E h tmps fn.results.toList with
 | some [v] => some v
 | some l => some (.tup l)
 | none => none

def returnA (fr : AFrame) (callers : List AFrame) (v : AV) (h : AHeap) : Option ACfg :=
 match callers with
 | c :: cs => bif fr.dfd then (bif c.ret then some ⟨c, cs, h⟩ else none) else (match finishA c v with
  | some c' => bif c.ret then none else some ⟨c', cs, h⟩
  | none => none)
 | [] => none

def leaveA (fr : AFrame) (callers : List AFrame) (h : AHeap) (jump : Option Code) : Option ACfg :=
 match fr.round with
 | none => match jump with
  | none | some .ret => some ⟨{ fr with ret := true }, callers, h⟩
  | _ => none
 | some l => match h.get l with
  | some (.loop _ _ fn tmps params assign body d) =>
   returnA fr callers (.at (.bool jump.isNone)) (h.put l (.loop (if jump.isNone then .ready else .done) jump fn tmps params assign body d))
  | _ => none

def stepCode (c : ACfg) (cd : Code) (k : List AItem) : Option ACfg :=
 let fr := c.fr
 match cd with
 | .ret => leaveA fr c.callers c.h (some .ret)
 | .skip | .label _ => some { c with fr := { fr with todo := k } }
 | .seq a b => some { c with fr := { fr with todo := .code a :: .code b :: k } }
 | .cond x a b => match evA E.glob fr.tmps x with
  | .at (.bool t) => some { c with fr := { fr with todo := .code (bif t then a else b) :: k } }
  | _ => none
 | .block id b => some { c with fr := { fr with todo := .code b :: .inBlock id :: k } }
 | .loop b => some { c with fr := { fr with todo := .code b :: .inLoop b :: k } }
 | .scope b => some { c with fr := { fr with todo := .code b :: .inScope b :: k } }
 | .exit id => match exitToA id k with
  | some k' => some { c with fr := { fr with todo := k' } }
  | none => leaveA fr c.callers c.h (some (.exit id))
 | .goto l => match gotoInA l k with
  | some k' => some { c with fr := { fr with todo := k' } }
  | none => leaveA fr c.callers c.h (some (.goto l))
 | .region _ ops false => some { c with fr := { fr with todo := .ops ops.toList ops :: k } }
 | .region _ ops true => bif topoL ops.toList 0 then some { c with fr := { fr with todo := .any ops (List.replicate ops.size 0) [] none :: k } } else none
 | .rangeFunc f params assign body => match fr.round with
  | none =>
   let h1 := c.h.new (.dfr (some []))
   let h2 := h1.new (.loop .ready none fr.fn fr.tmps params assign body c.h.n)
   match callA E h2 (evA E.glob fr.tmps f) [.yield h1.n] with
   | some (.enter f args h) => apply E { fr with todo := .inRange h1.n :: k, defers := .coll c.h.n :: fr.defers } c.callers (.enter f args h)
   | _ => none
  | some _ => none
 | .refuse _ => none

def stepAny (c : ACfg) (all : Array Oper) (st : List Nat) (al : List (Nat × Nat)) (k : List AItem) : Option ACfg :=
 match pass E all all.toList 0 ⟨c.h, c.fr.tmps, st, al, none⟩ with
 | none => none
 | some p =>
  bif again E all p all.toList 0 then
   match p.sp with
   | none => bif allDone p.st then some ⟨{ c.fr with tmps := p.t, todo := k }, c.callers, p.h⟩ else none
   | some i => match all[i]? with
    | some o =>
     bif depsOk (opTmps o all) o.after.toList all.toList 0 i then
      match wantedA all p.t o with
      | some true => match aop E p.h (evA E.glob p.t) o.op with
       | some n => apply E { c.fr with tmps := p.t, todo := .any all p.st p.al (some i) :: k } c.callers n
       | none => none
      | some false => match finishA { c.fr with tmps := p.t, todo := .any all p.st p.al (some i) :: k } undefA with
       | some fr' => some ⟨fr', c.callers, p.h⟩
       | none => none
      | none => none
     else none
    | none => none
  else none

def noAny : List AItem → Bool
 | .any _ _ _ _ :: _ => false
 | _ => true

def astep (c : ACfg) : Option ACfg :=
 let fr := c.fr
 match fr.ret with
 | true => match fr.defers with
  | .call f args :: ds => match enterA E f args true with
   | some fr' => some ⟨fr', { fr with defers := ds } :: c.callers, c.h⟩
   | none => none
  | .coll b :: ds => match c.h.get b with
   | some (.dfr (some l)) => some ⟨{ fr with defers := l ++ ds }, c.callers, c.h.put b (.dfr none)⟩
   | _ => none
  | [] => match E.fn fr.fn with
   | some fn => bif noAny fr.todo then (match resultsA E c.h fn fr.tmps with
    | some v => returnA fr c.callers v c.h
    | none => none) else none
   | none => none
 | false =>
  match fr.todo with
  | [] => leaveA fr c.callers c.h none
  | .code cd :: k => stepCode E c cd k
  | .inBlock _ :: k | .inScope _ :: k => some { c with fr := { fr with todo := k } }
  | .inLoop b :: k => some { c with fr := { fr with todo := .code b :: .inLoop b :: k } }
  | .ops [] _ :: k => some { c with fr := { fr with todo := k } }
  | .ops (o :: _) all :: _ => match wantedA all fr.tmps o with
   | some true => match aop E c.h (evA E.glob fr.tmps) o.op with
    | some n => apply E fr c.callers n
    | none => none
   | some false => match finishA fr undefA with
    | some fr' => some ⟨fr', c.callers, c.h⟩
    | none => none
   | none => none
  | .any all st al none :: k => stepAny E c all st al k
  | .any _ _ _ (some _) :: _ => none
  | .inRange _ :: _ => none
  | .endRange l :: k => match c.h.get l with
   | some (.loop st pend fn tmps params assign body d) =>
    match st with
    | .busy => none
    | _ => some ⟨{ fr with todo := (match pend with | some j => .code j :: k | none => k) }, c.callers, c.h.put l (.loop .exhausted pend fn tmps params assign body d)⟩
   | _ => none
  | .beginRound :: k => match fr.round with
   | some l => match c.h.get l with
    | some (.loop .ready pend fn tmps params assign body d) => some ⟨{ fr with todo := k }, c.callers, c.h.put l (.loop .busy pend fn tmps params assign body d)⟩
    | _ => none
   | none => none

/-- is the lowest frame about to leave? -/
def ended (c : ACfg) : Bool := c.fr.ret && (c.callers.isEmpty && c.fr.defers.isEmpty)

/-- so many steps, or fewer, if all ends -/
def run : Nat → ACfg → Option ACfg
 | 0, c => some c
 | n + 1, c => bif ended c then some c else match astep E c with
  | some c' => run n c'
  | none => none
end

/-- a heap of these blocks alone -/
def keepT (t : Tr AObj) : List Nat → Tr AObj
 | [] => .leaf
 | b :: bs => match t.get b with
  | some o => Tr.set (b + 1) (keepT t bs) b o
  | none => keepT t bs
def keep (c : ACfg) (bs : List Nat) : ACfg := { c with h := { t := keepT c.h.t bs, n := c.h.n } }

end Go.Eng
namespace Go.Eng
open Go

/-- where a virtual block lies: the real block, the cell at which it begins, how many cells the real block has -/
structure Loc where
 r : Nat
 s : Nat
 n : Nat

abbrev Map := Nat → Option Loc

mutual
inductive VR (ρ : Map) (σ : Tok → Value) : AV → Value → Prop
 | at (v : Value) : VR ρ σ (.at v) v
 | sym (n : Tok) (h : (σ n).oneCell' = true) : VR ρ σ (.sym n) (σ n)
 | unk (v : Value) : VR ρ σ .unk v
 | str (l : List UInt8) : VR ρ σ (.str l) (.string ⟨l.toArray⟩)
 | ptr {b o : Nat} {x : Loc} : ρ b = some x → VR ρ σ (.ptr b o) (.pointer (some ⟨x.r, o + x.s, none⟩))
 | sl {b o len cap e cap' : Nat} {ex : Bool} {x : Loc} : ρ b = some x → cap ≤ cap' → (ex = true → cap' = cap) → 0 < e → o + x.s + cap' * e ≤ x.n → len ≤ cap →
   VR ρ σ (.sl b o len cap e ex) (.slice (some ⟨x.r, o + x.s, none⟩) len cap')
 | slz {ex : Bool} {a : Addr} {cap' : Nat} : (ex = true → cap' = 0) → VR ρ σ (.slz ex) (.slice (some a) 0 cap')
 | map {b : Nat} {x : Loc} : ρ b = some x → VR ρ σ (.map b) (.map (some x.r))
 | fn {f : Fn} {a c : List AV} {a' c' : List Value} : VRs ρ σ a a' → VRs ρ σ c c' → VR ρ σ (.fn f a c) (.func f a'.toArray c'.toArray)
 | yield {b : Nat} {x : Loc} : ρ b = some x → VR ρ σ (.yield b) (.func (.yield x.r) #[] #[])
 | iface {t : TypeId} {v : AV} {v' : Value} : VR ρ σ v v' → VR ρ σ (.iface t v) (.iface t v')
 | agg {l : List AV} {l' : List Value} : VRs ρ σ l l' → VR ρ σ (.agg l) (.agg l'.toArray)
 | sq {b e : Nat} {n : Tok} {len cap' : Nat} {x : Loc} : ρ b = some x → σ n = .int .i64 (.ofNat len) → len ≤ cap' → 0 < e → x.s + cap' * e ≤ x.n → VR ρ σ (.sq b e n) (.slice (some ⟨x.r, x.s, none⟩) len cap')
 | sp {b e : Nat} {i : Tok} {o k : Nat} {q : IntKind} {x : Loc} : ρ b = some x → σ i = .int q (.ofNat k) → VR ρ σ (.sp b e i o) (.pointer (some ⟨x.r, k * e + o + x.s, none⟩))
 | tup {l : List AV} {l' : List Value} : VRs ρ σ l l' → VR ρ σ (.tup l) (.tuple l'.toArray)
inductive VRs (ρ : Map) (σ : Tok → Value) : List AV → List Value → Prop
 | nil : VRs ρ σ [] []
 | cons {a : AV} {v : Value} {l : List AV} {l' : List Value} : VR ρ σ a v → VRs ρ σ l l' → VRs ρ σ (a :: l) (v :: l')
end

def Map.le (ρ ρ' : Map) : Prop := ∀ b x, ρ b = some x → ρ' b = some x
theorem Map.le.refl (ρ : Map) : Map.le ρ ρ := fun _ _ h => h
theorem Map.le.trans {a b c : Map} (h : Map.le a b) (h' : Map.le b c) : Map.le a c := fun k x hx => h' k x (h k x hx)

mutual
theorem VR.mono {ρ ρ' : Map} {σ : Tok → Value} (h : Map.le ρ ρ') : ∀ {a : AV} {v : Value}, VR ρ σ a v → VR ρ' σ a v
 | _, _, .at v => .at v
 | _, _, .sym n h => .sym n h
 | _, _, .unk v => .unk v
 | _, _, .str l => .str l
 | _, _, .ptr hb => .ptr (h _ _ hb)
 | _, _, .sl hb h1 h2 h3 h4 h5 => .sl (h _ _ hb) h1 h2 h3 h4 h5
 | _, _, .slz h1 => .slz h1
 | _, _, .sq hb h1 h2 h3 h4 => .sq (h _ _ hb) h1 h2 h3 h4
 | _, _, .sp hb h1 => .sp (h _ _ hb) h1
 | _, _, .map hb => .map (h _ _ hb)
 | _, _, .fn h1 h2 => .fn (VRs.mono h h1) (VRs.mono h h2)
 | _, _, .yield hb => .yield (h _ _ hb)
 | _, _, .iface h1 => .iface (VR.mono h h1)
 | _, _, .agg h1 => .agg (VRs.mono h h1)
 | _, _, .tup h1 => .tup (VRs.mono h h1)
theorem VRs.mono {ρ ρ' : Map} {σ : Tok → Value} (h : Map.le ρ ρ') : ∀ {l : List AV} {l' : List Value}, VRs ρ σ l l' → VRs ρ' σ l l'
 | _, _, .nil => .nil
 | _, _, .cons h1 h2 => .cons (VR.mono h h1) (VRs.mono h h2)
end

section
variable {ρ : Map} {σ : Tok → Value}

theorem VRs.length {l : List AV} {l' : List Value} (h : VRs ρ σ l l') : l.length = l'.length := by
 induction l generalizing l' with
 | nil => cases h; rfl
 | cons a l ih => cases h with | cons h1 h2 => simp [ih h2]

theorem VRs.get {l : List AV} {l' : List Value} (h : VRs ρ σ l l') {i : Nat} {a : AV} (ha : l[i]? = some a) : ∃ v, l'[i]? = some v ∧ VR ρ σ a v := by
 induction l generalizing l' i with
 | nil => simp at ha
 | cons b l ih =>
  cases h with
  | cons h1 h2 =>
   cases i with
   | zero => simp at ha; subst ha; exact ⟨_, rfl, h1⟩
   | succ i => simp at ha; simpa using ih h2 ha

theorem VRs.of_get {l : List AV} {l' : List Value} (hl : l.length = l'.length) (h : ∀ (i : Nat) a, l[i]? = some a → ∃ v, l'[i]? = some v ∧ VR ρ σ a v) : VRs ρ σ l l' := by
 induction l generalizing l' with
 | nil => cases l' with
  | nil => exact .nil
  | cons => simp at hl
 | cons a l ih => cases l' with
  | nil => simp at hl
  | cons v l' =>
   obtain ⟨u, hu, hr⟩ := h 0 a rfl
   simp at hu; subst hu
   exact .cons hr (ih (by simpa using hl) fun i a ha => by simpa using h (i + 1) a (by simpa using ha))

theorem VRs.append {a b : List AV} {a' b' : List Value} (h : VRs ρ σ a a') (h' : VRs ρ σ b b') : VRs ρ σ (a ++ b) (a' ++ b') := by
 induction a generalizing a' with
 | nil => cases h; exact h'
 | cons x a ih => cases h with | cons h1 h2 => exact .cons h1 (ih h2)

theorem VRs.drop {l : List AV} {l' : List Value} (h : VRs ρ σ l l') (n : Nat) : VRs ρ σ (l.drop n) (l'.drop n) := by
 induction n generalizing l l' with
 | zero => exact h
 | succ n ih => cases h with
  | nil => exact .nil
  | cons h1 h2 => exact ih h2

theorem VRs.take {l : List AV} {l' : List Value} (h : VRs ρ σ l l') (n : Nat) : VRs ρ σ (l.take n) (l'.take n) := by
 induction n generalizing l l' with
 | zero => exact .nil
 | succ n ih => cases h with
  | nil => exact .nil
  | cons h1 h2 => exact .cons h1 (ih h2)

theorem VRs.set {l : List AV} {l' : List Value} (h : VRs ρ σ l l') {a : AV} {v : Value} (ha : VR ρ σ a v) (n : Nat) : VRs ρ σ (l.set n a) (l'.set n v) := by
 induction n generalizing l l' with
 | zero => cases h with
  | nil => exact .nil
  | cons h1 h2 => exact .cons ha h2
 | succ n ih => cases h with
  | nil => exact .nil
  | cons h1 h2 => exact .cons h1 (ih h2)

theorem VRs.of_map {α : Type} (f : α → AV) (g : α → Value) : ∀ (l : List α), (∀ x ∈ l, VR ρ σ (f x) (g x)) → VRs ρ σ (l.map f) (l.map g)
 | [], _ => .nil
 | x :: l, h => .cons (h x (by simp)) (VRs.of_map f g l fun y hy => h y (by simp [hy]))

theorem VRs.replicate {a : AV} {v : Value} (h : VR ρ σ a v) : ∀ n, VRs ρ σ (List.replicate n a) (List.replicate n v)
 | 0 => .nil
 | n + 1 => .cons h (VRs.replicate h n)

/-- what a sure cell stands for is one cell -/
theorem VR.cell {a : AV} {v : Value} (h : VR ρ σ a v) (hc : a.cell = true) : v.oneCell' = true := by
 cases h with
 | «at» v => cases v <;> simp_all [AV.cell, Value.oneCell']
 | sym n h => exact h
 | unk v => simp [AV.cell] at hc
 | agg => simp [AV.cell] at hc
 | tup => simp [AV.cell] at hc
 | _ => rfl

theorem VR.cells {a : AV} {v : Value} (h : VR ρ σ a v) (hc : a.cells.all AV.cell = true) : VRs ρ σ a.cells v.cells.toList := by
 cases h with
 | agg h1 => simpa [AV.cells, Value.cells] using h1
 | «at» v =>
  have : v.oneCell' = true := VR.cell (ρ := ρ) (σ := σ) (.at v) (by simpa [AV.cells] using hc)
  cases v <;> first | exact .cons (.at _) .nil | simp [Value.oneCell'] at this
 | sym n h =>
  have e : (σ n).cells.toList = [σ n] := by
   revert h
   cases σ n <;> intro h <;> first | rfl | simp [Value.oneCell'] at h
  rw [e]
  exact .cons (.sym n h) .nil
 | unk v => simp [AV.cells, AV.cell] at hc
 | str l => exact .cons (.str l) .nil
 | ptr h1 => exact .cons (.ptr h1) .nil
 | sl h1 h2 h3 h4 h5 h6 => exact .cons (.sl h1 h2 h3 h4 h5 h6) .nil
 | slz h1 => exact .cons (.slz h1) .nil
 | sq h1 h2 h3 h4 h5 => exact .cons (.sq h1 h2 h3 h4 h5) .nil
 | sp h1 h2 => exact .cons (.sp h1 h2) .nil
 | map h1 => exact .cons (.map h1) .nil
 | fn h1 h2 => exact .cons (.fn h1 h2) .nil
 | yield h1 => exact .cons (.yield h1) .nil
 | iface h1 => exact .cons (.iface h1) .nil
 | tup h1 => simp [AV.cells, AV.cell] at hc

theorem VRs.oneCell {l : List AV} {l' : List Value} (h : VRs ρ σ l l') (hc : l.all AV.cell = true) : ∀ v ∈ l', v.oneCell' = true := by
 induction l generalizing l' with
 | nil => cases h; simp
 | cons a l ih =>
  cases h with
  | cons h1 h2 =>
   simp only [List.all_cons, Bool.and_eq_true] at hc
   intro v hv
   rcases List.mem_cons.1 hv with rfl | hv
   ·exact h1.cell hc.1
   ·exact ih h2 hc.2 v hv

theorem ofValue_one (v : Value) : VR ρ σ (ofValue1 v) v := by
 cases v with
 | string s => exact .str s.data.toList
 | _ => exact .at _

theorem ofValue_ok (v : Value) : VR ρ σ (ofValue v) v := by
 unfold ofValue
 split
 ·exact .str _
 ·exact .fn (a' := []) (c' := []) .nil .nil
 ·rename_i cs
  have : VRs ρ σ (cs.toList.map ofValue1) (cs.toList.map id) := VRs.of_map _ _ _ fun x _ => ofValue_one x
  rw [List.map_id] at this
  simpa using VR.agg this
 ·exact .at _

theorem ofValue_cells (v : Value) : VRs ρ σ (ofValue v).cells v.cells.toList := by
 have h := ofValue_ok (ρ := ρ) (σ := σ) v
 unfold ofValue at *
 split
 ·exact .cons (.str _) .nil
 ·exact .cons (.fn (a' := []) (c' := []) .nil .nil) .nil
 ·rename_i cs
  have : VRs ρ σ (cs.toList.map ofValue1) (cs.toList.map id) := VRs.of_map _ _ _ fun x _ => ofValue_one x
  rw [List.map_id] at this
  simpa [AV.cells, Value.cells] using this
 ·rename_i h1 h2 h3
  have hv : v.cells = #[v] := by cases v <;> first | rfl | exact absurd rfl (h3 _)
  rw [hv]
  exact .cons (.at _) .nil
end

/-! The tree. -/

theorem Tr.get_set {α : Type} (a : α) : ∀ (f : Nat) (t : Tr α) (n m : Nat), n < f → (Tr.set f t n a).get m = if m = n then some a else t.get m := by
 intro f
 induction f with
 | zero => intro t n m h; omega
 | succ f ih =>
  intro t n m h
  cases t with
  | leaf =>
   cases n with
   | zero => cases m <;> simp [Tr.set, Tr.get]
   | succ k =>
    have hk : k / 2 < f := by omega
    cases m with
    | zero =>
     simp only [Tr.set]
     cases hp : Nat.beq (k % 2) 0 <;> simp [Tr.get]
    | succ j =>
     simp only [Tr.set]
     rcases hp : Nat.beq (k % 2) 0 with _ | _ <;> rcases hq : Nat.beq (j % 2) 0 with _ | _ <;> simp only [Tr.get, cond_true, cond_false, hq, ih _ _ _ hk]
     all_goals first | (have hp := Nat.eq_of_beq_eq_true hp) | (have hp := Nat.ne_of_beq_eq_false hp)
     all_goals first | (have hq := Nat.eq_of_beq_eq_true hq) | (have hq := Nat.ne_of_beq_eq_false hq)
     all_goals ((repeat' split) <;> first | rfl | omega)
  | node l v r =>
   cases n with
   | zero => cases m <;> simp [Tr.set, Tr.get]
   | succ k =>
    have hk : k / 2 < f := by omega
    cases m with
    | zero =>
     simp only [Tr.set]
     cases hp : Nat.beq (k % 2) 0 <;> simp [Tr.get]
    | succ j =>
     simp only [Tr.set]
     rcases hp : Nat.beq (k % 2) 0 with _ | _ <;> rcases hq : Nat.beq (j % 2) 0 with _ | _ <;> simp only [Tr.get, cond_true, cond_false, hq, ih _ _ _ hk]
     all_goals first | (have hp := Nat.eq_of_beq_eq_true hp) | (have hp := Nat.ne_of_beq_eq_false hp)
     all_goals first | (have hq := Nat.eq_of_beq_eq_true hq) | (have hq := Nat.ne_of_beq_eq_false hq)
     all_goals ((repeat' split) <;> first | rfl | omega)

theorem AHeap.get_put (h : AHeap) (b : Nat) (o : AObj) (m : Nat) : (h.put b o).get m = if m = b then some o else h.get m := Tr.get_set o _ _ _ _ (Nat.lt_succ_self b)
theorem AHeap.get_new (h : AHeap) (o : AObj) (m : Nat) : (h.new o).get m = if m = h.n then some o else h.get m := Tr.get_set o _ _ _ _ (Nat.lt_succ_self h.n)
end Go.Eng
namespace Go.Eng
open Go

theorem Addr.add_none (r o n : Nat) : (⟨r, o, none⟩ : Addr).add n = ⟨r, o + n, none⟩ := by unfold Addr.add; split <;> simp_all

theorem setRange_nil {α : Type} (l : List α) (p : Nat) : setRange l p [] = l := by cases l <;> cases p <;> rfl
theorem setRange_length {α : Type} : ∀ (l : List α) (p : Nat) (vs : List α), (setRange l p vs).length = l.length
  | l, _, [] => by rw [setRange_nil]
  | [], _, _ :: _ => rfl
  | _ :: xs, 0, c :: cs => by simp [setRange, setRange_length xs 0 cs]
  | x :: xs, n + 1, c :: cs => by simp [setRange, setRange_length xs n (c :: cs)]
theorem setRange_get {α : Type} : ∀ (l : List α) (p : Nat) (vs : List α) (i : Nat), p + vs.length ≤ l.length →
    (setRange l p vs)[i]? = if p ≤ i ∧ i < p + vs.length then vs[i - p]? else l[i]?
  | l, p, [], i, _ => by
    rw [setRange_nil, if_neg]
    simp only [List.length_nil]
    omega
  | [], _, _ :: _, _, h => by simp at h
  | x :: xs, 0, c :: cs, i, h => by
    cases i with
    | zero => simp [setRange]
    | succ i =>
      have := setRange_get xs 0 cs i (by simp at h; omega)
      simp only [setRange, List.getElem?_cons_succ, this]
      simp
  | x :: xs, n + 1, c :: cs, i, h => by
    cases i with
    | zero => simp [setRange]
    | succ i =>
      have := setRange_get xs n (c :: cs) i (by simp at h ⊢; omega)
      simp only [setRange, List.getElem?_cons_succ, this]
      simp only [List.length_cons]
      by_cases hc : n ≤ i ∧ i < n + (cs.length + 1)
      · rw [if_pos hc, if_pos (by omega)]; congr 1; omega
      · rw [if_neg hc, if_neg (by omega)]
theorem setRange_one {α : Type} : ∀ (l : List α) (p : Nat) (v : α) (vs : List α), setRange l p (v :: vs) = setRange (l.set p v) (p + 1) vs
  | [], _, _, vs => by cases vs <;> rfl
  | x :: xs, 0, v, [] => by simp [setRange, setRange_nil]
  | x :: xs, 0, v, u :: vs => by simp [setRange]
  | x :: xs, n + 1, v, vs => by
    have := setRange_one xs n v vs
    cases vs with
    | nil => simp only [setRange, List.set_cons_succ, setRange_nil] at this ⊢; rw [this]
    | cons u vs => simp only [setRange, List.set_cons_succ] at this ⊢; rw [this]

theorem lenGe_le {l : List AV} {n : Nat} (h : lenGe l n = true) : n ≤ l.length := by
  induction l generalizing n with
  | nil => cases n with
    | zero => simp
    | succ n => simp [lenGe] at h
  | cons x l ih => cases n with
    | zero => simp
    | succ n => simp only [lenGe] at h; have := ih h; simp; omega

/-- a block turned -/
def setO (w : World) (r : Nat) (o : Obj) : World := { w with heap := w.heap.setIfInBounds r o }
theorem setO_heap (w : World) (r : Nat) (o : Obj) (h : r < w.heap.size) (k : Nat) : (setO w r o).heap[k]? = if k = r then some o else w.heap[k]? := by
  simp only [setO, Array.getElem?_setIfInBounds]
  by_cases hk : k = r
  · subst hk; simp [h]
  · simp [hk, Ne.symm hk]
theorem setO_size (w : World) (r : Nat) (o : Obj) : (setO w r o).heap.size = w.heap.size := by simp [setO]
theorem setO_same (w : World) (r : Nat) (o : Obj) (h : w.heap[r]? = some o) : setO w r o = w := by
  have : w.heap.setIfInBounds r o = w.heap := by
    apply Array.ext_getElem?
    intro k
    rw [Array.getElem?_setIfInBounds]
    by_cases hk : r = k
    · subst hk
      obtain ⟨hlt, he⟩ := Array.getElem?_eq_some_iff.1 h
      simp [hlt, he]
    · simp [hk]
  unfold setO
  rw [this]
theorem setO_setO (w : World) (r : Nat) (o o' : Obj) : setO (setO w r o) r o' = setO w r o' := by
  unfold setO
  simp

/-- is a cell shut? -/
def shut (fz : Nat × Nat) (i : Nat) : Bool := fz.1 ≤ i && i < fz.2

theorem cell_row {w : World} {r : Nat} {c : Array Value} {el : TypeId} {fz : Nat × Nat} (h : w.heap[r]? = some (.cells c el fz)) (i : Nat) : w.cell? ⟨r, i, none⟩ = c[i]? := by
  simp [World.cell?, h]
theorem frozen_row {w : World} {r : Nat} {c : Array Value} {el : TypeId} {fz : Nat × Nat} (h : w.heap[r]? = some (.cells c el fz)) (i : Nat) : w.frozen? ⟨r, i, none⟩ = shut fz i := by
  obtain ⟨lo, hi⟩ := fz
  simp [World.frozen?, h, shut]
theorem setCell_row {w : World} {r : Nat} {c : Array Value} {el : TypeId} {fz : Nat × Nat} (h : w.heap[r]? = some (.cells c el fz)) (i : Nat) (v : Value) :
    w.setCell ⟨r, i, none⟩ v = setO w r (.cells (c.setIfInBounds i v) el fz) := by
  unfold World.setCell setO
  congr 1
  apply Array.ext_getElem?
  intro k
  rw [Array.getElem?_modify, Array.getElem?_setIfInBounds]
  obtain ⟨hlt, he⟩ := Array.getElem?_eq_some_iff.1 h
  by_cases hk : r = k
  · subst hk; simp [hlt, he]
  · simp [hk]

theorem run_storeRow {P : Program} {r : Nat} {el : TypeId} {fz : Nat × Nat} : ∀ (vs : List Value) (p i : Nat) (c : Array Value) (w : World), w.heap[r]? = some (.cells c el fz) → p + i + vs.length ≤ c.size →
    (∀ j, j < vs.length → shut fz (p + i + j) = false) → (∀ v ∈ vs, v.oneCell' = true) →
    (storeCells ⟨r, p, none⟩ vs i).run P w = .ok () (setO w r (.cells (setRange c.toList (p + i) vs).toArray el fz))
  | [], p, i, c, w, h, _, _, _ => by
    rw [setRange_nil]
    simp only [storeCells, Array.toArray_toList]
    rw [setO_same w r _ h]
    rfl
  | v :: vs, p, i, c, w, h, hl, hf, h1 => by
    have hlt : p + i < c.size := by simp at hl; omega
    have hst : (store ((⟨r, p, none⟩ : Addr).add i) v).run P w = .ok () (setO w r (.cells (c.setIfInBounds (p + i) v) el fz)) := by
      rw [Addr.add_none, run_store P w _ v _ (h1 v (by simp)), cell_row h, Array.getElem?_eq_getElem hlt, frozen_row h, setCell_row h]
      have := hf 0 (by simp)
      simp at this
      simp [this]
    have hr : r < w.heap.size := (Array.getElem?_eq_some_iff.1 h).1
    have ih := run_storeRow (P := P) vs p (i + 1) (c.setIfInBounds (p + i) v) (setO w r (.cells (c.setIfInBounds (p + i) v) el fz)) (by rw [setO_heap _ _ _ hr, if_pos rfl]) (by simp only [Array.size_setIfInBounds, List.length_cons] at hl ⊢; omega)
      (fun j hj => by have := hf (j + 1) (by simp; omega); rwa [show p + i + (j + 1) = p + (i + 1) + j by omega] at this) (fun u hu => h1 u (by simp [hu]))
    simp only [storeCells, Sem.run_bind, hst, Result.andThen_ok, ih]
    rw [setO_setO, setRange_one]
    congr 4
    rw [show p + (i + 1) = p + i + 1 by omega]
    simp

theorem run_loadRow {P : Program} {w : World} {r : Nat} {c : Array Value} {el : TypeId} {fz : Nat × Nat} (h : w.heap[r]? = some (.cells c el fz)) : ∀ (n p i : Nat) (acc : Array Value), p + i + n ≤ c.size →
    (loadCellsFrom ⟨r, p, none⟩ i n acc).run P w = .ok (acc ++ ((c.toList.drop (p + i)).take n).toArray) w
  | 0, p, i, acc, _ => by simp [loadCellsFrom]
  | n + 1, p, i, acc, hn => by
    have hlt : p + i < c.size := by omega
    simp only [loadCellsFrom, Sem.run_bind, run_load, Addr.add_none, cell_row h, Array.getElem?_eq_getElem hlt, Result.andThen_ok]
    rw [run_loadRow h n p (i + 1) (acc.push c[p + i]) (by omega)]
    congr 1
    have : (c.toList.drop (p + i)).take (n + 1) = c[p + i] :: (c.toList.drop (p + (i + 1))).take n := by
      rw [List.drop_eq_getElem_cons (by simpa using hlt), List.take_succ_cons]
      simp [Nat.add_assoc]
    rw [this]
    simp

/-! What a virtual block stands for. -/

inductive DR (ρ : Map) (σ : Tok → Value) : ADef → Deferred → Prop
  | call {f : FuncId} {a : List AV} {x c : List Value} : VRs ρ σ a (x ++ c) → DR ρ σ (.call f a) { target := .fn (.func f) c.toArray, args := x.toArray }
  | coll {b : Nat} {x : Loc} : ρ b = some x → DR ρ σ (.coll b) { target := .collected x.r, args := #[] }
inductive DRs (ρ : Map) (σ : Tok → Value) : List ADef → List Deferred → Prop
  | nil : DRs ρ σ [] []
  | cons {a : ADef} {d : Deferred} {l : List ADef} {l' : List Deferred} : DR ρ σ a d → DRs ρ σ l l' → DRs ρ σ (a :: l) (d :: l')
inductive ERs (ρ : Map) (σ : Tok → Value) : List (AV × AV) → List MapEntry → Prop
  | nil : ERs ρ σ [] []
  | cons {k v : AV} {k' v' : Value} {n : Nat} {l : List (AV × AV)} {l' : List MapEntry} : VR ρ σ k k' → VR ρ σ v v' → ERs ρ σ l l' → ERs ρ σ ((k, v) :: l) ({ key := k', val := v', born := n } :: l')

theorem DR.mono {ρ ρ' : Map} {σ : Tok → Value} (h : Map.le ρ ρ') {a : ADef} {d : Deferred} (hd : DR ρ σ a d) : DR ρ' σ a d := by
  cases hd with
  | call h1 => exact .call (h1.mono h)
  | coll h1 => exact .coll (h _ _ h1)
theorem DRs.mono {ρ ρ' : Map} {σ : Tok → Value} (h : Map.le ρ ρ') {a : List ADef} {d : List Deferred} (hd : DRs ρ σ a d) : DRs ρ' σ a d := by
  induction hd with
  | nil => exact .nil
  | cons h1 _ ih => exact .cons (h1.mono h) ih
theorem DRs.append {ρ : Map} {σ : Tok → Value} {a b : List ADef} {a' b' : List Deferred} (h : DRs ρ σ a a') (h' : DRs ρ σ b b') : DRs ρ σ (a ++ b) (a' ++ b') := by
  induction h with
  | nil => exact h'
  | cons h1 _ ih => exact .cons h1 ih
theorem ERs.mono {ρ ρ' : Map} {σ : Tok → Value} (h : Map.le ρ ρ') {a : List (AV × AV)} {d : List MapEntry} (hd : ERs ρ σ a d) : ERs ρ' σ a d := by
  induction hd with
  | nil => exact .nil
  | cons h1 h2 _ ih => exact .cons (h1.mono h) (h2.mono h) ih

/-- the cells of a row from one place on -/
def RowR (ρ : Map) (σ : Tok → Value) (l : List AV) (s : Nat) (c : Array Value) : Prop := ∀ (i : Nat) a, l[i]? = some a → ∃ v, c[s + i]? = some v ∧ VR ρ σ a v
theorem RowR.mono {ρ ρ' : Map} {σ : Tok → Value} (h : Map.le ρ ρ') {l : List AV} {s : Nat} {c : Array Value} (hr : RowR ρ σ l s c) : RowR ρ' σ l s c :=
  fun i a ha => let ⟨v, h1, h2⟩ := hr i a ha; ⟨v, h1, h2.mono h⟩

inductive OR (ρ : Map) (σ : Tok → Value) : AObj → Loc → Obj → Prop
  | cells {el : TypeId} {l : List AV} {solo front : Bool} {x : Loc} {c : Array Value} {fz : Nat × Nat} : c.size = x.n → x.s + l.length ≤ x.n → RowR ρ σ l x.s c →
      (solo = true → ∀ i, x.s ≤ i → i < x.s + l.length → shut fz i = false) → (front = true → ∀ i, x.s + l.length ≤ i → i < x.n → shut fz i = false) →
      (solo = true → front = false → x.s = 0 ∧ x.n = l.length) →
      OR ρ σ (.cells el l solo front) x (.cells c el fz)
  | map {es : List (AV × AV)} {x : Loc} {es' : List MapEntry} {clock : Nat} : ERs ρ σ es es' → OR ρ σ (.map es) x (.map es'.toArray clock)
  | loop {st : LoopState} {pend : Option Code} {fn : FuncId} {tmps : List AV} {tmps' : List Value} {params : Array Tmp} {assign body : Code} {d : Nat} {x y : Loc} : VRs ρ σ tmps tmps' → ρ d = some y →
      OR ρ σ (.loop st pend fn tmps params assign body d) x (.loop { state := st, pending := pend, fn, tmps := tmps'.toArray, params, assign, body, defers := y.r })
  | dfr {l : List ADef} {l' : List Deferred} {x : Loc} : DRs ρ σ l l' → OR ρ σ (.dfr (some l)) x (.deferred (some l'))
  | dfr0 {x : Loc} : OR ρ σ (.dfr none) x (.deferred none)
  | seq {el : TypeId} {tys : List Ty} {l : Tok} {front : Bool} {x : Loc} {c : Array Value} {fz : Nat × Nat} {n : Nat} : σ (.llen l) = .int .i64 (.ofNat n) → 0 < tys.length → c.size = x.n → x.s + n * tys.length ≤ x.n →
      (∀ i j y, i < n → tys[j]? = some y → c[x.s + (i * tys.length + j)]? = some (σ (.lget j y l (.ki .i64 (.ofNat i)))) ∧ (σ (.lget j y l (.ki .i64 (.ofNat i)))).oneCell' = true) →
      (front = true → ∀ i, x.s + n * tys.length ≤ i → i < x.n → shut fz i = false) → OR ρ σ (.seq el tys l front) x (.cells c el fz)

theorem OR.mono {ρ ρ' : Map} {σ : Tok → Value} (h : Map.le ρ ρ') {a : AObj} {x : Loc} {o : Obj} (ho : OR ρ σ a x o) : OR ρ' σ a x o := by
  cases ho with
  | cells h1 h2 h3 h4 h5 h6 => exact .cells h1 h2 (h3.mono h) h4 h5 h6
  | map h1 => exact .map (h1.mono h)
  | loop h1 h2 => exact .loop (h1.mono h) (h _ _ h2)
  | dfr h1 => exact .dfr (h1.mono h)
  | dfr0 => exact .dfr0
  | seq h1 h2 h3 h4 h5 h6 => exact .seq h1 h2 h3 h4 h5 h6

/-- held by nobody else -/
def AObj.solo : AObj → Bool
  | .cells _ _ s _ => s
  | _ => true
def AObj.front : AObj → Bool
  | .cells _ _ _ f => f
  | _ => false
def AObj.len : AObj → Nat
  | .cells _ l _ _ => l.length
  | _ => 0

theorem alloc_old (w : World) (o : Obj) (k : Nat) (h : k < w.heap.size) : (w.alloc o).heap[k]? = w.heap[k]? := by
  unfold World.alloc
  rw [Array.getElem?_push, if_neg (Nat.ne_of_lt h)]
theorem alloc_new (w : World) (o : Obj) : (w.alloc o).heap[w.heap.size]? = some o := by
  unfold World.alloc
  rw [Array.getElem?_push, if_pos rfl]

structure HR (ρ : Map) (σ : Tok → Value) (own : Nat → Prop) (H : AHeap) (w : World) : Prop where
  obj : ∀ b a x, H.get b = some a → ρ b = some x → ∃ o, w.heap[x.r]? = some o ∧ OR ρ σ a x o
  dom : ∀ b x, ρ b = some x → b < H.n ∧ x.r < w.heap.size
  apart : ∀ b b' a a' x x', b ≠ b' → H.get b = some a → H.get b' = some a' → ρ b = some x → ρ b' = some x' → x.r = x'.r →
    a.solo = false ∧ (a.front = true → a'.front = false ∧ x'.s + a'.len ≤ x.s + a.len)
  own : ∀ b a x, H.get b = some a → ρ b = some x → a.solo = true ∨ a.front = true → own x.r

/-- what a step leaves: the streams, the tape, and whatever is not owned -/
structure Kp (own : Nat → Prop) (w w' : World) : Prop where
  tape : w'.tape = w.tape
  os : w'.os = w.os
  output : w'.output = w.output
  size : w.heap.size ≤ w'.heap.size
  heap : ∀ k, k < w.heap.size → ¬ own k → w'.heap[k]? = w.heap[k]?

theorem Kp.refl (own : Nat → Prop) (w : World) : Kp own w w := ⟨rfl, rfl, rfl, Nat.le_refl _, fun _ _ _ => rfl⟩
theorem Kp.trans {own : Nat → Prop} {a b c : World} (h : Kp own a b) (h' : Kp own b c) : Kp own a c :=
  ⟨h'.tape.trans h.tape, h'.os.trans h.os, h'.output.trans h.output, Nat.le_trans h.size h'.size, fun k hk hn => (h'.heap k (Nat.lt_of_lt_of_le hk h.size) hn).trans (h.heap k hk hn)⟩
theorem Kp.alloc (own : Nat → Prop) (w : World) (o : Obj) : Kp own w (w.alloc o) :=
  ⟨rfl, rfl, rfl, by simp, fun k hk _ => alloc_old w o k hk⟩
theorem Kp.setO {own : Nat → Prop} (w : World) (r : Nat) (o : Obj) (h : own r) : Kp own w (setO w r o) :=
  ⟨rfl, rfl, rfl, by simp [setO_size], fun k hk hn => by
    have hkr : r ≠ k := fun e => hn (e ▸ h)
    simp [Eng.setO, hkr]⟩
theorem Kp.drawn (own : Nat → Prop) (w : World) (d : Nat) : Kp own w { w with drawn := d } := ⟨rfl, rfl, rfl, Nat.le_refl _, fun _ _ _ => rfl⟩

def upd (ρ : Map) (b : Nat) (x : Loc) : Map := fun k => if k = b then some x else ρ k
theorem upd_le {ρ : Map} {b : Nat} {x : Loc} (h : ρ b = none) : Map.le ρ (upd ρ b x) := fun k y hk => by
  unfold upd
  by_cases e : k = b
  · subst e; rw [h] at hk; cases hk
  · rw [if_neg e]; exact hk
theorem upd_self (ρ : Map) (b : Nat) (x : Loc) : upd ρ b x b = some x := by simp [upd]
theorem upd_other {ρ : Map} {b k : Nat} {x y : Loc} (h : upd ρ b x k = some y) : (k = b ∧ y = x) ∨ (k ≠ b ∧ ρ k = some y) := by
  unfold upd at h
  by_cases e : k = b
  · rw [if_pos e] at h; exact .inl ⟨e, by simpa using h.symm⟩
  · rw [if_neg e] at h; exact .inr ⟨e, h⟩

section
variable {ρ : Map} {σ : Tok → Value} {own : Nat → Prop} {H : AHeap} {w : World}

theorem HR.none_of_ge (h : HR ρ σ own H w) {b : Nat} (hb : H.n ≤ b) : ρ b = none := by
  cases e : ρ b with
  | none => rfl
  | some x => exact absurd (h.dom b x e).1 (by omega)

theorem HR.drawn (h : HR ρ σ own H w) (d : Nat) : HR ρ σ own H { w with drawn := d } := ⟨h.obj, h.dom, h.apart, h.own⟩

/-- a virtual block that is not in the world yet -/
theorem HR.anew (h : HR ρ σ own H w) (a : AObj) : HR ρ σ own (H.new a) w := by
  have hn := h.none_of_ge (Nat.le_refl H.n)
  have key : ∀ b a' x, (H.new a).get b = some a' → ρ b = some x → H.get b = some a' := fun b a' x h1 h2 => by
    rw [AHeap.get_new] at h1
    by_cases e : b = H.n
    · subst e; rw [hn] at h2; cases h2
    · rwa [if_neg e] at h1
  exact ⟨fun b a' x h1 h2 => h.obj b a' x (key _ _ _ h1 h2) h2, fun b x h1 => ⟨Nat.lt_succ_of_lt (h.dom b x h1).1, (h.dom b x h1).2⟩,
    fun b b' a1 a2 x x' hne h1 h2 h3 h4 => h.apart b b' a1 a2 x x' hne (key _ _ _ h1 h3) (key _ _ _ h2 h4) h3 h4, fun b a' x h1 h2 => h.own b a' x (key _ _ _ h1 h2) h2⟩

/-- it comes into the world -/
theorem HR.bind (h : HR ρ σ own H w) {b : Nat} (hb : ρ b = none) (hlt : b < H.n) {o : Obj} {n : Nat} (hown : own w.heap.size)
    (ho : ∀ a, H.get b = some a → OR (upd ρ b ⟨w.heap.size, 0, n⟩) σ a ⟨w.heap.size, 0, n⟩ o) : HR (upd ρ b ⟨w.heap.size, 0, n⟩) σ own H (w.alloc o) := by
  have old := alloc_old w o
  refine ⟨fun k a x h1 h2 => ?_, fun k x h1 => ?_, fun k k' a a' x x' hne h1 h2 h3 h4 he => ?_, fun k a x h1 h2 hs => ?_⟩
  · rcases upd_other h2 with ⟨rfl, rfl⟩ | ⟨hk, h2⟩
    · exact ⟨o, alloc_new w o, ho a h1⟩
    · obtain ⟨o', h3, h4⟩ := h.obj k a x h1 h2
      exact ⟨o', by rw [old _ (h.dom k x h2).2]; exact h3, h4.mono (upd_le hb)⟩
  · rcases upd_other h1 with ⟨rfl, rfl⟩ | ⟨hk, h1⟩
    · exact ⟨hlt, by simp⟩
    · have := h.dom k x h1; exact ⟨this.1, by simp; omega⟩
  · rcases upd_other h3 with ⟨e1, rfl⟩ | ⟨hk, h3⟩ <;> rcases upd_other h4 with ⟨e2, rfl⟩ | ⟨hk', h4⟩
    · exact absurd (e1.trans e2.symm) hne
    · have := (h.dom _ _ h4).2; simp at he; omega
    · have := (h.dom _ _ h3).2; simp at he; omega
    · exact h.apart k k' a a' x x' hne h1 h2 h3 h4 he
  · rcases upd_other h2 with ⟨rfl, rfl⟩ | ⟨hk, h2⟩
    · exact hown
    · exact h.own k a x h1 h2 hs

/-- a new block, at once in the world -/
theorem HR.new (h : HR ρ σ own H w) (a : AObj) {o : Obj} {n : Nat} (hown : own w.heap.size)
    (ho : OR (upd ρ H.n ⟨w.heap.size, 0, n⟩) σ a ⟨w.heap.size, 0, n⟩ o) : HR (upd ρ H.n ⟨w.heap.size, 0, n⟩) σ own (H.new a) (w.alloc o) :=
  (h.anew a).bind (h.none_of_ge (Nat.le_refl _)) (Nat.lt_succ_self _) hown fun a' ha => by
    rw [AHeap.get_new, if_pos rfl] at ha
    cases ha
    exact ho

/-- a block turned that nobody else holds -/
theorem HR.turn (h : HR ρ σ own H w) {b : Nat} {a a' : AObj} {x : Loc} {o : Obj} (hb : H.get b = some a) (hx : ρ b = some x) (hs : a.solo = true)
    (hs' : a'.solo = true ∨ a'.front = true → a.solo = true ∨ a.front = true) (ho : OR ρ σ a' x o) : HR ρ σ own (H.put b a') (setO w x.r o) := by
  have hlt := (h.dom b x hx).2
  have alone : ∀ k a1 y, k ≠ b → H.get k = some a1 → ρ k = some y → y.r ≠ x.r := fun k a1 y hk h1 h2 e => by
    have := (h.apart b k a a1 x y (Ne.symm hk) hb h1 hx h2 e.symm).1
    rw [hs] at this; cases this
  refine ⟨fun k a1 y h1 h2 => ?_, fun k y h1 => ?_, fun k k' a1 a2 y y' hne h1 h2 h3 h4 he => ?_, fun k a1 y h1 h2 hs1 => ?_⟩
  · rw [AHeap.get_put] at h1
    by_cases e : k = b
    · subst e
      rw [if_pos rfl] at h1; cases h1
      rw [hx] at h2; cases h2
      exact ⟨o, by rw [setO_heap _ _ _ hlt, if_pos rfl], ho⟩
    · rw [if_neg e] at h1
      obtain ⟨o', h3, h4⟩ := h.obj k a1 y h1 h2
      exact ⟨o', by rw [setO_heap _ _ _ hlt, if_neg (alone k a1 y e h1 h2)]; exact h3, h4⟩
  · have := h.dom k y h1
    exact ⟨this.1, by rw [setO_size]; exact this.2⟩
  · rw [AHeap.get_put] at h1 h2
    by_cases e : k = b <;> by_cases e' : k' = b
    · exact absurd (e.trans e'.symm) hne
    · subst e
      rw [if_neg e'] at h2
      rw [hx] at h3; cases h3
      exact absurd he.symm (alone k' a2 y' e' h2 h4)
    · subst e'
      rw [if_neg e] at h1
      rw [hx] at h4; cases h4
      exact absurd he (alone k a1 y e h1 h3)
    · rw [if_neg e] at h1; rw [if_neg e'] at h2
      exact h.apart k k' a1 a2 y y' hne h1 h2 h3 h4 he
  · rw [AHeap.get_put] at h1
    by_cases e : k = b
    · subst e
      rw [if_pos rfl] at h1; cases h1
      exact h.own k a y hb h2 (hs' hs1)
    · rw [if_neg e] at h1
      exact h.own k a1 y h1 h2 hs1

/-- fewer virtual blocks -/
theorem HR.sub (h : HR ρ σ own H w) {H' : AHeap} (hn : H'.n = H.n) (hg : ∀ b a, H'.get b = some a → H.get b = some a) : HR ρ σ own H' w :=
  ⟨fun b a x h1 => h.obj b a x (hg _ _ h1), fun b x h1 => by rw [hn]; exact h.dom b x h1, fun b b' a a' x x' hne h1 h2 => h.apart b b' a a' x x' hne (hg _ _ h1) (hg _ _ h2),
    fun b a x h1 => h.own b a x (hg _ _ h1)⟩
/-- nothing that was there is changed -/
theorem HR.kept {w' : World} (h : HR ρ σ own H w) (hk : Kp (fun k => w.heap.size ≤ k) w w') : HR ρ σ own H w' :=
  ⟨fun b a x hb hx => let ⟨o, o1, o2⟩ := h.obj b a x hb hx; ⟨o, by rw [hk.heap x.r (h.dom b x hx).2 (Nat.not_le.2 (h.dom b x hx).2)]; exact o1, o2⟩,
   fun b x hx => ⟨(h.dom b x hx).1, Nat.lt_of_lt_of_le (h.dom b x hx).2 hk.size⟩, h.apart, h.own⟩
theorem Kp.mono {own own' : Nat → Prop} {w w' : World} (h : Kp own w w') (hs : ∀ k, own k → own' k) : Kp own' w w' :=
  ⟨h.tape, h.os, h.output, h.size, fun k hk hn => h.heap k hk fun h' => hn (hs k h')⟩
end
end Go.Eng
namespace Go.Eng
open Go

section
variable {ρ : Map} {σ : Tok → Value} {own : Nat → Prop} {H : AHeap} {w : World} {P : Program}

theorem row_of (h : HR ρ σ own H w) {b : Nat} {x : Loc} {el : TypeId} {l : List AV} {solo front : Bool} (hb : H.get b = some (.cells el l solo front)) (hx : ρ b = some x) :
  ∃ c fz, w.heap[x.r]? = some (.cells c el fz) ∧ c.size = x.n ∧ x.s + l.length ≤ x.n ∧ RowR ρ σ l x.s c ∧ (solo = true → ∀ i, x.s ≤ i → i < x.s + l.length → shut fz i = false) ∧
   (front = true → ∀ i, x.s + l.length ≤ i → i < x.n → shut fz i = false) ∧ (solo = true → front = false → x.s = 0 ∧ x.n = l.length) := by
 obtain ⟨o, h1, h2⟩ := h.obj b _ x hb hx
 cases h2 with
 | cells a1 a2 a3 a4 a5 a6 => exact ⟨_, _, h1, a1, a2, a3, a4, a5, a6⟩

theorem RowR.part {l : List AV} {s : Nat} {c : Array Value} (h : RowR ρ σ l s c) (hs : s + l.length ≤ c.size) {o n : Nat} (hl : o + n ≤ l.length) :
  VRs ρ σ ((l.drop o).take n) ((c.toList.drop (o + s)).take n) := by
 refine VRs.of_get (by simp; omega) fun i a ha => ?_
 rw [List.getElem?_take] at ha ⊢
 split at ha
 ·rename_i hi
  rw [if_pos hi]
  rw [List.getElem?_drop] at ha ⊢
  obtain ⟨v, h1, h2⟩ := h (o + i) a ha
  refine ⟨v, ?_, h2⟩
  rw [show o + s + i = s + (o + i) by omega]
  simpa using h1
 ·cases ha

theorem load1_ok (h : HR ρ σ own H w) {b o : Nat} {x : Loc} {v : AV} (hl : load1 H b o = some v) (hx : ρ b = some x) : ∃ v', w.cell? ⟨x.r, o + x.s, none⟩ = some v' ∧ VR ρ σ v v' := by
 unfold load1 at hl
 split at hl
 ·rename_i el l s f hb
  obtain ⟨c, fz, h1, _, _, h4, _⟩ := row_of h hb hx
  obtain ⟨v', h5, h6⟩ := h4 o v hl
  exact ⟨v', by rw [cell_row h1, Nat.add_comm]; exact h5, h6⟩
 ·cases hl

theorem loadN_ok (h : HR ρ σ own H w) {b o n : Nat} {x : Loc} {vs : List AV} (hl : loadN H b o n = some vs) (hx : ρ b = some x) :
  ∃ vs', VRs ρ σ vs vs' ∧ (loadCells ⟨x.r, o + x.s, none⟩ n).run P w = .ok vs'.toArray w ∧ o + x.s + n ≤ x.n := by
 unfold loadN at hl
 split at hl
 ·rename_i el l s f hb
  obtain ⟨c, fz, h1, h2, h3, h4, _⟩ := row_of h hb hx
  cases hg : lenGe l (o + n) with
  | false => rw [hg] at hl; cases hl
  | true =>
   rw [hg] at hl
   simp only [cond_true, Option.some.injEq] at hl
   subst hl
   have hle := lenGe_le hg
   refine ⟨_, h4.part (by omega) hle, ?_, by omega⟩
   unfold loadCells
   rw [run_loadRow h1 n (o + x.s) 0 #[] (by omega)]
   simp
 ·cases hl

theorem storeN_ok (h : HR ρ σ own H w) {b o : Nat} {x : Loc} {vs : List AV} {vs' : List Value} {H' : AHeap} (hs : storeN H b o vs = some H') (hx : ρ b = some x) (hv : VRs ρ σ vs vs') :
  ∃ w', (storeCells ⟨x.r, o + x.s, none⟩ vs').run P w = .ok () w' ∧ HR ρ σ own H' w' ∧ Kp own w w' ∧ H'.n = H.n := by
 unfold storeN at hs
 split at hs
 ·rename_i el l solo f hb
  obtain ⟨c, fz, h1, h2, h3, h4, h5, h6, h7⟩ := row_of h hb hx
  cases hg : (solo && (lenGe l (o + vs.length) && vs.all AV.cell)) with
  | false => rw [hg] at hs; cases hs
  | true =>
   rw [hg] at hs
   simp only [cond_true, Option.some.injEq] at hs
   subst hs
   simp only [Bool.and_eq_true] at hg
   obtain ⟨rfl, hg1, hg2⟩ := hg
   have hle := lenGe_le hg1
   have hlen := hv.length
   refine ⟨_, run_storeRow vs' (o + x.s) 0 c w h1 (by omega) (fun j hj => h5 rfl _ (by omega) (by omega)) (hv.oneCell hg2), ?_, ?_, rfl⟩
   ·refine h.turn hb hx rfl (fun _ => .inl rfl) (.cells (by simpa [setRange_length] using h2) (by rw [setRange_length]; exact h3) (fun i a ha => ?_) (fun _ => by rw [setRange_length]; exact h5 rfl)
     (by rw [setRange_length]; exact h6) (by rw [setRange_length]; exact h7))
    rw [setRange_get _ _ _ _ hle] at ha
    simp only [List.getElem?_toArray]
    rw [setRange_get _ _ _ _ (by simp; omega)]
    split at ha
    ·rename_i hi
     rw [if_pos (by omega)]
     obtain ⟨v, h8, h9⟩ := hv.get ha
     exact ⟨v, by rw [show x.s + i - (o + x.s + 0) = i - o by omega]; exact h8, h9⟩
    ·rename_i hi
     rw [if_neg (by omega)]
     obtain ⟨v, h8, h9⟩ := h4 i a ha
     exact ⟨v, by simpa using h8, h9⟩
   ·exact Kp.setO _ _ _ (h.own b _ x hb hx (.inl rfl))
 ·cases hs

/-- an append that finds room behind: a new virtual block, in the old one's row -/
theorem fork_ok (h : HR ρ σ own H w) {b o : Nat} {x : Loc} {el : TypeId} {l old new : List AV} {new' : List Value} {solo : Bool} (hb : H.get b = some (.cells el l solo true)) (hx : ρ b = some x)
  (hold : o + old.length = l.length) (hold' : old = l.drop o) (hv : VRs ρ σ new new') (hc : new.all AV.cell = true) (hroom : x.s + l.length + new.length ≤ x.n) :
  ∃ w', (storeCells ⟨x.r, x.s + l.length, none⟩ new').run P w = .ok () w' ∧ Kp own w w' ∧
   HR (upd ρ H.n ⟨x.r, o + x.s, x.n⟩) σ own ((H.put b (.cells el l false false)).new (.cells el (old ++ new) false true)) w' := by
 obtain ⟨c, fz, h1, h2, h3, h4, h5, h6, h7⟩ := row_of h hb hx
 have hn := h.none_of_ge (Nat.le_refl H.n)
 have hbn : b ≠ H.n := fun e => by rw [e, hn] at hx; cases hx
 have hlt := (h.dom b x hx).2
 have hlen := hv.length
 have hget : ∀ k, ((H.put b (.cells el l false false)).new (.cells el (old ++ new) false true)).get k =
   if k = H.n then some (.cells el (old ++ new) false true) else if k = b then some (.cells el l false false) else H.get k := fun k => by
  rw [AHeap.get_new, AHeap.get_put]; rfl
 refine ⟨_, run_storeRow new' (x.s + l.length) 0 c w h1 (by omega) (fun j hj => h6 rfl _ (by omega) (by omega)) (hv.oneCell hc), Kp.setO _ _ _ (h.own b _ x hb hx (.inr rfl)), ?_⟩
 have hcell : ∀ i, i < x.s + l.length → (setRange c.toList (x.s + l.length + 0) new').toArray[i]? = c[i]? := fun i hi => by
  simp only [List.getElem?_toArray]
  rw [setRange_get _ _ _ _ (by simp; omega), if_neg (by omega)]
  simp
 have row : ∀ (l1 : List AV) s1, RowR ρ σ l1 s1 c → s1 + l1.length ≤ x.s + l.length → RowR (upd ρ H.n ⟨x.r, o + x.s, x.n⟩) σ l1 s1 (setRange c.toList (x.s + l.length + 0) new').toArray := fun l1 s1 hr hle i a ha => by
  have hi : i < l1.length := (List.getElem?_eq_some_iff.1 ha).1
  obtain ⟨v, h8, h9⟩ := hr i a ha
  exact ⟨v, by rw [hcell _ (by omega)]; exact h8, h9.mono (upd_le hn)⟩
 refine ⟨fun k a y ha hy => ?_, fun k y hy => ?_, fun k k' a a' y y' hne ha ha' hy hy' he => ?_, fun k a y ha hy hs => ?_⟩
 ·rw [hget] at ha
  by_cases e : k = H.n
  ·subst e
   rw [if_pos rfl] at ha; cases ha
   rw [upd_self] at hy; cases hy
   refine ⟨_, by rw [setO_heap _ _ _ hlt, if_pos rfl], .cells (by simpa [setRange_length] using h2) (by simp; omega) (fun i a ha => ?_) (fun hh => by cases hh) (fun _ i h8 h9 => h6 rfl i (by simp at h8; omega) h9) (fun hh => by cases hh)⟩
   rcases Nat.lt_or_ge i old.length with hi | hi
   ·rw [List.getElem?_append_left hi, hold', List.getElem?_drop] at ha
    obtain ⟨v, h8, h9⟩ := h4 (o + i) a ha
    refine ⟨v, ?_, h9.mono (upd_le hn)⟩
    rw [hcell _ (by simp; omega), show o + x.s + i = x.s + (o + i) by omega]
    exact h8
   ·rw [List.getElem?_append_right hi] at ha
    obtain ⟨v, h8, h9⟩ := hv.get ha
    have hi2 : i - old.length < new'.length := (List.getElem?_eq_some_iff.1 h8).1
    refine ⟨v, ?_, h9.mono (upd_le hn)⟩
    simp only [List.getElem?_toArray]
    rw [setRange_get _ _ _ _ (by simp; omega), if_pos (by omega)]
    rw [show o + x.s + i - (x.s + l.length + 0) = i - old.length by omega]
    exact h8
  ·rw [if_neg e] at ha
   rcases upd_other hy with ⟨e', _⟩ | ⟨_, hy⟩
   ·exact absurd e' e
   by_cases e2 : k = b
   ·subst e2
    rw [if_pos rfl] at ha; cases ha
    rw [hx] at hy; cases hy
    exact ⟨_, by rw [setO_heap _ _ _ hlt, if_pos rfl], .cells (by simpa [setRange_length] using h2) h3 (row _ _ h4 (Nat.le_refl _)) (fun hh => by cases hh) (fun hh => by cases hh) (fun hh => by cases hh)⟩
   ·rw [if_neg e2] at ha
    obtain ⟨ob, h8, h9⟩ := h.obj k a y ha hy
    by_cases hr : y.r = x.r
    ·have hap := (h.apart b k _ a x y (Ne.symm e2) hb ha hx hy hr.symm).2 rfl
     have hap2 := (h.apart k b a _ y x e2 ha hb hy hx hr).1
     rw [hr, h1] at h8
     cases h8
     cases h9 with
     | cells a1 a2 a3 a4 a5 a6 =>
      refine ⟨_, by rw [setO_heap _ _ _ hlt, if_pos hr], .cells (by simpa [setRange_length] using a1) a2 (row _ _ a3 ?_) (fun hh => ?_) (fun hh => ?_) (fun hh => ?_)⟩
      ·exact hap.2
      ·have : _ = false := hap2
       simp only [AObj.solo] at this
       rw [hh] at this; cases this
      ·have : _ = false := hap.1
       simp only [AObj.front] at this
       rw [hh] at this; cases this
      ·have : _ = false := hap2
       simp only [AObj.solo] at this
       rw [hh] at this; cases this
     | seq => cases hap2
    ·exact ⟨ob, by rw [setO_heap _ _ _ hlt, if_neg hr]; exact h8, h9.mono (upd_le hn)⟩
 ·rcases upd_other hy with ⟨rfl, rfl⟩ | ⟨_, hy⟩
  ·exact ⟨Nat.lt_succ_self _, by rw [setO_size]; exact hlt⟩
  ·have := h.dom k y hy
   exact ⟨Nat.lt_succ_of_lt this.1, by rw [setO_size]; exact this.2⟩
 ·rw [hget] at ha ha'
  -- what a block that is not the new one is: it lies where it lay, and reaches no further
  have was : ∀ k a y, k ≠ H.n → (if k = b then some (.cells el l false false) else H.get k) = some a → upd ρ H.n ⟨x.r, o + x.s, x.n⟩ k = some y → y.r = x.r →
    ρ k = some y ∧ a.solo = false ∧ a.front = false ∧ y.s + a.len ≤ x.s + l.length := fun k a y hk h8 h9 hr => by
   rcases upd_other h9 with ⟨e', _⟩ | ⟨_, h9⟩
   ·exact absurd e' hk
   by_cases e2 : k = b
   ·subst e2
    rw [if_pos rfl] at h8; cases h8
    rw [hx] at h9; cases h9
    exact ⟨hx, rfl, rfl, Nat.le_refl _⟩
   ·rw [if_neg e2] at h8
    have hap := (h.apart b k _ a x y (Ne.symm e2) hb h8 hx h9 hr.symm).2 rfl
    have hap2 := (h.apart k b a _ y x e2 h8 hb h9 hx hr).1
    exact ⟨h9, hap2, hap.1, hap.2⟩
  have newlen : o + x.s + (old ++ new).length = x.s + l.length + new.length := by simp; omega
  by_cases e : k = H.n
  ·have e' : k' ≠ H.n := fun e' => hne (e.trans e'.symm)
   subst e
   rw [if_pos rfl] at ha; cases ha
   rw [upd_self] at hy; cases hy
   rw [if_neg e'] at ha'
   obtain ⟨_, _, h10, h11⟩ := was k' a' y' e' ha' hy' he.symm
   refine ⟨rfl, fun _ => ⟨h10, ?_⟩⟩
   simp only [AObj.len] at h11 ⊢
   omega
  ·rw [if_neg e] at ha
   by_cases e' : k' = H.n
   ·subst e'
    rw [if_pos rfl] at ha'; cases ha'
    rw [upd_self] at hy'; cases hy'
    obtain ⟨_, h9, h10, _⟩ := was k a y e ha hy he
    exact ⟨h9, fun hh => by rw [h10] at hh; cases hh⟩
   ·rw [if_neg e'] at ha'
    rcases upd_other hy with ⟨e1, _⟩ | ⟨_, hy0⟩
    ·exact absurd e1 e
    rcases upd_other hy' with ⟨e1, _⟩ | ⟨_, hy0'⟩
    ·exact absurd e1 e'
    by_cases hr : y.r = x.r
    ·obtain ⟨_, h9, h10, _⟩ := was k a y e ha hy hr
     exact ⟨h9, fun hh => by rw [h10] at hh; cases hh⟩
    ·have ne1 : k ≠ b := fun e1 => by subst e1; rw [hx] at hy0; cases hy0; exact hr rfl
     have ne2 : k' ≠ b := fun e1 => by subst e1; rw [hx] at hy0'; cases hy0'; exact hr he
     rw [if_neg ne1] at ha
     rw [if_neg ne2] at ha'
     exact h.apart k k' a a' y y' hne ha ha' hy0 hy0' he
 ·rw [hget] at ha
  by_cases e : k = H.n
  ·subst e
   rw [upd_self] at hy; cases hy
   exact h.own b _ x hb hx (.inr rfl)
  ·rw [if_neg e] at ha
   rcases upd_other hy with ⟨e', _⟩ | ⟨_, hy⟩
   ·exact absurd e' e
   by_cases e2 : k = b
   ·subst e2
    rw [if_pos rfl] at ha; cases ha
    rcases hs with hs | hs <;> cases hs
   ·rw [if_neg e2] at ha
    exact h.own k a y ha hy hs

/-- a row that a string shares from now on -/
theorem shut_ok (h : HR ρ σ own H w) {b : Nat} {x : Loc} {el : TypeId} {l : List AV} {solo : Bool} (hb : H.get b = some (.cells el l solo true)) (hx : ρ b = some x) (fz' : Nat × Nat) {c : Array Value} {fz : Nat × Nat}
  (h1 : w.heap[x.r]? = some (.cells c el fz)) : HR ρ σ own (H.put b (.cells el l false false)) (setO w x.r (.cells c el fz')) ∧ Kp own w (setO w x.r (.cells c el fz')) := by
 have hlt := (h.dom b x hx).2
 refine ⟨⟨fun k a y ha hy => ?_, fun k y hy => ?_, fun k k' a a' y y' hne ha ha' hy hy' he => ?_, fun k a y ha hy hs => ?_⟩, Kp.setO _ _ _ (h.own b _ x hb hx (.inr rfl))⟩
 ·rw [AHeap.get_put] at ha
  by_cases e : k = b
  ·subst e
   rw [if_pos rfl] at ha; cases ha
   rw [hx] at hy; cases hy
   obtain ⟨ob, h8, h9⟩ := h.obj _ _ _ hb hx
   rw [h1] at h8; cases h8
   cases h9 with
   | cells a1 a2 a3 a4 a5 a6 => exact ⟨_, by rw [setO_heap _ _ _ hlt, if_pos rfl], .cells a1 a2 a3 (fun hh => by cases hh) (fun hh => by cases hh) (fun hh => by cases hh)⟩
  ·rw [if_neg e] at ha
   obtain ⟨ob, h8, h9⟩ := h.obj k a y ha hy
   by_cases hr : y.r = x.r
   ·have hap := (h.apart b k _ a x y (Ne.symm e) hb ha hx hy hr.symm).2 rfl
    have hap2 := (h.apart k b a _ y x e ha hb hy hx hr).1
    rw [hr, h1] at h8; cases h8
    cases h9 with
    | cells a1 a2 a3 a4 a5 a6 =>
     refine ⟨_, by rw [setO_heap _ _ _ hlt, if_pos hr], .cells a1 a2 a3 (fun hh => ?_) (fun hh => ?_) (fun hh => ?_)⟩
     ·simp only [AObj.solo] at hap2; rw [hh] at hap2; cases hap2
     ·have := hap.1
      simp only [AObj.front] at this; rw [hh] at this; cases this
     ·simp only [AObj.solo] at hap2; rw [hh] at hap2; cases hap2
    | seq => cases hap2
   ·exact ⟨ob, by rw [setO_heap _ _ _ hlt, if_neg hr]; exact h8, h9⟩
 ·have := h.dom k y hy
  exact ⟨this.1, by rw [setO_size]; exact this.2⟩
 ·rw [AHeap.get_put] at ha ha'
  have was : ∀ k a, (if k = b then some (.cells el l false false) else H.get k) = some a → ∀ y, ρ k = some y → ∃ a0, H.get k = some a0 ∧ a.len = a0.len ∧ (a.solo = true → a0.solo = true) ∧ (a.front = true → a0.front = true) ∧ (k = b → a.solo = false ∧ a.front = false) ∧ (k ≠ b → a = a0) := fun k a h8 y _ => by
   by_cases e : k = b
   ·subst e
    rw [if_pos rfl] at h8; cases h8
    exact ⟨_, hb, rfl, (fun hh => nomatch hh), (fun hh => nomatch hh), (fun _ => ⟨rfl, rfl⟩), (fun hh => absurd rfl hh)⟩
   ·rw [if_neg e] at h8
    exact ⟨a, h8, rfl, id, id, fun hh => absurd hh e, fun _ => rfl⟩
  obtain ⟨a0, b1, b2, b3, b4, b5, b6⟩ := was k a ha y hy
  obtain ⟨a0', d1, d2, d3, d4, d5, d6⟩ := was k' a' ha' y' hy'
  have hap := h.apart k k' a0 a0' y y' hne b1 d1 hy hy' he
  refine ⟨?_, fun hh => ?_⟩
  ·cases hs : a.solo with
   | false => rfl
   | true => have := b3 hs; rw [hap.1] at this; cases this
  ·have h10 := hap.2 (b4 hh)
   refine ⟨?_, by rw [b2, d2]; exact h10.2⟩
   cases hs : a'.front with
   | false => rfl
   | true => have := d4 hs; rw [h10.1] at this; cases this
 ·rw [AHeap.get_put] at ha
  by_cases e : k = b
  ·subst e
   rw [if_pos rfl] at ha; cases ha
   rcases hs with hs | hs <;> cases hs
  ·rw [if_neg e] at ha
   exact h.own k a y ha hy hs
end
end Go.Eng
