/-
 Values that are not known, by names: what the operations tell of them, as far as a list of things that hold goes. What the operations tell of values by names: each is what the machine tells of the values themselves. What the operations tell of values by names is what the machine tells of the values themselves. What each operation tells of values by names is what the machine tells of the values themselves.
-/
import Derived.Test.YtngmgpmkjdacaaaGreatDoorMEnv
set_option linter.unusedSimpArgs false
set_option linter.unusedVariables false
namespace Go.Eng
open Go

inductive Val where
 | i (n : Int) | s (l : List UInt8) | b (b : Bool) | p (a b : Val) | l (xs : List Val)

def Val.toI : Val → Int
 | .i n => n | _ => 0
def Val.toS : Val → List UInt8
 | .s x => x | _ => []
def Val.toL : Val → List Val
 | .l xs => xs | _ => []
def unpack : Val → List Val
 | .p a b => a :: unpack b
 | _ => []
def Val.toB : Val → Bool
 | .b c => c | _ => false

def arI (op : Nat) (k : IntKind) (x y : Int) : Int :=
 match op with
 | 0 => k.wrap (x + y)
 | 1 => k.wrap (x - y)
 | 2 => k.wrap (x * y)
 | 3 => k.wrap (x.tdiv y)
 | 4 => x.tmod y
 | 5 => k.wrap (BitVec.ofInt k.bits x &&& BitVec.ofInt k.bits y).toNat
 | 6 => k.wrap (BitVec.ofInt k.bits x ||| BitVec.ofInt k.bits y).toNat
 | 7 => k.wrap (BitVec.ofInt k.bits x ^^^ BitVec.ofInt k.bits y).toNat
 | 9 => k.wrap (x * 2 ^ (min y.toNat k.bits))
 | 10 => x.fdiv (2 ^ (min y.toNat k.bits))
 | 11 => Int.ofNat ((x.toNat + y.toNat) / 2 ^ 64)
 | 12 => Int.ofNat ((x.toNat + y.toNat) % 2 ^ 64)
 | _ => 0
def cmpI (op : Nat) (x y : Int) : Bool :=
 match op with
 | 0 => x == y
 | 1 => x != y
 | 2 => x < y
 | 3 => x ≤ y
 | 4 => x > y
 | 5 => x ≥ y
 | _ => false

/-- what the names stand for: of variables, and of functions -/
structure Asn where
 v : Ty → Nat → Val
 fn : Nat → Val → Val → Val

def Tok.ty : Tok → Ty
 | .v y _ => y
 | .ki k _ => .int k | .ks _ => .str | .kb _ => .bool
 | .len _ => .int .i64
 | .ar _ k _ _ => .int k
 | .cv k _ => .int k
 | .idx _ _ => .int .u8
 | .sub _ _ _ => .str
 | .cat _ _ => .str
 | .cmp _ _ _ => .bool | .seq _ _ => .bool | .fits _ _ => .bool
 | .fn y _ _ _ => y
 | .pk _ _ => .lst | .lnil => .lst | .snoc _ _ => .lst | .llen _ => .int .i64 | .lget _ y _ _ => y

def Tok.eval (ι : Asn) : Tok → Val
 | .v y n => ι.v y n
 | .ki _ n => .i n | .ks l => .s l | .kb b => .b b
 | .len s => .i (s.eval ι).toS.length
 | .ar op k a b => .i (arI op k (a.eval ι).toI (b.eval ι).toI)
 | .cv k a => .i (k.wrap (a.eval ι).toI)
 | .idx s i => .i (((s.eval ι).toS[(i.eval ι).toI.toNat]?.getD 0).toNat)
 | .sub s lo hi => .s (((s.eval ι).toS.drop (lo.eval ι).toI.toNat).take ((hi.eval ι).toI.toNat - (lo.eval ι).toI.toNat))
 | .cat a b => .s ((a.eval ι).toS ++ (b.eval ι).toS)
 | .cmp op a b => .b (cmpI op (a.eval ι).toI (b.eval ι).toI)
 | .seq a b => .b ((a.eval ι).toS == (b.eval ι).toS)
 | .fits a b => .b (Nat.ble ((a.eval ι).toS.length + (b.eval ι).toS.length) 1000000)
 | .fn _ f a b => ι.fn f (a.eval ι) (b.eval ι)
 | .pk a b => .p (a.eval ι) (b.eval ι)
 | .lnil => .l []
 | .snoc l x => .l ((l.eval ι).toL ++ [x.eval ι])
 | .llen l => .i ((l.eval ι).toL.length : Nat)
 | .lget j _ l i => (unpack ((l.eval ι).toL.getD (i.eval ι).toI.toNat (.i 0))).getD j (.i 0)

/-- a value of a type -/
def Ty.val : Ty → Val → Value
 | .int k, v => .int k v.toI
 | .str, v => .string ⟨v.toS.toArray⟩
 | .bool, v => .bool v.toB
 | .lst, _ => .bool false
def Ty.av : Ty → Val → AV
 | .int k, v => .at (.int k v.toI)
 | .str, v => .str v.toS
 | .bool, v => .at (.bool v.toB)
 | .lst, _ => .at (.bool false)

def sg (ι : Asn) (t : Tok) : Value := t.ty.val (t.eval ι)
theorem sg_cell (ι : Asn) (t : Tok) : (sg ι t).oneCell' = true := by unfold sg; cases t.ty <;> rfl

theorem sg_int {ι : Asn} {t : Tok} {k : IntKind} {n : Int} (h : sg ι t = .int k n) : (t.eval ι).toI = n := by
 unfold sg at h
 cases ht : t.ty <;> rw [ht] at h <;> simp only [Ty.val, Value.int.injEq, reduceCtorEq] at h
 exact h.2
mutual
/-- with each name's value in its place -/
def conc (ι : Asn) : AV → AV
 | .sym t => t.ty.av (t.eval ι)
 | .sq b e n => .sl b 0 (n.eval ι).toI.toNat (n.eval ι).toI.toNat e false
 | .sp b e i o => .ptr b ((i.eval ι).toI.toNat * e + o)
 | .agg l => .agg (concs ι l)
 | .tup l => .tup (concs ι l)
 | v => v
def concs (ι : Asn) : List AV → List AV
 | [] => []
 | a :: l => conc ι a :: concs ι l
end

theorem concs_map (ι : Asn) (l : List AV) : concs ι l = l.map (conc ι) := by
 induction l with
 | nil => rfl
 | cons a l ih => simp [concs, ih]

theorem VR.av {ρ : Map} {σ : Tok → Value} (y : Ty) (v : Val) : VR ρ σ (y.av v) (y.val v) := by
 cases y
 ·exact .at _
 ·exact .str _
 ·exact .at _
 ·exact .at _

theorem VR.av_inv {ρ : Map} {σ : Tok → Value} {y : Ty} {v : Val} {v' : Value} (h : VR ρ σ (y.av v) v') : v' = y.val v := by
 cases y <;> cases h <;> rfl

mutual
theorem VR.conc {ρ : Map} {ι : Asn} : ∀ {a : AV} {v : Value}, VR ρ (sg ι) a v → VR ρ (sg ι) (conc ι a) v
 | _, _, .at v => .at v
 | _, _, .sym t _ => VR.av t.ty (t.eval ι)
 | _, _, .unk v => .unk v
 | _, _, .str l => .str l
 | _, _, .ptr hb => .ptr hb
 | _, _, .sl hb h1 h2 h3 h4 h5 => .sl hb h1 h2 h3 h4 h5
 | _, _, .slz h1 => .slz h1
 | .sq b e n, _, .sq (len := len) (cap' := cap') hb h1 h2 h3 h4 => by
  have e1 := sg_int h1
  simp only [Go.Eng.conc, e1]
  have r := VR.sl (σ := sg ι) (ex := false) (o := 0) (cap := len) hb h2 (fun h => absurd h (by decide)) h3 (by rw [Nat.zero_add]; exact h4) (Nat.le_refl _)
  rw [Nat.zero_add] at r
  exact r
 | .sp b e i o, _, .sp hb h1 => by
  have e1 := sg_int h1
  simp only [Go.Eng.conc, e1]
  exact .ptr hb
 | _, _, .map hb => .map hb
 | _, _, .fn h1 h2 => .fn h1 h2
 | _, _, .yield hb => .yield hb
 | _, _, .iface h1 => .iface h1
 | _, _, .agg h1 => .agg (VRs.conc h1)
 | _, _, .tup h1 => .tup (VRs.conc h1)
theorem VRs.conc {ρ : Map} {ι : Asn} : ∀ {l : List AV} {l' : List Value}, VRs ρ (sg ι) l l' → VRs ρ (sg ι) (concs ι l) l'
 | _, _, .nil => .nil
 | _, _, .cons h1 h2 => .cons (VR.conc h1) (VRs.conc h2)
end

/-- of names and of sure values -/
def AV.tok : AV → Option Tok
 | .sym t => some t
 | .at (.int k n) => some (.ki k n)
 | .at (.bool b) => some (.kb b)
 | .str l => some (.ks l)
 | _ => none
def AV.isSym : AV → Bool
 | .sym _ => true
 | _ => false

theorem tok_conc {ι : Asn} {a : AV} {t : Tok} (h : a.tok = some t) : conc ι a = t.ty.av (t.eval ι) := by
 unfold AV.tok at h
 split at h <;> cases h <;> simp [conc, Tok.ty, Tok.eval, Ty.av, Val.toI, Val.toB, Val.toS]

def opCode : BinOp → Nat
 | .add => 0 | .sub => 1 | .mul => 2 | .quo => 3 | .rem => 4 | .and => 5 | .or => 6 | .xor => 7 | .andNot => 8 | .shl => 9 | .shr => 10
 | .eql => 0 | .neq => 1 | .lss => 2 | .leq => 3 | .gtr => 4 | .geq => 5
def isCmp : BinOp → Bool
 | .eql | .neq | .lss | .leq | .gtr | .geq => true
 | _ => false

/-- what holds, as far as is known -/
abbrev Known := List (Tok × Bool)
def look : Known → Tok → Option Bool
 | [], _ => none
 | (t, b) :: A, u => bif t.beq u then some b else look A u
/-- what is known is so -/
def Known.so (ι : Asn) (A : Known) : Prop := ∀ p ∈ A, (p.1.eval ι).toB = p.2
theorem look_so {ι : Asn} : ∀ {A : Known} {t : Tok} {b : Bool}, A.so ι → look A t = some b → (t.eval ι).toB = b
 | [], _, _, _, h => by cases h
 | (u, c) :: A, t, b, hA, h => by
  simp only [look] at h
  cases hb : u.beq t with
  | true =>
   rw [hb] at h
   cases h
   rw [← Tok.beq_eq hb]
   exact hA (u, c) (by simp)
  | false =>
   rw [hb] at h
   exact look_so (fun p hp => hA p (by simp [hp])) h
end Go.Eng
namespace Go.Eng
open Go Go.Proofs

def known (A : Known) (t : Tok) : Option Bool :=
 match t with
 | .cmp op (.ki _ a) (.ki _ b) => some (cmpI op a b)
 | t => look A t
theorem known_so {ι : Asn} {A : Known} {t : Tok} {b : Bool} (hA : A.so ι) (h : known A t = some b) : (t.eval ι).toB = b := by
 unfold known at h
 split at h
 ·cases h; rfl
 ·exact look_so hA h

/-- a thing that is not known is told, if it is asked for -/
def miss (dbg : Bool) (t : Tok) : Option AV := bif dbg then some (.iface 0 (.sym t)) else none
def askB (dbg : Bool) (A : Known) (t : Tok) : Option AV :=
 match known A t with
 | some b => some (.at (.bool b))
 | none => miss dbg t
def askN (dbg : Bool) (A : Known) (t : Tok) : Option AV :=
 match known A t with
 | some b => some (.at (.bool (!b)))
 | none => miss dbg t
def need (dbg : Bool) (A : Known) (t : Tok) (v : Option AV) : Option AV :=
 match known A t with
 | some true => v
 | some false => none
 | none => bif dbg then some (.iface 1 (.sym t)) else none

inductive Rs where
 | yes | no | miss (t : Tok) | bad
def Rs.of (t : Tok) : Option Bool → Rs
 | some true => .yes | some false => .no | none => .miss t
def eqAtomT (A : Known) (u : TypeDesc) (a b : AV) : Rs :=
 match eqAtom u a b with
 | some true => .yes
 | some false => .no
 | none => match a.tok, b.tok with
  | some s, some t => match u, s.ty, t.ty with
   | .int _, .int k, .int j => bif kindB k j then Rs.of (.cmp 0 s t) (known A (.cmp 0 s t)) else .bad
   | .string, .str, .str => Rs.of (.seq s t) (known A (.seq s t))
   | _, _, _ => .bad
  | _, _ => .bad
def eqCellsT (E : Nat → Option TI) (A : Known) : List Field → List AV → List AV → Rs
 | [], [], [] => .yes
 | f :: fs, a :: xs, b :: ys => match E f.type with
  | some fi => match eqAtomT A fi.u a b with
   | .yes => eqCellsT E A fs xs ys
   | r => r
  | none => .bad
 | _, _, _ => .bad
def anySym : AV → Bool
 | .sym _ => true
 | .agg l => l.any AV.isSym
 | _ => false

def symBin (E : Nat → Option TI) (fl : Nat → Bool) (dbg : Bool) (A : Known) (op : BinOp) (t : TypeId) (x y : AV) : Option AV :=
 bif anySym x || anySym y then
  match x.tok, y.tok with
  | some a, some b => match a.ty, b.ty with
   | .int k, .int j =>
    bif isCmp op then (bif kindB k j then askB dbg A (.cmp (opCode op) a b) else none)
    else match op with
     | .add | .sub | .mul | .and | .or | .xor => bif kindB k j then some (.sym (.ar (opCode op) k a b)) else none
     | .quo | .rem => match b with
      | .ki _ n => bif kindB k j && !(intB n 0) then some (.sym (.ar (opCode op) k a b)) else none
      | _ => none
     | .shl | .shr => match b with
      | .ki _ (.ofNat _) => some (.sym (.ar (opCode op) k a b))
      | _ => none
     | _ => none
   | .str, .str => match op with
    | .add => need dbg A (.fits a b) (some (.sym (.cat a b)))
    | .eql => askB dbg A (.seq a b)
    | .neq => askN dbg A (.seq a b)
    | _ => none
   | _, _ => none
  | _, _ => match op, x, y, E t with
   | .eql, .agg xs, .agg ys, some ti => match ti.u with
    | .struct fs => bif fl t then (match eqCellsT E A fs.toList xs ys with
     | .yes => some (.at (.bool true))
     | .no => some (.at (.bool false))
     | .miss t => miss dbg t
     | .bad => none) else none
    | _ => none
   | .neq, .agg xs, .agg ys, some ti => match ti.u with
    | .struct fs => bif fl t then (match eqCellsT E A fs.toList xs ys with
     | .yes => some (.at (.bool false))
     | .no => some (.at (.bool true))
     | .miss t => miss dbg t
     | .bad => none) else none
    | _ => none
   | _, _, _, _ => none
 else none

def isStrT (E : Nat → Option TI) (t : TypeId) : Bool :=
 match E t with
 | some ti => match ti.u with
  | .string => true
  | _ => false
 | none => false

def symConv (E : Nat → Option TI) (s d : TypeId) (x : AV) : Option AV :=
 match x with
 | .sym t => match E s, E d, t.ty with
  | some si, some di, .int _ => match si.u, di.u with
   | .int _, .int k => some (.sym (.cv k t))
   | _, _ => none
  | some si, some di, .str => match si.u, di.u with
   | .string, .string => some (.sym t)
   | _, _ => none
  | _, _, _ => none
 | _ => none

def isIntK : Ty → Bool
 | .int _ => true
 | _ => false
def isStrK : Ty → Bool
 | .str => true
 | _ => false

def symIndex (E : Nat → Option TI) (dbg : Bool) (A : Known) (t : TypeId) (x i : AV) : Option AV :=
 bif x.isSym || i.isSym then
  match x.tok, i.tok with
  | some s, some j => bif isStrT E t && (isStrK s.ty && isIntK j.ty) then
    need dbg A (.cmp 3 (.ki .i64 0) j) (need dbg A (.cmp 2 j (.len s)) (some (.sym (.idx s j)))) else none
  | _, _ => none
 else none

def loTok : Option AV → Option Tok
 | none => some (.ki .i64 0)
 | some a => match a.tok with
  | some t => bif isIntK t.ty then some t else none
  | none => none
def hiTok (s : Tok) : Option AV → Option Tok
 | none => some (.len s)
 | some a => match a.tok with
  | some t => bif isIntK t.ty then some t else none
  | none => none
def optSym : Option AV → Bool
 | some a => a.isSym
 | none => false
def symSlice (E : Nat → Option TI) (dbg : Bool) (A : Known) (t : TypeId) (x : AV) (lo hi mx : Option AV) : Option AV :=
 bif x.isSym || (optSym lo || optSym hi) then
  match x.tok, mx with
  | some s, none => bif isStrT E t && isStrK s.ty then
    match loTok lo, hiTok s hi with
    | some a, some b => need dbg A (.cmp 3 (.ki .i64 0) a) (need dbg A (.cmp 3 a b) (bif hi.isNone then some (.sym (.sub s a b)) else need dbg A (.cmp 3 b (.len s)) (some (.sym (.sub s a b)))))
    | _, _ => none
   else none
  | _, _ => none
 else none

def symLen (E : Nat → Option TI) (ts : Array TypeId) (args : List AV) : Option AV :=
 match args with
 | [.sym t] => match ts[0]? with
  | some u => bif isStrT E u && isStrK t.ty then some (.sym (.len t)) else none
  | none => none
 | _ => none

def symUn (op : UnOp) (x : AV) : Option AV :=
 match op, x with
 | .neg, .sym t => match t.ty with
  | .int k => some (.sym (.ar 1 k (.ki k 0) t))
  | _ => none
 | _, _ => none

def orqG (E : Nat → Option TI) (fl : Nat → Bool) (dbg : Bool) (A : Known) (ev : Operand → AV) (o : Op) : Option AV :=
 match o with
 | .binOp op t x y _ => symBin E fl dbg A op t (ev x) (ev y)
 | .convert s d x => symConv E s d (ev x)
 | .unOp op _ x => symUn op (ev x)
 | .index t x i => symIndex E dbg A t (ev x) (ev i)
 | .slice t x lo hi mx => symSlice E dbg A t (ev x) (lo.map ev) (hi.map ev) (mx.map ev)
 | .call c => match c.callee with
  | .builtin .len => symLen E c.argTypes (c.args.toList.map ev)
  | _ => none
 | _ => none

def orxT (x : Ext) (args : List AV) : Option AV :=
 match x, args with
 | .add64, [a, b, .at (.int .u64 (.ofNat 0))] =>
  bif a.isSym || b.isSym then (match a.tok, b.tok with
   | some s, some t => bif isIntK s.ty && isIntK t.ty then some (.tup [.sym (.ar 12 .u64 s t), .sym (.ar 11 .u64 s t)]) else none
   | _, _ => none) else none
 | _, _ => none
end Go.Eng
namespace Go.Eng
open Go Go.Proofs

variable {ι : Asn} {A : Known} {E : Env}

def simple : AV → Bool
 | .sym _ => true
 | .at (.bool _) => true
 | _ => false

theorem told_of (hE : E.Ok (sg ι)) {ev : Operand → AV} {o : Op} {v : AV} {ρ : Map} {own : Nat → Prop} {H : AHeap} {w : World} (hr : HR ρ (sg ι) own H w) (h : qop0 E H (fun x => conc ι (ev x)) o = some (conc ι v)) (hv : simple v = true)
  (cv : Operand → Value) (hev : ∀ x ∈ o.operands, VR ρ (sg ι) (ev x) (cv x)) (q : Oper) (hq : q.op = o) : ∃ v', (execOp cv q).run E.P w = .ok (.value v') w ∧ VR ρ (sg ι) v v' := by
 subst hq
 obtain ⟨v', h1, h2⟩ := qop0_ok hE hr (fun x hx => (hev x hx).conc) h
 refine ⟨v', h1, ?_⟩
 cases v with
 | sym t =>
  have := VR.av_inv (y := t.ty) (v := t.eval ι) (by simpa [conc] using h2)
  rw [this]
  exact .sym t (sg_cell ι t)
 | «at» u => simpa [conc] using h2
 | _ => cases hv

theorem need_inv {t : Tok} {v : Option AV} {u : AV} (hA : A.so ι) (h : need false A t v = some u) : (t.eval ι).toB = true ∧ v = some u := by
 unfold need at h
 split at h
 ·rename_i hk
  exact ⟨known_so hA hk, h⟩
 ·cases h
 ·cases h
theorem askB_inv {t : Tok} {u : AV} (hA : A.so ι) (h : askB false A t = some u) : u = .at (.bool (t.eval ι).toB) := by
 unfold askB at h
 split at h
 ·rename_i hk
  cases h
  rw [known_so hA hk]
 ·cases h
theorem askN_inv {t : Tok} {u : AV} (hA : A.so ι) (h : askN false A t = some u) : u = .at (.bool (!(t.eval ι).toB)) := by
 unfold askN at h
 split at h
 ·rename_i hk
  cases h
  rw [known_so hA hk]
 ·cases h

theorem pureRun_pure {α : Type} {P : Program} (a : α) : pureRun P (pure a : Sem α) = some a := rfl
theorem guard_int {P : Program} {op : BinOp} {t : TypeId} {xo yo : Operand} {k j : IntKind} {a b : Int} : pureRun P (eqGuard op t xo yo (.int k a) (.int j b)) = some () := by
 unfold eqGuard
 cases op <;> rfl
theorem pureRun_bind {α β : Type} {P : Program} {s : Sem α} {f : α → Sem β} {a : α} (h : pureRun P s = some a) : pureRun P (s >>= f) = pureRun P (f a) := by
 induction s with
 | pure b => simp only [pureRun, Option.some.injEq] at h; subst h; rfl
 | program k ih => simp only [pureRun] at h; exact ih P h
 | mark m k ih => simp only [pureRun] at h; exact ih h
 | _ => simp [pureRun] at h

theorem binA_int {op : BinOp} {t : TypeId} {xo yo : Operand} {k j : IntKind} {a b : Int} {v : Value} (h : pureRun E.P (binOp op t (.int k a) (.int j b)) = some v) :
  binA E op t xo yo (.at (.int k a)) (.at (.int j b)) = some (.at v) := by
 unfold binA
 simp only
 rw [pureRun_bind guard_int, h]

theorem av_int {t : Tok} {k : IntKind} (h : t.ty = .int k) : t.ty.av (t.eval ι) = .at (.int k (t.eval ι).toI) := by rw [h]; rfl
theorem av_str {t : Tok} (h : t.ty = .str) : t.ty.av (t.eval ι) = .str (t.eval ι).toS := by rw [h]; rfl
theorem isIntK_inv {y : Ty} (h : isIntK y = true) : ∃ k, y = .int k := by cases y <;> first | exact ⟨_, rfl⟩ | cases h
theorem isStrK_inv {y : Ty} (h : isStrK y = true) : y = .str := by cases y <;> first | rfl | cases h
theorem isStrT_inv {E : Nat → Option TI} {t : TypeId} (h : isStrT E t = true) : ∃ ti, E t = some ti ∧ ti.u = .string := by
 unfold isStrT at h
 split at h
 ·rename_i ti ht
  split at h
  ·rename_i hu; exact ⟨ti, ht, hu⟩
  ·cases h
 ·cases h

theorem cmp_run {P : Program} {op : BinOp} {t : TypeId} {k : IntKind} {a b : Int} (h : isCmp op = true) : pureRun P (binOp op t (.int k a) (.int k b)) = some (.bool (cmpI (opCode op) a b)) := by
 cases op <;> first | cases h; done | (simp [binOp, Op.intCmp, cmpI, opCode, pureRun_pure]; done)

theorem ar_run {P : Program} {op : BinOp} {t : TypeId} {k : IntKind} {a b : Int} (h : match op with | .add | .sub | .mul | .and | .or | .xor => True | _ => False) :
  pureRun P (binOp op t (.int k a) (.int k b)) = some (.int k (arI (opCode op) k a b)) := by
 cases op <;> first | cases h; done | (simp [binOp, Op.intArith, Op.intBits, arI, opCode, pureRun_pure]; done)
theorem dv_run {P : Program} {op : BinOp} {t : TypeId} {k : IntKind} {a b : Int} (h : match op with | .quo | .rem => True | _ => False) (hb : b ≠ 0) :
  pureRun P (binOp op t (.int k a) (.int k b)) = some (.int k (arI (opCode op) k a b)) := by
 cases op <;> first | cases h; done | (simp [binOp, Op.intDiv, arI, opCode, hb, pureRun_pure]; done)
theorem sh_run {P : Program} {op : BinOp} {t : TypeId} {k j : IntKind} {a : Int} {n : Nat} (h : match op with | .shl | .shr => True | _ => False) :
  pureRun P (binOp op t (.int k a) (.int j (.ofNat n))) = some (.int k (arI (opCode op) k a (.ofNat n))) := by
 have hn : ¬ ((n : Int) < 0) := by omega
 cases op <;> first | cases h; done | (simp [binOp, Op.shift, arI, opCode, hn, pureRun_pure]; done)
end Go.Eng
namespace Go.Eng
open Go Go.Proofs

variable {ι : Asn} {A : Known} {E : Env}

theorem eqAtom_conc {u : TypeDesc} {a b : AV} {r : Bool} (h : eqAtom u a b = some r) : eqAtom u (conc ι a) (conc ι b) = some r := by
 unfold eqAtom at h
 split at h
 ·simpa [conc, eqAtom] using h
 ·simpa [conc, eqAtom] using h
 ·simpa [conc, eqAtom] using h
 ·cases h

def Rs.bool : Rs → Option Bool
 | .yes => some true | .no => some false | _ => none
theorem Rs.of_bool {t : Tok} {o : Option Bool} : (Rs.of t o).bool = o := by
 cases o with
 | none => rfl
 | some b => cases b <;> rfl

theorem eqAtomT_ok (hA : A.so ι) {u : TypeDesc} {a b : AV} {r : Bool} (h : (eqAtomT A u a b).bool = some r) : eqAtom u (conc ι a) (conc ι b) = some r := by
 unfold eqAtomT at h
 split at h
 ·rename_i he; cases h; exact eqAtom_conc he
 ·rename_i he; cases h; exact eqAtom_conc he
 ·split at h
  ·rename_i s t hs ht
   rw [tok_conc hs, tok_conc ht]
   split at h
   ·rename_i k j hk hj _
    cases hb : kindB k j with
    | false => rw [hb] at h; cases h
    | true =>
     rw [hb] at h
     simp only [cond_true] at h
     have := known_so hA (Rs.of_bool.symm.trans h)
     rw [av_int hk, av_int hj]
     simp only [eqAtom, hb, cond_true, Option.some.injEq]
     simpa [Tok.eval, cmpI, Val.toB] using this
   ·rename_i hk hj _
    have := known_so hA (Rs.of_bool.symm.trans h)
    rw [av_str hk, av_str hj]
    simp only [eqAtom, Option.some.injEq]
    simpa [Tok.eval, Val.toB] using this
   ·cases h
  ·cases h

theorem eqCellsT_ok (hA : A.so ι) : ∀ (fs : List Field) (xs ys : List AV) {r : Bool}, (eqCellsT E.ty A fs xs ys).bool = some r → eqCells E fs (concs ι xs) (concs ι ys) = some r
 | [], [], [], r, h => by cases h; rfl
 | f :: fs, a :: xs, b :: ys, r, h => by
  simp only [eqCellsT] at h
  split at h
  ·rename_i fi hf
   simp only [concs, eqCells]
   rw [hf]
   simp only
   cases he : eqAtomT A fi.u a b with
   | yes =>
    rw [he] at h
    rw [eqAtomT_ok hA (r := true) (by rw [he]; rfl)]
    exact eqCellsT_ok hA fs xs ys h
   | no =>
    rw [he] at h
    cases h
    rw [eqAtomT_ok hA (r := false) (by rw [he]; rfl)]
   | miss t => rw [he] at h; cases h
   | bad => rw [he] at h; cases h
  ·cases h
 | [], [], _ :: _, _, h => by cases h
 | [], _ :: _, _, _, h => by cases h
 | _ :: _, [], _, _, h => by cases h
 | _ :: _, _ :: _, [], _, h => by cases h

theorem symBin_ok (hA : A.so ι) {op : BinOp} {t : TypeId} {xo yo : Operand} {x y v : AV} (h : symBin E.ty E.flat false A op t x y = some v) :
  binA E op t xo yo (conc ι x) (conc ι y) = some (conc ι v) ∧ simple v = true := by
 unfold symBin at h
 cases hs : (anySym x || anySym y) with
 | false => rw [hs] at h; cases h
 | true =>
 rw [hs] at h
 simp only [cond_true] at h
 split at h
 ·rename_i a b ha hb
  rw [tok_conc ha, tok_conc hb]
  split at h
  ·rename_i k j hk hj
   rw [av_int hk, av_int hj]
   cases hc : isCmp op with
   | true =>
    rw [hc] at h
    simp only [cond_true] at h
    cases hkj : kindB k j with
    | false => rw [hkj] at h; cases h
    | true =>
     rw [hkj] at h
     simp only [cond_true] at h
     have := askB_inv hA h
     subst this
     refine ⟨?_, rfl⟩
     obtain rfl := kindB_eq hkj
     rw [binA_int (cmp_run hc)]
     rfl
   | false =>
    rw [hc] at h
    simp only [cond_false] at h
    split at h
    iterate 6
     cases hkj : kindB k j with
     | false => rw [hkj] at h; cases h
     | true =>
      rw [hkj] at h
      obtain rfl := kindB_eq hkj
      cases h
      exact ⟨by rw [binA_int (ar_run trivial)]; rfl, rfl⟩
    iterate 2
     split at h
     ·rename_i n
      cases hkj : (kindB k j && !intB n 0) with
      | false => rw [hkj] at h; cases h
      | true =>
       rw [hkj] at h
       simp only [Bool.and_eq_true, Bool.not_eq_true'] at hkj
       obtain rfl := kindB_eq hkj.1
       cases h
       exact ⟨by rw [binA_int (dv_run trivial (fun e => by have : n = 0 := e; subst this; exact absurd hkj.2 (by decide)))]; rfl, rfl⟩
     ·cases h
    iterate 2
     split at h
     ·cases h
      exact ⟨by rw [show (Val.toI (Tok.eval ι (.ki _ (.ofNat _)))) = .ofNat _ from rfl, binA_int (sh_run trivial)]; rfl, rfl⟩
     ·cases h
    ·cases h
  ·rename_i hk hj
   rw [av_str hk, av_str hj]
   split at h
   ·obtain ⟨h1, h2⟩ := need_inv hA h
    cases h2
    refine ⟨?_, rfl⟩
    simp only [binA, show Nat.ble ((a.eval ι).toS.length + (b.eval ι).toS.length) 1000000 = true from h1, cond_true]
    rfl
   ·have := askB_inv hA h
    subst this
    exact ⟨rfl, rfl⟩
   ·have := askN_inv hA h
    subst this
    exact ⟨rfl, rfl⟩
   ·cases h
  ·cases h
 ·split at h
  ·rename_i xs ys ti hti _
   split at h
   ·rename_i fs hfs
    cases hf : E.flat t with
    | false => rw [hf] at h; cases h
    | true =>
     rw [hf] at h
     simp only [cond_true] at h
     have key : ∀ r, (eqCellsT E.ty A fs.toList xs ys).bool = some r → eqA E t (conc ι (.agg xs)) (conc ι (.agg ys)) = some r := fun r hr => by
      unfold eqA
      rw [hti]
      simp only [hfs, conc]
      rw [hf]
      exact eqCellsT_ok hA _ _ _ hr
     have fin : ∀ r, (eqCellsT E.ty A fs.toList xs ys).bool = some r → binA E .eql t xo yo (conc ι (.agg xs)) (conc ι (.agg ys)) = some (.at (.bool r)) := fun r hr => by
      have := key r hr
      simp only [conc] at this ⊢
      simp only [binA, binO, this]
     split at h
     ·rename_i he; cases h; exact ⟨fin true (by rw [he]; rfl), rfl⟩
     ·rename_i he; cases h; exact ⟨fin false (by rw [he]; rfl), rfl⟩
     ·cases h
     ·cases h
   ·cases h
  ·rename_i xs ys ti hti _
   split at h
   ·rename_i fs hfs
    cases hf : E.flat t with
    | false => rw [hf] at h; cases h
    | true =>
     rw [hf] at h
     simp only [cond_true] at h
     have key : ∀ r, (eqCellsT E.ty A fs.toList xs ys).bool = some r → eqA E t (conc ι (.agg xs)) (conc ι (.agg ys)) = some r := fun r hr => by
      unfold eqA
      rw [hti]
      simp only [hfs, conc]
      rw [hf]
      exact eqCellsT_ok hA _ _ _ hr
     have fin : ∀ r, (eqCellsT E.ty A fs.toList xs ys).bool = some r → binA E .neq t xo yo (conc ι (.agg xs)) (conc ι (.agg ys)) = some (.at (.bool (!r))) := fun r hr => by
      have := key r hr
      simp only [conc] at this ⊢
      simp only [binA, binO, this]
     split at h
     ·rename_i he; cases h; exact ⟨fin true (by rw [he]; rfl), rfl⟩
     ·rename_i he; cases h; exact ⟨fin false (by rw [he]; rfl), rfl⟩
     ·cases h
     ·cases h
   ·cases h
  ·cases h

theorem symConv_ok {H : AHeap} {s d : TypeId} {x v : AV} (h : symConv E.ty s d x = some v) : convQ E H s d (conc ι x) = some (conc ι v) ∧ simple v = true := by
 unfold symConv at h
 split at h
 ·rename_i t
  split at h
  ·rename_i si di k hs hd ht
   split at h
   ·rename_i q j h1 h2
    cases h
    refine ⟨?_, rfl⟩
    unfold convQ
    rw [hs, hd]
    simp only [conc, av_int ht, h1, h2]
    rfl
   ·cases h
  ·rename_i si di hs hd ht
   split at h
   ·rename_i h1 h2
    cases h
    refine ⟨?_, rfl⟩
    unfold convQ
    rw [hs, hd]
    simp only [conc, av_str ht, h1, h2]
   ·cases h
  ·cases h
 ·cases h

theorem le_of {a b : Tok} (h : ((Tok.cmp 3 a b).eval ι).toB = true) : (a.eval ι).toI ≤ (b.eval ι).toI := by simpa [Tok.eval, cmpI, Val.toB] using h
theorem lt_of {a b : Tok} (h : ((Tok.cmp 2 a b).eval ι).toB = true) : (a.eval ι).toI < (b.eval ι).toI := by simpa [Tok.eval, cmpI, Val.toB] using h

theorem symIndex_ok (hA : A.so ι) {H : AHeap} {ev : Operand → AV} {t : TypeId} {x i : Operand} {v : AV} (h : symIndex E.ty false A t (ev x) (ev i) = some v) :
  qop0 E H (fun x => conc ι (ev x)) (.index t x i) = some (conc ι v) ∧ simple v = true := by
 unfold symIndex at h
 cases hs : ((ev x).isSym || (ev i).isSym) with
 | false => rw [hs] at h; cases h
 | true =>
 rw [hs] at h
 simp only [cond_true] at h
 split at h
 ·rename_i s j ha hb
  cases hg : (isStrT E.ty t && (isStrK s.ty && isIntK j.ty)) with
  | false => rw [hg] at h; cases h
  | true =>
   rw [hg] at h
   simp only [cond_true] at h
   simp only [Bool.and_eq_true] at hg
   obtain ⟨ti, h1, h2⟩ := isStrT_inv hg.1
   have h3 := isStrK_inv hg.2.1
   obtain ⟨k, h4⟩ := isIntK_inv hg.2.2
   obtain ⟨g1, h⟩ := need_inv hA h
   obtain ⟨g2, h⟩ := need_inv hA h
   cases h
   have g1 := le_of g1
   have g2 := lt_of g2
   refine ⟨?_, rfl⟩
   simp only [qop0]
   rw [h1, tok_conc ha, tok_conc hb, av_str h3, av_int h4]
   obtain ⟨n, hn⟩ : ∃ n : Nat, (j.eval ι).toI = .ofNat n := ⟨(j.eval ι).toI.toNat, by
    have : (0 : Int) ≤ (j.eval ι).toI := g1
    exact (Int.toNat_of_nonneg this).symm⟩
   have hlt : n < (s.eval ι).toS.length := by
    have : (j.eval ι).toI < ((s.eval ι).toS.length : Int) := g2
    rw [hn] at this
    exact Int.ofNat_lt.1 this
   rw [hn]
   simp only [h2]
   rw [show conc ι (.sym (.idx s j)) = .at (.int .u8 (((s.eval ι).toS[(j.eval ι).toI.toNat]?.getD 0).toNat : Nat)) from rfl, hn, show (Int.ofNat n).toNat = n from rfl, List.getElem?_eq_getElem hlt]
   rfl
 ·cases h

theorem loTok_ok {o : Option AV} {a : Tok} (h : loTok o = some a) (n m : Nat) (hn : (a.eval ι).toI = .ofNat n) (hm : n ≤ m) : bound (o.map (conc ι)) 0 m = some n := by
 unfold loTok at h
 split at h
 ·cases h
  have : n = 0 := by
   have : (0 : Int) = Int.ofNat n := hn
   exact (Int.ofNat.inj this).symm
  subst this; rfl
 ·split at h
  ·rename_i t ht
   cases hk : isIntK t.ty with
   | false => rw [hk] at h; cases h
   | true =>
    rw [hk] at h
    cases h
    obtain ⟨k, hk⟩ := isIntK_inv hk
    simp only [Option.map_some, tok_conc ht, av_int hk, hn, bound, Nat.ble_eq_true_of_le hm, cond_true]
  ·cases h
theorem hiTok_ok {s : Tok} {o : Option AV} {a : Tok} (h : hiTok s o = some a) (n : Nat) (hn : (a.eval ι).toI = .ofNat n) (hm : n ≤ (s.eval ι).toS.length) : bound (o.map (conc ι)) (s.eval ι).toS.length (s.eval ι).toS.length = some n := by
 unfold hiTok at h
 split at h
 ·cases h
  have : (s.eval ι).toS.length = n := Int.ofNat.inj hn
  rw [this]; rfl
 ·split at h
  ·rename_i t ht
   cases hk : isIntK t.ty with
   | false => rw [hk] at h; cases h
   | true =>
    rw [hk] at h
    cases h
    obtain ⟨k, hk⟩ := isIntK_inv hk
    simp only [Option.map_some, tok_conc ht, av_int hk, hn, bound, Nat.ble_eq_true_of_le hm, cond_true]
  ·cases h

theorem symSlice_ok (hA : A.so ι) {H : AHeap} {t : TypeId} {x v : AV} {lo hi mx : Option AV} (h : symSlice E.ty false A t x lo hi mx = some v) :
  sliceA E H t (conc ι x) (lo.map (conc ι)) (hi.map (conc ι)) (mx.map (conc ι)) = some (conc ι v) ∧ simple v = true := by
 unfold symSlice at h
 cases hs : (x.isSym || (optSym lo || optSym hi)) with
 | false => rw [hs] at h; cases h
 | true =>
 rw [hs] at h
 simp only [cond_true] at h
 split at h
 ·rename_i s ha
  cases hg : (isStrT E.ty t && isStrK s.ty) with
  | false => rw [hg] at h; cases h
  | true =>
   rw [hg] at h
   simp only [cond_true] at h
   simp only [Bool.and_eq_true] at hg
   obtain ⟨ti, h1, h2⟩ := isStrT_inv hg.1
   have h3 := isStrK_inv hg.2
   split at h
   ·rename_i a b hlo hhi
    obtain ⟨g1, h⟩ := need_inv hA h
    obtain ⟨g2, h⟩ := need_inv hA h
    have g1 : (0 : Int) ≤ (a.eval ι).toI := le_of g1
    have g2 := le_of g2
    have g3 : (b.eval ι).toI ≤ ((s.eval ι).toS.length : Int) ∧ v = .sym (.sub s a b) := by
     cases hn : hi.isNone with
     | true =>
      rw [hn] at h
      cases h
      cases hi with
      | some => cases hn
      | none => cases hhi; exact ⟨Int.le_refl _, rfl⟩
     | false =>
      rw [hn] at h
      obtain ⟨g4, h⟩ := need_inv hA h
      cases h
      exact ⟨le_of g4, rfl⟩
    obtain ⟨g3, rfl⟩ := g3
    obtain ⟨n, hn⟩ : ∃ n : Nat, (a.eval ι).toI = .ofNat n := ⟨(a.eval ι).toI.toNat, (Int.toNat_of_nonneg g1).symm⟩
    obtain ⟨m, hm⟩ : ∃ n : Nat, (b.eval ι).toI = .ofNat n := ⟨(b.eval ι).toI.toNat, (Int.toNat_of_nonneg (Int.le_trans g1 g2)).symm⟩
    rw [hn, hm] at g2
    rw [hm] at g3
    have g2 : n ≤ m := Int.ofNat_le.1 g2
    have g3 : m ≤ (s.eval ι).toS.length := Int.ofNat_le.1 g3
    refine ⟨?_, rfl⟩
    unfold sliceA
    rw [h1, tok_conc ha, av_str h3]
    simp only [h2, Option.map_none, bounds3, show bound none (s.eval ι).toS.length (s.eval ι).toS.length = some (s.eval ι).toS.length from rfl, hiTok_ok hhi m hm g3, loTok_ok hlo n m hn g2]
    rw [show conc ι (.sym (.sub s a b)) = .str (((s.eval ι).toS.drop (a.eval ι).toI.toNat).take ((b.eval ι).toI.toNat - (a.eval ι).toI.toNat)) from rfl, hn, hm]
    cases hi <;> rfl
   ·cases h
 ·cases h

theorem symLen_ok {H : AHeap} {ts : Array TypeId} {args : List AV} {v : AV} (h : symLen E.ty ts args = some v) : builtinQ E H .len ts (args.map (conc ι)) = some (conc ι v) ∧ simple v = true := by
 unfold symLen at h
 split at h
 ·rename_i t
  split at h
  ·rename_i u hu
   cases hg : (isStrT E.ty u && isStrK t.ty) with
   | false => rw [hg] at h; cases h
   | true =>
    rw [hg] at h
    simp only [cond_true] at h
    simp only [Bool.and_eq_true] at hg
    obtain ⟨ti, h1, h2⟩ := isStrT_inv hg.1
    cases h
    refine ⟨?_, rfl⟩
    simp only [builtinQ, List.map_cons, List.map_nil, conc, av_str (isStrK_inv hg.2), hu]
    rw [h1]
    simp only [h2, Tok.ty, Ty.av, Tok.eval, Val.toI]
    rfl
  ·cases h
 ·cases h

theorem symUn_ok {H : AHeap} {ev : Operand → AV} {op : UnOp} {t : TypeId} {x : Operand} {v : AV} (h : symUn op (ev x) = some v) : qop0 E H (fun x => conc ι (ev x)) (.unOp op t x) = some (conc ι v) ∧ simple v = true := by
 unfold symUn at h
 split at h
 ·rename_i u hx
  split at h
  ·rename_i k hk
   cases h
   refine ⟨?_, rfl⟩
   have e1 : conc ι (.sym u) = .at (.int k (u.eval ι).toI) := av_int hk
   have e2 : conc ι (.sym (.ar 1 k (.ki k 0) u)) = .at (.int k (k.wrap (0 - (u.eval ι).toI))) := rfl
   rw [e2]
   simp only [qop0, hx, e1, Op.unary, Op.intArith, pureRun_pure]
  ·cases h
 ·cases h

theorem orqG_ok (hE : E.Ok (sg ι)) (hA : A.so ι) : OrqOf E.P (sg ι) (fun _ => orqG E.ty E.flat false A) := fun H ev o v h ρ own w hr cv hev q hq => by
 suffices hs : qop0 E H (fun x => conc ι (ev x)) o = some (conc ι v) ∧ simple v = true from told_of hE hr hs.1 hs.2 cv hev q hq
 replace h : orqG E.ty E.flat false A ev o = some v := h
 unfold orqG at h
 split at h
 ·exact symBin_ok hA h
 ·exact symConv_ok h
 ·exact symUn_ok h
 ·exact symIndex_ok hA h
 ·rename_i t x lo hi mx
  have := symSlice_ok (H := H) hA h
  simp only [Option.map_map] at this
  exact this
 ·rename_i c
  split at h
  ·rename_i hc
   have := symLen_ok (H := H) (ι := ι) h
   rw [List.map_map] at this
   simp only [qop0, hc]
   exact this
  ·cases h
 ·cases h
end Go.Eng
