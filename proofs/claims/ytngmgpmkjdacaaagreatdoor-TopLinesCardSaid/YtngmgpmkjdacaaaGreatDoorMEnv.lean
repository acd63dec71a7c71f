/-
 The engine's tables for this program. A call of plain values that a run tells, whatever the world. Which bytes are of a class: told by runs.
-/
import Derived.Test.YtngmgpmkjdacaaaGreatDoorMStepB
import Derived.Test.YtngmgpmkjdacaaaGreatDoorProg
import Derived.KernelRfl
set_option linter.unusedSimpArgs false
set_option linter.unusedVariables false
namespace Go.Eng
open Go

def tyOf (P : Program) (t : Nat) : Option TI :=
 match P.info? t, P.underlying t with
 | some i, some u => match i.zero with
  | some z => bif Nat.beq z.cells.size i.size then some { u := u, size := i.size, bytes := i.bytes, zero := ofValue z } else none
  | none => none
 | _, _ => none

theorem tyOf_ok {P : Program} {t : Nat} {ti : TI} (h : tyOf P t = some ti) : TyOk P t ti := by
 unfold tyOf at h
 split at h
 ·rename_i i u hi hu
  split at h
  ·rename_i z hz
   cases hb : Nat.beq z.cells.size i.size with
   | false => rw [hb] at h; cases h
   | true =>
    rw [hb] at h
    cases h
    exact ⟨⟨i, z, hi, rfl, rfl, hz, rfl, Nat.eq_of_beq_eq_true hb⟩, hu⟩
  ·cases h
 ·cases h

def buildTr {α : Type} (f : Nat → Option α) : Nat → Tr α
 | 0 => .leaf
 | n + 1 => match f n with
  | some a => Tr.set (n + 1) (buildTr f n) n a
  | none => buildTr f n

theorem buildTr_get {α : Type} {f : Nat → Option α} : ∀ {n k : Nat} {a : α}, (buildTr f n).get k = some a → f k = some a
 | 0, k, a, h => by cases h
 | n + 1, k, a, h => by
  simp only [buildTr] at h
  split at h
  ·rename_i b hb
   rw [Tr.get_set b _ _ _ _ (Nat.lt_succ_self n)] at h
   split at h
   ·rename_i he
    cases h
    rw [he]; exact hb
   ·exact buildTr_get h
  ·exact buildTr_get h

def nameOk (P : Program) : Bool := P.funcs.all fun fn => fn.body.isNone || !(fn.name == "runtime.NumGoroutine")
theorem nameOk_get {P : Program} (h : nameOk P = true) (f : FuncId) (fn : Func) (b : Code) (hf : P.funcs[f]? = some fn) (hb : fn.body = some b) : (fn.name == "runtime.NumGoroutine") = false := by
 unfold nameOk at h
 rw [Array.all_eq_true] at h
 obtain ⟨hlt, he⟩ := Array.getElem?_eq_some_iff.1 hf
 have := h f hlt
 rw [he, hb] at this
 simpa using this

def flatB (P : Program) (t : TypeId) : Bool :=
 match P.underlying t, P.info? t with
 | some (.struct fs), some i => flatFields P fs.toList 0 i.size && (!P.stoodInHeld t && !P.eqGuardType P.depth t)
 | _, _ => false
theorem flatB_ok {P : Program} {t : TypeId} (h : flatB P t = true) : FlatOk P t := by
 unfold flatB at h
 split at h
 ·rename_i fs i hu hi
  simp only [Bool.and_eq_true, Bool.not_eq_true'] at h
  exact ⟨⟨fs, i, hu, hi, h.1⟩, h.2.1, h.2.2⟩
 ·cases h

def extOf : Nat → Option Ext
 | 286 => some .idxStr | 266 => some .cntStr | 273 => some .idxBytes | 181 => some .add64 | 220 => some .same | 283 => some .noZero
 | _ => none
def flatOf : Nat → Bool
 | 36 | 39 | 127 => true
 | _ => false

open Go.Proofs in
noncomputable def TT : Tr TI := buildTr (tyOf Tryz.prog) 400
open Go.Proofs in
noncomputable def TF : Tr Func := buildTr (fun f => Tryz.prog.funcs[f]?) 345

open Go.Proofs in
theorem TT_ok {t : Nat} {ti : TI} (h : TT.get t = some ti) : TyOk Tryz.prog t ti := tyOf_ok (buildTr_get (f := tyOf Tryz.prog) (n := 400) h)
open Go.Proofs in
theorem TF_ok {f : Nat} {fn : Func} (h : TF.get f = some fn) : Tryz.prog.funcs[f]? = some fn := buildTr_get (f := fun f => Tryz.prog.funcs[f]?) (n := 345) h

open Go.Proofs in
/-- this program's tables, with oracles -/
noncomputable def TQ (gl : Nat → Bool) (orc : AHeap → Nat → List AV → Option (AV × AHeap)) (orq : AHeap → (Operand → AV) → Op → Option AV) (orx : Ext → List AV → Option AV := fun _ _ => none) (orb : AHeap → (Operand → AV) → Op → Option (AV × AHeap) := fun _ _ _ => none) : Env :=
 {P := Tryz.prog, ty := TT.get, fn := TF.get, ext := extOf, flat := flatOf, glob := gl, byte := 5, orc := orc, orq := orq, orx := orx, orb := orb }
/-- told without a change of the heap -/
def liftO (orc : AHeap → Nat → List AV → Option AV) (H : AHeap) (f : Nat) (args : List AV) : Option (AV × AHeap) := match orc H f args with
 | some v => some (v, H)
 | none => none
noncomputable def TE (gl : Nat → Bool) (orc : Nat → List AV → Option AV) : Env := TQ gl (liftO fun _ => orc) fun _ _ _ => none

/-- oracles that are true of what the names stand for -/
def OrcOf (P : Program) (gl : Nat → Bool) (σ : Tok → Value) (orc : AHeap → Nat → List AV → Option (AV × AHeap)) : Prop :=
 ∀ (H : AHeap) f args v H', orc H f args = some (v, H') → ∀ (ρ : Map) (own : Nat → Prop) (args' : List Value) (w : World), HR ρ σ own H w → (∀ k, w.heap.size ≤ k → own k) → (∀ k, gl k = true → ∃ n, ρ k = some ⟨k, 0, n⟩) → VRs ρ σ args args' →
  Calls P f args'.toArray w fun e w' => ∃ v' ρ', e = .returned v' ∧ Grow ρ ρ' H.n ∧ VR ρ' σ v v' ∧ HR ρ' σ own H' w' ∧ H.n ≤ H'.n ∧ Kp own w w'
/-- told without a change of the heap -/
def Orc1Of (P : Program) (gl : Nat → Bool) (σ : Tok → Value) (orc : AHeap → Nat → List AV → Option AV) : Prop :=
 ∀ (H : AHeap) f args v, orc H f args = some v → ∀ (ρ : Map) (own : Nat → Prop) (args' : List Value) (w : World), HR ρ σ own H w → (∀ k, gl k = true → ∃ n, ρ k = some ⟨k, 0, n⟩) → VRs ρ σ args args' → Calls P f args'.toArray w fun e w' => ∃ v', e = .returned v' ∧ VR ρ σ v v' ∧ Kp (fun k => w.heap.size ≤ k) w w'
theorem Orc1Of.lift {P : Program} {gl : Nat → Bool} {σ : Tok → Value} {orc : AHeap → Nat → List AV → Option AV} (h : Orc1Of P gl σ orc) : OrcOf P gl σ (liftO orc) := fun H f args v H' hv ρ own args' w hr hown hg ha => by
 unfold liftO at hv
 split at hv
 ·rename_i u hu
  cases hv
  refine (h H f args _ hu ρ own args' w hr hg ha).mono ?_
  rintro e w' ⟨v', rfl, h1, h2⟩
  exact ⟨v', ρ, rfl, Grow.refl _ _, h1, hr.kept h2, Nat.le_refl _, h2.mono fun k hk => hown k hk⟩
 ·cases hv
def OrbOf (P : Program) (σ : Tok → Value) (orb : AHeap → (Operand → AV) → Op → Option (AV × AHeap)) : Prop :=
 ∀ (H : AHeap) ev o v H', orb H ev o = some (v, H') → ∀ (ρ : Map) (own : Nat → Prop) (w : World), HR ρ σ own H w → (∀ k, w.heap.size ≤ k → own k) → ∀ (cv : Operand → Value), (∀ x ∈ o.operands, VR ρ σ (ev x) (cv x)) → ∀ (q : Oper), q.op = o →
  ∃ ρ' w' v', Grow ρ ρ' H.n ∧ HR ρ' σ own H' w' ∧ Kp own w w' ∧ H.n ≤ H'.n ∧ VR ρ' σ v v' ∧ (execOp cv q).run P w = .ok (.value v') w'
theorem noOrb_ok {P : Program} {σ : Tok → Value} : OrbOf P σ fun _ _ _ => none := fun _ _ _ _ _ h => by cases h
def OrxOf (P : Program) (σ : Tok → Value) (orx : Ext → List AV → Option AV) : Prop :=
 ∀ x args v, orx x args = some v → ∀ (ρ : Map) (args' : List Value) (w : World) (fn : Func), VRs ρ σ args args' → ∃ v', (extRow x fn args'.toArray).run P w = .ok v' w ∧ VR ρ σ v v'
def OrqOf (P : Program) (σ : Tok → Value) (orq : AHeap → (Operand → AV) → Op → Option AV) : Prop :=
 ∀ (H : AHeap) ev o v, orq H ev o = some v → ∀ (ρ : Map) (own : Nat → Prop) (w : World), HR ρ σ own H w → ∀ (cv : Operand → Value), (∀ x ∈ o.operands, VR ρ σ (ev x) (cv x)) → ∀ (q : Oper), q.op = o → ∃ v', (execOp cv q).run P w = .ok (.value v') w ∧ VR ρ σ v v'

def OrcOk (P : Program) (orc : Nat → List AV → Option AV) : Prop :=
 ∀ f args v, orc f args = some v → ∀ (ρ : Map) (σ : Tok → Value) (args' : List Value) (w : World), VRs ρ σ args args' → Calls P f args'.toArray w fun e w' => ∃ v', e = .returned v' ∧ VR ρ σ v v' ∧ Kp (fun k => w.heap.size ≤ k) w w'

set_option maxRecDepth 100000 in
open Go.Proofs in
theorem TQ_ok {gl : Nat → Bool} {orc : AHeap → Nat → List AV → Option (AV × AHeap)} {orq : AHeap → (Operand → AV) → Op → Option AV} {orx : Ext → List AV → Option AV} {orb : AHeap → (Operand → AV) → Op → Option (AV × AHeap)} {σ : Tok → Value} (h : OrcOf Tryz.prog gl σ orc) (hq : OrqOf Tryz.prog σ orq) (hx : OrxOf Tryz.prog σ orx) (hb : OrbOf Tryz.prog σ orb) : (TQ gl orc orq orx orb).Ok σ where
 ty t ti hh := TT_ok hh
 fn f fn hh := TF_ok hh
 name := nameOk_get (by kernel_rfl)
 ext f x hx := by
  change extOf f = some x at hx
  unfold extOf at hx
  split at hx <;> cases hx
  ·exact ⟨_, Tryz.func286, by kernel_rfl, by kernel_rfl, by kernel_rfl, by kernel_rfl, trivial⟩
  ·exact ⟨_, Tryz.func266, by kernel_rfl, by kernel_rfl, by kernel_rfl, by kernel_rfl, trivial⟩
  ·exact ⟨_, Tryz.func273, by kernel_rfl, by kernel_rfl, by kernel_rfl, by kernel_rfl, trivial⟩
  ·exact ⟨_, Tryz.func181, by kernel_rfl, by kernel_rfl, by kernel_rfl, by kernel_rfl, trivial⟩
  ·exact ⟨_, Tryz.func220, by kernel_rfl, by kernel_rfl, by kernel_rfl, by kernel_rfl, trivial⟩
  ·exact ⟨_, Tryz.func283, by kernel_rfl, by kernel_rfl, by kernel_rfl, by kernel_rfl, (22 : Nat), by kernel_rfl, by kernel_rfl⟩
 flat t ht := by
  change flatOf t = true at ht
  unfold flatOf at ht
  split at ht <;> first | cases ht | skip
  ·exact flatB_ok (by kernel_rfl)
  ·exact flatB_ok (by kernel_rfl)
  ·exact flatB_ok (by kernel_rfl)
 byte := ⟨by kernel_rfl, by kernel_rfl⟩
 mixed := by kernel_rfl
 orc := h
 orq := hq
 orx := hx
 orb := hb

theorem OrcOk.of {P : Program} {gl : Nat → Bool} {orc : Nat → List AV → Option AV} (h : OrcOk P orc) (σ : Tok → Value) : OrcOf P gl σ (liftO fun _ => orc) := Orc1Of.lift fun _ f args v hv ρ _ args' w _ _ ha => h f args v hv ρ σ args' w ha
open Go.Proofs in
theorem TE_ok {gl : Nat → Bool} {orc : Nat → List AV → Option AV} {σ : Tok → Value} (h : OrcOk Tryz.prog orc) : (TE gl orc).Ok σ := TQ_ok (h.of σ) (fun _ _ _ _ h => by cases h) (fun _ _ _ h => by cases h) noOrb_ok
end Go.Eng
namespace Go.Eng
open Go

mutual
/-- without blocks -/
def AV.plain : AV → Bool
 | .at _ => true
 | .str _ => true
 | .sym _ => true
 | .agg l => AV.plains l
 | .tup l => AV.plains l
 | _ => false
def AV.plains : List AV → Bool
 | [] => true
 | a :: l => a.plain && AV.plains l
end

mutual
theorem VR.plain {ρ ρ' : Map} {σ : Tok → Value} : ∀ {a : AV} {v : Value}, a.plain = true → VR ρ σ a v → VR ρ' σ a v
 | .at _, _, _, .at _ => .at _
 | .str _, _, _, .str h => .str h
 | .sym _, _, _, .sym _ h => .sym _ h
 | .agg l, _, h, .agg h1 => .agg (VRs.plain (l := l) (by simpa [AV.plain] using h) h1)
 | .tup l, _, h, .tup h1 => .tup (VRs.plain (l := l) (by simpa [AV.plain] using h) h1)
theorem VRs.plain {ρ ρ' : Map} {σ : Tok → Value} : ∀ {l : List AV} {l' : List Value}, AV.plains l = true → VRs ρ σ l l' → VRs ρ' σ l l'
 | [], _, _, .nil => .nil
 | a :: l, _, h, .cons h1 h2 => by
  simp only [AV.plains, Bool.and_eq_true] at h
  exact .cons (VR.plain h.1 h1) (VRs.plain h.2 h2)
end

/-- what a call of plain values comes to -/
def outA (E : Env) (f : FuncId) (args : List AV) (n : Nat) : Option AV :=
 match enterA E f args false with
 | some fr => match run E n ⟨fr, [], ⟨.leaf, 0⟩⟩ with
  | some c => endVal E f c
  | none => none
 | none => none

theorem calls_of_out {E : Env} {σ : Tok → Value} (hE : E.Ok σ) (hg : ∀ k, E.glob k = false) {f : FuncId} {args : List AV} {n : Nat} {v : AV} (h : outA E f args n = some v) (ha : AV.plains args = true) (hv : v.plain = true)
  (ρ : Map) (args' : List Value) (w : World) (hargs : VRs ρ σ args args') :
  Calls E.P f args'.toArray w fun e w' => ∃ v', e = .returned v' ∧ VR ρ σ v v' ∧ Kp (fun k => w.heap.size ≤ k) w w' := by
 unfold outA at h
 cases he : enterA E f args false with
 | none => rw [he] at h; cases h
 | some fr =>
 rw [he] at h
 simp only at h
 cases hr : run E n ⟨fr, [], ⟨.leaf, 0⟩⟩ with
 | none => rw [hr] at h; cases h
 | some c =>
 rw [hr] at h
 simp only at h
 have h0 : HR (fun _ => none) σ (fun k => w.heap.size ≤ k) ⟨.leaf, 0⟩ w :=
  ⟨fun b a x _ hx => (by cases hx), fun b x hx => (by cases hx), fun b b' a a' x x' _ _ _ hx => (by cases hx), fun b a x _ hx => (by cases hx)⟩
 refine (calls_of_runs hE (VRs.plain ha hargs) h0 (fun k hk => hk) (fun k hk => by rw [hg] at hk; cases hk) he (.run n hr (.refl _)) h).mono ?_
 rintro e w' ⟨v', ρ', rfl, h1, _, h3⟩
 exact ⟨v', rfl, VR.plain hv h1, h3⟩
end Go.Eng
namespace Go.Eng
open Go Go.Proofs

def betw (b lo hi : Nat) : Bool := Nat.ble lo b && Nat.ble b hi
def digitB (b : Nat) : Bool := betw b 48 57
def nameB (b : Nat) : Bool := betw b 65 90 || (betw b 97 122 || (Nat.beq b 95 || (Nat.beq b 46 || Nat.beq b 45)))
def classB (k b : Nat) : Bool :=
 match k with
 | 1 => nameB b || digitB b
 | 2 => Nat.beq b 47 || (nameB b || digitB b)
 | 3 => betw b 33 126 && !(Nat.beq b 44 || Nat.beq b 124)
 | 4 => digitB b
 | _ => false

def noGlob : Nat → Bool := fun _ => false
def noOrc : Nat → List AV → Option AV := fun _ _ => none
theorem noOrc_ok : OrcOk Tryz.prog noOrc := fun _ _ _ h => by cases h
noncomputable def T0 : Env := TE noGlob noOrc
theorem T0_ok {σ : Tok → Value} : T0.Ok σ := TE_ok noOrc_ok

def boolIs (o : Option AV) (b : Bool) : Bool := match o with
 | some (.at (.bool x)) => x == b
 | _ => false
noncomputable def isRun (k b : Nat) : Bool := boolIs (outA T0 214 [.at (.int .i64 (.ofNat k)), .at (.int .u8 (.ofNat b))] 200) (classB k b)
def allTo (p : Nat → Bool) : Nat → Bool
 | 0 => true
 | n + 1 => p n && allTo p n
end Go.Eng
