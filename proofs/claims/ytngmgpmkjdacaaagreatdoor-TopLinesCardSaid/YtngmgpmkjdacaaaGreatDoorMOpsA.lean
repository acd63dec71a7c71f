/-
 What the operations that only look tell: in a world what they tell in the abstract heap. Comparing, joining, building and cutting: in a world what they tell in the abstract heap. Numbers, buildings, cuts and conversions: in a world what they tell in the abstract heap. Cuts, conversions, look-ups and small builtins: in a world what they tell in the abstract heap.
-/
import Derived.Laws.Externs
import Derived.Test.YtngmgpmkjdacaaaGreatDoorMEng
import Derived.Laws.Strings2
import Derived.Laws.Cover1
import Derived.Laws.Concat
import Derived.Laws.StructEq
import Derived.Laws.BytesString
import Derived.Lib.Strings
import Derived.Lib.UnsafeStr
import Derived.Lib.Builder
set_option linter.unusedSimpArgs false
set_option linter.unusedVariables false
namespace Go.Eng
open Go

structure TyOk (P : Program) (t : TypeId) (ti : TI) : Prop where
 info : ∃ i z, P.info? t = some i ∧ i.size = ti.size ∧ i.bytes = ti.bytes ∧ i.zero = some z ∧ ti.zero = ofValue z ∧ z.cells.size = ti.size
 und : P.underlying t = some ti.u

section
variable {P : Program} {t : TypeId} {ti : TI} (h : TyOk P t ti) (w : World)
include h
theorem TyOk.underlying : (Go.underlying t).run P w = .ok ti.u w := by simp [Go.underlying, h.und]
theorem TyOk.sizeOf : (Go.sizeOf t).run P w = .ok ti.size w := by
 obtain ⟨i, z, h1, h2, h3, h4, h5, h6⟩ := h.info
 simp [Go.sizeOf, typeInfo, h1, h2]
theorem TyOk.typeInfo : ∃ i, (Go.typeInfo t).run P w = .ok i w ∧ i.size = ti.size ∧ i.bytes = ti.bytes := by
 obtain ⟨i, z, h1, h2, h3, h4, h5, h6⟩ := h.info
 exact ⟨i, by simp [Go.typeInfo, h1], h2, h3⟩
theorem TyOk.zeroValue : ∃ z, (Go.zeroValue t).run P w = .ok z w ∧ ti.zero = ofValue z ∧ z.cells.size = ti.size := by
 obtain ⟨i, z, h1, h2, h3, h4, h5, h6⟩ := h.info
 exact ⟨z, by simp [Go.zeroValue, Go.typeInfo, h1, h4], h5, h6⟩
theorem TyOk.isAgg : (Go.isAgg t).run P w = .ok (isAggT ti.u) w := by
 simp only [Go.isAgg, Sem.run_bind, h.underlying, Result.andThen_ok]
 cases ti.u <;> rfl
theorem TyOk.cellsOf : P.cellsOf t = ti.size := by
 obtain ⟨i, z, h1, h2, h3, h4, h5, h6⟩ := h.info
 simp [Program.cellsOf, h1, h2]
end

def atomT : TypeDesc → Bool
 | .bool | .int _ | .string => true
 | _ => false
def flatFields (P : Program) : List Field → Nat → Nat → Bool
 | [], k, n => Nat.beq k n
 | f :: fs, k, n => (f.name != "_") && (Nat.beq f.offset k && ((match P.underlying f.type with | some u => atomT u | none => false) && flatFields P fs (k + 1) n))
structure FlatOk (P : Program) (t : TypeId) : Prop where
 fields : ∃ fs i, P.underlying t = some (.struct fs) ∧ P.info? t = some i ∧ flatFields P fs.toList 0 i.size = true
 held : P.stoodInHeld t = false
 guard : P.eqGuardType P.depth t = false

def extRow (x : Ext) (fn : Func) : Array Value → Sem Value :=
 match x with
 | .idxStr | .idxBytes => Extern.BytealgIndexByte.indexByte
 | .cntStr => Extern.BytealgCount.count
 | .add64 => add64Entry
 | .same => Extern.AbiNoEscape.same
 | .noZero => Extern.BytealgMakeNoZero.makeNoZero fn.params fn.resultTypes

def Grow (ρ ρ' : Map) (n : Nat) : Prop := Map.le ρ ρ' ∧ ∀ b, b < n → ρ b = none → ρ' b = none
theorem Grow.refl (ρ : Map) (n : Nat) : Grow ρ ρ n := ⟨Map.le.refl ρ, fun _ _ h => h⟩
theorem Grow.upd {ρ : Map} {b n : Nat} {x : Loc} (h : ρ b = none) (hb : n ≤ b) : Grow ρ (upd ρ b x) n :=
 ⟨upd_le h, fun k hk hn => by unfold Eng.upd; rw [if_neg (by omega)]; exact hn⟩
def GlobOk (E : Env) (ρ : Map) : Prop := ∀ k, E.glob k = true → ∃ n, ρ k = some ⟨k, 0, n⟩
structure Env.Ok (E : Env) (σ : Tok → Value) : Prop where
 ty : ∀ t ti, E.ty t = some ti → TyOk E.P t ti
 fn : ∀ f fn, E.fn f = some fn → E.P.funcs[f]? = some fn
 name : ∀ (f : FuncId) (fn : Func) b, E.P.funcs[f]? = some fn → fn.body = some b → (fn.name == "runtime.NumGoroutine") = false
 ext : ∀ f x, E.ext f = some x → ∃ fn : Func, E.P.funcs[f]? = some fn ∧ fn.body = none ∧ (fn.name == "runtime.NumGoroutine") = false ∧ Extern.findNext fn = none ∧ Extern.find fn = some (extRow x fn) ∧
  (match x with | .noZero => ∃ t, fn.resultTypes = #[t] ∧ E.P.underlying t = some (.slice E.byte) | _ => True)
 flat : ∀ t, E.flat t = true → FlatOk E.P t
 byte : E.P.underlying E.byte = some (.int .u8) ∧ E.P.cellsOf E.byte = 1
 mixed : E.P.follows .mixedOrders = true
 orc : ∀ (H : AHeap) f args v H', E.orc H f args = some (v, H') → ∀ (ρ : Map) (own : Nat → Prop) (args' : List Value) (w : World), HR ρ σ own H w → (∀ k, w.heap.size ≤ k → own k) → GlobOk E ρ → VRs ρ σ args args' →
  Calls E.P f args'.toArray w fun e w' => ∃ v' ρ', e = .returned v' ∧ Grow ρ ρ' H.n ∧ VR ρ' σ v v' ∧ HR ρ' σ own H' w' ∧ H.n ≤ H'.n ∧ Kp own w w'
 orq : ∀ (H : AHeap) ev o v, E.orq H ev o = some v → ∀ (ρ : Map) (own : Nat → Prop) (w : World), HR ρ σ own H w → ∀ (cv : Operand → Value), (∀ x ∈ o.operands, VR ρ σ (ev x) (cv x)) → ∀ (q : Oper), q.op = o → ∃ v', (execOp cv q).run E.P w = .ok (.value v') w ∧ VR ρ σ v v'
 orx : ∀ x args v, E.orx x args = some v → ∀ (ρ : Map) (args' : List Value) (w : World) (fn : Func), VRs ρ σ args args' → ∃ v', (extRow x fn args'.toArray).run E.P w = .ok v' w ∧ VR ρ σ v v'
 orb : ∀ (H : AHeap) ev o v H', E.orb H ev o = some (v, H') → ∀ (ρ : Map) (own : Nat → Prop) (w : World), HR ρ σ own H w → (∀ k, w.heap.size ≤ k → own k) → ∀ (cv : Operand → Value), (∀ x ∈ o.operands, VR ρ σ (ev x) (cv x)) → ∀ (q : Oper), q.op = o →
  ∃ ρ' w' v', Grow ρ ρ' H.n ∧ HR ρ' σ own H' w' ∧ Kp own w w' ∧ H.n ≤ H'.n ∧ VR ρ' σ v v' ∧ (execOp cv q).run E.P w = .ok (.value v') w'

theorem pureRun_ok {α : Type} {P : Program} : ∀ {s : Sem α} {a : α}, pureRun P s = some a → ∀ w, s.run P w = .ok a w := by
 intro s
 induction s with
 | pure a => intro b h w; simp only [pureRun, Option.some.injEq] at h; subst h; rfl
 | program k ih => intro b h w; simp only [pureRun] at h; simp only [Sem.run]; exact ih P h w
 | mark m k ih => intro b h w; simp only [pureRun] at h; simp only [Sem.run]; exact ih h w
 | _ => intro b h; simp [pureRun] at h

section
variable {ρ : Map} {σ : Tok → Value} {own : Nat → Prop} {H : AHeap} {w : World} {E : Env} {t : TypeId} {ti : TI}

theorem VR.at_inv {v v' : Value} (h : VR ρ σ (.at v) v') : v' = v := by cases h; rfl

theorem loadT_ok (hE : TyOk E.P t ti) (h : HR ρ σ own H w) {b o : Nat} {x : Loc} {v : AV} (hl : loadT H ti b o = some v) (hx : ρ b = some x) :
  ∃ v', (loadVar t ⟨x.r, o + x.s, none⟩).run E.P w = .ok v' w ∧ VR ρ σ v v' := by
 unfold loadT at hl
 unfold loadVar
 simp only [Sem.run_bind, hE.isAgg, Result.andThen_ok]
 cases ha : isAggT ti.u with
 | true =>
  rw [ha] at hl
  simp only [cond_true] at hl
  cases hn : loadN H b o ti.size with
  | none => rw [hn] at hl; cases hl
  | some l =>
   rw [hn] at hl
   cases hl
   obtain ⟨vs', h1, h2, _⟩ := loadN_ok (P := E.P) h hn hx
   refine ⟨_, ?_, .agg h1⟩
   simp only [if_true, Sem.run_bind, hE.sizeOf, Result.andThen_ok, h2, Sem.run_pure]
 | false =>
  rw [ha] at hl
  simp only [cond_false] at hl
  obtain ⟨v', h1, h2⟩ := load1_ok h hl hx
  refine ⟨v', ?_, h2⟩
  simp [h1]

theorem part_ok (hE : TyOk E.P t ti) {l : List AV} {l' : List Value} {off : Nat} {v : AV} (hp : partA ti l off = some v) (hl : VRs ρ σ l l') :
  ∃ v', (part t l'.toArray off).run E.P w = .ok v' w ∧ VR ρ σ v v' := by
 unfold partA at hp
 unfold part
 simp only [Sem.run_bind, hE.isAgg, Result.andThen_ok]
 cases ha : isAggT ti.u with
 | true =>
  rw [ha] at hp
  simp only [cond_true] at hp
  cases hg : lenGe l (off + ti.size) with
  | false => rw [hg] at hp; cases hp
  | true =>
   rw [hg] at hp
   cases hp
   refine ⟨.agg (l'.toArray.extract off (off + ti.size)), by simp only [if_true, Sem.run_bind, hE.sizeOf, Result.andThen_ok, Sem.run_pure], ?_⟩
   have : l'.toArray.extract off (off + ti.size) = ((l'.drop off).take ti.size).toArray := by
    simp [List.extract_toArray, List.extract_eq_take_drop]
   rw [this]
   exact .agg ((hl.drop off).take ti.size)
 | false =>
  rw [ha] at hp
  simp only [cond_false] at hp
  obtain ⟨v', h1, h2⟩ := hl.get hp
  refine ⟨v', ?_, h2⟩
  simp only [Bool.false_eq_true, if_false]
  rw [show l'.toArray[off]? = some v' by simpa using h1]
  rfl
end
end Go.Eng
namespace Go.Eng
open Go

section
variable {ρ : Map} {σ : Tok → Value} {own : Nat → Prop} {H : AHeap} {w : World} {E : Env} {t : TypeId} {ti : TI}

theorem kindB_eq {a b : IntKind} (h : kindB a b = true) : a = b := by cases a <;> cases b <;> first | rfl | cases h

theorem guard_else (op : BinOp) (t : TypeId) (xo yo : Operand) (x y : Value) (h1 : ∀ v, x ≠ .agg v) (h2 : x ≠ .nilIface ∨ y ≠ .nilIface) : (eqGuard op t xo yo x y).run E.P w = .ok () w := by
  cases op <;> first
    | rfl
    | (cases x <;> cases y <;> first | rfl | exact absurd rfl (h1 _) | (rcases h2 with h2 | h2 <;> exact absurd rfl h2))

theorem binStr_ok (op : BinOp) (xo yo : Operand) (a b : List UInt8) {v : AV} (h : binA E op t xo yo (.str a) (.str b) = some v) :
    ∃ v', (do eqGuard op t xo yo (.string ⟨a.toArray⟩) (.string ⟨b.toArray⟩); binOp op t (.string ⟨a.toArray⟩) (.string ⟨b.toArray⟩)).run E.P w = .ok v' w ∧ VR ρ σ v v' := by
  have hg := guard_else (E := E) (w := w) op t xo yo (.string ⟨a.toArray⟩) (.string ⟨b.toArray⟩) (by simp) (by simp)
  simp only [Sem.run_bind, hg, Result.andThen_ok]
  unfold binA at h
  cases op
  case add =>
    simp only at h
    cases hb : Nat.ble (a.length + b.length) 1000000 with
    | false => rw [hb] at h; cases h
    | true =>
      rw [hb] at h; cases h
      have hle := Nat.le_of_ble_eq_true hb
      refine ⟨.string ⟨(a ++ b).toArray⟩, ?_, .str _⟩
      have h1 : ¬ (((ByteArray.mk a.toArray).size + (ByteArray.mk b.toArray).size : Nat) : Int) > IntKind.i64.max := by
        simp [ByteArray.size, IntKind.max, IntKind.signed, IntKind.bits]; omega
      have h2 : (ByteArray.mk a.toArray) ++ (ByteArray.mk b.toArray) = ⟨(a ++ b).toArray⟩ := by
        apply ByteArray.ext
        simp
      simp only [binOp, Op.stringOp, h1, if_false, h2]
      rfl
  case eql => cases h; rw [binOp_string_eql]; simp only [ByteArray.toList_mk]; exact ⟨_, rfl, .at _⟩
  case neq => cases h; rw [binOp_string_neq]; simp only [ByteArray.toList_mk]; exact ⟨_, rfl, .at _⟩
  case lss => cases h; rw [binOp_string_lss]; simp only [ByteArray.toList_mk]; exact ⟨_, rfl, .at _⟩
  case leq => cases h; rw [binOp_string_leq]; simp only [ByteArray.toList_mk]; exact ⟨_, rfl, .at _⟩
  case gtr => cases h; rw [binOp_string_gtr]; simp only [ByteArray.toList_mk]; exact ⟨_, rfl, .at _⟩
  case geq => cases h; rw [binOp_string_geq]; simp only [ByteArray.toList_mk]; exact ⟨_, rfl, .at _⟩
  all_goals cases h

theorem flat_get {P : Program} : ∀ (fs : List Field) (k n : Nat), flatFields P fs k n = true → n = k + fs.length ∧ ∀ i f, fs[i]? = some f → (f.name ≠ "_") ∧ f.offset = k + i ∧ ∃ u, P.underlying f.type = some u ∧ atomT u = true
  | [], k, n, h => by
    simp only [flatFields] at h
    exact ⟨by have := Nat.eq_of_beq_eq_true h; simp; omega, fun i f hf => by simp at hf⟩
  | f :: fs, k, n, h => by
    simp only [flatFields, Bool.and_eq_true] at h
    obtain ⟨h1, h2, h3, h4⟩ := h
    obtain ⟨h5, h6⟩ := flat_get fs (k + 1) n h4
    refine ⟨by simp; omega, fun i g hg => ?_⟩
    cases i with
    | zero =>
      simp at hg; subst hg
      refine ⟨by simpa using h1, by have := Nat.eq_of_beq_eq_true h2; omega, ?_⟩
      split at h3
      · exact ⟨_, by assumption, h3⟩
      · cases h3
    | succ i =>
      obtain ⟨a, b, c⟩ := h6 i g (by simpa using hg)
      exact ⟨a, by omega, c⟩

theorem eqAtom_ok {x y : AV} {r : Bool} {d : TypeDesc} (h : eqAtom d x y = some r) {x' y' : Value} (hx : VR ρ σ x x') (hy : VR ρ σ y y') {u : TypeId} (hu : E.P.underlying u = some d) (n : Nat) :
    (Op.equalIn (n + 1) u x' y').run E.P w = .ok r w ∧ (∀ v, x' ≠ .agg v) := by
  unfold eqAtom at h
  split at h
  · cases hx; cases hy
    rename_i j a k b
    cases hk : kindB j k with
    | false => rw [hk] at h; cases h
    | true =>
      rw [hk] at h
      cases h
      have := kindB_eq hk
      subst this
      simp [Op.equalIn, run_underlying hu]
  · cases hx; cases hy; cases h
    simp [Op.equalIn, run_underlying hu]
  · cases hx; cases hy; cases h
    simp [Op.equalIn, run_underlying hu, beq_toListBytes]
  · cases h

/-- two rows of cells of a flat struct, cell by cell -/
theorem eqFields_ok (hE : E.Ok σ) {xs ys : List Value} {n : Nat} : ∀ (fs : List Field) (k m : Nat) (l l' : List AV) (r : Bool), flatFields E.P fs k m = true →
    VRs ρ σ l (xs.drop k) → VRs ρ σ l' (ys.drop k) → eqCells E fs l l' = some r →
    (Op.eqFields (n + 1) xs.toArray ys.toArray fs).run E.P w = .ok r w := by
  intro fs
  induction fs with
  | nil =>
    intro k m l l' r _ _ _ h
    cases l <;> cases l' <;> simp only [eqCells] at h <;> cases h
    rfl
  | cons f fs ih =>
    intro k m l l' r hf hl hl' h
    simp only [flatFields, Bool.and_eq_true] at hf
    obtain ⟨h1, h2, h3, h4⟩ := hf
    have h2 := Nat.eq_of_beq_eq_true h2
    cases l with
    | nil => simp [eqCells] at h
    | cons a l =>
    cases l' with
    | nil => simp [eqCells] at h
    | cons b l' =>
    simp only [eqCells] at h
    cases hty : E.ty f.type with
    | none => rw [hty] at h; cases h
    | some fi =>
      rw [hty] at h
      simp only at h
      have hT := hE.ty _ _ hty
      obtain ⟨v, hv, hva⟩ := hl.get (i := 0) rfl
      obtain ⟨u, hu, hub⟩ := hl'.get (i := 0) rfl
      simp only [List.getElem?_drop, Nat.add_zero] at hv hu
      have hne : ¬ isAggT fi.u = true := by
        rw [hT.und] at h3
        simp only at h3
        intro h0
        cases hfu : fi.u <;> rw [hfu] at h3 h0 <;> first | (simp [isAggT] at h0; done) | (simp [atomT] at h3; done)
      have hpart : ∀ (zs : List Value) z, zs[k]? = some z → (part f.type zs.toArray f.offset).run E.P w = .ok z w := fun zs z hz => by
        unfold part
        simp only [Sem.run_bind, hT.isAgg, Result.andThen_ok, hne]
        rw [h2]
        simp [hz]
      have hcons : VRs ρ σ l (xs.drop (k + 1)) := by
        have := hl.drop 1
        simpa [List.drop_drop] using this
      have hcons' : VRs ρ σ l' (ys.drop (k + 1)) := by
        have := hl'.drop 1
        simpa [List.drop_drop] using this
      have hname : f.name ≠ "_" := by simpa using h1
      simp only [Op.eqFields, hname, ne_eq, not_false_eq_true, if_true, Sem.run_bind, hpart _ _ hv, hpart _ _ hu, Result.andThen_ok]
      cases hq : eqAtom fi.u a b with
      | none => rw [hq] at h; cases h
      | some q =>
        rw [hq] at h
        rw [(eqAtom_ok hq hva hub hT.und n).1]
        cases q with
        | true => simp only at h; simpa using ih (k + 1) m l l' r h4 hcons hcons' h
        | false => simp only at h; cases h; simp

theorem eqA_ok (hE : E.Ok σ) {x y : AV} {r : Bool} (h : eqA E t x y = some r) {x' y' : Value} (hx : VR ρ σ x x') (hy : VR ρ σ y y') :
    (∀ n, (Op.equalIn (n + 1 + 1) t x' y').run E.P w = .ok r w) ∧ binOp .eql t x' y' = (do pure (.bool (← Op.equal t x' y'))) ∧ binOp .neq t x' y' = (do pure (.bool (!(← Op.equal t x' y')))) ∧
      (∀ op xo yo, (eqGuard op t xo yo x' y').run E.P w = .ok () w) := by
  unfold eqA at h
  cases hty : E.ty t with
  | none => rw [hty] at h; cases h
  | some ti =>
    rw [hty] at h
    have hT := hE.ty t ti hty
    have hu := hT.und
    simp only at h
    split at h
    · rename_i fs a b hue
      rw [hue] at hu
      cases hfl : E.flat t with
      | false => rw [hfl] at h; cases h
      | true =>
        rw [hfl] at h
        simp only [cond_true] at h
        have hF := hE.flat t hfl
        obtain ⟨fs', i, h1, h2, h3⟩ := hF.fields
        rw [hu] at h1; cases h1
        cases hx with
        | agg hx => cases hy with
          | agg hy =>
            have hfo : E.P.fieldsOf t = fs := by simp [Program.fieldsOf, hu]
            refine ⟨fun n => ?_, rfl, rfl, fun op xo yo => ?_⟩
            · rw [run_equalIn_struct w (n + 1) t _ _ (by rw [hfo]; exact hu) hF.held, hfo]
              exact eqFields_ok hE fs.toList 0 _ _ _ _ h3 (by simpa using hx) (by simpa using hy) h
            · have hg := hF.guard
              cases op <;> first | rfl | (simp only [eqGuard]; simp [hg])
    · rename_i e b o b' o' hue
      rw [hue] at hu
      cases hei : E.ty e with
      | none => rw [hei] at h; cases h
      | some ei =>
        rw [hei] at h
        simp only at h
        cases hc : (Nat.beq b b' && Nat.beq o o' && !Nat.beq ei.size 0) with
        | false => rw [hc] at h; cases h
        | true =>
          rw [hc] at h
          cases h
          simp only [Bool.and_eq_true] at hc
          obtain ⟨⟨h1, h2⟩, h3⟩ := hc
          obtain rfl := Nat.eq_of_beq_eq_true h1
          obtain rfl := Nat.eq_of_beq_eq_true h2
          cases hx with
          | ptr hb1 => cases hy with
            | ptr hb2 =>
              rw [hb1] at hb2; cases hb2
              refine ⟨fun n => ?_, rfl, rfl, fun op xo yo => guard_else _ _ _ _ _ _ (by simp) (by simp)⟩
              have hs := (hE.ty e ei hei).sizeOf w
              have h0 : ei.size ≠ 0 := by intro h0; rw [h0] at h3; cases h3
              rw [Op.equalIn]
              simp only [Sem.run_bind, run_underlying hu, Result.andThen_ok, hs]
              simp [h0, sameAddr]
    all_goals first
      | (cases h; done)
      | (rename_i hue
         rw [hue] at hu
         cases h
         cases hx <;> cases hy <;> exact ⟨fun n => by rw [Op.equalIn]; simp only [Sem.run_bind, run_underlying hu, Result.andThen_ok]; rfl, rfl, rfl, fun op xo yo => guard_else _ _ _ _ _ _ (by simp) (by simp)⟩)
end
end Go.Eng
namespace Go.Eng
open Go

section
variable {ρ : Map} {σ : Tok → Value} {own : Nat → Prop} {H : AHeap} {w : World} {E : Env} {t : TypeId} {ti : TI}

theorem binA_ok (hE : E.Ok σ) {op : BinOp} {xo yo : Operand} {x y v : AV} (h : binA E op t xo yo x y = some v) {x' y' : Value} (hx : VR ρ σ x x') (hy : VR ρ σ y y') :
  ∃ v', (do eqGuard op t xo yo x' y'; binOp op t x' y').run E.P w = .ok v' w ∧ VR ρ σ v v' := by
 have other : binO E op t x y = some v → ∃ v', (do eqGuard op t xo yo x' y'; binOp op t x' y').run E.P w = .ok v' w ∧ VR ρ σ v v' := fun h => by
  unfold binO at h
  cases hq : eqA E t x y with
  | none => cases op <;> simp [hq] at h
  | some r =>
   obtain ⟨h1, h2, h3, h4⟩ := eqA_ok (w := w) hE hq hx hy
   have h5 : (Op.equal t x' y').run E.P w = .ok r w := h1 9998
   cases op <;> simp [hq] at h
   ·subst h
    exact ⟨.bool r, by simp only [Sem.run_bind, h4, Result.andThen_ok, h2, h5, Sem.run_pure], .at _⟩
   ·subst h
    exact ⟨.bool (!r), by simp only [Sem.run_bind, h4, Result.andThen_ok, h3, h5, Sem.run_pure], .at _⟩
 unfold binA at h
 split at h
 ·rename_i a b
  rw [hx.at_inv, hy.at_inv]
  cases hp : pureRun E.P (do eqGuard op t xo yo a b; binOp op t a b) with
  | none => rw [hp] at h; cases h
  | some u => rw [hp] at h; cases h; exact ⟨u, pureRun_ok hp w, .at _⟩
 ·rename_i a b
  cases hx; cases hy
  exact binStr_ok op xo yo a b (v := v) (by unfold binA; exact h)
 ·exact other h

/-! Filling. -/

theorem fill_ok {pl : Nat → Option (Nat × Nat)} : ∀ (parts : List (Nat × AV)) (parts' : List (Nat × Value)) (cells r : List AV) (cells' : List Value),
  fillA pl cells parts = some r → VRs ρ σ cells cells' → parts.map (·.1) = parts'.map (·.1) → VRs ρ σ (parts.map (·.2)) (parts'.map (·.2)) →
  ∃ r', Instr.fill pl cells'.toArray parts' = some r'.toArray ∧ VRs ρ σ r r' := by
 intro parts
 induction parts with
 | nil =>
  intro parts' cells r cells' h hc h1 h2
  cases parts' with
  | nil => simp only [fillA, Option.some.injEq] at h; subst h; exact ⟨cells', rfl, hc⟩
  | cons => simp at h1
 | cons p parts ih =>
  obtain ⟨i, v⟩ := p
  intro parts' cells r cells' h hc h1 h2
  cases parts' with
  | nil => simp at h1
  | cons p' parts' =>
   obtain ⟨i', v'⟩ := p'
   simp only [List.map_cons, List.cons.injEq] at h1
   obtain ⟨rfl, h1⟩ := h1
   simp only [List.map_cons] at h2
   cases h2 with
   | cons hv h2 =>
    simp only [fillA] at h
    cases hp : pl i with
    | none => rw [hp] at h; cases h
    | some q =>
     obtain ⟨off, size⟩ := q
     rw [hp] at h
     simp only at h
     cases hg : (Nat.beq v.cells.length size && (lenGe cells (off + size) && v.cells.all AV.cell)) with
     | false => rw [hg] at h; cases h
     | true =>
      rw [hg] at h
      simp only [cond_true] at h
      simp only [Bool.and_eq_true] at hg
      obtain ⟨g1, g2, g3⟩ := hg
      have g1 := Nat.eq_of_beq_eq_true g1
      have g2 := lenGe_le g2
      have hvc := hv.cells g3
      have hl := hvc.length
      have hcl := hc.length
      have key : (v'.cells.zipIdx.foldl (fun cs (x : Value × Nat) => cs.setIfInBounds (off + x.2) x.1) cells'.toArray) = (setRange cells' off v'.cells.toList).toArray := by
       have gen : ∀ (vs : List Value) (k : Nat) (cs : List Value), (vs.zipIdx k).foldl (fun (cs : Array Value) (x : Value × Nat) => cs.setIfInBounds (off + x.2) x.1) cs.toArray = (setRange cs (off + k) vs).toArray := by
        intro vs
        induction vs with
        | nil => intro k cs; simp [setRange_nil]
        | cons u vs ih2 =>
         intro k cs
         rw [List.zipIdx_cons, List.foldl_cons, setRange_one]
         have := ih2 (k + 1) (cs.set (off + k) u)
         simp only [List.setIfInBounds_toArray]
         rw [this]
         rfl
       have := gen v'.cells.toList 0 cells'
       rw [Nat.add_zero] at this
       rw [← this]
       rw [← Array.foldl_toList, Array.toList_zipIdx]
      obtain ⟨r', h3, h4⟩ := ih parts' (setRange cells off v.cells) r (setRange cells' off v'.cells.toList) h (VRs.of_get (by rw [setRange_length, setRange_length]; exact hcl) fun j a ha => by
       rw [setRange_get _ _ _ _ (by omega)] at ha
       rw [setRange_get _ _ _ _ (by omega), ← hl]
       split at ha
       ·rename_i hj; rw [if_pos hj]; exact hvc.get ha
       ·rename_i hj; rw [if_neg hj]; exact hc.get ha) h1 h2
      refine ⟨r', ?_, h4⟩
      have e1 : v'.cells.size = size := by rw [← g1, hl]; simp
      have e2 : ¬ (off + v'.cells.size > cells'.toArray.size) := by rw [e1]; simp; omega
      simp only [Instr.fill, hp]
      rw [if_neg (by simp [e1]; have := e2; simp at this; omega), key]
      exact h3

theorem fieldsA_ok (hE : E.Ok σ) (fields : Array Field) (hk : fieldsKnown E fields.toList = true) : ∃ pls : Array (Nat × Nat), (fields.mapM fun f => do pure (f.offset, ← sizeOf f.type) : Sem (Array (Nat × Nat))).run E.P w = .ok pls w ∧
  ∀ i, pls[i]? = fieldsA E fields i := by
 have gen : ∀ (fs : List Field) , (fs.all fun f => (E.ty f.type).isSome) = true → ∃ pl : List (Nat × Nat), (fs.mapM fun f => do pure (f.offset, ← sizeOf f.type) : Sem (List (Nat × Nat))).run E.P w = .ok pl w ∧
   ∀ i : Nat, pl[i]? = match fs[i]? with
    | some f => match E.ty f.type with
     | some fi => some (f.offset, fi.size)
     | none => none
    | none => none := by
  intro fs
  induction fs with
  | nil => intro _; exact ⟨[], rfl, fun i => by simp⟩
  | cons f fs ih =>
   intro hk
   simp only [List.all_cons, Bool.and_eq_true] at hk
   obtain ⟨pl, h1, h2⟩ := ih hk.2
   cases hty : E.ty f.type with
   | none => rw [hty] at hk; simp at hk
   | some fi =>
    refine ⟨(f.offset, fi.size) :: pl, ?_, fun i => ?_⟩
    ·simp only [List.mapM_cons, Sem.run_bind, (hE.ty _ _ hty).sizeOf, Result.andThen_ok, Sem.run_pure, h1]
    ·cases i with
     | zero => simp [hty]
     | succ i => simpa using h2 i
 obtain ⟨pl, h1, h2⟩ := gen fields.toList hk
 refine ⟨pl.toArray, ?_, fun i => ?_⟩
 ·rw [Array.mapM_eq_mapM_toList]
  simp only [Sem.run_map, h1, Result.andThen_ok]
 ·unfold fieldsA
  have h3 := h2 i
  simp only [Array.getElem?_toList] at h3
  simp only [List.getElem?_toArray]
  rw [h3]
  cases fields[i]? with
  | none => rfl
  | some f => rfl

theorem zero_cells {z : Value} (h : ti.zero = ofValue z) : VRs ρ σ ti.zero.cells z.cells.toList := by rw [h]; exact ofValue_cells z

theorem buildA_ok (hE : E.Ok σ) {parts : List (Nat × AV)} {parts' : Array (Nat × Value)} {v : AV} (h : buildA E t parts = some v)
  (h1 : parts.map (·.1) = parts'.toList.map (·.1)) (h2 : VRs ρ σ (parts.map (·.2)) (parts'.toList.map (·.2))) :
  ∃ v', (Instr.build t parts').run E.P w = .ok v' w ∧ VR ρ σ v v' := by
 unfold buildA at h
 cases hty : E.ty t with
 | none => rw [hty] at h; cases h
 | some ti =>
  rw [hty] at h
  have hT := hE.ty _ _ hty
  obtain ⟨z, hz1, hz2, _⟩ := hT.zeroValue w
  have hzc : VRs ρ σ ti.zero.cells z.cells.toList := zero_cells hz2
  simp only at h
  unfold Instr.build
  simp only [Sem.run_bind, hz1, Result.andThen_ok, hT.underlying]
  split at h
  ·rename_i fields hu
   rw [hu]
   cases hk : fieldsKnown E fields.toList with
   | false => rw [hk] at h; cases h
   | true =>
    rw [hk] at h
    simp only [cond_true] at h
    obtain ⟨pls, hp1, hp2⟩ := fieldsA_ok (w := w) hE fields hk
    have hpe : (fun i => pls[i]?) = fieldsA E fields := funext hp2
    cases hf : fillA (fieldsA E fields) ti.zero.cells parts with
    | none => rw [hf] at h; cases h
    | some l =>
     rw [hf] at h
     cases h
     obtain ⟨r', h3, h4⟩ := fill_ok parts parts'.toList ti.zero.cells l z.cells.toList hf hzc h1 h2
     simp only [Sem.run_bind, hp1, Result.andThen_ok, hpe]
     rw [show z.cells.toList.toArray = z.cells by simp] at h3
     rw [h3]
     exact ⟨_, rfl, .agg h4⟩
  ·rename_i n elem hu
   rw [hu]
   cases hei : E.ty elem with
   | none => rw [hei] at h; cases h
   | some ei =>
    rw [hei] at h
    simp only at h
    cases hf : fillA (fun i => some (i * ei.size, ei.size)) ti.zero.cells parts with
    | none => rw [hf] at h; cases h
    | some l =>
     rw [hf] at h
     cases h
     obtain ⟨r', h3, h4⟩ := fill_ok parts parts'.toList ti.zero.cells l z.cells.toList hf hzc h1 h2
     simp only [Sem.run_bind, (hE.ty _ _ hei).sizeOf, Result.andThen_ok]
     rw [show z.cells.toList.toArray = z.cells by simp] at h3
     rw [h3]
     exact ⟨_, rfl, .agg h4⟩
  ·cases h

/-! Cuts. -/

inductive VRo (ρ : Map) (σ : Tok → Value) : Option AV → Option Value → Prop
 | none : VRo ρ σ none none
 | some {a : AV} {v : Value} : VR ρ σ a v → VRo ρ σ (some a) (some v)

theorem bound_ok {v : Option AV} {v' : Option Value} {d lim k lim' : Nat} {code : BoundsCode} (h : bound v d lim = some k) (hv : VRo ρ σ v v') (hl : lim ≤ lim') :
  (∀ x, v' = some x → (Instr.sliceBound x lim' code).run E.P w = .ok k w ∧ k ≤ lim) ∧ (v' = none → k = d) := by
 unfold bound at h
 cases hv with
 | none => cases h; exact ⟨fun x hx => (by cases hx), fun _ => rfl⟩
 | some hv =>
  split at h
  ·rename_i h0; cases h0
  ·rename_i n h0
   cases h0
   rw [hv.at_inv]
   cases hb : Nat.ble n lim with
   | false => rw [hb] at h; cases h
   | true =>
    rw [hb] at h; cases h
    have hle := Nat.le_of_ble_eq_true hb
    refine ⟨fun x hx => ?_, fun hx => (by cases hx)⟩
    cases hx
    refine ⟨?_, hle⟩
    unfold Instr.sliceBound
    simp only [asIntOf, Sem.run_bind, Sem.run_pure, Result.andThen_ok]
    rw [if_pos ⟨by simp, by simp; omega⟩]
    rfl
  ·cases h

/-- a cut's three numbers, where the real capacity may be the greater -/
theorem bounds3_ok {isSlice : Bool} {len cap cap' : Nat} {lo hi mx : Option AV} {lo' hi' mx' : Option Value} {k h m : Nat} (hb : bounds3 len cap lo hi mx = some (k, h, m)) (h1 : VRo ρ σ lo lo') (h2 : VRo ρ σ hi hi') (h3 : VRo ρ σ mx mx')
  (hc : cap ≤ cap') (hlc : len ≤ cap) : ∃ m', (Instr.sliceBounds isSlice len cap' lo' hi' mx').run E.P w = .ok (k, h, m') w ∧ m ≤ m' ∧ (mx.isSome = true ∨ cap' = cap → m' = m) ∧ (mx.isSome = false → m' = cap' ∧ m = cap) ∧ k ≤ h ∧ h ≤ m ∧ m ≤ cap := by
 unfold bounds3 at hb
 cases hm : bound mx cap cap with
 | none => rw [hm] at hb; cases hb
 | some m0 =>
  rw [hm] at hb
  simp only at hb
  cases hh : bound hi len m0 with
  | none => rw [hh] at hb; cases hb
  | some h0 =>
   rw [hh] at hb
   simp only at hb
   cases hk : bound lo 0 h0 with
   | none => rw [hk] at hb; cases hb
   | some k0 =>
    rw [hk] at hb
    simp only at hb
    split at hb
    ·cases hb
    ·rename_i hno
     cases hb
     unfold Instr.sliceBounds
     have bm := bound_ok (E := E) (w := w) (code := if isSlice then .slice3Acap else .slice3Alen) hm h3 hc
     cases h3 with
     | none =>
      have : m = cap := bm.2 rfl
      subst this
      have bh := bound_ok (E := E) (w := w) (code := if isSlice then .sliceAcap else .sliceAlen) hh h2 hc
      have bk := bound_ok (E := E) (w := w) (code := .sliceB) hk h1 (Nat.le_refl h)
      have hh' : h ≤ m := by
       cases h2 with
       | none => have := bh.2 rfl; omega
       | some _ => exact (bh.1 _ rfl).2
      have hk' : k ≤ h := by
       cases h1 with
       | none => have := bk.2 rfl; omega
       | some _ => exact (bk.1 _ rfl).2
      refine ⟨cap', ?_, hc, fun hh0 => (by simpa using hh0), fun _ => ⟨rfl, rfl⟩, hk', hh', Nat.le_refl _⟩
      cases h2 with
      | none =>
       obtain rfl := bh.2 rfl
       cases h1 with
       | none => obtain rfl := bk.2 rfl; simp
       | some _ => simp [(bk.1 _ rfl).1]
      | some _ =>
       cases h1 with
       | none => obtain rfl := bk.2 rfl; simp [(bh.1 _ rfl).1]
       | some _ => simp [(bh.1 _ rfl).1, (bk.1 _ rfl).1]
     | some h3 =>
      have b1 := bm.1 _ rfl
      cases h2 with
      | none => exact absurd rfl (hno _ rfl)
      | some h2 =>
       have bh := bound_ok (E := E) (w := w) (code := .slice3B) hh (.some h2) (Nat.le_refl m)
       have b2 := bh.1 _ rfl
       have bk := bound_ok (E := E) (w := w) (code := .slice3C) hk h1 (Nat.le_refl h)
       have hk' : k ≤ h := by
        cases h1 with
        | none => have := bk.2 rfl; omega
        | some _ => exact (bk.1 _ rfl).2
       refine ⟨m, ?_, Nat.le_refl _, fun _ => rfl, fun hh0 => (by cases hh0), hk', b2.2, b1.2⟩
       cases h1 with
       | none => obtain rfl := bk.2 rfl; simp [b1.1, b2.1]
       | some _ => simp [b1.1, b2.1, (bk.1 _ rfl).1]
end
end Go.Eng
namespace Go.Eng
open Go

section
variable {ρ : Map} {σ : Tok → Value} {own : Nat → Prop} {H : AHeap} {w : World} {E : Env} {t : TypeId} {ti : TI}

theorem sliceA_ok (hE : E.Ok σ) {x v : AV} {lo hi mx : Option AV} (h : sliceA E H t x lo hi mx = some v) {x' : Value} {lo' hi' mx' : Option Value} (hx : VR ρ σ x x') (h1 : VRo ρ σ lo lo') (h2 : VRo ρ σ hi hi') (h3 : VRo ρ σ mx mx') (hH : HR ρ σ own H w) :
  ∃ v', (Instr.sliceAt t x' lo' hi' mx').run E.P w = .ok v' w ∧ VR ρ σ v v' := by
 unfold sliceA at h
 cases hty : E.ty t with
 | none => rw [hty] at h; cases h
 | some ti =>
  rw [hty] at h
  have hT := hE.ty _ _ hty
  simp only at h
  unfold Instr.sliceAt
  simp only [Sem.run_bind, hT.underlying, Result.andThen_ok]
  split at h
  ·rename_i l hu
   cases hx
   split at h
   ·rename_i k hh m hb
    cases h
    cases h3
    obtain ⟨m', g1, g2, g3, g4, g5, g6, g7⟩ := bounds3_ok (E := E) (w := w) (isSlice := false) hb h1 h2 .none (Nat.le_refl _) (Nat.le_refl _)
    rw [hu]
    simp only [Instr.slice, Sem.run_bind, hT.underlying, Result.andThen_ok, hu]
    refine ⟨.string ((ByteArray.mk l.toArray).extract k hh), ?_, ?_⟩
    ·have : (ByteArray.mk l.toArray).size = l.length := by simp [ByteArray.size]
     rw [this]
     simp only [Option.isSome_none, Bool.false_eq_true, if_false, Sem.run_bind, g1, Result.andThen_ok, Sem.run_pure]
    ·rw [ByteArray.extract_mk]; exact .str _
   ·cases h
  ·rename_i e hu
   have e1 := hx.at_inv
   subst e1
   rw [hu]
   cases hei : E.ty e with
   | none => rw [hei] at h; cases h
   | some ei =>
    rw [hei] at h
    cases hb : bounds3 0 0 lo hi mx with
    | none => rw [hb] at h; cases h
    | some kk =>
     obtain ⟨k, hh, m⟩ := kk
     rw [hb] at h
     cases h
     obtain ⟨m', g1, g2, g3, g4, g5, g6, g7⟩ := bounds3_ok (E := E) (w := w) (isSlice := true) hb h1 h2 h3 (Nat.le_refl _) (Nat.le_refl _)
     have e2 : m' = m := g3 (.inr rfl)
     obtain rfl : m = 0 := by omega
     obtain rfl : hh = 0 := by omega
     obtain rfl : k = 0 := by omega
     subst e2
     simp only [Instr.slice, Sem.run_bind, hT.underlying, Result.andThen_ok, hu, g1, (hE.ty _ _ hei).sizeOf]
     exact ⟨_, rfl, .at _⟩
  ·rename_i e ex hu
   cases hx with
   | slz hex =>
   rename_i a cap'
   rw [hu]
   cases hei : E.ty e with
   | none => rw [hei] at h; cases h
   | some ei =>
    rw [hei] at h
    cases hb : bounds3 0 0 lo hi mx with
    | none => rw [hb] at h; cases h
    | some kk =>
     obtain ⟨k, hh, m⟩ := kk
     rw [hb] at h
     cases h
     obtain ⟨m', g1, g2, g3, g4, g5, g6, g7⟩ := bounds3_ok (E := E) (w := w) (isSlice := true) hb h1 h2 h3 (Nat.zero_le cap') (Nat.le_refl _)
     obtain rfl : m = 0 := by omega
     obtain rfl : hh = 0 := by omega
     obtain rfl : k = 0 := by omega
     simp only [Instr.slice, Sem.run_bind, hT.underlying, Result.andThen_ok, hu, g1, (hE.ty _ _ hei).sizeOf]
     have hz : (ex || mx.isSome) = true → m' - 0 = 0 := fun hx => by
      cases hm : mx.isSome with
      | true => have := g3 (.inl hm); omega
      | false =>
       rw [hm] at hx
       simp only [Bool.or_false] at hx
       have := (g4 hm).1
       have := hex hx
       omega
     by_cases h0 : m' = 0
     ·exact ⟨.slice (some a) 0 (m' - 0), by rw [if_pos h0]; rfl, .slz hz⟩
     ·exact ⟨.slice (some (a.add (0 * ei.size))) 0 (m' - 0), by rw [if_neg h0]; rfl, .slz hz⟩
  ·rename_i el b o len cap e ex hu
   cases hx with
   | @sl _ _ _ _ _ cap' _ y hy hle hex he hbd hlc =>
   rw [hu]
   cases hei : E.ty el with
   | none => rw [hei] at h; cases h
   | some ei =>
    rw [hei] at h
    cases hb : bounds3 len cap lo hi mx with
    | none => rw [hb] at h; cases h
    | some kk =>
     obtain ⟨k, hh, m⟩ := kk
     rw [hb] at h
     simp only at h
     cases hse : Nat.beq ei.size e with
     | false => rw [hse] at h; cases h
     | true =>
      have hse' := Nat.eq_of_beq_eq_true hse
      rw [hse] at h
      simp only [cond_true] at h
      obtain ⟨m', g1, g2, g3, g4, g5, g6, g7⟩ := bounds3_ok (E := E) (w := w) (isSlice := true) hb h1 h2 h3 hle hlc
      simp only [Instr.slice, Sem.run_bind, hT.underlying, Result.andThen_ok, hu, g1, (hE.ty _ _ hei).sizeOf, hse']
      have hmx : (ex || mx.isSome) = true → m' = m := fun hx => by
       cases hm : mx.isSome with
       | true => exact g3 (.inl hm)
       | false =>
        rw [hm] at hx
        simp only [Bool.or_false] at hx
        exact g3 (.inr (hex hx))
      have hm'c : m' ≤ cap' := by
       cases hm : mx.isSome with
       | true => have := g3 (.inl hm); omega
       | false => have := (g4 hm).1; omega
      cases hmk : Nat.beq m k with
      | true =>
       have hmk' := Nat.eq_of_beq_eq_true hmk
       rw [hmk] at h
       cases h
       have hz : (ex || mx.isSome) = true → m' - k = 0 := fun hx => by have := hmx hx; omega
       by_cases h0 : m' = k
       ·exact ⟨.slice (some ⟨y.r, o + y.s, none⟩) 0 (m' - k), by rw [if_pos h0, show hh - k = 0 by omega]; rfl, .slz hz⟩
       ·exact ⟨.slice (some ⟨y.r, o + y.s + k * e, none⟩) 0 (m' - k), by rw [if_neg h0, show hh - k = 0 by omega, Option.map_some, Addr.add_none]; rfl, .slz hz⟩
      | false =>
       have hmk' := Nat.ne_of_beq_eq_false hmk
       rw [hmk] at h
       cases h
       refine ⟨.slice (some ⟨y.r, o + k * e + y.s, none⟩) (hh - k) (m' - k), ?_, .sl hy (by omega) (fun hx => by rw [hmx hx]) he ?_ (by omega)⟩
       ·rw [if_neg (by omega), Option.map_some, Addr.add_none, show o + y.s + k * e = o + k * e + y.s by omega]; rfl
       ·have : k * e + (m' - k) * e = m' * e := by rw [← Nat.add_mul]; congr 1; omega
        have h5 : m' * e ≤ cap' * e := Nat.mul_le_mul_right e hm'c
        omega
  ·rename_i n el b o hu
   cases hx with
   | @ptr _ _ y hy =>
   rw [hu]
   cases hei : E.ty el with
   | none => rw [hei] at h; cases h
   | some ei =>
    rw [hei] at h
    cases hb : bounds3 n n lo hi mx with
    | none => rw [hb] at h; cases h
    | some kk =>
     obtain ⟨k, hh, m⟩ := kk
     rw [hb] at h
     simp only at h
     split at h
     ·rename_i el' l s f hg
      cases hc : (Nat.beq ei.size 0 || !lenGe l (o + n * ei.size)) with
      | true => rw [hc] at h; cases h
      | false =>
       rw [hc] at h
       simp only [cond_false] at h
       simp only [Bool.or_eq_false_iff, Bool.not_eq_false'] at hc
       have c1 := Nat.ne_of_beq_eq_false hc.1
       have c2 := lenGe_le hc.2
       obtain ⟨c, fz, r1, r2, r3, _⟩ := row_of hH hg hy
       obtain ⟨m', g1, g2, g3, g4, g5, g6, g7⟩ := bounds3_ok (E := E) (w := w) (isSlice := false) hb h1 h2 h3 (Nat.le_refl _) (Nat.le_refl _)
       obtain rfl : m' = m := g3 (.inr rfl)
       simp only [Instr.sureAddr, Sem.run_bind, Sem.run_pure, Result.andThen_ok, g1, (hE.ty _ _ hei).sizeOf]
       cases hmk : Nat.beq m' k with
       | true =>
        have hmk' := Nat.eq_of_beq_eq_true hmk
        rw [hmk] at h
        cases h
        exact ⟨.slice (some ⟨y.r, o + y.s, none⟩) 0 (m' - k), by rw [if_pos hmk', show hh - k = 0 by omega], .slz fun _ => by omega⟩
       | false =>
        have hmk' := Nat.ne_of_beq_eq_false hmk
        rw [hmk] at h
        cases h
        refine ⟨.slice (some ⟨y.r, o + k * ei.size + y.s, none⟩) (hh - k) (m' - k), ?_, .sl hy (Nat.le_refl _) (fun _ => rfl) (by omega) ?_ (by omega)⟩
        ·rw [if_neg (by omega), Addr.add_none, show o + y.s + k * ei.size = o + k * ei.size + y.s by omega]
        ·have : k * ei.size + (m' - k) * ei.size = m' * ei.size := by rw [← Nat.add_mul]; congr 1; omega
         have h5 : m' * ei.size ≤ n * ei.size := Nat.mul_le_mul_right _ g7
         omega
     ·cases h
  ·cases h
end
end Go.Eng
