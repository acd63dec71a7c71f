/-
 What an operation comes to, in both machines: a value, a call, a round, a deferred call. THE ENGINE IS SOUND: each step of the abstract machine is some steps of the machine, in whatever world and on whatever tape. Leaving a frame, stepping through code, and through regions. Stepping through code. Stepping through regions, and all together. Each step of the abstract machine is some steps of the machine; and so are many. A call that a run of the abstract machine tells; runs in pieces, and with what is dead dropped.
-/
import Derived.Test.YtngmgpmkjdacaaaGreatDoorMStepA
set_option linter.unusedSimpArgs false
set_option linter.unusedVariables false
namespace Go.Eng
open Go

section
variable {ρ : Map} {σ : Tok → Value} {own : Nat → Prop} {w : World} {E : Env} {cs : List Frame}

theorem finish_region (f : FuncId) (t : Array Value) (all : Array Oper) (i : Nat) (b : List Nat) (k : List Item) (d : List Deferred) (kd : CallKind) (ro : Option Nat) (v : Value) :
  Frame.finish ⟨f, t, .inRegion all (i :: b) :: k, d, .run, kd, ro⟩ v = ⟨f, putF all i t v, .inRegion all b :: k, d, .run, kd, ro⟩ := by
 unfold Frame.finish putF
 simp only
 cases (all[i]?).bind (·.dst) <;> rfl

theorem enter_ok (hE : E.Ok σ) {f : FuncId} {args : List AV} {dfd : Bool} {fr' : AFrame} (h : enterA E f args dfd = some fr') {args' : List Value} (ha : VRs ρ σ args args') :
  FR ρ σ [] fr' (Frame.enter E.P f args'.toArray (if dfd then .deferred else .normal)) := by
 unfold enterA at h
 cases hfn : E.fn f with
 | none => rw [hfn] at h; cases h
 | some fn =>
  rw [hfn] at h
  simp only at h
  cases hb : fn.body with
  | none => rw [hb] at h; cases h
  | some body =>
   rw [hb] at h
   cases h
   have hP := hE.fn f fn hfn
   have hl := ha.length
   refine ⟨rfl, rfl, rfl, .none, .nil, fun _ => False, ?_, ?_⟩
   ·simp only [Frame.enter, hP, Option.bind_some, hb, Option.getD_some]
    exact .plain (.cons (.code _) .nil)
   ·simp only [Frame.enter, hP, Option.map_some, Option.getD_some]
    have := ha.append (VRs.replicate (ρ := ρ) (σ := σ) (a := undefA) (v := undef) (.tup .nil) (fn.ntmps - args.length))
    have e : args'.toArray ++ Array.replicate (fn.ntmps - args'.toArray.size) undef = (args' ++ List.replicate (fn.ntmps - args.length) undef).toArray := by
     rw [hl]; simp
    rw [e]
    exact ⟨by simpa using this.length, fun i a hi _ => by simpa using this.get hi⟩

theorem setMany_ok : ∀ (ps : List Nat) {xs t : List AV} {xs' t' : List Value}, VRs ρ σ xs xs' → VRs ρ σ t t' → VRs ρ σ (setMany ps xs t) ((ps.zip xs').foldl (fun (t : List Value) (p : Nat × Value) => t.set p.1 p.2) t')
 | [], _, _, _, _, _, ht => by simpa [setMany] using ht
 | p :: ps, _, _, _, _, .nil, ht => by simpa [setMany] using ht
 | p :: ps, _, _, _, _, .cons h1 h2, ht => by
  simp only [setMany, List.zip_cons_cons, List.foldl_cons]
  exact setMany_ok ps h2 (ht.set h1 p)

theorem foldl_toArray : ∀ (l : List (Nat × Value)) (t : List Value), l.foldl (fun (t : Array Value) (p : Nat × Value) => t.setIfInBounds p.1 p.2) t.toArray = (l.foldl (fun (t : List Value) (p : Nat × Value) => t.set p.1 p.2) t).toArray
 | [], _ => rfl
 | p :: l, t => by
  simp only [List.foldl_cons, List.setIfInBounds_toArray]
  exact foldl_toArray l (t.set p.1 p.2)

theorem comes_steps {P : Program} {m m' : Machine} {v : Value} (h : Comes P m m' (.returned v)) : Steps P m m' := h

theorem apply_ok (hE : E.Ok σ) (hown : ∀ k, w.heap.size ≤ k → own k) {q qs : List Nat} {fr : AFrame} {callers : List AFrame} {H : AHeap} {f : FuncId} {t : Array Value} {all : Array Oper} {i : Nat} {b : List Nat} {k : List Item} {d : List Deferred} {kd : CallKind} {ro : Option Nat}
  {ccs : List Frame} (hs : SimAt E ρ σ own cs q qs ⟨fr, callers, H⟩ ⟨f, t, .inRegion all (i :: b) :: k, d, .run, kd, ro⟩ ccs w) {o : Oper} (ho : all[i]? = some o) (hw : Region.wanted o (yielded all t) = true) {n : ANext}
  (hn : NextOk E ρ σ own H w (execOp (evC t) o) n) (hnd : isDefer o.op = true → ∃ d h, n = .dfr d h) {c' : ACfg} (ha : apply E fr callers n = some c') :
  Follows E σ own cs ⟨f, t, .inRegion all (i :: b) :: k, d, .run, kd, ro⟩ ccs w c' := by
 have hro : (∀ d h, n ≠ .dfr d h) → isDefer o.op = false := fun hne => by
  cases hq : isDefer o.op with
  | false => rfl
  | true => obtain ⟨d, h, e⟩ := hnd hq; exact absurd e (hne d h)
 have sub : ∀ {q' : List Nat} , (∀ x, x ∈ q' → x ∈ q) → (q.Nodup → q'.Nodup) → (q' ++ qs).Nodup := fun {q'} h1 h2 => by
  have := hs.nodup
  rw [List.nodup_append] at this ⊢
  exact ⟨h2 this.1, this.2.1, fun x hx y hy => this.2.2 x (h1 x hx) y hy⟩
 have sub' : ∀ {q' : List Nat}, (∀ x, x ∈ q' → x ∈ q) → ∀ x, x ∈ q' ++ qs → x ∈ q ++ qs := fun {q'} h1 x hx => by
  rcases List.mem_append.1 hx with hx | hx
  ·exact List.mem_append_left _ (h1 x hx)
  ·exact List.mem_append_right _ hx
 cases n with
 | val v H' =>
  obtain ⟨ρ', w', v', g1, g2, g3, g4, g5, g6⟩ := hn
  simp only [apply] at ha
  cases hf : finishA fr v with
  | none => rw [hf] at ha; cases ha
  | some fr' =>
   rw [hf] at ha
   cases ha
   obtain ⟨q', f1, f2, f3⟩ := finish_ok (hs.top.mono g1.1) hf g5
   rw [finish_region] at f1
   refine ⟨_, ccs, w', Steps.one (s_value ho hw (.inr (hro (by intros; simp))) g6), ⟨ρ', q', qs, ⟨g2, f1, hs.rest.mono g1.1, sub f2 f3, fun x hx => ?_, hs.glob.mono g1.1⟩⟩, g3⟩
   have := hs.none x (sub' f2 x hx)
   exact ⟨g1.2 x this.2 this.1, Nat.lt_of_lt_of_le this.2 g4⟩
 | enter g args H' =>
  obtain ⟨rfl, args', g1, g2⟩ := hn
  simp only [apply] at ha
  cases hf : enterA E g args false with
  | none => rw [hf] at ha; cases ha
  | some fr' =>
   rw [hf] at ha
   cases ha
   refine ⟨_, _, w, Steps.one (s_enter ho hw (.inr (hro (by intros; simp))) g2), ⟨ρ, [], q ++ qs, ⟨hs.hr, enter_ok hE hf g1, .cons hs.top hs.rest, hs.nodup, hs.none, hs.glob⟩⟩, Kp.refl _ _⟩
 | told g args v H' =>
  obtain ⟨g0, args', g1, g2⟩ := hn
  simp only [apply] at ha
  cases hf : finishA fr v with
  | none => rw [hf] at ha; cases ha
  | some fr' =>
   rw [hf] at ha
   cases ha
   obtain ⟨e, w', fr2, ⟨v', ρ', rfl, k1, hv, k2, k3, hkp⟩, hcomes, _, hleave⟩ := hE.orc _ g args v H' g0 ρ own args' w hs.hr hown hs.glob g1 (⟨f, t, .inRegion all (i :: b) :: k, d, .run, kd, ro⟩ :: ccs)
   obtain ⟨q', f1, f2, f3⟩ := finish_ok (hs.top.mono k1.1) hf hv
   have hst := (Steps.one (s_enter ho hw (.inr (hro (by intros; simp))) g2)).trans ((comes_steps hcomes).trans (Steps.one (step_leave_returned hleave)))
   refine ⟨_, ccs, w', hst, ⟨ρ', q', qs, ⟨k2, f1, hs.rest.mono k1.1, sub f2 f3, fun x hx => ?_, hs.glob.mono k1.1⟩⟩, hkp⟩
   have := hs.none x (sub' f2 x hx)
   exact ⟨k1.2 x this.2 this.1, Nat.lt_of_lt_of_le this.2 k3⟩
 | round l args H' =>
  obtain ⟨rfl, x, args', g0, g1, g2⟩ := hn
  simp only [apply] at ha
  split at ha
  ·rename_i st pend fn tmps params assign body dd hgl
   cases hlen : Nat.beq args.length params.size with
   | false => rw [hlen] at ha; cases ha
   | true =>
    have hlen' := Nat.eq_of_beq_eq_true hlen
    rw [hlen] at ha
    cases ha
    obtain ⟨ob, o1, o2⟩ := hs.hr.obj l _ x hgl g0
    cases o2 with
    | @loop _ _ _ _ tmps' _ _ _ _ _ y ht hy =>
    have hg : (getObj x.r).run E.P w = .ok (.loop { state := st, pending := pend, fn := fn, tmps := tmps'.toArray, params := params, assign := assign, body := body, defers := y.r }) w := by unfold getObj; simp only [Sem.run, o1]
    have hrun : (execOp (evC t) o).run E.P w = .ok (.round x.r fn ((params.toList.zip args').foldl (fun (t : List Value) (p : Nat × Value) => t.set p.1 p.2) tmps').toArray assign body) w := by
     rw [g2]
     have hsz : ¬ args'.toArray.size ≠ params.size := by have := g1.length; simp; omega
     simp only [Instr.yield, Instr.getLoop, Sem.run_bind, hg, Result.andThen_ok, Sem.run_pure, hsz, if_false]
     congr 2
     rw [← foldl_toArray, ← Array.foldl_toList]
     congr 1
     simp
    refine ⟨_, _, w, Steps.one (s_round ho hw (.inr (hro (by intros; simp))) hrun), ⟨ρ, [], q ++ qs, ⟨hs.hr, ⟨rfl, rfl, rfl, .some g0, .nil, fun _ => False, ?_, ?_⟩, .cons hs.top hs.rest, hs.nodup, hs.none, hs.glob⟩⟩, Kp.refl _ _⟩
    ·exact .plain (.cons (.code _) (.cons .beginRound (.cons (.code _) .nil)))
    ·have := setMany_ok params.toList g1 ht
     exact ⟨by simpa [Frame.round] using this.length, fun j a hj _ => by simpa [Frame.round] using this.get hj⟩
  ·cases ha
 | dfr df H' =>
  obtain ⟨rfl, df', g1, g2⟩ := hn
  simp only [apply] at ha
  split at ha
  ·rename_i fr' hr hf
   cases ha
   have hround := hs.top.round
   rw [hr] at hround
   obtain ⟨rfl⟩ : ro = none := by
    cases hround with
    | none => rfl
   obtain ⟨q', f1, f2, f3⟩ := finish_ok hs.top hf (v' := undef) (.tup .nil)
   rw [finish_region] at f1
   have hd0 := hs.top.defers
   refine ⟨_, ccs, w, Steps.one (s_defer ho hw g2), ⟨ρ, q', qs, ⟨hs.hr, ⟨f1.fn, f1.mode, f1.kind, f1.round, .cons g1 hd0, f1.todo⟩, hs.rest, sub f2 f3, fun x hx => hs.none x (sub' f2 x hx), hs.glob⟩⟩, Kp.refl _ _⟩
  ·cases ha
 | recov H' =>
  obtain ⟨rfl, g2⟩ := hn
  simp only [apply] at ha
  split at ha
  ·rename_i c cl hdf hr
   cases hcr : c.ret with
   | false => rw [hcr] at ha; cases ha
   | true =>
    rw [hcr] at ha
    simp only [cond_true] at ha
    cases hf : finishA fr (.at .nilIface) with
    | none => rw [hf] at ha; cases ha
    | some fr' =>
     rw [hf] at ha
     cases ha
     have hround := hs.top.round
     rw [hr] at hround
     obtain ⟨rfl⟩ : ro = none := by
      cases hround with
      | none => rfl
     have hkind := hs.top.kind
     rw [hdf] at hkind
     simp only [if_true] at hkind
     subst hkind
     obtain ⟨q', f1, f2, f3⟩ := finish_ok hs.top hf (.at .nilIface)
     rw [finish_region] at f1
     have hrest := hs.rest
     generalize hcc : ccs = cc at hrest
     cases hrest with
     | @cons _ _ _ c1 _ l1 hc1 hl1 =>
      have hm := hc1.mode
      rw [hcr] at hm
      simp only [if_true] at hm
      refine ⟨_, c1 :: l1, w, Steps.one (s_recover ho hw g2 hm), ⟨ρ, q', _, ⟨hs.hr, f1, .cons hc1 hl1, ?_, ?_, hs.glob⟩⟩, Kp.refl _ _⟩
      ·exact sub f2 f3
      ·exact fun x hx => hs.none x (sub' f2 x hx)
  ·cases ha
end
end Go.Eng
namespace Go.Eng
open Go

section
variable {ρ : Map} {σ : Tok → Value} {own : Nat → Prop} {w : World} {E : Env} {cs : List Frame}

theorem aop_ok (hE : E.Ok σ) {H : AHeap} (h : HR ρ σ own H w) (hown : ∀ k, w.heap.size ≤ k → own k) {ev : Operand → AV} {cv : Operand → Value} {o : Oper} (hev : ∀ x ∈ o.op.operands, VR ρ σ (ev x) (cv x)) {n : ANext} (hq : aop E H ev o.op = some n) :
  NextOk E ρ σ own H w (execOp cv o) n ∧ (isDefer o.op = true → ∃ d h, n = .dfr d h) := by
 unfold aop at hq
 split at hq
 ·rename_i hk
  cases hv : qop E H ev o.op with
  | none => rw [hv] at hq; cases hq
  | some v =>
   rw [hv] at hq
   cases hq
   obtain ⟨v', h1, h2⟩ := qop_ok hE h (o := o) hev hv
   exact ⟨⟨ρ, w, v', Grow.refl _ _, h, Kp.refl _ _, Nat.le_refl _, h2, .inl h1⟩, fun hd => by cases hop : o.op <;> rw [hop] at hd hk <;> first | (simp [isDefer] at hd; done) | (simp [opK] at hk; done)⟩
 ·rename_i hk
  cases hv : allocA E ev o.op with
  | none => rw [hv] at hq; cases hq
  | some p =>
   obtain ⟨t, c⟩ := p
   rw [hv] at hq
   cases hq
   obtain ⟨vs, h1, h2, h3⟩ := alloc_ok (ρ := ρ) (σ := σ) hE (o := o) hev hv
   have hn := h.none_of_ge (Nat.le_refl H.n)
   have hlen := h1.length
   refine ⟨⟨upd ρ H.n ⟨w.heap.size, 0, vs.length⟩, w.alloc (.cells vs.toArray t), newR o.op w.heap.size, Grow.upd hn (Nat.le_refl _), h.new _ (hown _ (Nat.le_refl _)) (.cells (by simp) (by simp; omega) (fun j a hja => by
    obtain ⟨v, g1, g2⟩ := h1.get hja
    exact ⟨v, by simpa using g1, g2.mono (upd_le hn)⟩) (fun _ j _ _ => by simp [shut]) (fun hh => by cases hh) (fun _ _ => ⟨rfl, hlen.symm⟩)), Kp.alloc own _ _, Nat.le_succ _, new_VR h3 (by rw [hlen]; exact upd_self _ _ _), .inl (h2 w)⟩,
    fun hd => by cases hop : o.op <;> rw [hop] at hd hk <;> first | (simp [isDefer] at hd; done) | (simp [opK] at hk; done)⟩
 ·refine ⟨eop_ok hE h hown (o := o) hev hq, fun hd => ?_⟩
  obtain ⟨dst, op, type, pos, after, guard⟩ := o
  cases op <;> first | (simp [isDefer] at hd; done) | skip
  simp only [eop, eop0] at hq
  split at hq
  ·split at hq
   ·split at hq
    ·cases hq
    ·cases hq; exact ⟨_, _, rfl⟩
   ·cases hq
  ·cases hq

def resOne (c : Array Value) : ResultVar → Sem Value
 | .tmp t => pure (c.getD t undef)
 | .cell a t => do loadVar t (← asAddr (c.getD a undef))
theorem results_eq (fn : Func) (c : Array Value) : results fn c = (do let vs ← fn.results.mapM (resOne c); pure (if h : vs.size = 1 then vs[0] else .tuple vs)) := by
 unfold results
 congr 1

theorem results_ok (hE : E.Ok σ) {H : AHeap} (h : HR ρ σ own H w) {t : List AV} {c : Array Value} (ht : ∀ (i : Nat) a, t[i]? = some a → ∃ v, c[i]? = some v ∧ VR ρ σ a v) (hlen : t.length = c.size) {fn : Func} {v : AV} (hr : resultsA E H fn t = some v) : ∃ v', (results fn c).run E.P w = .ok v' w ∧ VR ρ σ v v' := by
 have gen : ∀ (rs : List ResultVar) (l : List AV), resultsL E H t rs = some l → ∃ l', (rs.mapM (resOne c)).run E.P w = .ok l' w ∧ VRs ρ σ l l' := by
  intro rs
  induction rs with
  | nil => intro l hl; simp only [resultsL, Option.some.injEq] at hl; subst hl; exact ⟨[], rfl, .nil⟩
  | cons r rs ih =>
   intro l hl
   simp only [resultsL] at hl
   cases h1 : result1 E H t r with
   | none => rw [h1] at hl; cases hl
   | some v =>
   cases h2 : resultsL E H t rs with
   | none => rw [h1, h2] at hl; cases hl
   | some l2 =>
    rw [h1, h2] at hl
    cases hl
    obtain ⟨l', a1, a2⟩ := ih l2 h2
    have one : ∃ v', (resOne c r).run E.P w = .ok v' w ∧ VR ρ σ v v' := by
     cases r with
     | tmp i =>
      simp only [result1] at h1
      cases hi : t[i]? with
      | none =>
       rw [hi] at h1
       cases h1
       have : c[i]? = none := by
        rw [Array.getElem?_eq_none_iff]
        rw [List.getElem?_eq_none_iff] at hi
        omega
       exact ⟨undef, by simp [resOne, Array.getD_eq_getD_getElem?, this], .tup .nil⟩
      | some a =>
       rw [hi] at h1
       cases h1
       obtain ⟨v', b1, b2⟩ := ht i _ hi
       exact ⟨v', by simp [resOne, Array.getD_eq_getD_getElem?, b1], b2⟩
     | cell a ty =>
      simp only [result1] at h1
      split at h1
      ·rename_i bb oo ti hta hty
       obtain ⟨v', b1, b2⟩ := ht a _ hta
       cases b2 with
       | @ptr _ _ y hy =>
       obtain ⟨u, c1, c2⟩ := loadT_ok (E := E) (hE.ty _ _ hty) h h1 hy
       exact ⟨u, by simp [resOne, Array.getD_eq_getD_getElem?, b1, asAddr, c1], c2⟩
      ·cases h1
    obtain ⟨v', b1, b2⟩ := one
    exact ⟨v' :: l', by simp [b1, a1], .cons b2 a2⟩
 unfold resultsA at hr
 rw [results_eq]
 cases hl : resultsL E H t fn.results.toList with
 | none => rw [hl] at hr; cases hr
 | some l =>
  obtain ⟨l', a1, a2⟩ := gen _ _ hl
  rw [hl] at hr
  refine ⟨if h : l'.toArray.size = 1 then l'.toArray[0] else .tuple l'.toArray, ?_, ?_⟩
  ·rw [Array.mapM_eq_mapM_toList]
   simp only [Sem.run_bind, Sem.run_map, a1, Result.andThen_ok, Sem.run_pure]
  ·have hlen := a2.length
   split at hr
   ·rename_i u he
    simp only [Option.some.injEq] at he hr
    subst he; subst hr
    obtain ⟨u', rfl, hu⟩ := VRs_one a2
    simpa using hu
   ·rename_i l0 hno he
    simp only [Option.some.injEq] at he hr
    subst he; subst hr
    have : ¬ l'.toArray.size = 1 := fun h1 => by
     have h2 : l.length = 1 := by rw [hlen]; simpa using h1
     obtain ⟨u, hu⟩ := List.length_eq_one_iff.1 h2
     exact hno u (by rw [hu])
    rw [dif_neg this]
    exact .tup a2
   ·rename_i he; cases he
end
end Go.Eng
namespace Go.Eng
open Go

section
variable {ρ : Map} {σ : Tok → Value} {own : Nat → Prop} {w : World} {E : Env} {cs : List Frame}

theorem s_leaveRoundD {P : Program} {f : FuncId} {t : Array Value} {d : List Deferred} {cs : List Frame} {l : Nat} {r : Loop} {todo : List Item} {jump : Option Code} {c : Frame} (h : w.heap[l]? = some (.loop r))
  (hj : (todo = [] ∧ jump = none) ∨ (∃ k, todo = .code .ret :: k ∧ jump = some .ret) ∨ (∃ id k, todo = .code (.exit id) :: k ∧ exitTo id k = none ∧ jump = some (.exit id)) ∨ (∃ id k, todo = .code (.goto id) :: k ∧ gotoIn id k = none ∧ jump = some (.goto id)))
  (hc : c.mode = .returning) :
  step P (lone ⟨f, t, todo, d, .run, .deferred, some l⟩ (c :: cs) w) = .next (lone c cs (setO w l (.loop { r with state := if jump.isNone then .ready else .done, pending := jump }))) :=
 step_lone_go (by
  have hg : (getObj l).run P w = .ok (.loop r) w := by unfold getObj; simp only [Sem.run, h]
  have hset : ∀ o, (setObj l o).run P w = .ok () (setO w l o) := fun o => by unfold setObj setO; simp only [Sem.run, h]
  have hb : ∀ j, (Instr.endRound l j).run P w = .ok (.bool j.isNone) (setO w l (.loop { r with state := if j.isNone then .ready else .done, pending := j })) := fun j => by
   simp only [Instr.endRound, Instr.getLoop, Sem.run_bind, hg, Result.andThen_ok, Sem.run_pure, hset]
  rcases hj with ⟨rfl, rfl⟩ | ⟨k, rfl, rfl⟩ | ⟨id, k, rfl, hx, rfl⟩ | ⟨id, k, rfl, hx, rfl⟩
  ·simp [stepG, stepG.exec, hb, doReturn, hc]
  ·simp [stepG, stepG.exec, hb, doReturn, hc]
  ·simp [stepG, stepG.exec, hb, doReturn, hx, hc]
  ·simp [stepG, stepG.exec, hb, doReturn, hx, hc])

theorem return_ok {a : AFrame} {callers : List AFrame} {ccs : List Frame} {qs : List Nat} {H : AHeap} {w' : World} (hrest : FRs ρ σ cs qs callers ccs) (hnd : qs.Nodup) (hnone : ∀ b, b ∈ qs → ρ b = none ∧ b < H.n) (hglob : GlobOk E ρ)
  (hhr : HR ρ σ own H w') {v : AV} {v' : Value} (hv : VR ρ σ v v') {fr : Frame}
  (hstep : ∀ c l, ccs = c :: l → (a.dfd = false → step E.P (lone fr ccs w) = .next (lone (c.finish v') l w')) ∧ (a.dfd = true → c.mode = .returning → step E.P (lone fr ccs w) = .next (lone c l w')))
  (hkp : Kp own w w') {c' : ACfg} (hr : returnA a callers v H = some c') : Follows E σ own cs fr ccs w c' := by
 unfold returnA at hr
 cases hrest with
 | nil => simp at hr
 | @cons q1 q2 ca cc la lc hc hl =>
  simp only at hr
  obtain ⟨hs1, hs2⟩ := hstep cc lc rfl
  cases hdf : a.dfd with
  | true =>
   rw [hdf] at hr
   cases hcr : ca.ret with
   | false => rw [hcr] at hr; cases hr
   | true =>
    rw [hcr] at hr
    cases hr
    have hm := hc.mode
    rw [hcr] at hm
    exact ⟨_, _, w', Steps.one (hs2 hdf hm), ⟨ρ, q1, q2, ⟨hhr, hc, hl, hnd, hnone, hglob⟩⟩, hkp⟩
  | false =>
   rw [hdf] at hr
   simp only [cond_false] at hr
   cases hf : finishA ca v with
   | none => rw [hf] at hr; cases hr
   | some c1 =>
    rw [hf] at hr
    cases hcr : ca.ret with
    | true => simp [hcr] at hr
    | false =>
     simp only [hcr, cond_false, Option.some.injEq] at hr
     subst hr
     obtain ⟨q', f1, f2, f3⟩ := finish_ok hc hf hv
     refine ⟨_, _, w', Steps.one (hs1 hdf), ⟨ρ, q', q2, ⟨hhr, f1, hl, ?_, fun x hx => ?_, hglob⟩⟩, hkp⟩
     ·rw [List.nodup_append] at hnd ⊢
      exact ⟨f3 hnd.1, hnd.2.1, fun x hx y hy => hnd.2.2 x (f2 x hx) y hy⟩
     ·refine hnone x ?_
      rcases List.mem_append.1 hx with hx | hx
      ·exact List.mem_append_left _ (f2 x hx)
      ·exact List.mem_append_right _ hx

theorem leave_ok {q qs : List Nat} {fr : AFrame} {callers : List AFrame} {H : AHeap} {fr' : Frame} {ccs : List Frame} (hs : SimAt E ρ σ own cs q qs ⟨fr, callers, H⟩ fr' ccs w) (hr : fr.ret = false) {jump : Option Code}
  (hj : (fr'.todo = [] ∧ jump = none) ∨ (∃ k, fr'.todo = .code .ret :: k ∧ jump = some .ret) ∨ (∃ id k, fr'.todo = .code (.exit id) :: k ∧ exitTo id k = none ∧ jump = some (.exit id)) ∨ (∃ id k, fr'.todo = .code (.goto id) :: k ∧ gotoIn id k = none ∧ jump = some (.goto id)))
  {c' : ACfg} (hl : leaveA fr callers H jump = some c') : Follows E σ own cs fr' ccs w c' := by
 obtain ⟨f, t, todo, d, m, kd, ro⟩ := fr'
 have hmode := hs.top.mode
 have hkind := hs.top.kind
 have hround := hs.top.round
 rw [hr] at hmode
 simp only [Bool.false_eq_true, if_false] at hmode
 simp only at hkind hround hj
 subst hmode
 unfold leaveA at hl
 cases hfr : fr.round with
 | none =>
  rw [hfr] at hl hround
  obtain ⟨rfl⟩ : ro = none := by cases hround; rfl
  have key : ∀ c1, some (⟨{ fr with ret := true, round := none }, callers, H⟩ : ACfg) = some c1 → step E.P (lone ⟨f, t, todo, d, .run, kd, none⟩ ccs w) = .next (lone ⟨f, t, todo, d, .returning, kd, none⟩ ccs w) → Follows E σ own cs ⟨f, t, todo, d, .run, kd, none⟩ ccs w c1 := fun c1 e hst => by
   cases e
   refine ⟨_, _, w, Steps.one hst, ⟨ρ, q, qs, ⟨hs.hr, ⟨hs.top.fn, rfl, hs.top.kind, .none, hs.top.defers, hs.top.todo⟩, hs.rest, hs.nodup, hs.none, hs.glob⟩⟩, Kp.refl _ _⟩
  rcases hj with ⟨rfl, rfl⟩ | ⟨k, rfl, rfl⟩ | ⟨id, k, rfl, hx, rfl⟩ | ⟨id, k, rfl, hx, rfl⟩
  ·exact key _ hl s_endN
  ·exact key _ hl s_retN
  ·cases hl
  ·cases hl
 | some l =>
  rw [hfr] at hl hround
  cases hround with
  | @some _ x hx =>
  simp only at hl
  split at hl
  ·rename_i st pend fn tmps params assign body dd hgl
   obtain ⟨ob, o1, o2⟩ := hs.hr.obj l _ x hgl hx
   cases o2 with
   | @loop _ _ _ _ tmps' _ _ _ _ _ y ht hy =>
   have hown : own x.r := hs.hr.own l _ x hgl hx (.inl rfl)
   have hturn : HR ρ σ own (H.put l (.loop (if jump.isNone then .ready else .done) jump fn tmps params assign body dd)) (setO w x.r (.loop { state := if jump.isNone then .ready else .done, pending := jump, fn, tmps := tmps'.toArray, params, assign, body, defers := y.r })) :=
    hs.hr.turn hgl hx rfl (fun _ => .inl rfl) (.loop ht hy)
   have hnd := hs.nodup
   rw [List.nodup_append] at hnd
   refine return_ok (own := own) (H := H.put l (.loop (if jump.isNone then .ready else .done) jump fn tmps params assign body dd)) hs.rest hnd.2.1 (fun b hb => hs.none b (List.mem_append_right _ hb)) hs.glob hturn (v' := .bool jump.isNone) (.at _) (fun c l hcl => ⟨fun hd => ?_, fun hd hm => ?_⟩) (Kp.setO _ _ _ hown) hl
   ·rw [hd] at hkind
    simp only [Bool.false_eq_true, if_false] at hkind
    subst hkind; subst hcl
    exact s_leaveRound o1 hj
   ·rw [hd] at hkind
    simp only [if_true] at hkind
    subst hkind; subst hcl
    exact s_leaveRoundD o1 hj hm
  ·cases hl

/-- the frame goes on with another list -/
theorem goes {q qs : List Nat} {fr : AFrame} {callers : List AFrame} {H : AHeap} {f : FuncId} {t : Array Value} {todo todo' : List Item} {d : List Deferred} {kd : CallKind} {ro : Option Nat} {ccs : List Frame}
  (hs : SimAt E ρ σ own cs q qs ⟨fr, callers, H⟩ ⟨f, t, todo, d, .run, kd, ro⟩ ccs w) (ht : TR ρ σ (fun _ => False) fr.tmps t) {l : List AItem} (hl : TodoR ρ [] (fun _ => False) l todo')
  (hst : step E.P (lone ⟨f, t, todo, d, .run, kd, ro⟩ ccs w) = .next (lone ⟨f, t, todo', d, .run, kd, ro⟩ ccs w)) : Follows E σ own cs ⟨f, t, todo, d, .run, kd, ro⟩ ccs w ⟨{ fr with todo := l }, callers, H⟩ := by
 have hnd := hs.nodup
 rw [List.nodup_append] at hnd
 exact ⟨_, _, w, Steps.one hst, ⟨ρ, [], qs, ⟨hs.hr, ⟨hs.top.fn, hs.top.mode, hs.top.kind, hs.top.round, hs.top.defers, _, hl, ht⟩, hs.rest, hnd.2.1, fun b hb => hs.none b (List.mem_append_right _ hb), hs.glob⟩⟩, Kp.refl _ _⟩
end
end Go.Eng
namespace Go.Eng
open Go

section
variable {ρ : Map} {σ : Tok → Value} {own : Nat → Prop} {w : World} {E : Env} {cs : List Frame}

theorem range_ok (hE : E.Ok σ) (hown : ∀ k, w.heap.size ≤ k → own k) {qs : List Nat} {fr : AFrame} {callers : List AFrame} {H : AHeap} {t : Array Value} {k : List AItem} {k' : List Item} {d : List Deferred} {kd : CallKind} {ccs : List Frame}
  {x : Operand} {params : Array Tmp} {assign body : Code}
  (hs : SimAt E ρ σ own cs [] qs ⟨fr, callers, H⟩ ⟨fr.fn, t, .code (.rangeFunc x params assign body) :: k', d, .run, kd, none⟩ ccs w) (hr : fr.ret = false) (hro : fr.round = none) (ht : TR ρ σ (fun _ => False) fr.tmps t) (hk : IRs ρ k k') {g : FuncId} {args : List AV} {h' : AHeap}
  (hc : callA E ((H.new (.dfr (some []))).new (.loop .ready none fr.fn fr.tmps params assign body H.n)) (evA E.glob fr.tmps x) [.yield (H.n + 1)] = some (.enter g args h')) {c' : ACfg}
  (ha : apply E { fr with todo := .inRange (H.n + 1) :: k, defers := .coll H.n :: fr.defers } callers (.enter g args h') = some c') :
  Follows E σ own cs ⟨fr.fn, t, .code (.rangeFunc x params assign body) :: k', d, .run, kd, none⟩ ccs w c' := by
 have hn0 := hs.hr.none_of_ge (Nat.le_refl H.n)
 have h1 : HR (upd ρ H.n ⟨w.heap.size, 0, 0⟩) σ own (H.new (.dfr (some []))) (w.alloc (.deferred (some []))) := hs.hr.new _ (hown _ (Nat.le_refl _)) (.dfr .nil)
 have le1 : Map.le ρ (upd ρ H.n ⟨w.heap.size, 0, 0⟩) := upd_le hn0
 have hsz : ∀ (w : World) (o : Obj), (w.alloc o).heap.size = w.heap.size + 1 := fun w o => Array.size_push _
 have hn1 := h1.none_of_ge (Nat.le_refl (H.n + 1))
 have htl : VRs ρ σ fr.tmps t.toList := VRs.of_get (by simpa using ht.1) (fun i a hi => by
  obtain ⟨v, g1, g2⟩ := ht.2 i a hi (fun hh => hh)
  exact ⟨v, by simpa using g1, g2⟩)
 have h2 := h1.new (.loop .ready none fr.fn fr.tmps params assign body H.n) (n := 0) (o := .loop { state := .ready, pending := none, fn := fr.fn, tmps := t.toList.toArray, params, assign, body, defers := w.heap.size }) (by rw [hsz]; exact hown _ (Nat.le_succ _))
  (.loop (y := ⟨w.heap.size, 0, 0⟩) ((htl.mono le1).mono (upd_le hn1)) (upd_le hn1 _ _ (upd_self _ _ _)))
 rw [hsz] at h2
 have le2 := upd_le (x := ⟨w.heap.size + 1, 0, 0⟩) hn1
 have hle := le1.trans le2
 have hkp : Kp own w ((w.alloc (.deferred (some []))).alloc (.loop { state := .ready, pending := none, fn := fr.fn, tmps := t.toList.toArray, params, assign, body, defers := w.heap.size })) := (Kp.alloc _ _ _).trans (Kp.alloc _ _ _)
 have hev : VR (upd (upd ρ H.n ⟨w.heap.size, 0, 0⟩) (H.n + 1) ⟨w.heap.size + 1, 0, 0⟩) σ (evA E.glob fr.tmps x) (evC t x) := (ev_ok hs.glob ht x (fun _ _ hh => hh)).mono hle
 have hyl : VRs (upd (upd ρ H.n ⟨w.heap.size, 0, 0⟩) (H.n + 1) ⟨w.heap.size + 1, 0, 0⟩) σ [.yield (H.n + 1)] [.func (.yield (w.heap.size + 1)) #[] #[]] := .cons (.yield (x := ⟨w.heap.size + 1, 0, 0⟩) (upd_self _ _ _)) .nil
 obtain ⟨rfl, args', g1, g2⟩ := callA_ok hE h2 (fun k hk => hown k (by
  rw [hsz, hsz] at hk
  omega)) hc hev hyl
 simp only [apply] at ha
 cases hf : enterA E g args false with
 | none => rw [hf] at ha; cases ha
 | some fr' =>
  rw [hf] at ha
  cases ha
  refine ⟨_, _, _, Steps.one (s_rangeFunc g2), ⟨_, [], qs, ⟨h2, enter_ok hE hf g1, ?_, hs.nodup, fun b hb => ?_, hs.glob.mono hle⟩⟩, hkp⟩
  ·refine FRs.cons (q := []) ⟨rfl, ?_, hs.top.kind, ?_, .cons (.coll (le2 _ _ (upd_self _ _ _))) (hs.top.defers.mono hle), _, .plain (.cons (.inRange (x := ⟨w.heap.size + 1, 0, 0⟩) (upd_self _ _ _)) (hk.mono hle)), ht.mono hle⟩ (hs.rest.mono hle)
   ·simp [hr]
   ·rw [hro]; exact .none
  ·have := hs.none b hb
   refine ⟨?_, Nat.lt_succ_of_lt (Nat.lt_succ_of_lt this.2)⟩
   have hlt : b < H.n := this.2
   simp only [upd]
   rw [if_neg, if_neg]
   ·exact this.1
   ·omega
   ·show b ≠ H.n + 1
    omega

theorem code_ok (hE : E.Ok σ) (hown : ∀ k, w.heap.size ≤ k → own k) {q qs : List Nat} {fr : AFrame} {callers : List AFrame} {H : AHeap} {fr' : Frame} {ccs : List Frame} (hs : SimAt E ρ σ own cs q qs ⟨fr, callers, H⟩ fr' ccs w) (hr : fr.ret = false)
  {cd : Code} {k : List AItem} (htd : fr.todo = .code cd :: k) {c' : ACfg} (hc : stepCode E ⟨fr, callers, H⟩ cd k = some c') : Follows E σ own cs fr' ccs w c' := by
 obtain ⟨f, t, todo, d, m, kd, ro⟩ := fr'
 obtain ⟨ex, hto, htr⟩ := hs.top.todo
 have hmode := hs.top.mode
 rw [hr] at hmode
 simp only [Bool.false_eq_true, if_false] at hmode
 subst hmode
 simp only at hto htr
 rw [htd] at hto
 cases hto with
 | plain hto =>
 cases hto with
 | cons hi hk =>
 cases hi
 rename_i k'
 have go : ∀ {l : List AItem} {todo' : List Item} {c1 : ACfg}, some (⟨{ fr with todo := l }, callers, H⟩ : ACfg) = some c1 → TodoR ρ [] (fun _ => False) l todo' → step E.P (lone ⟨f, t, .code cd :: k', d, .run, kd, ro⟩ ccs w) = .next (lone ⟨f, t, todo', d, .run, kd, ro⟩ ccs w) →
   Follows E σ own cs ⟨f, t, .code cd :: k', d, .run, kd, ro⟩ ccs w c1 := fun e hl hst => by cases e; exact goes hs htr hl hst
 unfold stepCode at hc
 cases cd with
 | ret => exact leave_ok hs hr (.inr (.inl ⟨_, rfl, rfl⟩)) hc
 | skip => exact go hc (.plain hk) s_skip
 | label l => exact go hc (.plain hk) s_label
 | seq a b => exact go hc (.plain (.cons (.code _) (.cons (.code _) hk))) s_seq
 | cond x a b =>
  simp only at hc
  split at hc
  ·rename_i bb hx
   have := ev_ok hs.glob htr x (fun _ _ hh => hh)
   rw [hx] at this
   have hxx : evC t x = .bool bb := this.at_inv
   exact go hc (.plain (.cons (.code _) hk)) (s_cond hxx)
  ·cases hc
 | block id b => exact go hc (.plain (.cons (.code _) (.cons (.inBlock _) hk))) s_block
 | loop b => exact go hc (.plain (.cons (.code _) (.cons (.inLoop _) hk))) s_loop
 | scope b => exact go hc (.plain (.cons (.code _) (.cons (.inScope _) hk))) s_scope
 | exit id =>
  simp only at hc
  obtain ⟨e1, e2⟩ := exitTo_ok (id := id) hk
  cases hx : exitToA id k with
  | some l =>
   rw [hx] at hc
   obtain ⟨l', g1, g2⟩ := e1 l hx
   exact go hc (.plain g2) (s_exit g1)
  | none =>
   rw [hx] at hc
   exact leave_ok hs hr (.inr (.inr (.inl ⟨_, _, rfl, e2 hx, rfl⟩))) hc
 | goto id =>
  simp only at hc
  obtain ⟨e1, e2⟩ := gotoIn_ok (lb := id) hk
  cases hx : gotoInA id k with
  | some l =>
   rw [hx] at hc
   obtain ⟨l', g1, g2⟩ := e1 l hx
   exact go hc (.plain g2) (s_goto g1)
  | none =>
   rw [hx] at hc
   exact leave_ok hs hr (.inr (.inr (.inr ⟨_, _, rfl, e2 hx, rfl⟩))) hc
 | region id ops draw =>
  cases draw with
  | false =>
   refine go hc (.ops (k := 0) (by simp) hk) ?_
   rw [s_region, Nat.sub_zero, ← List.range_eq_range']
  | true =>
   simp only at hc
   cases htp : topoL ops.toList 0 with
   | false => rw [htp] at hc; cases hc
   | true =>
    rw [htp] at hc
    simp only [cond_true, Option.some.injEq] at hc
    subst hc
    have hsc := sched_lin htp (w.tape w.drawn (.order f id))
    have hst0 : ∀ i, stAt (List.replicate ops.size 0) i = 0 := fun i => by
     unfold stAt
     rw [List.getElem?_replicate]
     split <;> simp_all
    have hq : qOf [] (Region.schedule true ops (w.tape w.drawn (.order f id))) = [] := rfl
    refine ⟨_, _, _, Steps.one s_regionDraw, ⟨ρ, [], qs, ⟨hs.hr.drawn _, ⟨hs.top.fn, hs.top.mode, hs.top.kind, hs.top.round, hs.top.defers, exOf ops (List.replicate ops.size 0) (Region.schedule true ops (w.tape w.drawn (.order f id))), ?_, ?_⟩, hs.rest, hs.nodup, hs.none, hs.glob⟩⟩, Kp.drawn _ _ _⟩
    ·rw [hE.mixed]
     refine TodoR.any (al := []) ⟨by simp, hsc.1, fun i hi hn => absurd ((hsc.2 i).2 hi) hn, fun i _ => by rw [hst0]; omega, fun i o ho hn => absurd ((hsc.2 i).2 (Array.getElem?_eq_some_iff.1 ho).1) hn, htp⟩ trivial hk
    ·exact ⟨htr.1, fun i a hi _ => htr.2 i a hi (fun hh => hh)⟩
 | rangeFunc x params assign body =>
  simp only at hc
  split at hc
  ·rename_i hro
   split at hc
   ·rename_i g args h' hcall
    have hround := hs.top.round
    simp only at hround
    rw [hro] at hround
    obtain ⟨rfl⟩ : ro = none := by cases hround; rfl
    have hfn := hs.top.fn
    simp only at hfn
    subst hfn
    exact range_ok hE hown hs hr hro htr hk hcall hc
   ·cases hc
  ·cases hc
 | refuse r => cases hc
end
end Go.Eng
namespace Go.Eng
open Go

section
variable {ρ : Map} {σ : Tok → Value} {own : Nat → Prop} {w : World} {E : Env} {cs : List Frame}

/-- an operation that is not wanted -/
theorem skip_ok {q qs : List Nat} {fr : AFrame} {callers : List AFrame} {H : AHeap} {f : FuncId} {t : Array Value} {all : Array Oper} {i : Nat} {b : List Nat} {k : List Item} {d : List Deferred} {kd : CallKind} {ro : Option Nat}
  {ccs : List Frame} (hs : SimAt E ρ σ own cs q qs ⟨fr, callers, H⟩ ⟨f, t, .inRegion all (i :: b) :: k, d, .run, kd, ro⟩ ccs w) {o : Oper} (ho : all[i]? = some o) (hw : Region.wanted o (yielded all t) = false) {fr' : AFrame}
  (hf : finishA fr undefA = some fr') : Follows E σ own cs ⟨f, t, .inRegion all (i :: b) :: k, d, .run, kd, ro⟩ ccs w ⟨fr', callers, H⟩ := by
 obtain ⟨q', f1, f2, f3⟩ := finish_ok hs.top hf (v' := undef) (.tup .nil)
 rw [finish_region] at f1
 have hnd := hs.nodup
 rw [List.nodup_append] at hnd
 refine ⟨_, ccs, w, Steps.one (s_opSkip ho hw), ⟨ρ, q', qs, ⟨hs.hr, f1, hs.rest, ?_, fun x hx => hs.none x ?_, hs.glob⟩⟩, Kp.refl _ _⟩
 ·rw [List.nodup_append]
  exact ⟨f3 hnd.1, hnd.2.1, fun x hx y hy => hnd.2.2 x (f2 x hx) y hy⟩
 ·rcases List.mem_append.1 hx with hx | hx
  ·exact List.mem_append_left _ (f2 x hx)
  ·exact List.mem_append_right _ hx

theorem pass_sp {all : Array Oper} : ∀ (l : List Oper) (i : Nat) (p p' : Pass), p.st.length = all.size → l = all.toList.drop i → (∀ j, p.sp = some j → j < i ∧ stAt p.st j = 0) → pass E all l i p = some p' → ∀ j, p'.sp = some j → stAt p'.st j = 0 := by
 intro l
 induction l with
 | nil => intro i p p' _ _ h hp j hj; simp only [pass, Option.some.injEq] at hp; subst hp; exact (h j hj).2
 | cons o l ih =>
  intro i p p' hlen hl h hp
  have hl' : l = all.toList.drop (i + 1) := by
   rw [show all.toList.drop (i + 1) = (all.toList.drop i).drop 1 by rw [List.drop_drop], ← hl]; rfl
  have hi : i < p.st.length := by
   have : (all.toList.drop i)[0]? = some o := by rw [← hl]; rfl
   rw [List.getElem?_drop] at this
   have := (List.getElem?_eq_some_iff.1 this).1
   rw [hlen]; simpa using this
  have up : ∀ (p1 : Pass), pass E all l (i + 1) p1 = some p' → p1.sp = p.sp → p1.st = p.st.set i 1 → ∀ j, p'.sp = some j → stAt p'.st j = 0 := fun p1 hp1 e1 e2 => by
   refine ih (i + 1) p1 p' (by rw [e2]; simpa using hlen) hl' (fun j hj => ?_) hp1
   obtain ⟨h1, h2⟩ := h j (by rw [← e1]; exact hj)
   exact ⟨by omega, by rw [e2, stAt_set hi, if_neg (by omega)]; exact h2⟩
  simp only [pass] at hp
  cases hb : (Nat.beq (stAt p.st i) 0 && readyA p.st o.after.toList) with
  | false =>
   rw [hb] at hp
   exact ih (i + 1) p p' hlen hl' (fun j hj => let ⟨h1, h2⟩ := h j hj; ⟨by omega, h2⟩) hp
  | true =>
   rw [hb] at hp
   rw [Bool.and_eq_true] at hb
   have h0 := Nat.eq_of_beq_eq_true hb.1
   simp only [cond_true] at hp
   split at hp
   ·split at hp
    ·split at hp
     ·exact up _ hp rfl rfl
     ·cases hp
    ·exact up _ hp rfl rfl
    ·cases hp
   ·split at hp
    ·split at hp
     ·exact up _ hp rfl rfl
     ·cases hp
    ·exact up _ hp rfl rfl
    ·cases hp
   ·split at hp
    ·rename_i hsp
     refine ih (i + 1) { p with sp := some i } p' hlen hl' (fun j hj => ?_) hp
     simp only [Option.some.injEq] at hj
     subst hj
     exact ⟨by omega, h0⟩
    ·cases hp

theorem allDone_get : ∀ {l : List Nat}, allDone l = true → ∀ i, i < l.length → stAt l i ≠ 0
 | 0 :: _, h, _, _ => by cases h
 | (n + 1) :: l, h, i, hi => by
  cases i with
  | zero => simp [stAt]
  | succ i =>
   have := allDone_get (l := l) h i (by simpa using hi)
   simpa [stAt] using this

theorem any_ok (hE : E.Ok σ) (hown : ∀ k, w.heap.size ≤ k → own k) {q qs : List Nat} {fr : AFrame} {callers : List AFrame} {H : AHeap} {fr' : Frame} {ccs : List Frame} (hs : SimAt E ρ σ own cs q qs ⟨fr, callers, H⟩ fr' ccs w) (hr : fr.ret = false)
  {all : Array Oper} {st : List Nat} {al : List (Nat × Nat)} {k : List AItem} (htd : fr.todo = .any all st al none :: k) {c' : ACfg} (hc : stepAny E ⟨fr, callers, H⟩ all st al k = some c') : Follows E σ own cs fr' ccs w c' := by
 obtain ⟨f, t, todo, d, m, kd, ro⟩ := fr'
 obtain ⟨ex, hto, htr⟩ := hs.top.todo
 have hmode := hs.top.mode
 rw [hr] at hmode
 simp only [Bool.false_eq_true, if_false] at hmode
 subst hmode
 simp only at hto htr
 rw [htd] at hto
 generalize hqq : q = qq at hto
 cases hto with
 | plain hto => cases hto with
  | cons hi _ => cases hi
 | @any _ _ _ _ todo _ k' hany hw hk =>
 subst hqq
 have hp0 : PassOk ρ σ own w all todo qs t ⟨H, fr.tmps, st, al, none⟩ := ⟨hany, htr, hs.hr, hs.nodup, hs.none⟩
 unfold stepAny at hc
 simp only at hc
 cases hp : pass E all all.toList 0 ⟨H, fr.tmps, st, al, none⟩ with
 | none => rw [hp] at hc; cases hc
 | some p =>
 rw [hp] at hc
 simp only at hc
 cases ha : again E all p all.toList 0 with
 | false => rw [ha] at hc; cases hc
 | true =>
 rw [ha] at hc
 simp only [cond_true] at hc
 have hp1 : PassOk ρ σ own w all todo qs t p := pass_ok _ 0 _ p (by simp) hp0 hp
 have hsp0 := pass_sp all.toList 0 _ p hany.len (by simp) (fun j hj => by cases hj) hp
 obtain ⟨ρ', w', t', todo', r1, r2, r3, r4, r5⟩ := run_pend (f := f) (d := d) (kd := kd) (ro := ro) (k := k') (cs := ccs) hE hown ha todo ρ w t hown hs.glob hp1
 have hown' : ∀ k, w'.heap.size ≤ k → own k := fun k hk => hown k (Nat.le_trans r4.size hk)
 have after : ∀ {c1 : ACfg}, Follows E σ own cs ⟨f, t', .inRegion all todo' :: k', d, .run, kd, ro⟩ ccs w' c1 → Follows E σ own cs ⟨f, t, .inRegion all todo :: k', d, .run, kd, ro⟩ ccs w c1 := fun ⟨fr2, ccs2, w2, g1, g2, g3⟩ => ⟨fr2, ccs2, w2, r1.trans g1, g2, r4.trans g3⟩
 have hmode := hs.top.mode
 have nd : ∀ {q' : List Nat}, True → qs.Nodup := fun _ => by have := r2.nodup; rw [List.nodup_append] at this; exact this.2.1
 cases hsp : p.sp with
 | none =>
  rw [hsp] at hc
  simp only at hc
  cases had : allDone p.st with
  | false => rw [had] at hc; cases hc
  | true =>
   rw [had] at hc
   simp only [cond_true, Option.some.injEq] at hc
   subst hc
   rcases r5 with rfl | ⟨i, b, rfl, hs0⟩
   ·refine after ⟨_, _, w', Steps.one s_regionEnd, ⟨ρ', [], qs, ⟨r2.hr, ⟨hs.top.fn, hs.top.mode, hs.top.kind, hs.top.round.mono r3, hs.top.defers.mono r3, _, .plain (hk.mono r3), r2.tr.1, fun j a hj _ => r2.tr.2 j a hj (fun ⟨x, x1, _⟩ => by cases x1)⟩, hs.rest.mono r3, nd (q' := []) trivial, fun b hb => r2.none b (List.mem_append_right _ hb), hs.glob.mono r3⟩⟩, Kp.refl _ _⟩
   ·exact absurd hs0 (allDone_get had i (by rw [r2.any.len]; exact r2.any.lin.1))
 | some i0 =>
  rw [hsp] at hc
  simp only at hc
  cases ho : all[i0]? with
  | none => rw [ho] at hc; cases hc
  | some o =>
  rw [ho] at hc
  simp only at hc
  cases hdeps : depsOk (opTmps o all) o.after.toList all.toList 0 i0 with
  | false => rw [hdeps] at hc; cases hc
  | true =>
  rw [hdeps] at hc
  simp only [cond_true] at hc
  have hi0 : i0 < all.size := (Array.getElem?_eq_some_iff.1 ho).1
  have hhead : ∃ b, todo' = i0 :: b := by
   rcases r5 with rfl | ⟨i, b, rfl, hs0⟩
   ·exact absurd (hsp0 i0 hsp) (r2.any.done i0 hi0 (by simp))
   ·refine ⟨b, ?_⟩
    obtain ⟨hi, hib, hlin, _⟩ := r2.any.lin
    obtain ⟨oi, hoi⟩ := r2.any.lin.head_lt
    have hat := again_get ha i oi (by simpa using hoi)
    rw [Nat.zero_add] at hat
    unfold AgainAt at hat
    rw [hs0, hsp] at hat
    simp only [Bool.or_eq_true, Bool.not_eq_true'] at hat
    rcases hat with hat | hat
    ·exfalso
     unfold readyA at hat
     rw [List.all_eq_false] at hat
     obtain ⟨e, he, hne⟩ := hat
     simp only [Bool.or_eq_true, Bool.not_eq_true', not_or, Bool.not_eq_true, Bool.not_eq_false] at hne
     have hlt := topo_get r2.any.topo i oi (by simpa using hoi) e (by simpa using he) hne.1
     exact r2.any.done e.on (by omega) (hlin oi hoi e (by simpa using he) hne.1) (Nat.eq_of_beq_eq_true hne.2)
    ·rw [Nat.eq_of_beq_eq_true hat]
  obtain ⟨b, rfl⟩ := hhead
  have hs0 := hsp0 i0 hsp
  have hfree := head_free r2 ha ho hdeps (fun h1 => by omega)
  have hsim : SimAt E ρ' σ own cs (qOf p.al (i0 :: b)) qs ⟨{ fr with tmps := p.t, todo := .any all p.st p.al (some i0) :: k }, callers, p.h⟩ ⟨f, t', .inRegion all (i0 :: b) :: k', d, .run, kd, ro⟩ ccs w' :=
   ⟨r2.hr, ⟨hs.top.fn, hs.top.mode, hs.top.kind, hs.top.round.mono r3, hs.top.defers.mono r3, _, .any r2.any ⟨b, rfl, hs0⟩ (hk.mono r3), r2.tr⟩, hs.rest.mono r3, r2.nodup, r2.none, hs.glob.mono r3⟩
  cases hwant : wantedA all p.t o with
  | none => rw [hwant] at hc; cases hc
  | some bb =>
  have hw := wanted_ok r2.tr hfree hwant
  rw [hwant] at hc
  cases bb with
  | true =>
   simp only at hc
   cases haop : aop E p.h (evA E.glob p.t) o.op with
   | none => rw [haop] at hc; cases hc
   | some n =>
    rw [haop] at hc
    simp only at hc
    obtain ⟨n1, n2⟩ := aop_ok hE r2.hr hown' (o := o) (cv := evC t') (fun x hx => ev_ok (hs.glob.mono r3) r2.tr x fun j hj => hfree j (operand_mem (by rw [← hj]; exact hx))) haop
    exact after (apply_ok hE hown' hsim ho hw n1 n2 hc)
  | false =>
   simp only at hc
   cases hf : finishA { fr with tmps := p.t, todo := .any all p.st p.al (some i0) :: k } undefA with
   | none => rw [hf] at hc; cases hc
   | some fr2 =>
    rw [hf] at hc
    simp only [Option.some.injEq] at hc
    subst hc
    exact after (skip_ok hsim ho hw hf)
end
end Go.Eng
namespace Go.Eng
open Go

section
variable {ρ : Map} {σ : Tok → Value} {own : Nat → Prop} {w : World} {E : Env} {cs : List Frame}

theorem Follows.of_nodup {q qs : List Nat} {c : ACfg} {fr' : Frame} {ccs : List Frame} (hs : SimAt E ρ σ own cs q qs c fr' ccs w) : qs.Nodup ∧ ∀ b, b ∈ qs → ρ b = none ∧ b < c.h.n :=
 ⟨by have := hs.nodup; rw [List.nodup_append] at this; exact this.2.1, fun b hb => hs.none b (List.mem_append_right _ hb)⟩

theorem astep_ok (hE : E.Ok σ) (hown : ∀ k, w.heap.size ≤ k → own k) {q qs : List Nat} {c c' : ACfg} {fr' : Frame} {ccs : List Frame} (hs : SimAt E ρ σ own cs q qs c fr' ccs w) (hc : astep E c = some c') : Follows E σ own cs fr' ccs w c' := by
 obtain ⟨fr, callers, H⟩ := c
 obtain ⟨hnd, hno⟩ := Follows.of_nodup hs
 unfold astep at hc
 simp only at hc
 cases hr : fr.ret with
 | true =>
  rw [hr] at hc
  simp only at hc
  obtain ⟨f, t, todo, d, m, kd, ro⟩ := fr'
  have hmode := hs.top.mode
  have hd := hs.top.defers
  have hkind := hs.top.kind
  have hfn := hs.top.fn
  simp only at hmode hd hkind hfn
  rw [hr] at hmode
  simp only [if_true] at hmode
  subst hmode
  subst hfn
  cases hdd : fr.defers with
  | nil =>
   rw [hdd] at hd
   cases hd
   rw [hdd] at hc
   simp only at hc
   cases hf : E.fn fr.fn with
   | none => rw [hf] at hc; cases hc
   | some fn =>
    rw [hf] at hc
    simp only at hc
    cases hna : noAny fr.todo with
    | false => rw [hna] at hc; cases hc
    | true =>
    rw [hna] at hc
    simp only [cond_true] at hc
    cases hv : resultsA E H fn fr.tmps with
    | none => rw [hv] at hc; cases hc
    | some v =>
     rw [hv] at hc
     simp only at hc
     obtain ⟨ex, hto, htr⟩ := hs.top.todo
     simp only at hto htr
     have hfull : ∀ (i : Nat) a, fr.tmps[i]? = some a → ∃ v, t[i]? = some v ∧ VR ρ σ a v := fun i a hi => by
      refine htr.2 i a hi fun hx => ?_
      generalize hq : fr.todo = ft at hto hna
      cases hto with
      | plain _ => exact hx
      | ops _ _ => exact hx
      | any _ _ _ => cases hna
     obtain ⟨v', v1, v2⟩ := results_ok hE hs.hr hfull htr.1 hv
     have hP := hE.fn fr.fn fn hf
     refine return_ok (own := own) hs.rest hnd hno hs.glob hs.hr v2 (fun c l hcl => ⟨fun hdf => ?_, fun hdf hm => ?_⟩) (Kp.refl _ _) hc
     ·rw [hdf] at hkind
      simp only [Bool.false_eq_true, if_false] at hkind
      subst hkind; subst hcl
      exact s_return hP v1
     ·rw [hdf] at hkind
      simp only [if_true] at hkind
      subst hkind; subst hcl
      exact s_returnD hP v1 hm
  | cons df ds =>
   rw [hdd] at hd hc
   cases hd with
   | @cons _ d1 _ d2 h1 h2 =>
   cases h1 with
   | @call g a x cap hv =>
    simp only at hc
    cases he : enterA E g a true with
    | none => rw [he] at hc; cases hc
    | some fr2 =>
     rw [he] at hc
     simp only [Option.some.injEq] at hc
     subst hc
     have hinv : (invoke (.fn (.func g) cap.toArray) x.toArray).run E.P w = .ok (.enter g (x ++ cap).toArray) w := by
      unfold enterA at he
      cases hfn : E.fn g with
      | none => rw [hfn] at he; cases he
      | some fn =>
       rw [hfn] at he
       simp only at he
       cases hb : fn.body with
       | none => rw [hb] at he; cases he
       | some body =>
        have e1 := hE.fn g fn hfn
        have e3 := hE.name g fn body e1 hb
        simp only [invoke, callFunc, Sem.run_bind, Sem.run_pure, Result.andThen_ok, run_program, e1, hb, e3, Bool.false_eq_true, if_false, Option.isNone_some, List.append_toArray]
     have h3 := enter_ok hE he hv
     simp only [if_true] at h3
     refine ⟨_, _, w, Steps.one (s_deferCall (by intro r; simp) hinv), ⟨ρ, [], q ++ qs, ⟨hs.hr, h3, .cons ⟨rfl, ?_, hs.top.kind, hs.top.round, h2, hs.top.todo⟩ hs.rest, hs.nodup, hs.none, hs.glob⟩⟩, Kp.refl _ _⟩
     simp [hr]
   | @coll b x hx =>
    simp only at hc
    split at hc
    ·rename_i l hgl
     simp only [Option.some.injEq] at hc
     subst hc
     obtain ⟨ob, o1, o2⟩ := hs.hr.obj b _ x hgl hx
     cases o2 with
     | @dfr _ l' _ hl =>
     have hown1 : own x.r := hs.hr.own b _ x hgl hx (.inl rfl)
     refine ⟨_, _, _, Steps.one (s_deferColl o1), ⟨ρ, q, qs, ⟨hs.hr.turn hgl hx rfl (fun _ => .inl rfl) .dfr0, ⟨rfl, ?_, hs.top.kind, hs.top.round, hl.append h2, hs.top.todo⟩, hs.rest, hs.nodup, hs.none, hs.glob⟩⟩, Kp.setO _ _ _ hown1⟩
     simp [hr]
    ·cases hc
 | false =>
  obtain ⟨afn, atmps, atodo, adefers, aret, adfd, around⟩ := fr
  simp only at hr
  subst hr
  simp only at hc
  obtain ⟨f, t, todo, d, m, kd, ro⟩ := fr'
  have hmode := hs.top.mode
  simp only [Bool.false_eq_true, if_false] at hmode
  subst hmode
  obtain ⟨ex, hto, htr⟩ := hs.top.todo
  simp only at hto htr
  cases atodo with
  | nil =>
   simp only at hc
   cases hto with
   | plain h1 =>
   cases h1
   exact leave_ok hs rfl (.inl ⟨rfl, rfl⟩) hc
  | cons it k =>
   cases it with
   | code cd => exact code_ok hE hown hs rfl rfl hc
   | inBlock id =>
    cases hto with
    | plain h1 =>
    cases h1 with
    | cons hi hk =>
    cases hi
    simp only [Option.some.injEq] at hc
    subst hc
    exact goes hs htr (.plain hk) s_inBlock
   | inScope cd =>
    cases hto with
    | plain h1 =>
    cases h1 with
    | cons hi hk =>
    cases hi
    simp only [Option.some.injEq] at hc
    subst hc
    exact goes hs htr (.plain hk) s_inScope
   | inLoop cd =>
    cases hto with
    | plain h1 =>
    cases h1 with
    | cons hi hk =>
    cases hi
    simp only [Option.some.injEq] at hc
    subst hc
    exact goes hs htr (.plain (.cons (.code _) (.cons (.inLoop _) hk))) s_inLoop
   | inRange b => cases hc
   | beginRound =>
    cases hto with
    | plain h1 =>
    cases h1 with
    | cons hi hk =>
    cases hi
    simp only at hc
    split at hc
    ·rename_i l
     split at hc
     ·rename_i pend fn tmps params assign body dd hgl
      simp only [Option.some.injEq] at hc
      subst hc
      have hround := hs.top.round
      simp only at hround
      cases hround with
      | @some _ x hx =>
      obtain ⟨ob, o1, o2⟩ := hs.hr.obj l _ x hgl hx
      cases o2 with
      | @loop _ _ _ _ tmps' _ _ _ _ _ y ht hy =>
      have hown1 : own x.r := hs.hr.own l _ x hgl hx (.inl rfl)
      exact ⟨_, _, _, Steps.one (s_beginRound o1 rfl), ⟨ρ, [], qs, ⟨hs.hr.turn hgl hx rfl (fun _ => .inl rfl) (.loop ht hy), ⟨hs.top.fn, hs.top.mode, hs.top.kind, hs.top.round, hs.top.defers, _, .plain hk, htr⟩, hs.rest, hnd, hno, hs.glob⟩⟩, Kp.setO _ _ _ hown1⟩
     ·cases hc
    ·cases hc
   | endRange l =>
    cases hto with
    | plain h1 =>
    cases h1 with
    | @cons _ _ _ k2 hi hk =>
    cases hi with
    | @endRange _ x hx =>
    simp only at hc
    split at hc
    ·rename_i st pend fn tmps params assign body dd hgl
     obtain ⟨ob, o1, o2⟩ := hs.hr.obj l _ x hgl hx
     cases o2 with
     | @loop _ _ _ _ tmps' _ _ _ _ _ y ht hy =>
     have hown1 : own x.r := hs.hr.own l _ x hgl hx (.inl rfl)
     have fin : ∀ {k1 : List AItem}, TodoR ρ [] (fun _ => False) k1 ((pend.map Item.code).toList ++ k2) → st ≠ .busy → some (⟨⟨afn, atmps, k1, adefers, false, adfd, around⟩, callers, H.put l (.loop .exhausted pend fn tmps params assign body dd)⟩ : ACfg) = some c' →
       Follows E σ own cs ⟨f, t, .endRangeFunc x.r :: k2, d, .run, kd, ro⟩ ccs w c' := fun {k1} hk1 hb1 e => by
      cases e
      exact ⟨_, _, _, Steps.one (s_endRange o1 hb1), ⟨ρ, [], qs, ⟨hs.hr.turn hgl hx rfl (fun _ => .inl rfl) (.loop ht hy), ⟨hs.top.fn, hs.top.mode, hs.top.kind, hs.top.round, hs.top.defers, _, hk1, htr⟩, hs.rest, hnd, hno, hs.glob⟩⟩, Kp.setO _ _ _ hown1⟩
     cases pend with
     | none => cases st <;> first | (cases hc; done) | exact fin (.plain hk) (by simp) hc
     | some j => cases st <;> first | (cases hc; done) | exact fin (.plain (.cons (.code _) hk)) (by simp) hc
    ·cases hc
   | ops l all =>
    cases hto with
    | plain h1 => cases h1 with
     | cons hi _ => cases hi
    | @ops _ kk _ _ k' hl hk =>
    cases l with
    | nil =>
     simp only [Option.some.injEq] at hc
     subst hc
     have hz : all.size - kk = 0 := by
      have := congrArg List.length hl
      simp at this
      omega
     rw [hz] at hs ⊢
     exact goes hs htr (.plain hk) s_regionEnd
    | cons o os =>
     have hget : all[kk]? = some o := by
      have : (all.toList.drop kk)[0]? = some o := by rw [← hl]; rfl
      simpa using this
     have hlt : kk < all.size := (Array.getElem?_eq_some_iff.1 hget).1
     have hrange : List.range' kk (all.size - kk) = kk :: List.range' (kk + 1) (all.size - (kk + 1)) := by
      rw [show all.size - kk = (all.size - (kk + 1)) + 1 by omega]
      rfl
     rw [hrange] at hs ⊢
     simp only at hc
     cases hwant : wantedA all atmps o with
     | none => rw [hwant] at hc; cases hc
     | some bb =>
     have hw := wanted_ok htr (o := o) (fun _ _ hh => hh) hwant
     rw [hwant] at hc
     cases bb with
     | true =>
      simp only at hc
      cases haop : aop E H (evA E.glob atmps) o.op with
      | none => rw [haop] at hc; cases hc
      | some n =>
       rw [haop] at hc
       simp only at hc
       obtain ⟨n1, n2⟩ := aop_ok hE hs.hr hown (o := o) (cv := evC t) (fun x _ => ev_ok hs.glob htr x fun _ _ hh => hh) haop
       exact apply_ok hE hown hs hget hw n1 n2 hc
     | false =>
      simp only at hc
      cases hf : finishA ⟨afn, atmps, .ops (o :: os) all :: k, adefers, false, adfd, around⟩ undefA with
      | none => rw [hf] at hc; cases hc
      | some fr2 =>
       rw [hf] at hc
       simp only [Option.some.injEq] at hc
       subst hc
       exact skip_ok hs hget hw hf
   | any all st al wt =>
    cases wt with
    | some i => cases hc
    | none => exact any_ok hE hown hs rfl rfl hc

theorem run_ok (hE : E.Ok σ) : ∀ (n : Nat) (w : World), (∀ k, w.heap.size ≤ k → own k) → ∀ {c c' : ACfg} {fr' : Frame} {ccs : List Frame}, Sim E σ own cs c fr' ccs w → run E n c = some c' → Follows E σ own cs fr' ccs w c'
 | 0, w, hown, c, c', fr', ccs, hs, hc => by
  simp only [run, Option.some.injEq] at hc
  subst hc
  exact ⟨_, _, w, Steps.refl _ _, hs, Kp.refl _ _⟩
 | n + 1, w, hown, c, c', fr', ccs, hs, hc => by
  simp only [run] at hc
  cases he : ended c with
  | true =>
   rw [he] at hc
   simp only [cond_true, Option.some.injEq] at hc
   subst hc
   exact ⟨_, _, w, Steps.refl _ _, hs, Kp.refl _ _⟩
  | false =>
   rw [he] at hc
   simp only [cond_false] at hc
   cases h1 : astep E c with
   | none => rw [h1] at hc; cases hc
   | some c1 =>
    rw [h1] at hc
    obtain ⟨ρ, q, qs, hs⟩ := hs
    obtain ⟨fr1, ccs1, w1, g1, g2, g3⟩ := astep_ok hE hown hs h1
    obtain ⟨fr2, ccs2, w2, k1, k2, k3⟩ := run_ok hE n w1 (fun k hk => hown k (Nat.le_trans g3.size hk)) g2 hc
    exact ⟨fr2, ccs2, w2, g1.trans k1, k2, g3.trans k3⟩
end
end Go.Eng
namespace Go.Eng
open Go

section
variable {ρ : Map} {σ : Tok → Value} {own : Nat → Prop} {w : World} {E : Env} {cs : List Frame}

inductive Runs (E : Env) : ACfg → ACfg → Prop
 | refl (c : ACfg) : Runs E c c
 | run (n : Nat) {c c1 c2 : ACfg} : run E n c = some c1 → Runs E c1 c2 → Runs E c c2
 | keep (bs : List Nat) {c c2 : ACfg} : Runs E (keep c bs) c2 → Runs E c c2

theorem keepT_get (t : Tr AObj) : ∀ (bs : List Nat) (m : Nat) (a : AObj), (keepT t bs).get m = some a → t.get m = some a
 | [], m, a, h => by cases h
 | b :: bs, m, a, h => by
  simp only [keepT] at h
  split at h
  ·rename_i o ho
   rw [Tr.get_set o _ _ _ _ (Nat.lt_succ_self b)] at h
   split at h
   ·rename_i he
    cases h
    rw [he]; exact ho
   ·exact keepT_get t bs m a h
  ·exact keepT_get t bs m a h

theorem Sim.keep {c : ACfg} {fr : Frame} {ccs : List Frame} (hs : Sim E σ own cs c fr ccs w) (bs : List Nat) : Sim E σ own cs (keep c bs) fr ccs w := by
 obtain ⟨ρ, q, qs, h⟩ := hs
 exact ⟨ρ, q, qs, ⟨h.hr.sub rfl (fun b a hb => keepT_get c.h.t bs b a hb), h.top, h.rest, h.nodup, h.none, h.glob⟩⟩

theorem runs_ok (hE : E.Ok σ) {c c' : ACfg} (hr : Runs E c c') : ∀ {w : World} {fr : Frame} {ccs : List Frame}, (∀ k, w.heap.size ≤ k → own k) → Sim E σ own cs c fr ccs w → Follows E σ own cs fr ccs w c' := by
 induction hr with
 | refl c => intro w fr ccs _ hs; exact ⟨_, _, w, Steps.refl _ _, hs, Kp.refl _ _⟩
 | run n h1 _ ih =>
  intro w fr ccs hown hs
  obtain ⟨fr1, ccs1, w1, g1, g2, g3⟩ := run_ok hE n w hown hs h1
  obtain ⟨fr2, ccs2, w2, k1, k2, k3⟩ := ih (fun k hk => hown k (Nat.le_trans g3.size hk)) g2
  exact ⟨fr2, ccs2, w2, g1.trans k1, k2, g3.trans k3⟩
 | keep bs _ ih => intro w fr ccs hown hs; exact ih hown (hs.keep bs)

/-- what is kept of a run -/
def runK (E : Env) (n : Nat) (bs : List Nat) (c : ACfg) : Option ACfg := match run E n c with
 | some c1 => some (Go.Eng.keep c1 bs)
 | none => none

theorem Runs.runK {n : Nat} {bs : List Nat} {c c1 c2 : ACfg} (h : runK E n bs c = some c1) (h2 : Runs E c1 c2) : Runs E c c2 := by
 unfold Eng.runK at h
 cases hr : Eng.run E n c with
 | none => rw [hr] at h; cases h
 | some c3 =>
  rw [hr] at h
  cases h
  exact .run n hr (.keep bs h2)
theorem Runs.trans {c c1 c2 : ACfg} (h : Runs E c c1) (h2 : Runs E c1 c2) : Runs E c c2 := by
 induction h with
 | refl => exact h2
 | run n h1 _ ih => exact .run n h1 (ih h2)
 | keep bs _ ih => exact .keep bs (ih h2)

/-- what the lowest frame gives back, if that is all that is left -/
def endVal (E : Env) (f : FuncId) (c : ACfg) : Option AV :=
 bif ended c && (noAny c.fr.todo && (!c.fr.dfd && Nat.beq c.fr.fn f)) then (match E.fn f with
  | some fn => resultsA E c.h fn c.fr.tmps
  | none => none) else none

theorem calls_of_sim {σ' : Tok → Value} (hE : E.Ok σ) (hE' : E.Ok σ') {f : FuncId} {args : List AV} {args' : List Value} {H : AHeap} (ha : VRs ρ σ args args') (hr : HR ρ σ own H w) (hg : GlobOk E ρ)
  {fr : AFrame} (he : enterA E f args false = some fr) {c' : ACfg}
  (hrun : ∀ {cs : List Frame} {fr1 : Frame} {ccs : List Frame}, Sim E σ own cs ⟨fr, [], H⟩ fr1 ccs w → ∃ fr' ccs' w', Steps E.P (lone fr1 ccs w) (lone fr' ccs' w') ∧ Sim E σ' own cs c' fr' ccs' w' ∧ Kp own w w') {v : AV} (hv : endVal E f c' = some v) :
  Calls E.P f args'.toArray w fun e w' => ∃ v' ρ', e = .returned v' ∧ VR ρ' σ' v v' ∧ HR ρ' σ' own c'.h w' ∧ Kp own w w' := by
 intro cs
 have hs : Sim E σ own cs ⟨fr, [], H⟩ (Frame.enter E.P f args'.toArray .normal) cs w := ⟨ρ, [], [], hr, enter_ok hE he ha, .nil, List.nodup_nil, fun b hb => (by cases hb), hg⟩
 obtain ⟨fr1, ccs1, w1, g1, ⟨ρ1, q, qs, g2⟩, g3⟩ := hrun hs
 unfold endVal at hv
 cases hb : (ended c' && (noAny c'.fr.todo && (!c'.fr.dfd && Nat.beq c'.fr.fn f))) with
 | false => rw [hb] at hv; cases hv
 | true =>
  rw [hb] at hv
  simp only [Bool.and_eq_true, Bool.not_eq_true'] at hb
  obtain ⟨hend, hna, hdf, hfn⟩ := hb
  have hfn := Nat.eq_of_beq_eq_true hfn
  unfold ended at hend
  simp only [Bool.and_eq_true, List.isEmpty_iff] at hend
  obtain ⟨hret, hcal, hdef⟩ := hend
  simp only [cond_true] at hv
  cases hf : E.fn f with
  | none => rw [hf] at hv; cases hv
  | some fn =>
   rw [hf] at hv
   simp only at hv
   have hrest := g2.rest
   rw [hcal] at hrest
   generalize hccs : ccs1 = cc at hrest
   cases hrest
   obtain ⟨f1, t1, todo1, d1, m1, kd1, ro1⟩ := fr1
   obtain ⟨ex, hto, htr⟩ := g2.top.todo
   simp only at hto htr
   have hfull : ∀ (i : Nat) a, c'.fr.tmps[i]? = some a → ∃ v, t1[i]? = some v ∧ VR ρ1 σ' a v := fun i a hi => by
    refine htr.2 i a hi fun hx => ?_
    generalize hq : c'.fr.todo = ft at hto hna
    cases hto with
    | plain _ => exact hx
    | ops _ _ => exact hx
    | any _ _ _ => cases hna
   obtain ⟨v', v1, v2⟩ := results_ok hE' g2.hr hfull htr.1 hv
   have hmode := g2.top.mode
   have hkind := g2.top.kind
   have hdefs := g2.top.defers
   have hffn := g2.top.fn
   rw [hret] at hmode
   rw [hdf] at hkind
   rw [hdef] at hdefs
   simp only [if_true, Bool.false_eq_true, if_false] at hmode hkind hdefs hffn
   cases hdefs
   subst hmode; subst hkind; subst hccs
   refine ⟨.returned v', w1, _, ⟨v', ρ1, rfl, v2, g2.hr, g3⟩, g1, hffn.trans hfn, rfl, rfl, rfl, fn, ?_, v1⟩
   show E.P.funcs[f1]? = some fn
   rw [hffn.trans hfn]
   exact hE'.fn f fn hf

theorem calls_of_runs (hE : E.Ok σ) {f : FuncId} {args : List AV} {args' : List Value} {H : AHeap} (ha : VRs ρ σ args args') (hr : HR ρ σ own H w) (hown : ∀ k, w.heap.size ≤ k → own k) (hg : GlobOk E ρ)
  {fr : AFrame} (he : enterA E f args false = some fr) {c' : ACfg} (hrun : Runs E ⟨fr, [], H⟩ c') {v : AV} (hv : endVal E f c' = some v) :
  Calls E.P f args'.toArray w fun e w' => ∃ v' ρ', e = .returned v' ∧ VR ρ' σ v v' ∧ HR ρ' σ own c'.h w' ∧ Kp own w w' :=
 calls_of_sim hE hE ha hr hg he (fun hs => runs_ok hE hrun hown hs) hv
end
end Go.Eng
