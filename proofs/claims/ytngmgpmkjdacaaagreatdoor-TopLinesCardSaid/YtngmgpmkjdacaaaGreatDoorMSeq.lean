/-
 Rows by names: their length, their elements. Rows by names: what is told of them is so. Rows by names: their length, a place, an element. An append to a row by names. An append of one element to a row by names.
-/
import Derived.Test.YtngmgpmkjdacaaaGreatDoorMTok
set_option linter.unusedSimpArgs false
set_option linter.unusedVariables false
namespace Go.Eng
open Go Go.Proofs

/-- an element's cells, by names -/
def cellsAt (T i : Tok) : Nat → List Ty → List AV
 | _, [] => []
 | j, y :: ys => .sym (.lget j y T i) :: cellsAt T i (j + 1) ys

/-- what the operations tell of a row by names -/
def seqG (E : Nat → Option TI) (dbg : Bool) (A : Known) (H : AHeap) (ev : Operand → AV) (o : Op) : Option AV :=
 match o with
 | .call c => match c.callee with
  | .builtin .len => match c.args.toList.map ev, c.argTypes[0]? with
   | [.sq _ _ n], some t => match E t with
    | some ti => match ti.u with
     | .slice _ => some (.sym n)
     | _ => none
    | none => none
   | _, _ => none
  | _ => none
 | .indexAddr t x i => match ev x, (ev i).tok with
  | .sq b e n, some it => match E t with
   | some ti => match ti.u with
    | .slice el => match E el with
     | some ei => bif Nat.beq ei.size e && isIntK it.ty then need dbg A (.cmp 3 (.ki .i64 0) it) (need dbg A (.cmp 2 it n) (some (.sp b e it 0))) else none
     | none => none
    | _ => none
   | none => none
  | _, _ => none
 | .load t a => match ev a with
  | .sp b e i o => match H.get b, E t with
   | some (.seq _ tys T _), some ti =>
    bif Nat.beq tys.length e && lenGe (cellsAt T i 0 tys) (o + ti.size) then
     need dbg A (.cmp 3 (.ki .i64 0) i) (need dbg A (.cmp 2 i (.llen T))
      (bif isAggT ti.u then some (.agg (((cellsAt T i 0 tys).drop o).take ti.size)) else (cellsAt T i 0 tys)[o]?)) else none
   | _, _ => none
  | _ => none
 | _ => none
end Go.Eng
namespace Go.Eng
open Go Go.Proofs

variable {ι : Asn} {A : Known} {E : Env} {ρ : Map} {own : Nat → Prop} {H : AHeap} {w : World}

theorem sg_ty {t : Tok} {k : IntKind} {n : Int} (h : sg ι t = .int k n) : t.ty = .int k := by
 unfold sg at h
 cases ht : t.ty <;> rw [ht] at h <;> simp only [Ty.val, Value.int.injEq, reduceCtorEq] at h
 rw [h.1]

/-- a row's cells, each as it is -/
def rowAt (ι : Asn) (tys : List Ty) (T : Tok) (m : Nat) : AV :=
 match tys[m % tys.length]? with
 | some y => y.av ((Tok.lget (m % tys.length) y T (.ki .i64 (.ofNat (m / tys.length)))).eval ι)
 | none => .unk
def rowL (ι : Asn) (tys : List Ty) (T : Tok) (n : Nat) : List AV := (List.range (n * tys.length)).map (rowAt ι tys T)

theorem rowL_get {tys : List Ty} {T : Tok} {n m : Nat} (h : m < n * tys.length) : (rowL ι tys T n)[m]? = some (rowAt ι tys T m) := by
 unfold rowL
 rw [List.getElem?_map, List.getElem?_range h]
 rfl

/-- the row laid open -/
theorem HR.opened (hr : HR ρ (sg ι) own H w) {b : Nat} {el : TypeId} {tys : List Ty} {T : Tok} {f : Bool} {x : Loc} (hb : H.get b = some (.seq el tys T f)) (hx : ρ b = some x) :
  ∃ n, sg ι (.llen T) = .int .i64 (.ofNat n) ∧ 0 < tys.length ∧ HR ρ (sg ι) own (H.put b (.cells el (rowL ι tys T n) false false)) w := by
 obtain ⟨ob, h1, h2⟩ := hr.obj b _ x hb hx
 cases h2 with
 | @seq _ _ _ _ _ c fz n g1 g2 g3 g4 g5 g6 =>
  refine ⟨n, g1, g2, ⟨fun k a y ha hy => ?_, hr.dom, fun k k' a a' y y' hne ha ha' hy hy' he => ?_, fun k a y ha hy hs => ?_⟩⟩
  ·rw [AHeap.get_put] at ha
   by_cases e : k = b
   ·subst e
    rw [if_pos rfl] at ha
    cases ha
    rw [hx] at hy
    cases hy
    refine ⟨_, h1, .cells g3 (by simpa [rowL] using g4) (fun m a ha => ?_) (fun h => by cases h) (fun h => by cases h) (fun h => by cases h)⟩
    have hm : m < n * tys.length := by
     have := (List.getElem?_eq_some_iff.1 ha).1
     simpa [rowL] using this
    rw [rowL_get hm] at ha
    cases ha
    have hj : m % tys.length < tys.length := Nat.mod_lt _ g2
    have hd : m / tys.length < n := Nat.div_lt_of_lt_mul (by rw [Nat.mul_comm]; exact hm)
    have hy : tys[m % tys.length]? = some tys[m % tys.length] := List.getElem?_eq_getElem hj
    obtain ⟨k1, _⟩ := g5 (m / tys.length) (m % tys.length) _ hd hy
    rw [show m / tys.length * tys.length + m % tys.length = m from Nat.div_add_mod' m tys.length] at k1
    refine ⟨_, k1, ?_⟩
    unfold rowAt
    rw [hy]
    exact VR.av _ _
   ·rw [if_neg e] at ha
    exact hr.obj k a y ha hy
  ·rw [AHeap.get_put] at ha ha'
   by_cases e : k = b
   ·subst e
    rw [if_pos rfl] at ha
    cases ha
    exact ⟨rfl, fun h => by cases h⟩
   ·rw [if_neg e] at ha
    by_cases e' : k' = b
    ·subst e'
     have := (hr.apart k' k _ a y' y (Ne.symm e) hb ha hy' hy he.symm).1
     cases this
    ·rw [if_neg e'] at ha'
     exact hr.apart k k' a a' y y' hne ha ha' hy hy' he
  ·rw [AHeap.get_put] at ha
   by_cases e : k = b
   ·subst e
    rw [if_pos rfl] at ha
    cases ha
    rcases hs with h | h <;> cases h
   ·rw [if_neg e] at ha
    exact hr.own k a y ha hy hs

theorem sym_of_conc {t : Tok} {v : Value} (h : VR ρ (sg ι) (conc ι (.sym t)) v) : VR ρ (sg ι) (.sym t) v := by
 have := VR.av_inv (y := t.ty) (v := t.eval ι) (by simpa [conc] using h)
 rw [this]
 exact .sym t (sg_cell ι t)
theorem syms_of_conc : ∀ {l : List AV} {l' : List Value}, l.all AV.isSym = true → VRs ρ (sg ι) (concs ι l) l' → VRs ρ (sg ι) l l'
 | [], _, _, .nil => .nil
 | .sym t :: l, _, h, .cons h1 h2 => .cons (sym_of_conc h1) (syms_of_conc (by simpa [AV.isSym] using h) h2)

theorem cellsAt_get {T i : Tok} : ∀ {tys : List Ty} {j m : Nat} {a : AV}, (cellsAt T i j tys)[m]? = some a → ∃ y, tys[m]? = some y ∧ a = .sym (.lget (j + m) y T i)
 | [], _, _, _, h => by simp [cellsAt] at h
 | y :: ys, j, 0, a, h => by
  simp only [cellsAt, List.getElem?_cons_zero, Option.some.injEq] at h
  exact ⟨y, rfl, h.symm⟩
 | y :: ys, j, m + 1, a, h => by
  simp only [cellsAt, List.getElem?_cons_succ] at h
  obtain ⟨z, h1, h2⟩ := cellsAt_get h
  exact ⟨z, by simpa using h1, by rw [h2]; congr 2; omega⟩
theorem cellsAt_len {T i : Tok} : ∀ {tys : List Ty} {j : Nat}, (cellsAt T i j tys).length = tys.length
 | [], _ => rfl
 | y :: ys, j => by simp [cellsAt, cellsAt_len (tys := ys)]

/-- an element's cell, laid open, is what its name stands for -/
theorem row_cell {tys : List Ty} {T i : Tok} {k m : Nat} {y : Ty} (hi : (i.eval ι).toI = .ofNat k) (hy : tys[m]? = some y) : rowAt ι tys T (k * tys.length + m) = conc ι (.sym (.lget m y T i)) := by
 have hm : m < tys.length := (List.getElem?_eq_some_iff.1 hy).1
 have e1 : (k * tys.length + m) % tys.length = m := by rw [Nat.mul_comm, Nat.mul_add_mod]; exact Nat.mod_eq_of_lt hm
 have e2 : (k * tys.length + m) / tys.length = k := by
  rw [Nat.mul_comm, Nat.mul_add_div (by omega), Nat.div_eq_of_lt hm, Nat.add_zero]
 unfold rowAt
 rw [e1, e2, hy]
 simp only [conc, Tok.ty, Tok.eval, hi]
 rfl
end Go.Eng
namespace Go.Eng
open Go Go.Proofs

variable {ι : Asn} {A : Known} {E : Env} {ρ : Map} {own : Nat → Prop} {H : AHeap} {w : World}

theorem sq_inv {b e : Nat} {n : Tok} {V : Value} (h : VR ρ (sg ι) (.sq b e n) V) : ∃ len, sg ι n = .int .i64 (.ofNat len) := by
 cases h with
 | sq h1 h2 => exact ⟨_, h2⟩

theorem sp_inv {b e : Nat} {i : Tok} {o : Nat} {V : Value} (h : VR ρ (sg ι) (.sp b e i o) V) : ∃ x, ρ b = some x := by
 cases h with
 | sp h1 _ => exact ⟨_, h1⟩
theorem lenGe_of : ∀ {l : List AV} {n : Nat}, n ≤ l.length → lenGe l n = true
 | _, 0, _ => by cases ‹List AV› <;> rfl
 | [], n + 1, h => by simp at h
 | _ :: l, n + 1, h => lenGe_of (l := l) (by simpa using h)

theorem told_raw (hE : E.Ok (sg ι)) {ev : Operand → AV} {o : Op} {u : AV} (hr : HR ρ (sg ι) own H w) (h : qop0 E H (fun x => conc ι (ev x)) o = some u)
  (cv : Operand → Value) (hev : ∀ x ∈ o.operands, VR ρ (sg ι) (ev x) (cv x)) (q : Oper) (hq : q.op = o) : ∃ v', (execOp cv q).run E.P w = .ok (.value v') w ∧ VR ρ (sg ι) u v' := by
 subst hq
 exact qop0_ok hE hr (fun x hx => (hev x hx).conc) h

theorem seqG_ok (hE : E.Ok (sg ι)) (hA : A.so ι) : OrqOf E.P (sg ι) (seqG E.ty false A) := fun H ev o v h ρ own w hr cv hev q hq => by
 unfold seqG at h
 split at h
 · -- the length
  rename_i c
  split at h
  ·rename_i hc
   split at h
   ·rename_i b e n t hargs ht
    split at h
    ·rename_i ti hti
     split at h
     ·rename_i el hel
      cases h
      obtain ⟨x, hx1, hx2⟩ : ∃ x, c.args.toList = [x] ∧ ev x = .sq b e n := by
       cases hl : c.args.toList with
       | nil => rw [hl] at hargs; cases hargs
       | cons x xs =>
        rw [hl] at hargs
        cases xs with
        | nil => simp only [List.map_cons, List.map_nil, List.cons.injEq, and_true] at hargs; exact ⟨x, rfl, hargs⟩
        | cons => simp at hargs
      have hm : x ∈ (Op.call c).operands := by
       show x ∈ c.operands
       unfold Call.operands
       rw [hc]
       have : x ∈ c.args.toList := by rw [hx1]; simp
       simpa using this
      have hv := hev x hm
      rw [hx2] at hv
      obtain ⟨len, hlen⟩ := sq_inv hv
      refine told_of hE hr ?_ rfl cv hev q hq
      simp only [qop0, hc, hx1, List.map_cons, List.map_nil, hx2]
      have e1 : conc ι (.sq b e n) = .sl b 0 len len e false := by simp only [conc, sg_int hlen]; rfl
      have e2 : conc ι (.sym n) = .at (.int .i64 (.ofNat len)) := by
       simp only [conc, sg_ty hlen]
       show AV.at (.int .i64 (n.eval ι).toI) = _
       rw [sg_int hlen]
      rw [e1, e2]
      simp only [builtinQ, ht, hti, hel]
     ·cases h
    ·cases h
   ·cases h
  ·cases h
 · -- a place
  rename_i t x i
  split at h
  ·rename_i b e n it hx hit
   split at h
   ·rename_i ti hti
    split at h
    ·rename_i el hel
     split at h
     ·rename_i ei hei
      cases hg : (Nat.beq ei.size e && isIntK it.ty) with
      | false => rw [hg] at h; cases h
      | true =>
       rw [hg] at h
       simp only [cond_true] at h
       rw [Bool.and_eq_true] at hg
       obtain ⟨k, hk⟩ := isIntK_inv hg.2
       obtain ⟨g1, h⟩ := need_inv hA h
       obtain ⟨g2, h⟩ := need_inv hA h
       cases h
       have g1 : (0 : Int) ≤ (it.eval ι).toI := le_of g1
       have g2 := lt_of g2
       have hv := hev x (by simp [Op.operands])
       rw [hx] at hv
       obtain ⟨len, hlen⟩ := sq_inv hv
       obtain ⟨m, hm⟩ : ∃ m : Nat, (it.eval ι).toI = .ofNat m := ⟨(it.eval ι).toI.toNat, (Int.toNat_of_nonneg g1).symm⟩
       rw [hm, sg_int hlen] at g2
       have g2 : m < len := Int.ofNat_lt.1 g2
       have hq0 : qop0 E H (fun x => conc ι (ev x)) (.indexAddr t x i) = some (.ptr b (m * e)) := by
        simp only [qop0, hti, hx, tok_conc hit, av_int hk, hm]
        have e1 : conc ι (.sq b e n) = .sl b 0 len len e false := by simp only [conc, sg_int hlen]; rfl
        rw [e1]
        simp only [hel, hei, hg.1, show Nat.blt m len = true from by rw [Nat.blt_eq]; exact g2, Bool.true_and, cond_true, Nat.zero_add]
       obtain ⟨v', r1, r2⟩ := told_raw hE hr hq0 cv hev q hq
       refine ⟨v', r1, ?_⟩
       cases r2 with
       | ptr hb =>
        have r := VR.sp (σ := sg ι) (e := e) (o := 0) (i := it) (k := m) (q := k) hb (by unfold sg; rw [hk]; show Value.int k (it.eval ι).toI = _; rw [hm])
        rw [Nat.add_zero] at r
        exact r
     ·cases h
    ·cases h
   ·cases h
  ·cases h
 · -- an element
  rename_i t a
  split at h
  ·rename_i b e i o ha
   split at h
   ·rename_i el tys T f ti hb hti
    cases hg : (Nat.beq tys.length e && lenGe (cellsAt T i 0 tys) (o + ti.size)) with
    | false => rw [hg] at h; cases h
    | true =>
     rw [hg] at h
     simp only [cond_true] at h
     rw [Bool.and_eq_true] at hg
     obtain rfl := Nat.eq_of_beq_eq_true hg.1
     have hlen := lenGe_le hg.2
     rw [cellsAt_len] at hlen
     obtain ⟨g1, h⟩ := need_inv hA h
     obtain ⟨g2, h⟩ := need_inv hA h
     have g1 : (0 : Int) ≤ (i.eval ι).toI := le_of g1
     have g2 := lt_of g2
     obtain ⟨k, hk⟩ : ∃ k : Nat, (i.eval ι).toI = .ofNat k := ⟨(i.eval ι).toI.toNat, (Int.toNat_of_nonneg g1).symm⟩
     have hv := hev a (by simp [Op.operands])
     rw [ha] at hv
     obtain ⟨x, hx⟩ := sp_inv hv
     obtain ⟨n, hn, hpos, hr2⟩ := hr.opened hb hx
     rw [hk, sg_int hn] at g2
     have g2 : k < n := Int.ofNat_lt.1 g2
     have hroom : k * tys.length + tys.length ≤ n * tys.length := by
      have := Nat.mul_le_mul_right tys.length (show k + 1 ≤ n from g2)
      rw [Nat.add_mul, Nat.one_mul] at this
      exact this
     have hcell : ∀ m y, tys[m]? = some y → (rowL ι tys T n)[k * tys.length + m]? = some (conc ι (.sym (.lget m y T i))) := fun m y hy => by
      have hm : m < tys.length := (List.getElem?_eq_some_iff.1 hy).1
      rw [rowL_get (by omega), row_cell hk hy]
     have hget : (H.put b (.cells el (rowL ι tys T n) false false)).get b = some (.cells el (rowL ι tys T n) false false) := by rw [AHeap.get_put, if_pos rfl]
     have hll : (rowL ι tys T n).length = n * tys.length := by simp [rowL]
     have ea : conc ι (ev a) = .ptr b (k * tys.length + o) := by rw [ha]; simp only [conc, hk]; rfl
     cases hagg : isAggT ti.u with
     | true =>
      rw [hagg] at h
      cases h
      have hq0 : qop0 E (H.put b (.cells el (rowL ι tys T n) false false)) (fun x => conc ι (ev x)) (.load t a) = some (.agg (concs ι (((cellsAt T i 0 tys).drop o).take ti.size))) := by
       simp only [qop0, hti, ea, loadT, hagg, cond_true, loadN, hget]
       rw [show lenGe (rowL ι tys T n) (k * tys.length + o + ti.size) = true from lenGe_of (by rw [hll]; omega)]
       simp only [cond_true, Option.some.injEq, AV.agg.injEq]
       apply List.ext_getElem?
       intro m
       rw [concs_map, List.getElem?_map, List.getElem?_take, List.getElem?_take]
       split
       ·rename_i hm
        rw [List.getElem?_drop, List.getElem?_drop]
        have hy : tys[o + m]? = some tys[o + m] := List.getElem?_eq_getElem (by omega)
        rw [show k * tys.length + o + m = k * tys.length + (o + m) by omega, hcell _ _ hy]
        have hc : (cellsAt T i 0 tys)[o + m]? = some (.sym (.lget (o + m) tys[o + m] T i)) := by
         have hlt : o + m < (cellsAt T i 0 tys).length := by rw [cellsAt_len]; omega
         obtain ⟨y, q1, q2⟩ := cellsAt_get (List.getElem?_eq_getElem hlt)
         rw [hy] at q1
         cases q1
         rw [List.getElem?_eq_getElem hlt, q2, Nat.zero_add]
        rw [hc]
        rfl
       ·rfl
      obtain ⟨v', r1, r2⟩ := told_raw hE hr2 hq0 cv hev q hq
      refine ⟨v', r1, ?_⟩
      cases r2 with
      | agg r2 =>
       refine .agg (syms_of_conc ?_ r2)
       rw [List.all_eq_true]
       intro z hz
       have hz := List.mem_of_mem_drop (List.mem_of_mem_take hz)
       obtain ⟨m, hm, rfl⟩ := List.mem_iff_getElem.1 hz
       obtain ⟨y, _, q2⟩ := cellsAt_get (List.getElem?_eq_getElem hm)
       rw [q2]; rfl
     | false =>
      rw [hagg] at h
      simp only [cond_false] at h
      obtain ⟨y, hy, rfl⟩ := cellsAt_get h
      rw [Nat.zero_add] at *
      have hq0 : qop0 E (H.put b (.cells el (rowL ι tys T n) false false)) (fun x => conc ι (ev x)) (.load t a) = some (conc ι (.sym (.lget o y T i))) := by
       simp only [qop0, hti, ea, loadT, hagg, cond_false, load1, hget]
       exact hcell o y hy
      obtain ⟨v', r1, r2⟩ := told_raw hE hr2 hq0 cv hev q hq
      exact ⟨v', r1, sym_of_conc r2⟩
   ·cases h
  ·cases h
 ·cases h
end Go.Eng
namespace Go.Eng
open Go Go.Proofs
def Tr.del {α : Type} : Tr α → Nat → Tr α
 | .leaf, _ => .leaf
 | .node l v r, n => match n with
  | 0 => .node l none r
  | k + 1 => bif Nat.beq (k % 2) 0 then .node (l.del (k / 2)) v r else .node l v (r.del (k / 2))
theorem Tr.get_del {α : Type} : ∀ (t : Tr α) (n k : Nat) (a : α), (t.del n).get k = some a → k ≠ n ∧ t.get k = some a
 | .leaf, n, k, a, h => by simp [Tr.del, Tr.get] at h
 | .node l v r, 0, 0, a, h => by simp [Tr.del, Tr.get] at h
 | .node l v r, 0, k + 1, a, h => ⟨by omega, by simpa [Tr.del, Tr.get] using h⟩
 | .node l v r, n + 1, 0, a, h => ⟨by omega, by
   simp only [Tr.del] at h
   cases hb : Nat.beq (n % 2) 0 <;> rw [hb] at h <;> simpa [Tr.get] using h⟩
 | .node l v r, n + 1, k + 1, a, h => by
  simp only [Tr.del] at h
  cases hb : Nat.beq (n % 2) 0 with
  | true =>
   rw [hb] at h
   simp only [cond_true, Tr.get] at h ⊢
   cases hk : Nat.beq (k % 2) 0 with
   | true =>
    rw [hk] at h
    obtain ⟨h1, h2⟩ := Tr.get_del l (n / 2) (k / 2) a h
    refine ⟨fun e => h1 ?_, h2⟩
    have : k = n := by omega
    rw [this]
   | false =>
    rw [hk] at h
    refine ⟨fun e => ?_, h⟩
    have : k = n := by omega
    rw [this, hb] at hk
    cases hk
  | false =>
   rw [hb] at h
   simp only [cond_false, Tr.get] at h ⊢
   cases hk : Nat.beq (k % 2) 0 with
   | true =>
    rw [hk] at h
    refine ⟨fun e => ?_, h⟩
    have : k = n := by omega
    rw [this, hb] at hk
    cases hk
   | false =>
    rw [hk] at h
    obtain ⟨h1, h2⟩ := Tr.get_del r (n / 2) (k / 2) a h
    refine ⟨fun e => h1 ?_, h2⟩
    have : k = n := by omega
    rw [this]
def AHeap.del (h : AHeap) (b : Nat) : AHeap := ⟨h.t.del b, h.n⟩

/-- the cells of one element, as names of these types -/
def toksTy : List Ty → List AV → Option (List Tok)
 | [], [] => some []
 | y :: ys, a :: l => match a.tok with
  | some t => bif t.ty.beq y then (match toksTy ys l with
   | some ts => some (t :: ts)
   | none => none) else none
  | none => none
 | _, _ => none
def tysB : List Ty → List Ty → Bool
 | [], [] => true
 | a :: l, b :: m => a.beq b && tysB l m
 | _, _ => false
theorem tysB_eq : ∀ {a b : List Ty}, tysB a b = true → a = b
 | [], [], _ => rfl
 | a :: l, b :: m, h => by
  simp only [tysB, Bool.and_eq_true] at h
  rw [Ty.beq_eq h.1, tysB_eq h.2]

section
variable {ι : Asn} {ρ ρ' : Map} {own : Nat → Prop} {H : AHeap} {w w' : World}

/-- a row laid open, for one that appends to it -/
theorem HR.opened2 (hr : HR ρ (sg ι) own H w) {b : Nat} {el : TypeId} {tys : List Ty} {T : Tok} {x : Loc} (hb : H.get b = some (.seq el tys T true)) (hx : ρ b = some x) :
  ∃ n, sg ι (.llen T) = .int .i64 (.ofNat n) ∧ 0 < tys.length ∧ HR ρ (sg ι) own (H.put b (.cells el (rowL ι tys T n) false true)) w := by
 obtain ⟨n, h1, h2, h3⟩ := hr.opened hb hx
 refine ⟨n, h1, h2, ⟨fun k a y ha hy => ?_, hr.dom, fun k k' a a' y y' hne ha ha' hy hy' he => ?_, fun k a y ha hy hs => ?_⟩⟩
 ·rw [AHeap.get_put] at ha
  by_cases e : k = b
  ·subst e
   rw [if_pos rfl] at ha
   cases ha
   obtain ⟨o, k1, k2⟩ := h3.obj k (.cells el (rowL ι tys T n) false false) y (by rw [AHeap.get_put, if_pos rfl]) hy
   obtain ⟨o', k3, k4⟩ := hr.obj k _ y hb hy
   rw [k1] at k3
   cases k3
   cases k2 with
   | cells a1 a2 a3 a4 a5 a6 => cases k4 with
    | @seq _ _ _ _ _ _ _ n' b1 b2 b3 b4 b5 b6 =>
     have e : n' = n := by
      rw [h1] at b1
      exact (Int.ofNat.inj (Value.int.inj b1).2).symm
     subst e
     refine ⟨_, k1, .cells a1 a2 a3 (fun h => by cases h) (fun _ i c1 c2 => b6 rfl i (by simpa [rowL] using c1) c2) (fun h => by cases h)⟩
  ·rw [if_neg e] at ha
   exact hr.obj k a y ha hy
 ·rw [AHeap.get_put] at ha ha'
  by_cases e : k = b
  ·subst e
   rw [if_neg (Ne.symm hne)] at ha'
   have := (hr.apart k k' _ a' y y' hne hb ha' hy hy' he).1
   cases this
  ·rw [if_neg e] at ha
   by_cases e' : k' = b
   ·subst e'
    have := (hr.apart k' k _ a y' y (Ne.symm e) hb ha hy' hy he.symm).1
    cases this
   ·rw [if_neg e'] at ha'
    exact hr.apart k k' a a' y y' hne ha ha' hy hy' he
 ·rw [AHeap.get_put] at ha
  by_cases e : k = b
  ·subst e
   exact hr.own k _ y hb hy (.inl rfl)
  ·rw [if_neg e] at ha
   exact hr.own k a y ha hy hs

/-- a new row is one by names -/
theorem HR.shutSeq {K H3 : AHeap} {el : TypeId} {tys : List Ty} {T : Tok} {cs : List AV} {N : Nat} (hr : HR ρ (sg ι) own H3 w) (hn3 : H3.n = K.n + 1) (hK : ∀ k a, K.get k = some a → k ≠ K.n → H3.get k = some a)
  {so : Bool} (hget : H3.get K.n = some (.cells el cs so true)) (hcs : cs.length = N * tys.length) (hlen : sg ι (.llen T) = .int .i64 (.ofNat N)) (hpos : 0 < tys.length)
  (hcont : ∀ i j y, i < N → tys[j]? = some y → ∃ a, cs[i * tys.length + j]? = some a ∧ ∀ v, VR ρ (sg ι) a v → v = sg ι (.lget j y T (.ki .i64 (.ofNat i))))
  (hap : ∀ k a y z, K.get k = some a → k ≠ K.n → ρ k = some y → ρ K.n = some z → y.r ≠ z.r) : HR ρ (sg ι) own (K.new (.seq el tys T true)) w := by
 refine ⟨fun k a y ha hy => ?_, fun k y hy => ?_, fun k k' a a' y y' hne ha ha' hy hy' he => ?_, fun k a y ha hy hs => ?_⟩
 ·rw [AHeap.get_new] at ha
  by_cases e : k = K.n
  ·subst e
   rw [if_pos rfl] at ha
   cases ha
   obtain ⟨o, k1, k2⟩ := hr.obj _ _ y hget hy
   cases k2 with
   | cells a1 a2 a3 a4 a5 a6 =>
    refine ⟨_, k1, .seq hlen hpos a1 (by rw [← hcs]; exact a2) (fun i j z hi hj => ⟨?_, sg_cell ι _⟩) (fun _ i c1 c2 => a5 rfl i (by rw [hcs]; exact c1) c2)⟩
    obtain ⟨a, b1, b2⟩ := hcont i j z hi hj
    obtain ⟨v, b3, b4⟩ := a3 _ a b1
    rw [b3, b2 v b4]
  ·rw [if_neg e] at ha
   exact hr.obj k a y (hK k a ha e) hy
 ·have := hr.dom k y hy
  exact ⟨by show k < K.n + 1; rw [← hn3]; exact this.1, this.2⟩
 ·rw [AHeap.get_new] at ha ha'
  by_cases e : k = K.n
  ·subst e
   rw [if_neg (Ne.symm hne)] at ha'
   exact absurd he.symm (hap k' a' y' y ha' (Ne.symm hne) hy' hy)
  ·rw [if_neg e] at ha
   by_cases e' : k' = K.n
   ·subst e'
    exact absurd he (hap k a y y' ha e hy hy')
   ·rw [if_neg e'] at ha'
    exact hr.apart k k' a a' y y' hne (hK k a ha e) (hK k' a' ha' e') hy hy' he
 ·rw [AHeap.get_new] at ha
  by_cases e : k = K.n
  ·subst e
   exact hr.own _ _ y hget hy (.inr rfl)
  ·rw [if_neg e] at ha
   exact hr.own k a y (hK k a ha e) hy hs
end
end Go.Eng
namespace Go.Eng
open Go Go.Proofs

/-- a thing that must be known, if something is made of it -/
def needP (dbg : Bool) (A : Known) (t : Tok) (H : AHeap) (v : Option (AV × AHeap)) : Option (AV × AHeap) :=
 match known A t with
 | some true => v
 | some false => none
 | none => bif dbg then some (.iface 1 (.sym t), H) else none
theorem needP_inv {ι : Asn} {A : Known} {t : Tok} {H : AHeap} {v : Option (AV × AHeap)} {u : AV × AHeap} (hA : A.so ι) (h : needP false A t H v = some u) : (t.eval ι).toB = true ∧ v = some u := by
 unfold needP at h
 split at h
 ·rename_i hk; exact ⟨known_so hA hk, h⟩
 ·cases h
 ·cases h

/-- the cells of an element in one -/
def pkL : List Tok → Tok
 | [] => .lnil
 | t :: ts => .pk t (pkL ts)

/-- an element's cells, if they go by names of these types -/
def elemG (E : Nat → Option TI) (L : Nat → Option (List Ty)) (H : AHeap) (t u : TypeId) (x : AV) : Option (TypeId × Nat × List Ty × List Tok) :=
 match E t, E u, x with
 | some ti, some ui, .sl bx ox 1 _ e _ => match ti.u with
  | .slice el => match E el, L el with
   | some ei, some tys =>
    bif Nat.beq ei.size e && (Nat.beq tys.length e && (Nat.blt 0 e && (!isIntT ui.u && Nat.ble (ei.bytes * (2 * (1 + 1000000))) (2 ^ 47)))) then
     match loadN H bx ox (1 * e) with
     | some new => match toksTy tys new with
      | some ts => some (el, e, tys, ts)
      | none => none
     | none => none
    else none
   | _, _ => none
  | _ => none
 | _, _, _ => none

def appG (E : Nat → Option TI) (L : Nat → Option (List Ty)) (dbg : Bool) (A : Known) (H : AHeap) (ev : Operand → AV) (o : Op) : Option (AV × AHeap) :=
 match o with
 | .call c => match c.callee with
  | .builtin .append => match c.args.toList.map ev, c.argTypes[0]?, c.argTypes[1]? with
   | [s, x], some t, some u => match elemG E L H t u x with
    | some (el, e, tys, ts) => match s with
     | .at (.slice none 0 0) => some (.sq H.n e (.llen (.snoc .lnil (pkL ts))), H.new (.seq el tys (.snoc .lnil (pkL ts)) true))
     | .sq b e' n => match H.get b with
      | some (.seq el' tys' T true) =>
       bif Nat.beq el el' && (Nat.beq e e' && (tysB tys tys' && n.beq (.llen T))) then
        needP dbg A (.cmp 3 n (.ki .i64 1000000)) H (some (.sq H.n e (.llen (.snoc T (pkL ts))), (H.del b).new (.seq el tys (.snoc T (pkL ts)) true)))
       else none
      | _ => none
     | _ => none
    | none => none
   | _, _, _ => none
  | _ => none
 | _ => none

variable {ι : Asn} {A : Known} {E : Env} {ρ : Map} {own : Nat → Prop} {H : AHeap} {w : World}

theorem toksTy_get : ∀ {tys : List Ty} {l : List AV} {ts : List Tok}, toksTy tys l = some ts → l.length = tys.length ∧ ts.length = tys.length ∧
  ∀ (j : Nat) (y : Ty), tys[j]? = some y → ∃ (a : AV) (t : Tok), l[j]? = some a ∧ ts[j]? = some t ∧ a.tok = some t ∧ t.ty = y
 | [], [], ts, h => by cases h; exact ⟨rfl, rfl, fun j y h => by simp at h⟩
 | [], _ :: _, ts, h => by cases h
 | _ :: _, [], ts, h => by cases h
 | y :: ys, a :: l, ts, h => by
  unfold toksTy at h
  split at h
  ·rename_i t ht
   cases hb : t.ty.beq y with
   | false => rw [hb] at h; cases h
   | true =>
    rw [hb] at h
    simp only [cond_true] at h
    split at h
    ·rename_i ts' hts
     cases h
     obtain ⟨h1, h2, h3⟩ := toksTy_get hts
     refine ⟨by simp [h1], by simp [h2], fun j z hz => ?_⟩
     cases j with
     | zero =>
      simp only [List.getElem?_cons_zero, Option.some.injEq] at hz
      subst hz
      exact ⟨a, t, rfl, rfl, ht, Ty.beq_eq hb⟩
     | succ j =>
      rw [List.getElem?_cons_succ] at hz
      obtain ⟨a', t', k1, k2, k3, k4⟩ := h3 j z hz
      exact ⟨a', t', by simpa using k1, by simpa using k2, k3, k4⟩
    ·cases h
  ·cases h

theorem unpack_pkL : ∀ {ts : List Tok}, unpack ((pkL ts).eval ι) = ts.map fun t => t.eval ι
 | [] => rfl
 | t :: ts => by simp [pkL, Tok.eval, unpack, unpack_pkL (ts := ts)]

theorem sg_lget {j : Nat} {y : Ty} {T : Tok} {i : Nat} : sg ι (.lget j y T (.ki .i64 (.ofNat i))) = y.val ((unpack ((T.eval ι).toL.getD i (.i 0))).getD j (.i 0)) := rfl
theorem toL_snoc {T P : Tok} : (Tok.eval ι (.snoc T P)).toL = (T.eval ι).toL ++ [P.eval ι] := rfl
/-- an element that stood there stands there; the new one is the last -/
theorem lget_old {j : Nat} {y : Ty} {T P : Tok} {i : Nat} (h : i < (T.eval ι).toL.length) : sg ι (.lget j y (.snoc T P) (.ki .i64 (.ofNat i))) = sg ι (.lget j y T (.ki .i64 (.ofNat i))) := by
 have e : ((T.eval ι).toL ++ [P.eval ι]).getD i (.i 0) = (T.eval ι).toL.getD i (.i 0) := by rw [List.getD_eq_getElem?_getD, List.getElem?_append_left h, ← List.getD_eq_getElem?_getD]
 rw [sg_lget, sg_lget, toL_snoc, e]
theorem lget_new {j : Nat} {y : Ty} {T : Tok} {ts : List Tok} {t : Tok} (ht : ts[j]? = some t) (hy : t.ty = y) : sg ι (.lget j y (.snoc T (pkL ts)) (.ki .i64 (.ofNat (T.eval ι).toL.length))) = sg ι t := by
 subst hy
 have e : (unpack ((Tok.eval ι (.snoc T (pkL ts))).toL.getD (T.eval ι).toL.length (.i 0))).getD j (.i 0) = t.eval ι := by
  have e : ((T.eval ι).toL ++ [(pkL ts).eval ι]).getD (T.eval ι).toL.length (.i 0) = (pkL ts).eval ι := by
   rw [List.getD_eq_getElem?_getD, List.getElem?_append_right (Nat.le_refl _), Nat.sub_self]
   rfl
  rw [toL_snoc, e, unpack_pkL, List.getD_eq_getElem?_getD, List.getElem?_map, ht]
  rfl
 rw [sg_lget, e]
 rfl
theorem lnil_len : (Tok.eval ι .lnil).toL.length = 0 := rfl
theorem snoc_len {T P : Tok} : sg ι (.llen (.snoc T P)) = .int .i64 (.ofNat ((T.eval ι).toL.length + 1)) := by
 have : sg ι (.llen (.snoc T P)) = .int .i64 (((Tok.eval ι (.snoc T P)).toL.length : Nat) : Int) := rfl
 rw [this, toL_snoc, List.length_append]
 rfl
theorem llen_inv {T : Tok} {n : Nat} (h : sg ι (.llen T) = .int .i64 (.ofNat n)) : (T.eval ι).toL.length = n := by
 have h2 : ((Tok.llen T).eval ι).toI = .ofNat n := sg_int h
 exact Int.ofNat.inj h2

theorem VR.tok_inv {a : AV} {t : Tok} {v : Value} (ht : a.tok = some t) (h : VR ρ (sg ι) a v) : v = sg ι t := by
 have h := h.conc
 rw [tok_conc ht] at h
 exact VR.av_inv h

theorem elemG_inv {F : Nat → Option TI} {L : Nat → Option (List Ty)} {t u : TypeId} {x : AV} {el e : Nat} {tys : List Ty} {ts : List Tok} (h : elemG F L H t u x = some (el, e, tys, ts)) :
  ∃ ti ui ei bx ox cx ex new, F t = some ti ∧ F u = some ui ∧ x = .sl bx ox 1 cx e ex ∧ ti.u = .slice el ∧ F el = some ei ∧ ei.size = e ∧ tys.length = e ∧ 0 < e ∧ isIntT ui.u = false ∧ ei.bytes * (2 * (1 + 1000000)) ≤ 2 ^ 47 ∧
   loadN H bx ox (1 * e) = some new ∧ toksTy tys new = some ts := by
 unfold elemG at h
 split at h
 ·rename_i ti ui bx ox cx e0 ex h1 h2
  split at h
  ·rename_i el0 hel
   split at h
   ·rename_i ei tys0 h3 h4
    cases hg : (Nat.beq ei.size e0 && (Nat.beq tys0.length e0 && (Nat.blt 0 e0 && (!isIntT ui.u && Nat.ble (ei.bytes * (2 * (1 + 1000000))) (2 ^ 47))))) with
    | false => rw [hg] at h; cases h
    | true =>
     rw [hg] at h
     simp only [cond_true] at h
     simp only [Bool.and_eq_true, Nat.beq_eq, Nat.blt_eq, Bool.not_eq_true', Nat.ble_eq] at hg
     obtain ⟨g1, g2, g3, g4, g5⟩ := hg
     split at h
     ·rename_i new hn
      split at h
      ·rename_i ts0 ht
       cases h
       exact ⟨ti, ui, ei, bx, ox, cx, ex, new, h1, h2, rfl, hel, h3, g1, g2, g3, g4, g5, hn, ht⟩
      ·cases h
     ·cases h
   ·cases h
  ·cases h
 ·cases h

theorem tok_cell {a : AV} {t : Tok} (h : a.tok = some t) : a.cell = true := by
 unfold AV.tok at h
 split at h <;> first | rfl | cases h
theorem Grow.old {ρ ρ' : Map} {n k : Nat} {y : Loc} (h : Grow ρ ρ' n) (hk : k < n) (hy : ρ' k = some y) : ρ k = some y := by
 cases e : ρ k with
 | none => rw [h.2 k hk e] at hy; cases hy
 | some z => rw [h.1 k z e] at hy; exact hy
theorem appRun {P : Program} {w w' : World} {q : Oper} {c : Call} {cv : Operand → Value} {x1 x2 : Operand} {v' : Value} (hq : q.op = .call c) (hc : c.callee = .builtin .append) (hxs : c.args.toList = [x1, x2])
  (h : (Builtin.append_ c.argTypes q.type #[cv x1, cv x2]).run P w = .ok v' w') : (execOp cv q).run P w = .ok (.value v') w' := by
 obtain ⟨dst, op, type, pos, after, guard⟩ := q
 simp only at hq
 subst hq
 have e : c.args.map cv = #[cv x1, cv x2] := by
  apply Array.ext'
  rw [Array.toList_map, hxs]
  rfl
 simp only [execOp, resolve, hc, e, Sem.run_bind, Sem.run_pure, Result.andThen_ok, invoke, builtin]
 simp only at h
 rw [h]
 rfl

theorem appG_ok {L : Nat → Option (List Ty)} (hE : E.Ok (sg ι)) (hA : A.so ι) : OrbOf E.P (sg ι) (appG E.ty L false A) := fun H ev o v H' h ρ own w hr hown cv hev q hq => by
 unfold appG at h
 split at h
 ·rename_i c
  split at h
  ·rename_i hc
   split at h
   ·rename_i s x t u hargs ht hu
    split at h
    ·rename_i el e tys ts hel
     obtain ⟨ti, ui, ei, bx, ox, cx, ex, new, f1, f2, hx, f3, f4, f5, f6, f7, f8, f9, f10, f11⟩ := elemG_inv hel
     subst hx
     subst f5
     obtain ⟨x1, x2, hxs, e1, e2⟩ : ∃ x1 x2, c.args.toList = [x1, x2] ∧ ev x1 = s ∧ ev x2 = .sl bx ox 1 cx ei.size ex := by
      cases hl : c.args.toList with
      | nil => rw [hl] at hargs; cases hargs
      | cons y ys =>
       rw [hl] at hargs
       cases ys with
       | nil => simp at hargs
       | cons z zs => cases zs with
        | nil => simp only [List.map_cons, List.map_nil, List.cons.injEq, and_true] at hargs; exact ⟨y, z, rfl, hargs.1, hargs.2⟩
        | cons => simp at hargs
     have hmem : ∀ y ∈ [x1, x2], y ∈ (Op.call c).operands := fun y hy => by
      show y ∈ c.operands
      unfold Call.operands
      rw [hc]
      rw [← hxs] at hy
      simpa using hy
     have hsv := hev x1 (hmem _ (by simp))
     have hxv := hev x2 (hmem _ (by simp))
     rw [e1] at hsv
     rw [e2] at hxv
     have hes : elemOfSlice E t = some (el, ei) := by simp only [elemOfSlice, f1, f3, f4]
     obtain ⟨t1, t2, t3⟩ := toksTy_get f11
     have hcell : new.all AV.cell = true := by
      rw [List.all_eq_true]
      intro a ha
      obtain ⟨j, hj, rfl⟩ := List.mem_iff_getElem.1 ha
      obtain ⟨a', t', k1, _, k3, _⟩ := t3 j _ (List.getElem?_eq_getElem (by omega))
      rw [List.getElem?_eq_getElem hj] at k1
      cases k1
      exact tok_cell k3
     have hb1 : (isIntT ui.u || Nat.beq ei.size 0) = false := by
      rw [f8, Bool.false_or, Bool.eq_false_iff]
      intro hh
      have := Nat.eq_of_beq_eq_true hh
      omega
     have hb2 : (Nat.ble 1 1000000 && (Nat.ble (ei.bytes * (2 * (1 + 1000000))) (2 ^ 47) && new.all AV.cell)) = true := by
      rw [hcell, Nat.ble_eq_true_of_le f9]
      rfl
     split at h
     · -- to none
      cases h
      have hsc : srcCells H ei.size (.sl bx ox 1 cx ei.size ex) = some (1, new) := by
       simp only [srcCells, Nat.beq_refl, cond_true, f10]
      have hq0 : appendA E H t u (.at (.slice none 0 0)) (.sl bx ox 1 cx ei.size ex) = some (.sl H.n 0 1 1 ei.size false, H.new (.cells el new true true)) := by
       simp only [appendA, hes, f2, hb1, cond_false, hsc, hb2, cond_true]
       rfl
      obtain ⟨ρ', w', v', g1, g2, g3, g4, g5, g6, g7⟩ := appendA_ok (ty := q.type) hE hr hown hq0 ht hu hsv hxv
      have hN : sg ι (.llen (.snoc .lnil (pkL ts))) = .int .i64 (.ofNat 1) := by rw [snoc_len]; rfl
      refine ⟨ρ', w', v', g1, HR.shutSeq (N := 1) (H3 := H.new (.cells el new true true)) (so := true) (cs := new) g2 rfl (fun k a hk hne => ?_) (by rw [AHeap.get_new, if_pos rfl]) (by rw [t1, Nat.one_mul]) hN (by omega) (fun i j y hi hj => ?_) (fun k a y z hk hne hy hz => ?_), g3, Nat.le_succ _, ?_, appRun hq hc hxs g6⟩
      ·rw [AHeap.get_new, if_neg hne]; exact hk
      ·obtain rfl : i = 0 := by omega
       obtain ⟨a, t', k1, k2, k3, k4⟩ := t3 j y hj
       refine ⟨a, by rw [Nat.zero_mul, Nat.zero_add]; exact k1, fun v hv => ?_⟩
       rw [hv.tok_inv k3]
       have := lget_new (ι := ι) (T := .lnil) k2 k4
       rw [lnil_len] at this
       exact this.symm
      ·have hlt : k < H.n := by
        have : k < H.n + 1 := (g2.dom k y hy).1
        omega
       rcases g7 z hz with h8 | ⟨b0, x0, h8, _⟩
       ·have := (hr.dom k y (g1.old hlt hy)).2
        omega
       ·cases h8
      ·cases g5 with
       | @sl _ _ _ _ _ cap' _ x k1 k2 k3 k4 k5 k6 =>
        rw [Nat.zero_add]
        exact .sq k1 hN (by omega) k4 (by rw [Nat.zero_add] at k5; exact k5)
     · -- to a row
      rename_i b e' n
      split at h
      ·rename_i el' tys' T hb
       cases hg : (Nat.beq el el' && (Nat.beq ei.size e' && (tysB tys tys' && n.beq (.llen T)))) with
       | false => rw [hg] at h; cases h
       | true =>
        rw [hg] at h
        simp only [cond_true] at h
        simp only [Bool.and_eq_true] at hg
        obtain ⟨c1, c2, c3, c4⟩ := hg
        obtain rfl := Nat.eq_of_beq_eq_true c1
        have c2 := Nat.eq_of_beq_eq_true c2
        subst c2
        obtain rfl := tysB_eq c3
        obtain rfl := Tok.beq_eq c4
        obtain ⟨hle, h⟩ := needP_inv hA h
        cases h
        have hle := le_of hle
        obtain ⟨x, hx⟩ : ∃ x, ρ b = some x := by
         have h := hsv
         generalize cv x1 = av at h
         cases h with
         | sq k1 _ => exact ⟨_, k1⟩
        obtain ⟨N, hN, hpos, hr1⟩ := hr.opened2 hb hx
        have hTN := llen_inv hN
        have hN6 : N ≤ 1000000 := by
         have h3 : ((Tok.llen T).eval ι).toI = .ofNat N := sg_int hN
         have h4 : (Tok.eval ι (.ki .i64 1000000)).toI = 1000000 := rfl
         rw [h3, h4] at hle
         exact Int.ofNat_le.1 hle
        have hsv1 : VR ρ (sg ι) (.sl b 0 N N ei.size false) (cv x1) := by
         have := hsv.conc
         have h3 : ((Tok.llen T).eval ι).toI = .ofNat N := sg_int hN
         simp only [conc, h3] at this
         exact this
        have hll : (rowL ι tys T N).length = N * ei.size := by simp [rowL, f6]
        have hgb : (H.put b (.cells el (rowL ι tys T N) false true)).get b = some (.cells el (rowL ι tys T N) false true) := by rw [AHeap.get_put, if_pos rfl]
        have hbx : bx ≠ b := fun ee => by
         subst ee
         simp only [loadN, hb] at f10
         cases f10
        have hsc : srcCells (H.put b (.cells el (rowL ι tys T N) false true)) ei.size (.sl bx ox 1 cx ei.size ex) = some (1, new) := by
         have : loadN (H.put b (.cells el (rowL ι tys T N) false true)) bx ox (1 * ei.size) = some new := by
          unfold loadN at f10 ⊢
          rw [AHeap.get_put, if_neg hbx]
          exact f10
         simp only [srcCells, Nat.beq_refl, cond_true, this]
        have hold : loadN (H.put b (.cells el (rowL ι tys T N) false true)) b (0) (N * ei.size) = some (rowL ι tys T N) := by
         simp only [loadN, hgb]
         rw [lenGe_of (by rw [hll]; omega)]
         simp only [cond_true, List.drop_zero]
         rw [List.take_of_length_le (by rw [hll]; exact Nat.le_refl _)]
        have hnf : Nat.ble (N + 1) N = false := by
         rw [Bool.eq_false_iff]
         intro hh
         have := Nat.le_of_ble_eq_true hh
         omega
        have hq0 : appendA E (H.put b (.cells el (rowL ι tys T N) false true)) t u (.sl b 0 N N ei.size false) (.sl bx ox 1 cx ei.size ex) =
          some (.sl H.n 0 (N + 1) (N + 1) ei.size false, ((H.put b (.cells el (rowL ι tys T N) false true)).put b (.cells el (rowL ι tys T N) false false)).new (.cells el (rowL ι tys T N ++ new) false true)) := by
         simp only [appendA, hes, f2, hb1, cond_false, hsc, hb2, cond_true, Nat.beq_refl, Bool.true_and, Nat.ble_eq_true_of_le hN6, hnf, hold, hgb, hll, Nat.zero_add, show Nat.beq 1 0 = false from rfl, Nat.zero_mul]
         rfl
        obtain ⟨ρ', w', v', g1, g2, g3, g4, g5, g6, g7⟩ := appendA_ok (ty := q.type) hE hr1 hown hq0 ht hu hsv1 hxv
        have hN1 : sg ι (.llen (.snoc T (pkL ts))) = .int .i64 (.ofNat (N + 1)) := by rw [snoc_len, hTN]
        refine ⟨ρ', w', v', g1, HR.shutSeq (K := H.del b) (N := N + 1) (so := false) (cs := rowL ι tys T N ++ new) g2 rfl (fun k a hk hne => ?_) (by exact (AHeap.get_new ..).trans (if_pos rfl)) ?_ hN1 hpos (fun i j y hi hj => ?_) (fun k a y z hk hne hy hz => ?_), g3, Nat.le_succ _, ?_, appRun hq hc hxs g6⟩
        ·obtain ⟨d1, d2⟩ := Tr.get_del H.t b k a hk
         refine (AHeap.get_new ..).trans ((if_neg (show ¬ k = H.n from hne)).trans ?_)
         rw [AHeap.get_put, if_neg d1, AHeap.get_put, if_neg d1]
         exact d2
        ·rw [List.length_append, hll, t1, f6, Nat.add_mul, Nat.one_mul]
        ·by_cases hi2 : i < N
         ·have hjl : j < tys.length := (List.getElem?_eq_some_iff.1 hj).1
          have hroom : i * tys.length + tys.length ≤ N * tys.length := by
           have := Nat.mul_le_mul_right tys.length (show i + 1 ≤ N from hi2)
           rw [Nat.add_mul, Nat.one_mul] at this
           exact this
          refine ⟨conc ι (.sym (.lget j y T (.ki .i64 (.ofNat i)))), ?_, fun v hv => ?_⟩
          ·rw [List.getElem?_append_left (by rw [hll, ← f6]; omega), rowL_get (by omega), row_cell (i := .ki .i64 (.ofNat i)) rfl hj]
          ·rw [lget_old (by omega)]
           exact VR.av_inv (y := y) (show VR ρ' (sg ι) (y.av ((Tok.lget j y T (.ki .i64 (.ofNat i))).eval ι)) v from hv)
         ·obtain rfl : i = N := by omega
          obtain ⟨a, t', k1, k2, k3, k4⟩ := t3 j y hj
          refine ⟨a, ?_, fun v hv => ?_⟩
          ·rw [List.getElem?_append_right (by rw [hll, f6]; omega), hll, f6, Nat.add_sub_cancel_left]
           exact k1
          ·rw [hv.tok_inv k3]
           have := lget_new (ι := ι) (T := T) k2 k4
           rw [hTN] at this
           exact this.symm
        ·obtain ⟨d1, d2⟩ := Tr.get_del H.t b k a hk
         have hlt : k < H.n := by
          have : k < H.n + 1 := (g2.dom k y hy).1
          have : k ≠ H.n := hne
          omega
         have hyk := g1.old (n := H.n) hlt hy
         rcases g7 z hz with h8 | ⟨b0, x0, h8, h9, h10⟩
         ·have := (hr.dom k y hyk).2
          omega
         ·cases h8
          rw [hx] at h9
          cases h9
          intro ee
          have := (hr.apart b k _ a x y (Ne.symm d1) hb d2 hx hyk (by rw [← h10, ee])).1
          cases this
        ·cases g5 with
         | @sl _ _ _ _ _ cap' _ x k1 k2 k3 k4 k5 k6 =>
          rw [Nat.zero_add]
          exact .sq k1 hN1 (by omega) k4 (by rw [Nat.zero_add] at k5; exact k5)
      ·cases h
     ·cases h
    ·cases h
   ·cases h
  ·cases h
 ·cases h
end Go.Eng
