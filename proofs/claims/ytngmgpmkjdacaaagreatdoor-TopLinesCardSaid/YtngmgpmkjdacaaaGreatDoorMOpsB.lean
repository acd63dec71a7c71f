/-
 Bytes, conversions, look-ups and small builtins: in a world what they tell in the abstract heap. Each operation that only looks: in a world what it tells in the abstract heap. An append: in a world it finds room in the old row, or makes a new one; in the abstract heap both are one new virtual block. What Go's library has no body for, as far as it is met: in a world what it tells in the abstract heap. Operations that make memory, change it, or call: in a world what they come to in the abstract heap.
-/
import Derived.Test.YtngmgpmkjdacaaaGreatDoorMOpsA
import Derived.Laws.Append
import Derived.Lib.Bytealg
import Derived.Lib.BytesEntry
import Derived.Lib.MakeNoZero
import Derived.Laws.MakeOwn
import Derived.Laws.IdiomStrings
set_option linter.unusedSimpArgs false
set_option linter.unusedVariables false
namespace Go.Eng
open Go

theorem liesAt_self {P : Program} {e : TypeId} {s : Nat} (hc : P.cellsOf e = s) (hs : s ≠ 0) (count off n : Nat) (h0 : off % s = 0) (hn : off / s + n ≤ count) : liesAt P P.depth e count off e n = true := by
  have hd : P.depth = (2 * (P.types.size + Made.depth) + 1) + 1 := rfl
  rw [hd]
  simp only [liesAt, Bool.or_eq_true]
  left
  rw [hd]
  simp [rowAt, hc, hs, h0, hn, sameLayout]

theorem bytesA_eq : ∀ {cs : List AV} {l : List UInt8}, bytesA cs = some l → cs = cellsOfStr l
  | [], l, h => by simp only [bytesA, Option.some.injEq] at h; subst h; rfl
  | c :: cs, l, h => by
    unfold bytesA at h
    split at h
    · rename_i h0; cases h0
    · rename_i n cs' h0
      cases h0
      cases hb : Nat.blt n 256 with
      | false => rw [hb] at h; cases h
      | true =>
        rw [hb] at h
        simp only [cond_true] at h
        cases hq : bytesA cs with
        | none => rw [hq] at h; cases h
        | some l' =>
          rw [hq] at h
          cases h
          have := bytesA_eq hq
          have hn : n < 256 := by simpa [Nat.blt_eq] using hb
          simp [cellsOfStr, ← this, UInt8.toNat_ofNat', Nat.mod_eq_of_lt hn]
          exact this
    · cases h

theorem pushBytes : ∀ (l acc : List UInt8), (l.map fun b => (Int.ofNat b.toNat)).foldl (fun (r : ByteArray) (n : Int) => r.push (UInt8.ofNat n.toNat)) ⟨acc.toArray⟩ = ⟨(acc ++ l).toArray⟩
  | [], acc => by simp
  | b :: l, acc => by
    have := pushBytes l (acc ++ [b])
    simp only [List.map_cons, List.foldl_cons]
    have e : (ByteArray.mk acc.toArray).push (UInt8.ofNat (Int.ofNat b.toNat).toNat) = ⟨(acc ++ [b]).toArray⟩ := by
      apply ByteArray.ext
      simp
    rw [e, this]
    simp

def byteCells (l : List UInt8) : List Value := l.map fun b => .int .u8 (Int.ofNat b.toNat)

section
variable {ρ : Map} {σ : Tok → Value} {own : Nat → Prop} {H : AHeap} {w : World} {E : Env} {t : TypeId} {ti : TI}

theorem cellsOfStr_ok (l : List UInt8) : VRs ρ σ (cellsOfStr l) (byteCells l) := VRs.of_map _ _ l fun x _ => .at _
theorem cellsOfStr_inv {l : List UInt8} : ∀ {vs : List Value}, VRs ρ σ (cellsOfStr l) vs → vs = byteCells l := by
  induction l with
  | nil => intro vs h; cases h; rfl
  | cons b l ih => intro vs h; cases h with | cons h1 h2 => rw [h1.at_inv, ih h2]; rfl
theorem cellsOfStr_length (l : List UInt8) : (cellsOfStr l).length = l.length := by simp [cellsOfStr]

/-- what an append, or a copy, takes of its source -/
theorem srcCells_ok (h : HR ρ σ own H w) {e n : Nat} {x : AV} {cs : List AV} (hs : srcCells H e x = some (n, cs)) {x' : Value} (hx : VR ρ σ x x') :
    ∃ vs, VRs ρ σ cs vs ∧ (Builtin.lenOf x').run E.P w = .ok n w ∧ (∀ m, m ≤ n → (Builtin.firstCells e m x').run E.P w = .ok (vs.take (m * e)).toArray w) ∧ cs.length = n * e := by
  unfold srcCells at hs
  split at hs
  · cases hs
    rw [hx.at_inv]
    exact ⟨[], .nil, rfl, fun m hm => by obtain rfl : m = 0 := by omega
                                         simp [Builtin.firstCells], by simp⟩
  · cases hs
    cases hx
    exact ⟨[], .nil, rfl, fun m hm => by obtain rfl : m = 0 := by omega
                                         simp [Builtin.firstCells, loadCells, loadCellsFrom], by simp⟩
  · rename_i l
    cases hx
    cases he : Nat.beq e 1 with
    | false => rw [he] at hs; cases hs
    | true =>
      rw [he] at hs
      cases hs
      obtain rfl := Nat.eq_of_beq_eq_true he
      refine ⟨byteCells l, cellsOfStr_ok l, by simp [Builtin.lenOf, ByteArray.size], fun m hm => ?_, by simp [cellsOfStr]⟩
      simp only [Builtin.firstCells, Sem.run_pure]
      congr 1
      rw [ByteArray.extract_mk]
      simp only [List.drop_zero, Nat.sub_zero, Nat.mul_one, byteCells, List.map_toArray, List.map_take]
      rfl
  · rename_i b o len cap e' ex
    cases he : Nat.beq e e' with
    | false => rw [he] at hs; cases hs
    | true =>
      rw [he] at hs
      simp only [cond_true] at hs
      obtain rfl := Nat.eq_of_beq_eq_true he
      cases hl : loadN H b o (len * e) with
      | none => rw [hl] at hs; cases hs
      | some c =>
        rw [hl] at hs
        cases hs
        cases hx with
        | @sl _ _ _ _ _ cap' _ y hy hle hex he0 hbd hlc =>
        obtain ⟨vs, h1, h2, h3⟩ := loadN_ok (P := E.P) h hl hy
        have hlen : cs.length = n * e := by
          unfold loadN at hl
          split at hl
          · cases hg : lenGe _ (o + n * e) with
            | false => rw [hg] at hl; cases hl
            | true =>
              rw [hg] at hl; cases hl
              have := lenGe_le hg
              simp; omega
          · cases hl
        refine ⟨vs, h1, by simp [Builtin.lenOf], fun m hm => ?_, hlen⟩
        simp only [Builtin.firstCells]
        -- a shorter load
        have hm' : m * e ≤ n * e := Nat.mul_le_mul_right e hm
        have hl2 : loadN H b o (m * e) = some (cs.take (m * e)) := by
          unfold loadN at hl ⊢
          split at hl
          · rename_i el l s f hb
            cases hg : lenGe l (o + n * e) with
            | false => rw [hg] at hl; cases hl
            | true =>
              rw [hg] at hl; cases hl
              have h9 := lenGe_le hg
              have : lenGe l (o + m * e) = true := by
                have mono : ∀ (l : List AV) (n : Nat), n ≤ l.length → lenGe l n = true := by
                  intro l
                  induction l with
                  | nil => intro n hn; simp at hn; subst hn; rfl
                  | cons x l ih => intro n hn; cases n with
                    | zero => rfl
                    | succ n => simp only [lenGe]; exact ih n (by simpa using hn)
                exact mono l _ (by omega)
              simp only [hb, this, cond_true, List.take_take, Nat.min_eq_left hm']
          · cases hl
        obtain ⟨vs2, g1, g2, g3⟩ := loadN_ok (P := E.P) h hl2 hy
        rw [g2]
        congr 2
        -- the very cells: both are read of one row
        have : ∀ {el l s f}, H.get b = some (.cells el l s f) → vs2 = vs.take (m * e) := fun {el l s f} hb => by
          obtain ⟨c, fz, r1, r2, r3, r4, _⟩ := row_of h hb hy
          have a1 := run_loadRow (P := E.P) r1 (n * e) (o + y.s) 0 #[] (by omega)
          have a2 := run_loadRow (P := E.P) r1 (m * e) (o + y.s) 0 #[] (by omega)
          unfold loadCells at h2 g2
          rw [a1] at h2
          rw [a2] at g2
          simp only [Result.ok.injEq, and_true] at h2 g2
          have e1 : vs = (c.toList.drop (o + y.s)).take (n * e) := by have := congrArg Array.toList h2; simpa using this.symm
          have e2 : vs2 = (c.toList.drop (o + y.s)).take (m * e) := by have := congrArg Array.toList g2; simpa using this.symm
          rw [e1, e2, List.take_take, Nat.min_eq_left hm']
        unfold loadN at hl
        split at hl
        · rename_i el l s f hb; exact this hb
        · cases hl
  · cases hs

theorem convQ_ok (hE : E.Ok σ) (h : HR ρ σ own H w) {s d : TypeId} {x v : AV} (hc : convQ E H s d x = some v) {x' : Value} (hx : VR ρ σ x x') : ∃ v', (convert s d x').run E.P w = .ok v' w ∧ VR ρ σ v v' := by
  unfold convQ at hc
  cases hs : E.ty s with
  | none => rw [hs] at hc; cases hc
  | some si =>
  cases hd : E.ty d with
  | none => rw [hs, hd] at hc; cases hc
  | some di =>
    rw [hs, hd] at hc
    have hS := (hE.ty _ _ hs).und
    have hD := (hE.ty _ _ hd).und
    simp only at hc
    split at hc
    · rename_i k0 k j n h1 h2
      rw [h1] at hS; rw [h2] at hD
      cases hc
      rw [hx.at_inv]
      exact ⟨.int k (k.wrap n), by simp [convert, run_underlying hS, run_underlying hD, Conv.intToInt], .at _⟩
    · rename_i l h1 h2
      rw [h1] at hS; rw [h2] at hD
      cases hc
      cases hx
      exact ⟨_, by simp only [convert, Sem.run_bind, run_underlying hS, run_underlying hD, Result.andThen_ok]; rfl, .str l⟩
    · rename_i tt b o h1 h2
      rw [h1] at hS; rw [h2] at hD
      cases hx with
      | @ptr _ _ y hy =>
      cases hl : load1 H b o with
      | none => rw [hl] at hc; cases hc
      | some z =>
        rw [hl] at hc
        cases ht : E.ty tt with
        | none => rw [ht] at hc; cases hc
        | some tti =>
          rw [ht] at hc
          simp only at hc
          cases h0 : Nat.beq tti.size 0 with
          | true => rw [h0] at hc; cases hc
          | false =>
            rw [h0] at hc
            cases hc
            have hne := Nat.ne_of_beq_eq_false h0
            obtain ⟨i, zz, i1, i2, _⟩ := (hE.ty _ _ ht).info
            unfold load1 at hl
            split at hl
            · rename_i el l sl f hb
              obtain ⟨c, fz, r1, r2, r3, r4, _⟩ := row_of h hb hy
              have ho : o < l.length := (List.getElem?_eq_some_iff.1 hl).1
              have hsh : w.shape? y.r = some (el, c.size) := by simp [World.shape?, r1]
              refine ⟨_, Lib.run_to_unsafe (P := E.P) w _ hS hD i1 (by rw [i2]; exact hne) hsh (by simp; omega), .ptr hy⟩
            · cases hl
    · rename_i tt b h1 h2
      rw [h1] at hS; rw [h2] at hD
      cases hx with
      | @ptr _ _ y hy =>
      split at hc
      · rename_i el l tti hb ht
        cases hcc : (Nat.beq el tt && Nat.beq l.length tti.size && !Nat.beq tti.size 0) with
        | false => rw [hcc] at hc; cases hc
        | true =>
          rw [hcc] at hc
          cases hc
          simp only [Bool.and_eq_true, Bool.not_eq_true'] at hcc
          obtain ⟨⟨c1, c2⟩, c3⟩ := hcc
          obtain rfl := Nat.eq_of_beq_eq_true c1
          have c2 := Nat.eq_of_beq_eq_true c2
          have c3 := Nat.ne_of_beq_eq_false c3
          obtain ⟨c, fz, r1, r2, r3, r4, r5, r6, r7⟩ := row_of h hb hy
          obtain ⟨y0, y1⟩ := r7 rfl rfl
          obtain ⟨i, zz, i1, i2, _⟩ := (hE.ty _ _ ht).info
          have hsh : w.shape? y.r = some (el, c.size) := by simp [World.shape?, r1]
          have hco := (hE.ty _ _ ht).cellsOf
          refine ⟨_, Lib.run_from_unsafe (P := E.P) w _ hS hD i1 hsh (liesAt_self hco c3 _ _ _ ?_ ?_), .ptr hy⟩
          · simp [y0]
          · simp only [Nat.zero_add, y0, Nat.zero_div]
            rw [hco, r2, y1, c2, Nat.div_self (by omega)]
            exact Nat.le_refl _
      · cases hc
    · rename_i x _ _ _ e h1 h2
      rw [h1] at hS; rw [h2] at hD
      cases he : E.ty e with
      | none => rw [he] at hc; cases hc
      | some ei =>
        rw [he] at hc
        simp only at hc
        split at hc
        · rename_i hu
          have hU := (hE.ty _ _ he).und
          rw [hu] at hU
          cases hsc : srcCells H 1 x with
          | none => rw [hsc] at hc; cases hc
          | some p =>
            obtain ⟨n, cs⟩ := p
            rw [hsc] at hc
            simp only at hc
            split at hc
            · cases hc
            · rename_i l hno hb
              cases hc
              obtain ⟨vs, a1, a2, a3, a4⟩ := srcCells_ok (E := E) h hsc hx
              have e1 := bytesA_eq hb
              subst e1
              have e2 := cellsOfStr_inv a1
              subst e2
              have a5 := a3 n (Nat.le_refl _)
              rw [List.take_of_length_le (by rw [← a1.length, a4]; exact Nat.le_refl _)] at a5
              unfold srcCells at hsc
              split at hsc
              · have hn := (Prod.mk.inj (Option.some.inj hsc)).1
                have : l = [] := by rw [← hn] at a4; simpa [cellsOfStr] using a4
                subst this
                rw [hx.at_inv]
                refine ⟨.string .empty, ?_, .str []⟩
                rw [run_convert_bytes_string w _ _ e none 0 0 hS hU hD]
                rfl
              · have hn := (Prod.mk.inj (Option.some.inj hsc)).1
                have : l = [] := by rw [← hn] at a4; simpa [cellsOfStr] using a4
                subst this
                cases hx with
                | @slz _ a cap' hz =>
                refine ⟨.string ⟨#[]⟩, ?_, .str []⟩
                rw [run_convert_bytes_string w _ _ e (some a) 0 cap' hS hU hD]
                have := run_bytesToString (P := E.P) w a 0 cap' [] (by simp [loadCells, loadCellsFrom])
                exact this
              · exact absurd rfl (hno _)
              · rename_i b0 o0 len0 cap0 e0 ex0
                cases hx with
                | @sl _ o _ _ _ cap' _ y hy hle hex he0 hbd hlc =>
                simp only [Builtin.firstCells, Nat.mul_one] at a5
                have hnn : len0 = n := by
                  cases hq : Nat.beq 1 e0 with
                  | false => rw [hq] at hsc; cases hsc
                  | true =>
                    rw [hq] at hsc
                    simp only [cond_true] at hsc
                    split at hsc
                    · exact (Prod.mk.inj (Option.some.inj hsc)).1
                    · cases hsc
                subst hnn
                refine ⟨.string ⟨l.toArray⟩, ?_, .str l⟩
                rw [run_convert_bytes_string w _ _ e _ _ cap' hS hU hD]
                rw [run_bytesToString (P := E.P) w _ len0 cap' (l.map fun b => Int.ofNat b.toNat) (by rw [a5]; simp [byteCells, List.map_map, Function.comp_def])]
                have := pushBytes l []
                simp only [List.nil_append] at this
                rw [← this]
                rfl
              · cases hsc
            · cases hc
        · cases hc
    · cases hc

theorem VRs_two {x y : AV} {l' : List Value} (h : VRs ρ σ [x, y] l') : ∃ a b, l' = [a, b] ∧ VR ρ σ x a ∧ VR ρ σ y b := by
  cases h with
  | cons h1 h => cases h with
    | cons h2 h => cases h; exact ⟨_, _, rfl, h1, h2⟩
theorem VRs_one {x : AV} {l' : List Value} (h : VRs ρ σ [x] l') : ∃ a, l' = [a] ∧ VR ρ σ x a := by
  cases h with
  | cons h1 h => cases h; exact ⟨_, rfl, h1⟩

theorem ERs.length {es : List (AV × AV)} {es' : List MapEntry} (h : ERs ρ σ es es') : es.length = es'.length := by
  induction h with
  | nil => rfl
  | cons _ _ _ ih => simp only [List.length_cons, ih]

theorem builtinQ_ok (hE : E.Ok σ) (h : HR ρ σ own H w) {b : Builtin} {ts : Array TypeId} {ty : TypeId} {cs : Array Bool} {args : List AV} {v : AV} (hq : builtinQ E H b ts args = some v) {args' : List Value} (ha : VRs ρ σ args args') :
    ∃ v', (builtin b ts ty cs args'.toArray).run E.P w = .ok (.value v') w ∧ VR ρ σ v v' := by
  unfold builtinQ at hq
  split at hq
  · rename_i x
    obtain ⟨x', rfl, hx⟩ := VRs_one ha
    cases ht : ts[0]? with
    | none => rw [ht] at hq; cases hq
    | some t =>
      rw [ht] at hq
      simp only at hq
      cases hty : E.ty t with
      | none => rw [hty] at hq; cases hq
      | some ti =>
        rw [hty] at hq
        have hU := (hE.ty _ _ hty).und
        simp only at hq
        simp only [builtin, Builtin.len_, ht]
        split at hq
        · rename_i l hu
          rw [hu] at hU
          cases hq; cases hx
          refine ⟨goInt l.length, ?_, .at _⟩
          simp only [Sem.run_bind, List.getElem?_toArray, List.getElem?_cons_zero, run_underlying hU, Result.andThen_ok, Sem.run_pure]
          rfl
        · rename_i e b o n c k ex hu
          rw [hu] at hU
          cases hq; cases hx
          exact ⟨goInt n, by simp [run_underlying hU], .at _⟩
        · rename_i e ex hu
          rw [hu] at hU
          cases hq; cases hx
          exact ⟨goInt 0, by simp [run_underlying hU], .at _⟩
        · rename_i e n c hu
          rw [hu] at hU
          cases hq; rw [hx.at_inv]
          exact ⟨goInt n, by simp [run_underlying hU], .at _⟩
        · rename_i e n hu
          rw [hu] at hU
          cases hq; rw [hx.at_inv]
          exact ⟨goInt 0, by simp [run_underlying hU], .at _⟩
        · rename_i kk e b hu
          rw [hu] at hU
          cases hx with
          | @map _ y hy =>
          split at hq
          · rename_i es hb
            cases hq
            obtain ⟨o, o1, o2⟩ := h.obj b _ y hb hy
            cases o2 with
            | @map _ _ es' clock hes =>
            have hlen := hes.length
            have hg : (getObj y.r).run E.P w = .ok (.map es'.toArray clock) w := by unfold getObj; simp only [Sem.run, o1]
            refine ⟨goInt es.length, ?_, .at _⟩
            simp only [Sem.run_bind, List.getElem?_toArray, List.getElem?_cons_zero, run_underlying hU, Result.andThen_ok, hg, Sem.run_pure, hlen, List.size_toArray]
          · cases hq
        · cases hq
  · rename_i x
    obtain ⟨x', rfl, hx⟩ := VRs_one ha
    cases ht : ts[0]? with
    | none => rw [ht] at hq; cases hq
    | some t =>
      rw [ht] at hq
      simp only at hq
      cases hty : E.ty t with
      | none => rw [hty] at hq; cases hq
      | some ti =>
        rw [hty] at hq
        have hU := (hE.ty _ _ hty).und
        simp only at hq
        simp only [builtin, Builtin.cap_, ht]
        split at hq
        · rename_i e b o l n k hu
          rw [hu] at hU
          cases hq
          cases hx with
          | @sl _ _ _ _ _ cap' _ y hy hle hex he0 hbd hlc =>
          obtain rfl := hex rfl
          exact ⟨goInt cap', by simp [run_underlying hU], .at _⟩
        · rename_i e n c hu
          rw [hu] at hU
          cases hq; rw [hx.at_inv]
          exact ⟨goInt c, by simp [run_underlying hU], .at _⟩
        · cases hq
  · rename_i k x j y
    obtain ⟨x', y', rfl, hx, hy⟩ := VRs_two ha
    cases hq
    rw [hx.at_inv, hy.at_inv]
    refine ⟨_, ?_, .at _⟩
    simp only [builtin, Builtin.min_, List.foldlM_cons, List.foldlM_nil, Builtin.min2, Sem.run_bind, Sem.run_pure, Result.andThen_ok]
  · rename_i k x j y
    obtain ⟨x', y', rfl, hx, hy⟩ := VRs_two ha
    cases hq
    rw [hx.at_inv, hy.at_inv]
    refine ⟨_, ?_, .at _⟩
    simp only [builtin, Builtin.max_, List.foldlM_cons, List.foldlM_nil, Builtin.max2, Sem.run_bind, Sem.run_pure, Result.andThen_ok]
  · cases hq

theorem lookA_ok {u : TypeDesc} (hu : (∃ k, u = .int k) ∨ u = .string) {k : AV} {k' : Value} (hk : VR ρ σ k k') : ∀ {es : List (AV × AV)} {es' : List MapEntry} {r : Option (Nat × AV)} (n : Nat), lookA u k es = some r → ERs ρ σ es es' →
    ∃ r', Instr.findNow u k' es' n = some r' ∧ (match r, r' with
      | none, none => True
      | some (i, v), some (j, v') => j = n + i ∧ VR ρ σ v v' ∧ i < es.length ∧ ∃ e', es'[i]? = some e' ∧ Instr.sameBits 10000 e'.key k' = true
      | _, _ => False) := by
  intro es
  induction es with
  | nil => intro es' r n h he; cases he; simp only [lookA, Option.some.injEq] at h; subst h; exact ⟨none, rfl, trivial⟩
  | cons e es ih =>
    obtain ⟨ek, ev⟩ := e
    intro es' r n h he
    cases he with
    | @cons _ _ ek' ev' born _ l' h1 h2 h3 =>
    simp only [lookA] at h
    have same : ∀ q, eqAtom u k ek = some q → Instr.sameNow u k' ek' = some q ∧ (q = true → Instr.sameBits 10000 ek' k' = true) := fun q hq => by
      unfold eqAtom at hq
      split at hq
      · rename_i kk j a k2 b
        rw [hk.at_inv, h1.at_inv]
        cases hkb : kindB j k2 with
        | false => rw [hkb] at hq; cases hq
        | true =>
          rw [hkb] at hq
          cases hq
          have := kindB_eq hkb
          subst this
          refine ⟨by simp [Instr.sameNow], fun hh => ?_⟩
          have : a = b := by simpa using hh
          subst this
          simp [Instr.sameBits]
      · rcases hu with ⟨_, hu⟩ | hu <;> cases hu
      · rename_i a b
        cases hk; cases h1
        cases hq
        refine ⟨by simp [Instr.sameNow, beq_toListBytes], fun hh => ?_⟩
        have : a = b := by simpa using hh
        subst this
        rw [Instr.sameBits, beq_toListBytes]
        simp
      · cases hq
    cases hq : eqAtom u k ek with
    | none => rw [hq] at h; cases h
    | some q =>
      rw [hq] at h
      obtain ⟨s1, s2⟩ := same q hq
      cases q with
      | true =>
        cases h
        exact ⟨some (n, ev'), by simp [Instr.findNow, s1], by omega, h2, by simp, _, rfl, s2 rfl⟩
      | false =>
        simp only at h
        cases hl : lookA u k es with
        | none => rw [hl] at h; cases h
        | some r0 =>
          rw [hl] at h
          obtain ⟨r', g1, g2⟩ := ih (n + 1) hl h3
          refine ⟨r', by simp [Instr.findNow, s1, g1], ?_⟩
          cases r0 with
          | none =>
            cases h
            cases r' with
            | none => trivial
            | some _ => exact g2
          | some p =>
            obtain ⟨i, v⟩ := p
            cases h
            cases r' with
            | none => exact g2
            | some p' =>
              obtain ⟨j, v'⟩ := p'
              obtain ⟨a1, a2, a3, e', a4, a5⟩ := g2
              exact ⟨by omega, a2, by simp; omega, e', by simpa using a4, a5⟩
end
end Go.Eng
namespace Go.Eng
open Go

section
variable {ρ : Map} {σ : Tok → Value} {own : Nat → Prop} {H : AHeap} {w : World} {E : Env}

theorem VRo_map {ev : Operand → AV} {cv : Operand → Value} (x : Option Operand) (h : ∀ y, x = some y → VR ρ σ (ev y) (cv y)) : VRo ρ σ (x.map ev) (x.map cv) := by
 cases x with
 | none => exact .none
 | some y => exact .some (h y rfl)

theorem checkKey_plain {key : TypeId} {ki : TI} (hK : TyOk E.P key ki) (hku : (∃ q, ki.u = .int q) ∨ ki.u = .string) (n : Nat) {e : Bool} {v : Value} : (Instr.checkKey e (n + 1) key v).run E.P w = .ok () w := by
 rw [Instr.checkKey]
 simp only [Sem.run_bind, hK.underlying, Result.andThen_ok]
 rcases hku with ⟨q, hq⟩ | hq <;> rw [hq] <;> rfl

theorem qop0_ok (hE : E.Ok σ) (h : HR ρ σ own H w) {ev : Operand → AV} {cv : Operand → Value} {o : Oper} (hev : ∀ x ∈ o.op.operands, VR ρ σ (ev x) (cv x)) {v : AV} (hq : qop0 E H ev o.op = some v) :
  ∃ v', (execOp cv o).run E.P w = .ok (.value v') w ∧ VR ρ σ v v' := by
 obtain ⟨dst, op, type, pos, after, guard⟩ := o
 simp only at hev hq
 have fin : ∀ {s : Sem Value} {v' : Value}, s.run E.P w = .ok v' w → (do pure (.value (← s)) : Sem Next).run E.P w = .ok (.value v') w := fun hs => by simp only [Sem.run_bind, hs, Result.andThen_ok, Sem.run_pure]
 cases op with
 | move x => simp only [qop0, Option.some.injEq] at hq; subst hq; exact ⟨_, rfl, hev x (by simp [Op.operands])⟩
 | assign x => simp only [qop0, Option.some.injEq] at hq; subst hq; exact ⟨_, rfl, hev x (by simp [Op.operands])⟩
 | pick c a b =>
  have hc := hev c (by simp [Op.operands])
  have ha := hev a (by simp [Op.operands])
  have hb := hev b (by simp [Op.operands])
  simp only [qop0] at hq
  split at hq
  ·rename_i t he
   rw [he] at hc
   cases hq
   have e := hc.at_inv
   refine ⟨if t then cv a else cv b, ?_, by cases t <;> assumption⟩
   simp only [execOp, e, asBool, Sem.run_bind, Sem.run_pure, Result.andThen_ok]
  ·cases hq
 | build t parts =>
  simp only [qop0] at hq
  have hp : ∀ p ∈ parts.toList, VR ρ σ (ev p.2) (cv p.2) := fun p hp => hev p.2 (by simp only [Op.operands]; simp; exact ⟨p.1, by simpa using hp⟩)
  obtain ⟨v', h1, h2⟩ := buildA_ok (w := w) (parts' := parts.map fun p => (p.1, cv p.2)) (ρ := ρ) (σ := σ) hE hq (by simp [List.map_map, Function.comp_def]) (by
   simp only [Array.toList_map, List.map_map]
   exact VRs.of_map _ _ _ fun p hp' => hp p hp')
  exact ⟨v', fin h1, h2⟩
 | load t a =>
  have ha := hev a (by simp [Op.operands])
  simp only [qop0] at hq
  split at hq
  ·rename_i b o ti he ht
   rw [he] at ha
   generalize ea : cv a = av at ha
   cases ha with
   | @ptr _ _ y hy =>
   obtain ⟨v', h1, h2⟩ := loadT_ok (E := E) (hE.ty _ _ ht) h hq hy
   refine ⟨v', fin ?_, h2⟩
   rw [ea]
   simp only [Instr.loadAt, Instr.sureAddr, Sem.run_bind, Sem.run_pure, Result.andThen_ok, h1]
  ·cases hq
 | nilCheck x =>
  have hx := hev x (by simp [Op.operands])
  simp only [qop0] at hq
  split at hq
  ·rename_i b o he
   rw [he] at hx
   cases hq
   generalize ea : cv x = av at hx
   cases hx with
   | @ptr _ _ y hy => exact ⟨_, by simp only [execOp, ea]; rfl, .ptr hy⟩
  ·rename_i f a b he
   rw [he] at hx
   cases hq
   generalize ea : cv x = av at hx
   cases hx with
   | fn h1 h2 => exact ⟨_, by simp only [execOp, ea]; rfl, .fn h1 h2⟩
  ·rename_i b he
   rw [he] at hx
   cases hq
   generalize ea : cv x = av at hx
   cases hx with
   | yield h1 => exact ⟨_, by simp only [execOp, ea]; rfl, .yield h1⟩
  ·cases hq
 | binOp op xt x y yt =>
  have hx := hev x (by simp [Op.operands])
  have hy := hev y (by simp [Op.operands])
  simp only [qop0] at hq
  obtain ⟨v', h1, h2⟩ := binA_ok (w := w) hE hq hx hy
  exact ⟨v', fin h1, h2⟩
 | unOp op xt x =>
  have hx := hev x (by simp [Op.operands])
  simp only [qop0] at hq
  split at hq
  ·rename_i u he
   rw [he] at hx
   cases hp : pureRun E.P (Op.unary op u) with
   | none => rw [hp] at hq; cases hq
   | some r =>
    rw [hp] at hq; cases hq
    exact ⟨r, fin (by rw [hx.at_inv]; exact pureRun_ok hp w), .at _⟩
  ·cases hq
 | convert s d x =>
  have hx := hev x (by simp [Op.operands])
  simp only [qop0] at hq
  obtain ⟨v', h1, h2⟩ := convQ_ok hE h hq hx
  exact ⟨v', fin h1, h2⟩
 | makeInterface t x =>
  have hx := hev x (by simp [Op.operands])
  simp only [qop0] at hq
  cases ht : E.ty t with
  | none => rw [ht] at hq; cases hq
  | some ti =>
   rw [ht] at hq
   have hU := (hE.ty _ _ ht)
   simp only at hq
   refine ⟨.iface t (cv x), fin ?_, ?_⟩
   ·simp only [Instr.makeInterface, Sem.run_bind, hU.underlying, Result.andThen_ok]
    split at hq
    ·cases hq
    ·split
     ·rename_i h1 _ _ h2; exact absurd h2 (h1 _)
     ·rfl
   ·split at hq
    ·cases hq
    ·cases hq; exact .iface hx
 | makeFunc f first cap =>
  simp only [qop0, Option.some.injEq] at hq
  subst hq
  refine ⟨.func f (first.map cv) (cap.map cv), rfl, ?_⟩
  have := VR.fn (f := f) (ρ := ρ) (σ := σ) (VRs.of_map ev cv first.toList fun x hx => hev x (by simp [Op.operands]; left; simpa using hx)) (VRs.of_map ev cv cap.toList fun x hx => hev x (by simp [Op.operands]; right; simpa using hx))
  have e : ∀ (a : Array Operand), a.map cv = (a.toList.map cv).toArray := fun a => by apply Array.ext'; simp
  rw [e, e]
  exact this
 | slice t x lo hi mx =>
  have hx := hev x (by simp [Op.operands])
  simp only [qop0] at hq
  obtain ⟨v', h1, h2⟩ := sliceA_ok (w := w) hE hq hx (VRo_map lo fun y hy => hev y (by simp [Op.operands, hy])) (VRo_map hi fun y hy => hev y (by simp [Op.operands, hy])) (VRo_map mx fun y hy => hev y (by simp [Op.operands, hy])) h
  exact ⟨v', fin h1, h2⟩
 | fieldAddr s x f =>
  have hx := hev x (by simp [Op.operands])
  simp only [qop0] at hq
  split at hq
  ·rename_i ti b o ht he
   rw [he] at hx
   generalize ea : cv x = av at hx
   cases hx with
   | @ptr _ _ y hy =>
   have hT := hE.ty _ _ ht
   split at hq
   ·rename_i fields hu
    cases hf : fields[f]? with
    | none => rw [hf] at hq; cases hq
    | some fd =>
     rw [hf] at hq
     simp only at hq
     cases hft : E.ty fd.type with
     | none => rw [hft] at hq; cases hq
     | some fi =>
      rw [hft] at hq
      simp only at hq
      cases h0 : Nat.beq fi.size 0 with
      | true => rw [h0] at hq; cases hq
      | false =>
       rw [h0] at hq; cases hq
       have hne := Nat.ne_of_beq_eq_false h0
       refine ⟨.pointer (some ⟨y.r, o + fd.offset + y.s, none⟩), fin ?_, .ptr hy⟩
       rw [ea]
       simp only [Instr.fieldAt, Sem.run_bind, hT.underlying, Result.andThen_ok, hu, hf, Instr.sureAddr, Sem.run_pure, fieldPlace, (hE.ty _ _ hft).sizeOf, hne, if_false, Addr.add_none]
       rw [show o + y.s + fd.offset = o + fd.offset + y.s by omega]
   ·cases hq
  ·cases hq
 | field s x f =>
  have hx := hev x (by simp [Op.operands])
  simp only [qop0] at hq
  split at hq
  ·rename_i ti l ht he
   rw [he] at hx
   generalize ea : cv x = av at hx
   cases hx with
   | agg hl =>
   have hT := hE.ty _ _ ht
   split at hq
   ·rename_i fields hu
    cases hf : fields[f]? with
    | none => rw [hf] at hq; cases hq
    | some fd =>
     rw [hf] at hq
     simp only at hq
     cases hft : E.ty fd.type with
     | none => rw [hft] at hq; cases hq
     | some fi =>
      rw [hft] at hq
      simp only at hq
      obtain ⟨v', h1, h2⟩ := part_ok (E := E) (w := w) (hE.ty _ _ hft) hq hl
      refine ⟨v', fin ?_, h2⟩
      rw [ea]
      simp only [Instr.field, Sem.run_bind, hT.underlying, Result.andThen_ok, hu, hf, asAgg, Sem.run_pure, h1]
   ·cases hq
  ·cases hq
 | indexAddr t x i =>
  have hx := hev x (by simp [Op.operands])
  have hi := hev i (by simp [Op.operands])
  simp only [qop0] at hq
  split at hq
  ·rename_i ti kk k b o len cap e ex ht he1 he2
   rw [he1] at hi; rw [he2] at hx
   have ei := hi.at_inv
   generalize ea : cv x = av at hx
   cases hx with
   | @sl _ _ _ _ _ cap' _ y hy hle hex he0 hbd hlc =>
   have hT := hE.ty _ _ ht
   split at hq
   ·rename_i elem hu
    cases hel : E.ty elem with
    | none => rw [hel] at hq; cases hq
    | some el =>
     rw [hel] at hq
     simp only at hq
     cases hc : (Nat.beq el.size e && Nat.blt k len) with
     | false => rw [hc] at hq; cases hq
     | true =>
      rw [hc] at hq; cases hq
      simp only [Bool.and_eq_true] at hc
      have c1 := Nat.eq_of_beq_eq_true hc.1
      have c2 : k < len := by simpa [Nat.blt_eq] using hc.2
      refine ⟨.pointer (some ⟨y.r, o + k * e + y.s, none⟩), fin ?_, .ptr hy⟩
      rw [ea, ei]
      simp only [Instr.indexAt, asIntOf, Sem.run_bind, Sem.run_pure, Result.andThen_ok, hT.underlying, hu]
      rw [if_pos ⟨by simp, by simp; omega⟩]
      simp only [Sem.run_bind, (hE.ty _ _ hel).sizeOf, Result.andThen_ok, Sem.run_pure, Addr.add_none, c1]
      rw [show o + y.s + Int.toNat (Int.ofNat k) * e = o + k * e + y.s by simp; omega]
   ·cases hq
  ·rename_i ti kk k b o ht he1 he2
   rw [he1] at hi; rw [he2] at hx
   have ei := hi.at_inv
   generalize ea : cv x = av at hx
   cases hx with
   | @ptr _ _ y hy =>
   have hT := hE.ty _ _ ht
   split at hq
   ·rename_i n elem hu
    cases hel : E.ty elem with
    | none => rw [hel] at hq; cases hq
    | some el =>
     rw [hel] at hq
     simp only at hq
     cases hc : Nat.blt k n with
     | false => rw [hc] at hq; cases hq
     | true =>
      rw [hc] at hq; cases hq
      have c2 : k < n := by simpa [Nat.blt_eq] using hc
      refine ⟨.pointer (some ⟨y.r, o + k * el.size + y.s, none⟩), fin ?_, .ptr hy⟩
      rw [ea, ei]
      simp only [Instr.indexAt, asIntOf, Sem.run_bind, Sem.run_pure, Result.andThen_ok, hT.underlying, hu, Instr.sureAddr]
      rw [if_pos ⟨by simp, by simp; omega⟩]
      simp only [Sem.run_bind, (hE.ty _ _ hel).sizeOf, Result.andThen_ok, Sem.run_pure, Addr.add_none]
      rw [show o + y.s + Int.toNat (Int.ofNat k) * el.size = o + k * el.size + y.s by simp; omega]
   ·cases hq
  ·cases hq
 | index t x i =>
  have hx := hev x (by simp [Op.operands])
  have hi := hev i (by simp [Op.operands])
  simp only [qop0] at hq
  split at hq
  ·rename_i ti kk k l ht he1 he2
   rw [he1] at hi; rw [he2] at hx
   have ei := hi.at_inv
   generalize ea : cv x = av at hx
   cases hx
   have hT := hE.ty _ _ ht
   split at hq
   ·rename_i hu
    cases hl : l[k]? with
    | none => rw [hl] at hq; cases hq
    | some b =>
     rw [hl] at hq; cases hq
     refine ⟨_, fin ?_, .at _⟩
     rw [ea, ei]
     simp only [Instr.index, asIntOf, Sem.run_bind, Sem.run_pure, Result.andThen_ok, hT.underlying, hu]
     have : (if (0 : Int) ≤ Int.ofNat k then (ByteArray.mk l.toArray)[(Int.ofNat k).toNat]? else none) = some b := by
      rw [if_pos (by simp)]
      obtain ⟨h1, h2⟩ := List.getElem?_eq_some_iff.1 hl
      have hs : k < (ByteArray.mk l.toArray).size := by show k < l.toArray.size; simpa using h1
      show (ByteArray.mk l.toArray)[k]? = some b
      rw [getElem?_pos _ k hs]
      congr 1
     rw [this]
     rfl
   ·cases hq
  ·rename_i ti kk k l ht he1 he2
   rw [he1] at hi; rw [he2] at hx
   have ei := hi.at_inv
   generalize ea : cv x = av at hx
   cases hx with
   | agg hl =>
   have hT := hE.ty _ _ ht
   split at hq
   ·rename_i n elem hu
    cases hel : E.ty elem with
    | none => rw [hel] at hq; cases hq
    | some el =>
     rw [hel] at hq
     simp only at hq
     cases hc : Nat.blt k n with
     | false => rw [hc] at hq; cases hq
     | true =>
      rw [hc] at hq
      simp only [cond_true] at hq
      have c2 : k < n := by simpa [Nat.blt_eq] using hc
      obtain ⟨v', h1, h2⟩ := part_ok (E := E) (w := w) (hE.ty _ _ hel) hq hl
      refine ⟨v', fin ?_, h2⟩
      rw [ea, ei]
      simp only [Instr.index, asIntOf, Sem.run_bind, Sem.run_pure, Result.andThen_ok, hT.underlying, hu]
      rw [if_pos ⟨by simp, by simp; omega⟩]
      simp only [Sem.run_bind, (hE.ty _ _ hel).sizeOf, Result.andThen_ok]
      exact h1
   ·cases hq
  ·cases hq
 | lookup t m k ok =>
  have hm := hev m (by simp [Op.operands])
  have hk := hev k (by simp [Op.operands])
  simp only [qop0] at hq
  split at hq
  ·rename_i b ti he ht
   rw [he] at hm
   generalize ea : cv m = av at hm
   cases hm with
   | @map _ y hy =>
   have hT := hE.ty _ _ ht
   split at hq
   ·rename_i es key elem hb hu
    cases hki : E.ty key with
    | none => rw [hki] at hq; cases hq
    | some ki =>
    cases hei : E.ty elem with
    | none => rw [hki, hei] at hq; cases hq
    | some ei =>
     rw [hki, hei] at hq
     simp only at hq
     have hK := hE.ty _ _ hki
     obtain ⟨z, hz1, hz2, _⟩ := (hE.ty _ _ hei).zeroValue w
     obtain ⟨o, o1, o2⟩ := h.obj b _ y hb hy
     cases o2 with
     | @map _ _ es' clock hes =>
     have hg : (getObj y.r).run E.P w = .ok (.map es'.toArray clock) w := by unfold getObj; simp only [Sem.run, o1]
     have main : ((∃ q, ki.u = .int q) ∨ ki.u = .string) → ∀ r, lookA ki.u (ev k) es = some r → some (bif ok then AV.tup [match r with | some (_, v) => v | none => ei.zero, .at (.bool r.isSome)] else match r with | some (_, v) => v | none => ei.zero) = some v →
       ∃ v', (Instr.lookup t (cv m) (cv k) ok).run E.P w = .ok v' w ∧ VR ρ σ v v' := fun hku r hr hv => by
      obtain ⟨r', f1, f2⟩ := lookA_ok hku hk 0 hr hes
      have hck : (Instr.checkKey es'.toArray.isEmpty 10000 key (cv k)).run E.P w = .ok () w := checkKey_plain hK hku 9999
      have hfk : (Instr.findKey key (cv k) es').run E.P w = .ok r' w := by
       unfold Instr.findKey
       simp only [Sem.run_bind, hK.underlying, Result.andThen_ok, f1, Sem.run_pure]
      rw [ea]
      unfold Instr.lookup
      simp only [Sem.run_bind, hT.underlying, Result.andThen_ok, hu, hg, Sem.run_pure, hck, hfk]
      cases r with
      | none =>
       cases r' with
       | some p => exact f2.elim
       | none =>
        simp only [Sem.run_bind, hz1, Result.andThen_ok, Sem.run_pure]
        have hzz : VR ρ σ ei.zero z := by rw [hz2]; exact ofValue_ok z
        cases ok with
        | true => cases hv; exact ⟨_, rfl, .tup (.cons hzz (.cons (.at _) .nil))⟩
        | false => cases hv; exact ⟨_, rfl, hzz⟩
      | some p =>
       obtain ⟨i, u⟩ := p
       cases r' with
       | none => exact f2.elim
       | some p' =>
        obtain ⟨j, u'⟩ := p'
        simp only [Sem.run_pure, Result.andThen_ok]
        cases ok with
        | true => cases hv; exact ⟨_, rfl, .tup (.cons f2.2.1 (.cons (.at _) .nil))⟩
        | false => cases hv; exact ⟨_, rfl, f2.2.1⟩
     split at hq
     ·rename_i q r hku hr
      obtain ⟨v', g1, g2⟩ := main (.inl ⟨_, hku⟩) r hr hq
      exact ⟨v', fin g1, g2⟩
     ·rename_i r hku hr
      obtain ⟨v', g1, g2⟩ := main (.inr hku) r hr hq
      exact ⟨v', fin g1, g2⟩
     ·cases hq
   ·cases hq
  ·cases hq
 | extract x i =>
  have hx := hev x (by simp [Op.operands])
  simp only [qop0] at hq
  split at hq
  ·rename_i l he
   rw [he] at hx
   generalize ea : cv x = av at hx
   cases hx with
   | tup hl =>
   obtain ⟨v', h1, h2⟩ := hl.get hq
   refine ⟨v', fin ?_, h2⟩
   rw [ea]
   simp only [Instr.extract, List.getElem?_toArray, h1, Sem.run_pure]
  ·cases hq
 | call c =>
  simp only [qop0] at hq
  split at hq
  ·rename_i b hb
   have hargs : VRs ρ σ (c.args.toList.map ev) (c.args.toList.map cv) := VRs.of_map _ _ _ fun x hx => hev x (by show x ∈ c.operands; unfold Call.operands; rw [hb]; simpa using hx)
   obtain ⟨v', h1, h2⟩ := builtinQ_ok (ty := type) (cs := c.args.map fun | .const _ => true | _ => false) hE h hq hargs
   refine ⟨v', ?_, h2⟩
   have e : (c.args.toList.map cv).toArray = c.args.map cv := by apply Array.ext'; simp
   rw [e] at h1
   simp only [execOp, resolve, hb, Sem.run_bind, Sem.run_pure, Result.andThen_ok, invoke]
   exact h1
  ·cases hq
 | _ => simp [qop0] at hq

theorem qop_ok (hE : E.Ok σ) (h : HR ρ σ own H w) {ev : Operand → AV} {cv : Operand → Value} {o : Oper} (hev : ∀ x ∈ o.op.operands, VR ρ σ (ev x) (cv x)) {v : AV} (hq : qop E H ev o.op = some v) :
  ∃ v', (execOp cv o).run E.P w = .ok (.value v') w ∧ VR ρ σ v v' := by
 unfold qop at hq
 cases hs : E.orq H ev o.op with
 | some u =>
  rw [hs] at hq
  cases hq
  exact hE.orq H ev o.op _ hs ρ own w h cv hev o rfl
 | none =>
  rw [hs] at hq
  exact qop0_ok hE h hev hq
end
end Go.Eng
namespace Go.Eng
open Go

section
variable {ρ : Map} {σ : Tok → Value} {own : Nat → Prop} {H : AHeap} {w : World} {E : Env}

/-- fewer claims on a row -/
theorem HR.weaken (h : HR ρ σ own H w) {b : Nat} {el : TypeId} {l : List AV} {solo front : Bool} (hb : H.get b = some (.cells el l solo front)) : HR ρ σ own (H.put b (.cells el l false false)) w := by
 have was : ∀ k a, (H.put b (.cells el l false false)).get k = some a → ∃ a0, H.get k = some a0 ∧ a.len = a0.len ∧ (a.solo = true → a0.solo = true) ∧ (a.front = true → a0.front = true) ∧ (∀ x o, OR ρ σ a0 x o → OR ρ σ a x o) := fun k a hk => by
  rw [AHeap.get_put] at hk
  by_cases e : k = b
  ·subst e
   rw [if_pos rfl] at hk; cases hk
   refine ⟨_, hb, rfl, (fun hh => nomatch hh), (fun hh => nomatch hh), fun x o ho => ?_⟩
   cases ho with
   | cells a1 a2 a3 a4 a5 a6 => exact .cells a1 a2 a3 (fun hh => nomatch hh) (fun hh => nomatch hh) (fun hh => nomatch hh)
  ·rw [if_neg e] at hk
   exact ⟨a, hk, rfl, id, id, fun _ _ => id⟩
 refine ⟨fun k a x ha hx => ?_, h.dom, fun k k' a a' x x' hne ha ha' hx hx' he => ?_, fun k a x ha hx hs => ?_⟩
 ·obtain ⟨a0, b1, _, _, _, b5⟩ := was k a ha
  obtain ⟨o, h1, h2⟩ := h.obj k a0 x b1 hx
  exact ⟨o, h1, b5 _ _ h2⟩
 ·obtain ⟨a0, b1, b2, b3, b4, _⟩ := was k a ha
  obtain ⟨a0', d1, d2, d3, d4, _⟩ := was k' a' ha'
  have hap := h.apart k k' a0 a0' x x' hne b1 d1 hx hx' he
  refine ⟨?_, fun hh => ?_⟩
  ·cases hs : a.solo with
   | false => rfl
   | true => have := b3 hs; rw [hap.1] at this; cases this
  ·have h10 := hap.2 (b4 hh)
   refine ⟨?_, by rw [b2, d2]; exact h10.2⟩
   cases hs : a'.front with
   | false => rfl
   | true => have := d4 hs; rw [h10.1] at this; cases this
 ·obtain ⟨a0, b1, b2, b3, b4, _⟩ := was k a ha
  exact h.own k a0 x b1 hx (hs.imp b3 b4)

theorem zeroCells_size (zero : Array Value) (n : Nat) : (Builtin.zeroCells zero n).size = n * zero.size := by simp [Builtin.zeroCells]

/-- a row that an append, or the like, has just made: its cells, and so many spare ones -/
theorem HR.fresh (h : HR ρ σ own H w) (hown : ∀ k, w.heap.size ≤ k → own k) {el : TypeId} {l : List AV} {l' : List Value} (hv : VRs ρ σ l l') (spare : Array Value) (solo front : Bool) (hx : solo = true → front = false → spare.size = 0)
  (d : Nat) : HR (upd ρ H.n ⟨w.heap.size, 0, l.length + spare.size⟩) σ own (H.new (.cells el l solo front)) (World.alloc { w with drawn := d } (.cells (l'.toArray ++ spare) el)) ∧
   Kp own w (World.alloc { w with drawn := d } (.cells (l'.toArray ++ spare) el)) := by
 have hn := h.none_of_ge (Nat.le_refl H.n)
 have hl := hv.length
 refine ⟨(h.drawn d).new _ (hown _ (Nat.le_refl _)) (.cells (by simp; omega) (by simp) (fun i a ha => ?_) (fun _ i _ _ => ?_) (fun _ i _ _ => ?_) (fun h1 h2 => ?_)), (Kp.drawn own w d).trans (Kp.alloc own _ _)⟩
 ·obtain ⟨v, h1, h2⟩ := hv.get ha
  refine ⟨v, ?_, h2.mono (upd_le hn)⟩
  have hi : i < l'.length := (List.getElem?_eq_some_iff.1 h1).1
  simp only [Nat.zero_add]
  rw [Array.getElem?_append_left (by simpa using hi)]
  simpa using h1
 ·simp [shut]
 ·simp [shut]
 ·have := hx h1 h2; simp [this]

theorem cut_cap (need old : Nat) (el : TypeId) (t : Nat) (h : need < 2 ^ 63) : need ≤ (Question.appendCap need old el).cut t := by
 unfold Question.cut
 simp

section appends
variable {el u t : TypeId} {ei ui : TI} {ts : Array TypeId} {ty : TypeId} {x' : Value} {n : Nat}

theorem append_room (hTu : E.P.underlying t = some (.slice el)) (hEi : TyOk E.P el ei) (hUi : TyOk E.P u ui) (ht : ts[0]? = some t) (hu : ts[1]? = some u) (hint : ∀ k, ui.u ≠ .int k) {base : Option Addr} {sLen sCap : Nat} {new' : List Value}
  (hlen : (Builtin.lenOf x').run E.P w = .ok n w) (hfirst : (Builtin.firstCells ei.size n x').run E.P w = .ok new'.toArray w) (hroom : sLen + n ≤ sCap) {w' : World}
  (hst : ∀ a, base = some a → (storeCells (a.add (sLen * ei.size)) new').run E.P w = .ok () w') (hnone : base = none → w' = w) :
  (Builtin.append_ ts ty #[.slice base sLen sCap, x']).run E.P w = .ok (.slice base (sLen + n) sCap) w' := by
 unfold Builtin.append_
 simp only [ht, hu, List.getElem?_toArray, List.getElem?_cons_zero, List.getElem?_cons_succ, Sem.run_bind, run_underlying hTu, hEi.sizeOf, hUi.underlying, Result.andThen_ok]
 have hz : (match ui.u with | .int _ => true | _ => false) = false := by cases hh : ui.u <;> first | rfl | exact absurd hh (hint _)
 simp only [hz, Sem.run_pure, Result.andThen_ok, Bool.false_eq_true, if_false, hlen, hroom, if_true, Sem.run_bind, Bool.not_false, hfirst]
 cases base with
 | none => rw [hnone rfl]; rfl
 | some a => simp only [Sem.run_bind, hst a rfl, Result.andThen_ok, Sem.run_pure]

theorem append_grow (hTu : E.P.underlying t = some (.slice el)) (hEi : TyOk E.P el ei) (hUi : TyOk E.P u ui) (ht : ts[0]? = some t) (hu : ts[1]? = some u) (hint : ∀ k, ui.u ≠ .int k) {base : Option Addr} {sLen sCap : Nat} {old' new' : List Value}
  (hlen : (Builtin.lenOf x').run E.P w = .ok n w) (hno : ¬ sLen + n ≤ sCap) (hbytes : ei.bytes * (2 * (sLen + n)) ≤ 2 ^ 47) (hsmall : sLen + n ≤ 2 ^ 40)
  (hold : (Builtin.firstCells ei.size sLen (.slice base sLen sCap)).run E.P { w with drawn := w.drawn + 1 } = .ok old'.toArray { w with drawn := w.drawn + 1 })
  (hfirst : (Builtin.firstCells ei.size n x').run E.P { w with drawn := w.drawn + 1 } = .ok new'.toArray { w with drawn := w.drawn + 1 }) :
  ∃ (cap : Nat) (spare : Array Value), sLen + n ≤ cap ∧ spare.size = (cap - (sLen + n)) * ei.size ∧ (Builtin.append_ ts ty #[.slice base sLen sCap, x']).run E.P w =
   .ok (.slice (some ⟨w.heap.size, 0, none⟩) (sLen + n) cap) (World.alloc { w with drawn := w.drawn + 1 } (.cells ((old' ++ new').toArray ++ spare) el)) := by
 obtain ⟨i, z, hi1, hi2, hi3, hi4, hi5, hi6⟩ := hEi.info
 have hty : ∀ w, (typeInfo el).run E.P w = .ok i w := fun w => by simp [typeInfo, hi1]
 have hzv : ∀ w, (zeroValue el).run E.P w = .ok z w := fun w => by simp [zeroValue, typeInfo, hi1, hi4]
 have hcut := cut_cap (sLen + n) sCap el (w.tape w.drawn (.appendCap (sLen + n) sCap el)) (by omega)
 refine ⟨(Question.appendCap (sLen + n) sCap el).cut (w.tape w.drawn (.appendCap (sLen + n) sCap el)), Builtin.zeroCells z.cells ((Question.appendCap (sLen + n) sCap el).cut (w.tape w.drawn (.appendCap (sLen + n) sCap el)) - (sLen + n)), hcut,
  by rw [zeroCells_size, hi6], ?_⟩
 unfold Builtin.append_
 simp only [ht, hu, List.getElem?_toArray, List.getElem?_cons_zero, List.getElem?_cons_succ, Sem.run_bind, run_underlying hTu, hEi.sizeOf, hUi.underlying, Result.andThen_ok]
 have hz : (match ui.u with | .int _ => true | _ => false) = false := by cases hh : ui.u <;> first | rfl | exact absurd hh (hint _)
 have hneed : ¬ (((sLen + n : Nat) : Int) > IntKind.i64.max ∧ (False ∨ i.bytes = 0)) := by
  intro hh
  have : IntKind.i64.max = 9223372036854775807 := rfl
  rw [this] at hh
  have := hh.1
  omega
 have hcap : ¬ (Builtin.nextslicecap (sLen + n) sCap * i.bytes > 2 ^ 48) := by
  have h1 := nextslicecap_le (need := sLen + n) (old := sCap) (by omega)
  have h2 : Builtin.nextslicecap (sLen + n) sCap * i.bytes ≤ 2 * (sLen + n) * i.bytes := Nat.mul_le_mul_right _ h1
  rw [hi3] at h2 ⊢
  rw [Nat.mul_comm (2 * (sLen + n))] at h2
  omega
 simp only [hz, Sem.run_pure, Result.andThen_ok, Bool.false_eq_true, if_false, hlen, hno, Sem.run_bind, Bool.not_false, hty, false_or]
 have hneed' : ¬ (((sLen + n : Nat) : Int) > IntKind.i64.max ∧ i.bytes = 0) := fun hh => hneed ⟨hh.1, .inr hh.2⟩
 rw [if_neg hneed']
 simp only [Sem.run_bind, hty, Result.andThen_ok]
 rw [if_neg hcap]
 have hforce : (Question.appendCap (sLen + n) sCap el).forced = false := rfl
 simp only [Sem.run_bind, run_choose, hforce, Bool.false_eq_true, if_false, Result.andThen_ok, hty, run_askRoom, hold, if_true, hfirst, hzv, newRow, run_newObj, Sem.run_pure]
 simp only [List.append_toArray]
 rfl
end appends

theorem elemOfSlice_ok (hE : E.Ok σ) {t el : TypeId} {ei : TI} (hes : elemOfSlice E t = some (el, ei)) : E.P.underlying t = some (.slice el) ∧ E.ty el = some ei := by
 unfold elemOfSlice at hes
 cases hty : E.ty t with
 | none => rw [hty] at hes; cases hes
 | some ti =>
  rw [hty] at hes
  simp only at hes
  split at hes
  ·rename_i e he
   cases hei : E.ty e with
   | none => rw [hei] at hes; cases hes
   | some ei' =>
    rw [hei] at hes
    cases hes
    exact ⟨by rw [(hE.ty _ _ hty).und, he], hei⟩
  ·cases hes

def sBlock : AV → Option Nat
 | .sl b _ _ _ _ _ => some b
 | _ => none
theorem appendA_ok (hE : E.Ok σ) (h : HR ρ σ own H w) (hown : ∀ k, w.heap.size ≤ k → own k) {t u : TypeId} {s x v : AV} {H' : AHeap} (hq : appendA E H t u s x = some (v, H')) {ts : Array TypeId} {ty : TypeId} (ht : ts[0]? = some t) (hu : ts[1]? = some u)
  {s' x' : Value} (hs : VR ρ σ s s') (hx : VR ρ σ x x') :
  ∃ ρ' w' v', Grow ρ ρ' H.n ∧ HR ρ' σ own H' w' ∧ Kp own w w' ∧ H.n ≤ H'.n ∧ VR ρ' σ v v' ∧ (Builtin.append_ ts ty #[s', x']).run E.P w = .ok v' w' ∧ ∀ y, ρ' H.n = some y → w.heap.size ≤ y.r ∨ ∃ b x, sBlock s = some b ∧ ρ b = some x ∧ y.r = x.r := by
 have hn := h.none_of_ge (Nat.le_refl H.n)
 unfold appendA at hq
 cases hes : elemOfSlice E t with
 | none => rw [hes] at hq; cases hq
 | some p =>
 obtain ⟨el, ei⟩ := p
 cases hui : E.ty u with
 | none => rw [hes, hui] at hq; cases hq
 | some ui =>
 rw [hes, hui] at hq
 simp only at hq
 obtain ⟨hTu, hei⟩ := elemOfSlice_ok hE hes
 have hEi := hE.ty _ _ hei
 have hUi := hE.ty _ _ hui
 cases hg : (isIntT ui.u || Nat.beq ei.size 0) with
 | true => rw [hg] at hq; cases hq
 | false =>
 rw [hg] at hq
 simp only [cond_false] at hq
 simp only [Bool.or_eq_false_iff] at hg
 have hsz : ei.size ≠ 0 := Nat.ne_of_beq_eq_false hg.2
 have hint : ∀ k, ui.u ≠ .int k := fun k hk => by have := hg.1; rw [hk] at this; cases this
 cases hsc : srcCells H ei.size x with
 | none => rw [hsc] at hq; cases hq
 | some p =>
 obtain ⟨n, new⟩ := p
 rw [hsc] at hq
 simp only at hq
 cases hb : (Nat.ble n 1000000 && (Nat.ble (ei.bytes * (2 * (n + 1000000))) (2 ^ 47) && new.all AV.cell)) with
 | false => rw [hb] at hq; cases hq
 | true =>
 rw [hb] at hq
 simp only [cond_true] at hq
 simp only [Bool.and_eq_true] at hb
 have hn6 := Nat.le_of_ble_eq_true hb.1
 have hbytes := Nat.le_of_ble_eq_true hb.2.1
 -- its source, as it reads now, and behind a draw
 obtain ⟨newA, hnewA, hlenA, hcellsA, hnlA⟩ := srcCells_ok (E := E) h hsc hx
 obtain ⟨newB, hnewB, hlenB, hcellsB, hnlB⟩ := srcCells_ok (E := E) (h.drawn (w.drawn + 1)) hsc hx
 have hfirstA : (Builtin.firstCells ei.size n x').run E.P w = .ok newA.toArray w := by
  have := hcellsA n (Nat.le_refl _)
  rwa [List.take_of_length_le (by have := hnewA.length; omega)] at this
 have hfirstB : (Builtin.firstCells ei.size n x').run E.P { w with drawn := w.drawn + 1 } = .ok newB.toArray { w with drawn := w.drawn + 1 } := by
  have := hcellsB n (Nat.le_refl _)
  rwa [List.take_of_length_le (by have := hnewB.length; omega)] at this
 -- nothing to append
 have idle : ∀ base sLen sCap, s' = .slice base sLen sCap → sLen ≤ sCap → n = 0 → (Builtin.append_ ts ty #[s', x']).run E.P w = .ok s' w := fun base sLen sCap e hle h0 => by
  subst e
  have hA0 : newA = [] := by have := hnewA.length; rw [hnlA, h0] at this; simpa using this.symm
  have := append_room (w' := w) (ty := ty) (base := base) (sLen := sLen) (sCap := sCap) hTu hEi hUi ht hu hint hlenA hfirstA (by omega) (fun a _ => by rw [hA0]; rfl) (fun _ => rfl)
  rw [this, h0]
  rfl
 -- a row of its own
 have own1 : ∀ base sLen sCap (old : List AV) (old' : List Value) (H1 : AHeap) (solo : Bool), s' = .slice base sLen sCap → ¬ sLen + n ≤ sCap → sLen ≤ 1000000 → HR ρ σ own H1 w → H1.n = H.n → VRs ρ σ old old' → old.length = sLen * ei.size →
   (Builtin.firstCells ei.size sLen s').run E.P { w with drawn := w.drawn + 1 } = .ok old'.toArray { w with drawn := w.drawn + 1 } →
   v = .sl H.n 0 (sLen + n) (sLen + n) ei.size false → H' = H1.new (.cells el (old ++ new) solo true) →
   ∃ ρ' w' v', Grow ρ ρ' H.n ∧ HR ρ' σ own H' w' ∧ Kp own w w' ∧ H.n ≤ H'.n ∧ VR ρ' σ v v' ∧ (Builtin.append_ ts ty #[s', x']).run E.P w = .ok v' w' ∧ ∀ y, ρ' H.n = some y → w.heap.size ≤ y.r ∨ ∃ b x, sBlock s = some b ∧ ρ b = some x ∧ y.r = x.r := fun base sLen sCap old old' H1 solo e hno hsl hH1 hn1 hold hol hrun hv hH' => by
  subst e
  subst hv
  subst hH'
  obtain ⟨cap, spare, c1, c2, c3⟩ := append_grow (ty := ty) hTu hEi hUi ht hu hint hlenA hno (Nat.le_trans (Nat.mul_le_mul_left _ (by omega)) hbytes) (by omega) hrun hfirstB
  obtain ⟨g1, g2⟩ := hH1.fresh hown (el := el) (hold.append hnewB) spare solo true (fun _ hh => by cases hh) (w.drawn + 1)
  have hsz2 : (old ++ new).length + spare.size = cap * ei.size := by
   have : (old ++ new).length = (sLen + n) * ei.size := by rw [List.length_append, hol, hnlA, Nat.add_mul]
   rw [this, c2, ← Nat.add_mul]
   congr 1
   omega
  refine ⟨_, _, .slice (some ⟨w.heap.size, 0, none⟩) (sLen + n) cap, Grow.upd (by rw [hn1]; exact hn) (by rw [hn1]; exact Nat.le_refl _), g1, g2, by show H.n ≤ H1.n + 1; omega, ?_, c3, fun y hy => by rw [← hn1, upd_self] at hy; cases hy; exact .inl (Nat.le_refl _)⟩
  have := VR.sl (ρ := upd ρ H1.n ⟨w.heap.size, 0, (old ++ new).length + spare.size⟩) (σ := σ) (b := H.n) (o := 0) (len := sLen + n) (cap := sLen + n) (e := ei.size) (cap' := cap) (ex := false) (x := ⟨w.heap.size, 0, (old ++ new).length + spare.size⟩)
   (by rw [← hn1]; exact upd_self _ _ _) c1 (fun hh => by cases hh) (by omega) (by rw [hsz2]; simp) (Nat.le_refl _)
  exact this
 split at hq
 · -- a nil slice
  rw [hs.at_inv]
  rw [hs.at_inv] at idle own1
  cases h0 : Nat.beq n 0 with
  | true =>
   rw [h0] at hq; cases hq
   exact ⟨ρ, w, _, Grow.refl _ _, h, Kp.refl _ _, Nat.le_refl _, .at _, idle none 0 0 rfl (Nat.le_refl _) (Nat.eq_of_beq_eq_true h0), fun y hy => by rw [hn] at hy; cases hy⟩
  | false =>
   have h0' := Nat.ne_of_beq_eq_false h0
   rw [h0] at hq
   simp only [cond_false, Option.some.injEq, Prod.mk.injEq] at hq
   exact own1 none 0 0 [] [] H true rfl (by omega) (by omega) h rfl .nil (by simp) (by simp [Builtin.firstCells]) (by rw [Nat.zero_add]; exact hq.1.symm) hq.2.symm
 ·rename_i ex
  cases hs with
  | @slz _ a cap' hz =>
  cases h0 : Nat.beq n 0 with
  | true =>
   rw [h0] at hq; cases hq
   exact ⟨ρ, w, _, Grow.refl _ _, h, Kp.refl _ _, Nat.le_refl _, .slz hz, idle (some a) 0 cap' rfl (Nat.zero_le _) (Nat.eq_of_beq_eq_true h0), fun y hy => by rw [hn] at hy; cases hy⟩
  | false =>
   have h0' := Nat.ne_of_beq_eq_false h0
   rw [h0] at hq
   simp only [cond_false] at hq
   cases ex with
   | false => cases hq
   | true =>
    simp only [cond_true, Option.some.injEq, Prod.mk.injEq] at hq
    have := hz rfl
    exact own1 (some a) 0 cap' [] [] H true rfl (by omega) (by omega) h rfl .nil (by simp) (by simp [Builtin.firstCells, loadCells, loadCellsFrom]) (by rw [Nat.zero_add]; exact hq.1.symm) hq.2.symm
 ·rename_i b o len cap e ex
  cases hs with
  | @sl _ _ _ _ _ cap' _ y hy hle hex he0 hbd hlc =>
  cases hg2 : (Nat.beq e ei.size && Nat.ble cap 1000000) with
  | false => rw [hg2] at hq; cases hq
  | true =>
  rw [hg2] at hq
  simp only [cond_true] at hq
  simp only [Bool.and_eq_true] at hg2
  obtain rfl := Nat.eq_of_beq_eq_true hg2.1
  have hcap6 := Nat.le_of_ble_eq_true hg2.2
  cases h0 : Nat.beq n 0 with
  | true =>
   rw [h0] at hq; cases hq
   exact ⟨ρ, w, _, Grow.refl _ _, h, Kp.refl _ _, Nat.le_refl _, .sl hy hle hex he0 hbd hlc, idle _ len cap' rfl (by omega) (Nat.eq_of_beq_eq_true h0), fun y hy => by rw [hn] at hy; cases hy⟩
  | false =>
  have h0' := Nat.ne_of_beq_eq_false h0
  rw [h0] at hq
  simp only [cond_false] at hq
  cases hroom : Nat.ble (len + n) cap with
  | true =>
   have hroom' := Nat.le_of_ble_eq_true hroom
   rw [hroom] at hq
   simp only [cond_true] at hq
   cases hst : storeN H b (o + len * ei.size) new with
   | none => rw [hst] at hq; cases hq
   | some H1 =>
    rw [hst] at hq
    cases hq
    obtain ⟨w', s1, s2, s3, s4⟩ := storeN_ok (P := E.P) h hst hy hnewA
    refine ⟨ρ, w', _, Grow.refl _ _, s2, s3, by omega, .sl hy hle hex he0 hbd hroom', ?_, fun y hy => by rw [hn] at hy; cases hy⟩
    exact append_room (ty := ty) hTu hEi hUi ht hu hint hlenA hfirstA (by omega) (fun a ha => by
     cases ha
     rw [Addr.add_none, show o + y.s + len * ei.size = o + len * ei.size + y.s by omega]
     exact s1) (fun hh => by cases hh)
  | false =>
   have hroom' : ¬ len + n ≤ cap := fun hh => by rw [Nat.ble_eq_true_of_le hh] at hroom; cases hroom
   rw [hroom] at hq
   simp only [cond_false] at hq
   split at hq
   ·rename_i old el' l solo front hld hgb
    obtain ⟨oldB, oB1, oB2, oB3⟩ := loadN_ok (P := E.P) (h.drawn (w.drawn + 1)) hld hy
    have hol : old.length = len * ei.size ∧ lenGe l (o + len * ei.size) = true ∧ old = (l.drop o).take (len * ei.size) := by
     unfold loadN at hld
     rw [hgb] at hld
     simp only at hld
     cases hgg : lenGe l (o + len * ei.size) with
     | false => rw [hgg] at hld; cases hld
     | true =>
      rw [hgg] at hld; cases hld
      have := lenGe_le hgg
      exact ⟨by simp; omega, rfl, rfl⟩
    have hrun : (Builtin.firstCells ei.size len (.slice (some ⟨y.r, o + y.s, none⟩) len cap')).run E.P { w with drawn := w.drawn + 1 } = .ok oldB.toArray { w with drawn := w.drawn + 1 } := by
     simp only [Builtin.firstCells]
     exact oB2
    cases ex with
    | true =>
     have hcc := hex rfl
     simp only [cond_true, Option.some.injEq, Prod.mk.injEq] at hq
     exact own1 _ len cap' old oldB H true rfl (by omega) (by omega) h rfl oB1 hol.1 hrun hq.1.symm hq.2.symm
    | false =>
     simp only [cond_false] at hq
     cases hfr : (front && Nat.beq l.length (o + len * ei.size) && Nat.beq el el') with
     | false => rw [hfr] at hq; cases hq
     | true =>
      rw [hfr] at hq
      simp only [cond_true, Option.some.injEq, Prod.mk.injEq] at hq
      simp only [Bool.and_eq_true] at hfr
      obtain ⟨⟨rfl, f2⟩, f3⟩ := hfr
      have f2 := Nat.eq_of_beq_eq_true f2
      obtain rfl := Nat.eq_of_beq_eq_true f3
      by_cases hin : len + n ≤ cap'
      ·have hroomc : (len + n) * ei.size ≤ cap' * ei.size := Nat.mul_le_mul_right _ hin
       rw [Nat.add_mul] at hroomc
       obtain ⟨w', s1, s2, s3⟩ := fork_ok (P := E.P) h hgb hy (old := old) (new := new) (o := o) (by rw [hol.1]; omega) (by rw [hol.2.2]; exact List.take_of_length_le (by simp; omega)) hnewA hb.2.2 (by rw [hnlA]; omega)
       have hv := hq.1.symm
       subst hv
       rw [← hq.2]
       refine ⟨_, w', .slice (some ⟨y.r, o + y.s, none⟩) (len + n) cap', Grow.upd hn (Nat.le_refl _), s3, s2, Nat.le_succ _, ?_, ?_, fun z hz => by rw [upd_self] at hz; cases hz; exact .inr ⟨_, _, rfl, hy, rfl⟩⟩
       ·have := VR.sl (ρ := upd ρ H.n ⟨y.r, o + y.s, y.n⟩) (σ := σ) (b := H.n) (o := 0) (len := len + n) (cap := len + n) (e := ei.size) (cap' := cap') (ex := false) (x := ⟨y.r, o + y.s, y.n⟩)
         (upd_self _ _ _) hin (fun hh => by cases hh) he0 (by simp; omega) (Nat.le_refl _)
        simpa using this
       ·exact append_room (ty := ty) hTu hEi hUi ht hu hint hlenA hfirstA hin (fun a ha => by
         cases ha
         rw [Addr.add_none, show o + y.s + len * ei.size = y.s + l.length by omega]
         exact s1) (fun hh => by cases hh)
      ·exact own1 _ len cap' old oldB (H.put b (.cells el l false false)) false rfl hin (by omega) (h.weaken hgb) rfl oB1 hol.1 hrun hq.1.symm hq.2.symm
   ·cases hq
 ·cases hq
end
end Go.Eng
namespace Go.Eng
open Go

section
variable {ρ : Map} {σ : Tok → Value} {own : Nat → Prop} {H : AHeap} {w : World} {E : Env}

theorem idx_eq (c : Nat) (hc : c < 256) : ∀ (l : List UInt8), idxA l c = Lib.indexByte l (UInt8.ofNat c)
 | [] => rfl
 | b :: l => by
  have ih := idx_eq c hc l
  unfold idxA at ih ⊢
  have hb : (b == UInt8.ofNat c) = Nat.beq b.toNat c := by
   rw [Bool.eq_iff_iff]
   simp only [beq_iff_eq, Nat.beq_eq]
   constructor
   ·rintro rfl; simp [UInt8.toNat_ofNat', Nat.mod_eq_of_lt hc]
   ·rintro rfl; simp
  rw [List.findIdx?_cons]
  simp only [Lib.indexByte, hb]
  cases Nat.beq b.toNat c with
  | true => rfl
  | false =>
   simp only [Bool.false_eq_true, if_false]
   rw [← ih]
   cases l.findIdx? (fun b => Nat.beq b.toNat c) with
   | none => rfl
   | some i =>
    simp only [Option.map_some]
    have : ((Int.ofNat i) == -1) = false := by rw [beq_eq_false_iff_ne]; simp
    rw [this]
    simp

theorem cnt_eq (c : Nat) (hc : c < 256) : ∀ (l : List UInt8), l.countP (fun b => Nat.beq b.toNat c) = Lib.countByte l (UInt8.ofNat c) := fun l => by
 unfold Lib.countByte List.count
 congr 1
 funext b
 rw [Bool.eq_iff_iff]
 simp only [beq_iff_eq, Nat.beq_eq]
 constructor
 ·rintro rfl; simp
 ·rintro rfl; simp [UInt8.toNat_ofNat', Nat.mod_eq_of_lt hc]

theorem toByte (c : Nat) (hc : c < 256) : (Int.ofNat c).toNat.toUInt8 = UInt8.ofNat c := by simp [Nat.toUInt8]

theorem rep_length (z : List AV) : ∀ n, (rep z n).length = n * z.length
 | 0 => by simp [rep]
 | n + 1 => by simp [rep, rep_length z n, Nat.add_mul, Nat.add_comm]

theorem externA_ok (hE : E.Ok σ) (h : HR ρ σ own H w) (hown : ∀ k, w.heap.size ≤ k → own k) {x : Ext} {args : List AV} {v : AV} {H' : AHeap} (hq : externA E x args H = some (v, H')) {args' : List Value} (ha : VRs ρ σ args args') {fn : Func}
  (hz : match x with | .noZero => ∃ t, fn.resultTypes = #[t] ∧ E.P.underlying t = some (.slice E.byte) | _ => True) :
  ∃ ρ' w' v', Grow ρ ρ' H.n ∧ HR ρ' σ own H' w' ∧ Kp own w w' ∧ H.n ≤ H'.n ∧ VR ρ' σ v v' ∧ (extRow x fn args'.toArray).run E.P w = .ok v' w' := by
 have hn := h.none_of_ge (Nat.le_refl H.n)
 have same : ∀ {v' : Value}, H' = H → VR ρ σ v v' → (extRow x fn args'.toArray).run E.P w = .ok v' w → ∃ ρ' w' v', Grow ρ ρ' H.n ∧ HR ρ' σ own H' w' ∧ Kp own w w' ∧ H.n ≤ H'.n ∧ VR ρ' σ v v' ∧ (extRow x fn args'.toArray).run E.P w = .ok v' w' :=
  fun {v'} e hv hr => ⟨ρ, w, v', Grow.refl _ _, by rw [e]; exact h, Kp.refl _ _, by rw [e]; exact Nat.le_refl _, hv, hr⟩
 unfold externA at hq
 split at hq
 ·rename_i l c
  simp only at hq
  obtain ⟨a, b, rfl, h1, h2⟩ := VRs_two ha
  cases hc : Nat.blt c 256 with
  | false => rw [hc] at hq; cases hq
  | true =>
   have hc' : c < 256 := by simpa [Nat.blt_eq] using hc
   rw [hc] at hq
   simp only [cond_true, Option.some.injEq, Prod.mk.injEq] at hq
   cases h1
   have := h2.at_inv
   subst this
   refine same hq.2.symm (v' := .int .i64 (Lib.indexByte l (UInt8.ofNat c))) (by rw [← hq.1, idx_eq c hc' l]; exact .at _) ?_
   have := Lib.run_indexByteString (P := E.P) ⟨l.toArray⟩ (Int.ofNat c) w
   rw [toByte c hc'] at this
   exact this
 ·rename_i l c
  simp only at hq
  obtain ⟨a, b, rfl, h1, h2⟩ := VRs_two ha
  cases hc : Nat.blt c 256 with
  | false => rw [hc] at hq; cases hq
  | true =>
   have hc' : c < 256 := by simpa [Nat.blt_eq] using hc
   rw [hc] at hq
   simp only [cond_true, Option.some.injEq, Prod.mk.injEq] at hq
   cases h1
   have := h2.at_inv
   subst this
   refine same hq.2.symm (v' := .int .i64 (Lib.countByte l (UInt8.ofNat c) : Nat)) (by rw [← hq.1, cnt_eq c hc' l]; exact .at _) ?_
   have := Lib.run_countString (P := E.P) ⟨l.toArray⟩ (Int.ofNat c) w
   rw [toByte c hc'] at this
   exact this
 ·rename_i x0 c
  simp only at hq
  obtain ⟨a, b, rfl, h1, h2⟩ := VRs_two ha
  split at hq
  ·cases hq
  ·rename_i hno
   cases hsc : srcCells H 1 x0 with
   | none => rw [hsc] at hq; cases hq
   | some p =>
    obtain ⟨n, cs⟩ := p
    rw [hsc] at hq
    simp only at hq
    cases hb : bytesA cs with
    | none => rw [hb] at hq; cases hq
    | some l =>
     rw [hb] at hq
     simp only at hq
     cases hc : Nat.blt c 256 with
     | false => rw [hc] at hq; cases hq
     | true =>
      have hc' : c < 256 := by simpa [Nat.blt_eq] using hc
      rw [hc] at hq
      simp only [cond_true, Option.some.injEq, Prod.mk.injEq] at hq
      have e1 := bytesA_eq hb
      subst e1
      have := h2.at_inv
      subst this
      refine same hq.2.symm (v' := .int .i64 (Lib.indexByte l (UInt8.ofNat c))) (by rw [← hq.1, idx_eq c hc' l]; exact .at _) ?_
      obtain ⟨vs, a1, a2, a3, a4⟩ := srcCells_ok (E := E) h hsc h1
      have e2 := cellsOfStr_inv a1
      subst e2
      unfold srcCells at hsc
      split at hsc
      ·have hn0 := (Prod.mk.inj (Option.some.inj hsc)).1
       have : l = [] := by rw [← hn0] at a4; simpa [cellsOfStr] using a4
       subst this
       rw [h1.at_inv]
       exact Lib.run_indexByteNil (P := E.P) w 0 0 (Int.ofNat c)
      ·have hn0 := (Prod.mk.inj (Option.some.inj hsc)).1
       have : l = [] := by rw [← hn0] at a4; simpa [cellsOfStr] using a4
       subst this
       cases h1 with
       | @slz _ aa cap' hz =>
       have := Lib.run_indexByteString (P := E.P) .empty (Int.ofNat c) w
       rw [toByte c hc'] at this
       exact this
      ·exact absurd rfl (hno _)
      ·rename_i b0 o0 len0 cap0 e0 ex0
       cases h1 with
       | @sl _ _ _ _ _ cap' _ y hy hle hex he0 hbd hlc =>
       cases hq1 : Nat.beq 1 e0 with
       | false => rw [hq1] at hsc; cases hsc
       | true =>
        obtain rfl := Nat.eq_of_beq_eq_true hq1
        rw [hq1] at hsc
        simp only [cond_true] at hsc
        cases hld : loadN H b0 o0 (len0 * 1) with
        | none => rw [hld] at hsc; cases hsc
        | some cs0 =>
         rw [hld] at hsc
         simp only [Option.some.injEq, Prod.mk.injEq] at hsc
         obtain ⟨rfl, rfl⟩ := hsc
         have hlen : l.length = len0 := by simpa [cellsOfStr] using a4
         unfold loadN at hld
         split at hld
         ·rename_i el l0 s f hgb
          obtain ⟨cc, fz, r1, r2, r3, r4, _⟩ := row_of h hgb hy
          cases hgg : lenGe l0 (o0 + len0 * 1) with
          | false => rw [hgg] at hld; cases hld
          | true =>
           rw [hgg] at hld
           simp only [cond_true, Option.some.injEq] at hld
           have hrun := Lib.run_indexByteSlice (P := E.P) w y.r (o0 + y.s) len0 cap' (l.map fun b => Int.ofNat b.toNat) (by simpa using hlen) (fun i hi => by
            have hli : i < l.length := by omega
            have hcell : ((l0.drop o0).take (len0 * 1))[i]? = some (.at (.int .u8 (Int.ofNat (l[i]).toNat))) := by
             rw [hld]
             simp [cellsOfStr, List.getElem?_eq_getElem hli]
            rw [List.getElem?_take, if_pos (by omega), List.getElem?_drop] at hcell
            obtain ⟨v', g1, g2⟩ := r4 _ _ hcell
            rw [cell_row r1, show o0 + y.s + i = y.s + (o0 + i) by omega, g1, g2.at_inv]
            simp [List.getD, List.getElem?_eq_getElem hli]) (Int.ofNat c)
           rw [toByte c hc'] at hrun
           have hbo : Lib.bytesOf (l.map fun b => Int.ofNat b.toNat) = l := by
            unfold Lib.bytesOf
            simp [List.map_map, Function.comp_def, Nat.toUInt8]
           rw [hbo] at hrun
           exact hrun
         ·cases hld
      ·cases hsc
 ·rename_i x0 y0 c
  simp only at hq
  cases ha with
  | cons h1 ha =>
  obtain ⟨b, cc, rfl, h2, h3⟩ := VRs_two ha
  rw [h1.at_inv, h2.at_inv, h3.at_inv]
  rw [h1.at_inv, h2.at_inv, h3.at_inv] at same
  cases hc : Nat.ble c 1 with
  | false => rw [hc] at hq; cases hq
  | true =>
   have hc' := Nat.le_of_ble_eq_true hc
   rw [hc] at hq
   simp only [cond_true, Option.some.injEq, Prod.mk.injEq] at hq
   refine same hq.2.symm (v' := Extern.MathBitsCarry.pair ((x0 + y0 + c) % Extern.MathBitsCarry.m64) ((x0 + y0 + c) / Extern.MathBitsCarry.m64)) (by rw [← hq.1]; exact .tup (.cons (.at _) (.cons (.at _) .nil))) ?_
   obtain rfl | rfl : c = 0 ∨ c = 1 := by omega
   ·rfl
   ·rfl
 ·rename_i x0
  simp only at hq
  obtain ⟨a, rfl, h1⟩ := VRs_one ha
  cases hq
  exact same rfl h1 rfl
 ·rename_i n
  simp only at hq
  obtain ⟨a, rfl, h1⟩ := VRs_one ha
  have := h1.at_inv
  subst this
  cases hc : (Nat.beq n 0 || !Nat.ble n 1000000) with
  | true => rw [hc] at hq; cases hq
  | false =>
   rw [hc] at hq
   simp only [cond_false, Option.some.injEq, Prod.mk.injEq] at hq
   simp only [Bool.or_eq_false_iff, Bool.not_eq_false'] at hc
   have c1 := Nat.ne_of_beq_eq_false hc.1
   have c2 := Nat.le_of_ble_eq_true hc.2
   obtain ⟨t, ht1, ht2⟩ := hz
   obtain ⟨cs, hr, hcs, _⟩ := Lib.run_makeNoZero (P := E.P) w fn.params t E.byte ht2 n (by omega)
   have hnw : HR ρ σ own H w.drew.drew := h.drawn (w.drawn + 2)
   have hg := hnw.new (.cells E.byte (rep [.unk] n) true true) (n := cs.size) (hown _ (Nat.le_refl _)) (o := .cells cs E.byte) (.cells rfl (by rw [rep_length]; simpa using hcs) (fun i a ha => by
    have hi : i < (rep [.unk] n).length := (List.getElem?_eq_some_iff.1 ha).1
    rw [rep_length] at hi
    have hic : i < cs.size := by simp at hi; omega
    have hunk : ∀ (n : Nat) b, b ∈ rep [.unk] n → b = .unk := by
     intro n
     induction n with
     | zero => intro b hb; simp [rep] at hb
     | succ n ih => intro b hb; simp only [rep, List.cons_append, List.nil_append, List.mem_cons] at hb; rcases hb with rfl | hb; rfl; exact ih b hb
    have := hunk n a (List.mem_of_getElem? ha)
    subst this
    exact ⟨cs[i], by simp [hic], .unk _⟩) (fun _ i _ _ => by simp [shut]) (fun _ i _ _ => by simp [shut]) (fun _ hh => by cases hh))
   refine ⟨_, _, .slice (some ⟨w.heap.size, 0, none⟩) n cs.size, Grow.upd hn (Nat.le_refl _), by rw [← hq.2]; exact hg, (Kp.drawn own w (w.drawn + 2)).trans (Kp.alloc own _ _), by rw [← hq.2]; exact Nat.le_succ _, ?_, ?_⟩
   ·rw [← hq.1]
    have := VR.sl (ρ := upd ρ H.n ⟨w.heap.size, 0, cs.size⟩) (σ := σ) (b := H.n) (o := 0) (len := n) (cap := n) (e := 1) (cap' := cs.size) (ex := false) (x := ⟨w.heap.size, 0, cs.size⟩) (upd_self _ _ _) hcs (fun hh => by cases hh) (by omega) (by simp) (Nat.le_refl _)
    exact this
   ·simp only [extRow, ht1]
    exact hr
 ·cases hq

theorem externB_ok (hE : E.Ok σ) (h : HR ρ σ own H w) (hown : ∀ k, w.heap.size ≤ k → own k) {x : Ext} {args : List AV} {v : AV} {H' : AHeap} (hq : externB E x args H = some (v, H')) {args' : List Value} (ha : VRs ρ σ args args') {fn : Func}
  (hz : match x with | .noZero => ∃ t, fn.resultTypes = #[t] ∧ E.P.underlying t = some (.slice E.byte) | _ => True) :
  ∃ ρ' w' v', Grow ρ ρ' H.n ∧ HR ρ' σ own H' w' ∧ Kp own w w' ∧ H.n ≤ H'.n ∧ VR ρ' σ v v' ∧ (extRow x fn args'.toArray).run E.P w = .ok v' w' := by
 unfold externB at hq
 split at hq
 ·rename_i u hu
  cases hq
  obtain ⟨v', h1, h2⟩ := hE.orx x args _ hu ρ args' w fn ha
  exact ⟨ρ, w, v', Grow.refl _ _, h, Kp.refl _ _, Nat.le_refl _, h2, h1⟩
 ·exact externA_ok hE h hown hq ha (fn := fn) (by cases x <;> exact hz)
end
end Go.Eng
namespace Go.Eng
open Go

/-- what an operation comes to -/
def NextOk (E : Env) (ρ : Map) (σ : Tok → Value) (own : Nat → Prop) (H : AHeap) (w : World) (s : Sem Next) : ANext → Prop
 | .val v H' => ∃ ρ' w' v', Grow ρ ρ' H.n ∧ HR ρ' σ own H' w' ∧ Kp own w w' ∧ H.n ≤ H'.n ∧ VR ρ' σ v v' ∧ (s.run E.P w = .ok (.value v') w' ∨ (s.run E.P w = .ok .skip w' ∧ v' = undef))
 | .enter f args H' => H' = H ∧ ∃ args', VRs ρ σ args args' ∧ s.run E.P w = .ok (.enter f args'.toArray) w
 | .told f args v H' => E.orc H f args = some (v, H') ∧ ∃ args', VRs ρ σ args args' ∧ s.run E.P w = .ok (.enter f args'.toArray) w
 | .round b args H' => H' = H ∧ ∃ x args', ρ b = some x ∧ VRs ρ σ args args' ∧ s.run E.P w = (Instr.yield x.r args'.toArray).run E.P w
 | .dfr d H' => H' = H ∧ ∃ d', DR ρ σ d d' ∧ s.run E.P w = .ok (.defer d') w
 | .recov H' => H' = H ∧ s.run E.P w = .ok .recover w

section
variable {ρ : Map} {σ : Tok → Value} {own : Nat → Prop} {H : AHeap} {w : World} {E : Env}

theorem callA_ok (hE : E.Ok σ) (h : HR ρ σ own H w) (hown : ∀ k, w.heap.size ≤ k → own k) {fv : AV} {args : List AV} {n : ANext} (hq : callA E H fv args = some n) {fv' : Value} {args' : List Value} (hf : VR ρ σ fv fv') (ha : VRs ρ σ args args') :
  NextOk E ρ σ own H w (do let d ← Deferred.ofValue fv' args'.toArray; invoke d.target d.args) n := by
 unfold callA at hq
 split at hq
 ·rename_i f first cap
  cases hf with
  | @fn _ _ _ first' cap' h1 h2 =>
  have hargs : first'.toArray ++ args'.toArray ++ cap'.toArray = (first' ++ (args' ++ cap')).toArray := by simp
  cases hx : E.ext f with
  | some x =>
   rw [hx] at hq
   simp only at hq
   cases hxa : externB E x (first ++ args ++ cap) H with
   | none => rw [hxa] at hq; cases hq
   | some p =>
    obtain ⟨v, H'⟩ := p
    rw [hxa] at hq
    cases hq
    obtain ⟨fn, e1, e2, e3, e4, e5, e6⟩ := hE.ext f x hx
    obtain ⟨ρ', w', v', g1, g2, g3, g4, g5, g6⟩ := externB_ok hE h hown hxa ((h1.append ha).append h2) (fn := fn) (by cases x <;> exact e6)
    refine ⟨ρ', w', v', g1, g2, g3, g4, g5, .inl ?_⟩
    simp only [Deferred.ofValue, Sem.run_bind, Sem.run_pure, Result.andThen_ok, invoke, callFunc, run_program, e1, e2, e3, Bool.false_eq_true, if_false, Option.isNone_none, if_true, run_mark, e4, e5]
    rw [show first'.toArray ++ args'.toArray ++ cap'.toArray = (first' ++ args' ++ cap').toArray by simp, g6]
    rfl
  | none =>
   rw [hx] at hq
   simp only at hq
   cases hfn : E.fn f with
   | none => rw [hfn] at hq; cases hq
   | some fn =>
    rw [hfn] at hq
    simp only at hq
    cases hb : fn.body with
    | none => rw [hb] at hq; cases hq
    | some body =>
     rw [hb] at hq
     simp only at hq
     have e1 := hE.fn f fn hfn
     have e3 := hE.name f fn body e1 hb
     have hrun : (do let d ← Deferred.ofValue (.func (.func f) first'.toArray cap'.toArray) args'.toArray; invoke d.target d.args : Sem Next).run E.P w = .ok (.enter f (first' ++ (args' ++ cap')).toArray) w := by
      simp only [Deferred.ofValue, Sem.run_bind, Sem.run_pure, Result.andThen_ok, invoke, callFunc, run_program, e1, hb, e3, Bool.false_eq_true, if_false, Option.isNone_some, hargs]
     cases ho : E.orc H f (first ++ (args ++ cap)) with
     | some p =>
      obtain ⟨v, H2⟩ := p
      rw [ho] at hq
      cases hq
      exact ⟨ho, first' ++ (args' ++ cap'), h1.append (ha.append h2), hrun⟩
     | none =>
      rw [ho] at hq
      cases hq
      exact ⟨rfl, first' ++ (args' ++ cap'), h1.append (ha.append h2), hrun⟩
 ·rename_i b
  cases hq
  cases hf with
  | @yield _ y hy => exact ⟨rfl, y, args', hy, ha, by simp [Deferred.ofValue, invoke]⟩
 ·cases hq

theorem builtinE_ok (hE : E.Ok σ) (h : HR ρ σ own H w) (hown : ∀ k, w.heap.size ≤ k → own k) {b : Builtin} {ts : Array TypeId} {ty : TypeId} {cs : Array Bool} {args : List AV} {n : ANext} (hq : builtinE E H b ts args = some n) {args' : List Value} (ha : VRs ρ σ args args') :
  NextOk E ρ σ own H w (builtin b ts ty cs args'.toArray) n := by
 unfold builtinE at hq
 split at hq
 ·rename_i s x
  obtain ⟨s', x', rfl, hs, hx⟩ := VRs_two ha
  split at hq
  ·rename_i t u ht hu
   cases hap : appendA E H t u s x with
   | none => rw [hap] at hq; cases hq
   | some p =>
    obtain ⟨v, H'⟩ := p
    rw [hap] at hq
    cases hq
    obtain ⟨ρ', w', v', g1, g2, g3, g4, g5, g6, _⟩ := appendA_ok (ty := ty) hE h hown hap ht hu hs hx
    refine ⟨ρ', w', v', g1, g2, g3, g4, g5, .inl ?_⟩
    simp only [builtin, Sem.run_bind]
    have : [s', x'].toArray = #[s', x'] := rfl
    rw [this, g6]
    rfl
  ·cases hq
 ·rename_i b o len cap e ex x
  obtain ⟨s', x', rfl, hs, hx⟩ := VRs_two ha
  cases hs with
  | @sl _ _ _ _ _ cap' _ y hy hle hex he0 hbd hlc =>
  cases ht : ts[0]? with
  | none => rw [ht] at hq; cases hq
  | some t =>
  rw [ht] at hq
  simp only at hq
  cases hes : elemOfSlice E t with
  | none => rw [hes] at hq; cases hq
  | some p =>
  obtain ⟨el, ei⟩ := p
  rw [hes] at hq
  simp only at hq
  obtain ⟨hTu, hei⟩ := elemOfSlice_ok hE hes
  have hEi := hE.ty _ _ hei
  cases hee : Nat.beq ei.size e with
  | false => rw [hee] at hq; cases hq
  | true =>
  have hee' := Nat.eq_of_beq_eq_true hee
  rw [hee] at hq
  simp only [cond_true] at hq
  cases hsc : srcCells H e x with
  | none => rw [hsc] at hq; cases hq
  | some p =>
  obtain ⟨n, cs0⟩ := p
  rw [hsc] at hq
  simp only at hq
  cases hst : storeN H b o (cs0.take (Nat.min n len * e)) with
  | none => rw [hst] at hq; cases hq
  | some H' =>
  rw [hst] at hq
  cases hq
  obtain ⟨vs, a1, a2, a3, a4⟩ := srcCells_ok (E := E) h hsc hx
  obtain ⟨w', s1, s2, s3, s4⟩ := storeN_ok (P := E.P) h hst hy (a1.take _)
  refine ⟨ρ, w', goInt (Nat.min n len), Grow.refl _ _, s2, s3, by omega, .at _, .inl ?_⟩
  have hf := a3 (Nat.min n len) (Nat.min_le_left _ _)
  simp only [builtin, Builtin.copy_, ht, List.getElem?_toArray, List.getElem?_cons_zero, List.getElem?_cons_succ, Sem.run_bind, run_underlying hTu, Result.andThen_ok, a2, hEi.sizeOf, hee', hf]
  rw [s1]
  rfl
 ·cases hq
  cases ha
  exact ⟨rfl, rfl⟩
 ·rename_i b o len cap e ex
  obtain ⟨s', rfl, hs⟩ := VRs_one ha
  cases hs with
  | @sl _ _ _ _ _ cap' _ y hy hle hex he0 hbd hlc =>
  cases h0 : Nat.beq cap 0 with
  | true => rw [h0] at hq; cases hq
  | false =>
   have h0' := Nat.ne_of_beq_eq_false h0
   rw [h0] at hq
   cases hq
   refine ⟨ρ, w, _, Grow.refl _ _, h, Kp.refl _ _, Nat.le_refl _, .ptr hy, .inl ?_⟩
   simp only [builtin, Sem.run_bind]
   have := Lib.run_unsafeSliceData_row (P := E.P) w ts ty ⟨y.r, o + y.s, none⟩ len cap' (by omega)
   have e : [Value.slice (some ⟨y.r, o + y.s, none⟩) len cap'].toArray = #[Value.slice (some ⟨y.r, o + y.s, none⟩) len cap'] := rfl
   rw [e, this]
   rfl
 ·rename_i b k n
  obtain ⟨s', x', rfl, hs, hx⟩ := VRs_two ha
  have := hx.at_inv
  subst this
  cases hs with
  | @ptr _ _ y hy =>
  cases ht : ts[0]? with
  | none => rw [ht] at hq; cases hq
  | some t =>
  rw [ht] at hq
  simp only at hq
  cases hty : E.ty t with
  | none => rw [hty] at hq; cases hq
  | some ti =>
  rw [hty] at hq
  have hU := (hE.ty _ _ hty).und
  simp only at hq
  split at hq
  ·rename_i e hu
   rw [hu] at hU
   cases hc : (Nat.beq e E.byte && (!Nat.beq n 0 && Nat.ble n 1000000)) with
   | false => rw [hc] at hq; cases hq
   | true =>
   rw [hc] at hq
   simp only [cond_true] at hq
   simp only [Bool.and_eq_true, Bool.not_eq_true'] at hc
   obtain ⟨c1, c2, c3⟩ := hc
   have c1 := Nat.eq_of_beq_eq_true c1
   have c2 := Nat.ne_of_beq_eq_false c2
   have c3 := Nat.le_of_ble_eq_true c3
   subst c1
   split at hq
   ·rename_i cs0 el l so fr hld hgb
    cases hel : (Nat.beq el E.byte && fr) with
    | false => rw [hel] at hq; cases hq
    | true =>
    rw [hel] at hq
    simp only [cond_true] at hq
    simp only [Bool.and_eq_true] at hel
    obtain ⟨d1, rfl⟩ := hel
    have d1 := Nat.eq_of_beq_eq_true d1
    subst d1
    cases hb : bytesA cs0 with
    | none => rw [hb] at hq; cases hq
    | some s =>
    rw [hb] at hq
    cases hq
    have e1 := bytesA_eq hb
    subst e1
    obtain ⟨vs, b1, b2, b3⟩ := loadN_ok (P := E.P) h hld hy
    have e2 := cellsOfStr_inv b1
    subst e2
    obtain ⟨c, fz, r1, r2, r3, r4, r5, r6, r7⟩ := row_of h hgb hy
    have hsl : s.length = n := by
     unfold loadN at hld
     rw [hgb] at hld
     simp only at hld
     cases hg : lenGe l (0 + n) with
     | false => rw [hg] at hld; cases hld
     | true =>
      rw [hg] at hld
      simp only [cond_true, Option.some.injEq] at hld
      have h1 := lenGe_le hg
      have := congrArg List.length hld
      simp [cellsOfStr] at this
      omega
    have hfr : w.freeze ⟨y.r, 0 + y.s, none⟩ n = setO w y.r (.cells c E.byte (if fz.1 == fz.2 then (0 + y.s, 0 + y.s + n) else (min fz.1 (0 + y.s), max fz.2 (0 + y.s + n)))) := by
     unfold World.freeze setO
     rw [if_neg c2]
     congr 1
     apply Array.ext_getElem?
     intro k
     rw [Array.getElem?_modify, Array.getElem?_setIfInBounds]
     obtain ⟨hlt, he⟩ := Array.getElem?_eq_some_iff.1 r1
     by_cases hk : y.r = k
     ·subst hk; obtain ⟨lo, hi⟩ := fz; simp [hlt, he]
     ·simp [hk]
    obtain ⟨f1, f2⟩ := shut_ok h hgb hy (if fz.1 == fz.2 then (0 + y.s, 0 + y.s + n) else (min fz.1 (0 + y.s), max fz.2 (0 + y.s + n))) r1
    refine ⟨ρ, _, _, Grow.refl _ _, f1, f2, Nat.le_refl _, .str s, .inl ?_⟩
    simp only [builtin, Sem.run_bind]
    have hlies : liesAt E.P E.P.depth E.byte (c.size / E.P.cellsOf E.byte) (0 + y.s) E.byte n = true := by
     rw [hE.byte.2]
     exact liesAt_self hE.byte.2 (by omega) _ _ _ (Nat.mod_one _) (by rw [Nat.div_one, Nat.div_one]; omega)
    have hsh : w.shape? y.r = some (E.byte, c.size) := by simp [World.shape?, r1]
    have hlb := Lib.run_loadBytes (P := E.P) w s ⟨y.r, 0 + y.s, none⟩ .empty (fun j x hj => by
     have hjl : j < s.length := (List.getElem?_eq_some_iff.1 hj).1
     have hcell : ((l.drop 0).take n)[j]? = some (.at (.int .u8 (Int.ofNat x.toNat))) := by
      unfold loadN at hld
      rw [hgb] at hld
      simp only at hld
      cases hg : lenGe l (0 + n) with
      | false => rw [hg] at hld; cases hld
      | true =>
       rw [hg] at hld
       simp only [cond_true, Option.some.injEq] at hld
       rw [hld]
       simp [cellsOfStr, hj]
     rw [List.getElem?_take, if_pos (by omega), List.drop_zero] at hcell
     obtain ⟨v', g1, g2⟩ := r4 _ _ hcell
     rw [Addr.add_none, cell_row r1, Nat.zero_add, g1, g2.at_inv]
     rfl)
    have e9 : [Value.pointer (some ⟨y.r, 0 + y.s, none⟩), Value.int k (Int.ofNat n)].toArray = #[Value.pointer (some ⟨y.r, 0 + y.s, none⟩), Value.int k (Int.ofNat n)] := rfl
    rw [e9]
    rw [show Builtin.unsafeString_ ts ty #[.pointer (some ⟨y.r, 0 + y.s, none⟩), .int k (Int.ofNat n)] = Bind.bind (asInt (.int k (Int.ofNat n))) _ from rfl]
    have hmax : ¬ (Int.ofNat n > IntKind.i64.max) := by
     have : IntKind.i64.max = 9223372036854775807 := rfl
     rw [this]; simp; omega
    have hneg : ¬ (Int.ofNat n < 0) := by simp
    have hzero : ¬ (Int.ofNat n = 0) := by simp; exact c2
    have htn : (Int.ofNat n).toNat = n := rfl
    rw [hsl] at hlb
    simp only [asInt, asIntOf, Sem.run_bind, Sem.run_pure, Result.andThen_ok, ht, if_neg hneg, if_neg hmax, if_neg hzero, variablesAt, run_program, run_shape, hsh, elemOf, run_underlying hU, hlies, htn, if_true, run_freeze, hlb, hfr]
    have hee : ByteArray.empty.data ++ s.toArray = s.toArray := by
     show (#[] : Array UInt8) ++ s.toArray = s.toArray
     simp
    rw [hee]
   ·cases hq
  ·cases hq
 ·cases hq

/-- a new variable -/
theorem repV (z : List AV) (z' : Array Value) (h : VRs ρ σ z z'.toList) : ∀ n, VRs ρ σ (rep z n) ((Array.range (n * z'.size)).map (z'[· % z'.size]!)).toList := by
 have gen : ∀ n, ((List.range (n * z'.size)).map (fun i => z'[i % z'.size]!)) = (List.replicate n z'.toList).flatten := by
  intro n
  induction n with
  | zero => simp
  | succ n ih =>
   rw [List.replicate_succ', List.flatten_append, ← ih, Nat.add_mul, Nat.one_mul, List.range_add, List.map_append]
   congr 1
   simp only [List.flatten_cons, List.flatten_nil, List.append_nil, List.map_map]
   apply List.ext_getElem
   ·simp
   ·intro i h1 h2
    have hi : i < z'.size := by simpa using h2
    simp only [List.getElem_map, List.getElem_range, Function.comp_apply]
    rw [show (n * z'.size + i) % z'.size = i by rw [Nat.mul_comm, Nat.mul_add_mod, Nat.mod_eq_of_lt hi]]
    rw [getElem!_pos z' i hi]
    simp
 intro n
 simp only [Array.toList_map, Array.toList_range]
 rw [gen]
 induction n with
 | zero => exact .nil
 | succ n ih =>
  rw [List.replicate_succ, List.flatten_cons]
  exact h.append ih

theorem updA_ok {k v : AV} {k' v' : Value} (hk : VR ρ σ k k') (hv : VR ρ σ v v') : ∀ {es : List (AV × AV)} {es' : List MapEntry} (i : Nat), ERs ρ σ es es' → i < es.length →
  ∃ es2, (es'.toArray.modify i fun e => { e with key := k', val := v' }) = es2.toArray ∧ ERs ρ σ (updA k v es i) es2 := by
 intro es es' i h
 refine fun hi => ⟨es'.modify i fun e => { e with key := k', val := v' }, ?_, ?_⟩
 ·apply Array.ext'; simp
 ·induction h generalizing i with
  | nil => simp at hi
  | cons h1 h2 h3 ih =>
   cases i with
   | zero => simp only [updA, List.modify_zero_cons]; exact .cons hk hv h3
   | succ i => simp only [updA, List.modify_succ_cons]; exact .cons h1 h2 (ih i (by simpa using hi))

theorem updA_end {k v : AV} {k' v' : Value} (hk : VR ρ σ k k') (hv : VR ρ σ v v') (n : Nat) : ∀ {es : List (AV × AV)} {es' : List MapEntry}, ERs ρ σ es es' → ERs ρ σ (updA k v es es.length) (es' ++ [{ key := k', val := v', born := n }]) := by
 intro es es' h
 induction h with
 | nil => exact .cons hk hv .nil
 | cons h1 h2 h3 ih => exact .cons h1 h2 ih

/-- a store into a map -/
def newR (o : Op) (r : Nat) : Value :=
 match o with
 | .buildSlice _ len _ => .slice (some ⟨r, 0, none⟩) len len
 | _ => .pointer (some ⟨r, 0, none⟩)
def newFits (o : Op) (n : Nat) : Prop :=
 match o with
 | .buildSlice _ len _ => 0 < n / len ∧ len * (n / len) ≤ n
 | _ => True
theorem new_VR {o : Op} {n b r : Nat} (h : newFits o n) (hb : ρ b = some ⟨r, 0, n⟩) : VR ρ σ (newA o n b) (newR o r) := by
 cases o with
 | buildSlice t len parts => exact VR.sl hb (Nat.le_refl _) (fun _ => rfl) h.1 (by simpa using h.2) (Nat.le_refl _)
 | _ => exact VR.ptr hb

theorem buildSlice_run (hE : E.Ok σ) {ev : Operand → AV} {cv : Operand → Value} {t el : TypeId} {ei : TI} {len : Nat} {parts : Array (Nat × Operand)} {cs : List AV} (hev : ∀ p ∈ parts.toList, VR ρ σ (ev p.2) (cv p.2))
  (hTu : E.P.underlying t = some (.slice el)) (hEi : TyOk E.P el ei) (c1 : len * ei.size ≤ 1000000) (c2 : ei.size ≠ 0) (hf : fillA (fun i => some (i * ei.size, ei.size)) (rep ei.zero.cells len) (parts.toList.map fun p => (p.1, ev p.2)) = some cs) :
  ∃ r', VRs ρ σ cs r' ∧ r'.length = len * ei.size ∧ ∀ w : World, (Instr.buildSlice t len (parts.map fun p => (p.1, cv p.2))).run E.P w = .ok (.slice (some ⟨w.heap.size, 0, none⟩) len len) (w.alloc (.cells r'.toArray el)) ∨ len = 0 := by
 have hE := hE
 obtain ⟨i, z, hi1, hi2, hi3, hi4, hi5, hi6⟩ := hEi.info
 have hzc : VRs ρ σ ei.zero.cells z.cells.toList := zero_cells hi5
 have hrep := repV ei.zero.cells z.cells hzc len
 obtain ⟨r', f1, f2⟩ := fill_ok _ ((parts.map fun p => (p.1, cv p.2)).toList) _ cs _ hf hrep (by simp [List.map_map, Function.comp_def]) (by
  simp only [Array.toList_map, List.map_map]
  exact VRs.of_map _ _ _ fun p hp' => hev p hp')
 have hr'l : r'.length = len * ei.size := by
  have e1 : cs.length = (rep ei.zero.cells len).length := by
   clear f1 f2 hrep
   generalize rep ei.zero.cells len = c0 at hf
   generalize (parts.toList.map fun p => (p.1, ev p.2)) = ps at hf
   induction ps generalizing c0 with
   | nil => simp only [fillA, Option.some.injEq] at hf; rw [hf]
   | cons p ps ih =>
    obtain ⟨k, v⟩ := p
    simp only [fillA] at hf
    cases hgg : (Nat.beq v.cells.length ei.size && (lenGe c0 (k * ei.size + ei.size) && v.cells.all AV.cell)) with
    | false => rw [hgg] at hf; cases hf
    | true =>
     rw [hgg] at hf
     simp only [cond_true] at hf
     have := ih _ hf
     rw [this, setRange_length]
  rw [← f2.length, e1, rep_length, hzc.length]
  simp [hi6]
 have hzv : ∀ w, (zeroValue el).run E.P w = .ok z w := fun w => by simp [zeroValue, typeInfo, hi1, hi4]
 have hrun : ∀ w : World, (Instr.buildSlice t len (parts.map fun p => (p.1, cv p.2))).run E.P w = .ok (.slice (some ⟨w.heap.size, 0, none⟩) len len) (w.alloc (.cells r'.toArray el)) := fun w => by
  unfold Instr.buildSlice
  simp only [Sem.run_bind, run_underlying hTu, hEi.sizeOf, Result.andThen_ok]
  rw [if_neg (by omega)]
  rw [hi6] at f1
  by_cases h0 : len = 0
  ·subst h0
   simp only [Nat.zero_mul, if_true, Sem.run_bind, Sem.run_pure, Result.andThen_ok]
   simp only [Nat.zero_mul] at f1
   have e0 : ((Array.range 0).map (fun x => (#[] : Array Value)[x % (#[] : Array Value).size]!)) = ((Array.range 0).map (fun x => z.cells[x % ei.size]!)) := by simp
   rw [e0]
   have f1' : Instr.fill (fun i => some (i * ei.size, ei.size)) ((Array.range 0).map (fun x => z.cells[x % ei.size]!)) (parts.map fun p => (p.1, cv p.2)).toList = some r'.toArray := by
    rw [← f1]
   rw [f1']
   rfl
  ·have h0' : ¬ len * ei.size = 0 := by
    intro hh
    rcases Nat.mul_eq_zero.1 hh with h1 | h1
    ·exact h0 h1
    ·exact c2 h1
   simp only [h0', if_false, Sem.run_bind, hzv, Result.andThen_ok, Sem.run_pure]
   have f1' : Instr.fill (fun i => some (i * ei.size, ei.size)) ((Array.range (len * ei.size)).map (fun x => z.cells[x % z.cells.size]!)) (parts.map fun p => (p.1, cv p.2)).toList = some r'.toArray := by
    rw [← f1, hi6]
   rw [f1']
   rfl
 exact ⟨r', f2, hr'l, fun w => .inl (hrun w)⟩

theorem alloc_ok (hE : E.Ok σ) {ev : Operand → AV} {cv : Operand → Value} {o : Oper} (hev : ∀ x ∈ o.op.operands, VR ρ σ (ev x) (cv x)) {t : TypeId} {cs : List AV} (hq : allocA E ev o.op = some (t, cs)) :
  ∃ vs, VRs ρ σ cs vs ∧ (∀ w, (execOp cv o).run E.P w = .ok (.value (newR o.op w.heap.size)) (w.alloc (.cells vs.toArray t))) ∧ newFits o.op cs.length := by
 obtain ⟨dst, op, type, pos, after, guard⟩ := o
 simp only at hev hq
 cases op with
 | alloc e =>
  simp only [allocA] at hq
  cases hty : E.ty e with
  | none => rw [hty] at hq; cases hq
  | some ti =>
   rw [hty] at hq
   cases hq
   obtain ⟨i, z, hi1, hi2, hi3, hi4, hi5, hi6⟩ := (hE.ty _ _ hty).info
   refine ⟨z.cells.toList, zero_cells hi5, fun w => ?_, trivial⟩
   have hzv : (zeroValue t).run E.P w = .ok z w := by simp [zeroValue, typeInfo, hi1, hi4]
   show (execOp cv ⟨dst, .alloc t, type, pos, after, guard⟩).run E.P w = .ok (.value (.pointer (some ⟨w.heap.size, 0, none⟩))) _
   simp only [execOp, Instr.alloc, Sem.run_bind, hzv, Result.andThen_ok, newVar, newRow, run_newObj, Sem.run_pure]
   simp
 | box e x =>
  simp only [allocA] at hq
  cases hc : (ev x).cells.all AV.cell with
  | false => rw [hc] at hq; cases hq
  | true =>
   rw [hc] at hq
   cases hq
   refine ⟨(cv x).cells.toList, (hev x (by simp [Op.operands])).cells hc, fun w => ?_, trivial⟩
   show (execOp cv ⟨dst, .box t x, type, pos, after, guard⟩).run E.P w = .ok (.value (.pointer (some ⟨w.heap.size, 0, none⟩))) _
   simp only [execOp, Instr.box, Sem.run_bind, Result.andThen_ok, newVar, newRow, run_newObj, Sem.run_pure]
   simp
 | buildSlice e len parts =>
  simp only [allocA] at hq
  cases hes : elemOfSlice E e with
  | none => rw [hes] at hq; cases hq
  | some p =>
  obtain ⟨el, ei⟩ := p
  rw [hes] at hq
  simp only at hq
  obtain ⟨hTu, hei⟩ := elemOfSlice_ok hE hes
  have hEi := hE.ty _ _ hei
  cases hc : (Nat.ble (len * ei.size) 1000000 && (!Nat.beq ei.size 0 && !Nat.beq len 0)) with
  | false => rw [hc] at hq; cases hq
  | true =>
  rw [hc] at hq
  simp only [cond_true] at hq
  simp only [Bool.and_eq_true, Bool.not_eq_true'] at hc
  have c2 := Nat.ne_of_beq_eq_false hc.2.1
  have c3 := Nat.ne_of_beq_eq_false hc.2.2
  cases hf : fillA (fun i => some (i * ei.size, ei.size)) (rep ei.zero.cells len) (parts.toList.map fun p => (p.1, ev p.2)) with
  | none => rw [hf] at hq; cases hq
  | some cs' =>
  rw [hf] at hq
  simp only at hq
  cases hb : Nat.beq cs'.length (len * ei.size) with
  | false => rw [hb] at hq; cases hq
  | true =>
  rw [hb] at hq
  cases hq
  have hl := Nat.eq_of_beq_eq_true hb
  obtain ⟨r', f2, hr, hrun⟩ := buildSlice_run hE (cv := cv) (fun p hp => hev p.2 (by simp only [Op.operands]; simp; exact ⟨p.1, by simpa using hp⟩)) hTu hEi (Nat.le_of_ble_eq_true hc.1) c2 hf
  refine ⟨r', f2, fun w => ?_, ?_⟩
  ·rcases hrun w with h | h
   ·show (execOp cv ⟨dst, .buildSlice e len parts, type, pos, after, guard⟩).run E.P w = .ok (.value (.slice (some ⟨w.heap.size, 0, none⟩) len len)) _
    simp only [execOp, Sem.run_bind]
    rw [h]
    rfl
   ·exact absurd h c3
  ·show 0 < cs.length / len ∧ len * (cs.length / len) ≤ cs.length
   rw [hl, Nat.mul_div_cancel_left _ (Nat.pos_of_ne_zero c3)]
   exact ⟨Nat.pos_of_ne_zero c2, Nat.le_refl _⟩
 | _ => simp [allocA] at hq

theorem mapPut_ok (hE : E.Ok σ) (h : HR ρ σ own H w) {t : TypeId} {m k x : AV} {n : ANext} (hq : (match m, E.ty t with
  | .map b, some ti => match H.get b, ti.u with
   | some (.map es), .map key _ => match E.ty key with
    | some ki => match ki.u, lookA ki.u k es with
     | .int _, some r | .string, some r => some (ANext.val (.tup []) (H.put b (.map (updA k x es (match r with | some (i, _) => i | none => es.length)))))
     | _, _ => none
    | none => none
   | _, _ => none
  | _, _ => none) = some n) {m' k' x' : Value} (hm : VR ρ σ m m') (hk : VR ρ σ k k') (hx : VR ρ σ x x') :
  ∀ (s : Sem Next), (∀ w', (Instr.mapUpdate t m' k' x').run E.P w = .ok () w' → s.run E.P w = .ok .skip w') → NextOk E ρ σ own H w s n := by
 intro s hs
 split at hq
 ·rename_i b ti ht
  cases hm with
  | @map _ y hy =>
  have hT := hE.ty _ _ ht
  split at hq
  ·rename_i es key elem hb hu
   cases hki : E.ty key with
   | none => rw [hki] at hq; cases hq
   | some ki =>
   rw [hki] at hq
   simp only at hq
   have hK := hE.ty _ _ hki
   obtain ⟨o, o1, o2⟩ := h.obj b _ y hb hy
   cases o2 with
   | @map _ _ es' clock hes =>
   have hlt := (h.dom b y hy).2
   have hg : (getObj y.r).run E.P w = .ok (.map es'.toArray clock) w := by unfold getObj; simp only [Sem.run, o1]
   have hset : ∀ o, (setObj y.r o).run E.P w = .ok () (setO w y.r o) := fun o => by unfold setObj setO; simp only [Sem.run, o1]
   have main : ((∃ q, ki.u = .int q) ∨ ki.u = .string) → ∀ r, lookA ki.u k es = some r → some (ANext.val (.tup []) (H.put b (.map (updA k x es (match r with | some (i, _) => i | none => es.length))))) = some n → NextOk E ρ σ own H w s n := fun hku r hr hv => by
    obtain ⟨r', f1, f2⟩ := lookA_ok hku hk 0 hr hes
    have hck : (Instr.checkKey false 10000 key k').run E.P w = .ok () w := checkKey_plain hK hku 9999
    have hfk : (Instr.findKey key k' es').run E.P w = .ok r' w := by
     unfold Instr.findKey
     simp only [Sem.run_bind, hK.underlying, Result.andThen_ok, f1, Sem.run_pure]
    have turn : ∀ es2 c2, ERs ρ σ (updA k x es (match r with | some (i, _) => i | none => es.length)) es2 → (Instr.mapUpdate t (.map (some y.r)) k' x').run E.P w = .ok () (setO w y.r (.map es2.toArray c2)) → NextOk E ρ σ own H w s n := fun es2 c2 he hr => by
     cases hv
     refine ⟨ρ, _, undef, Grow.refl _ _, h.turn hb hy rfl (fun _ => .inl rfl) (.map he), Kp.setO _ _ _ (h.own b _ y hb hy (.inl rfl)), Nat.le_refl _, .tup .nil, .inr ⟨hs _ hr, rfl⟩⟩
    cases r with
    | none =>
     cases r' with
     | some p => exact f2.elim
     | none =>
      refine turn (es' ++ [{ key := k', val := x', born := clock }]) (clock + 1) (updA_end hk hx clock hes) ?_
      unfold Instr.mapUpdate
      simp only [Sem.run_bind, hT.underlying, Result.andThen_ok, hu, hg, hck, hfk, hset]
      simp
    | some p =>
     obtain ⟨i, u⟩ := p
     cases r' with
     | none => exact f2.elim
     | some p' =>
      obtain ⟨j, u'⟩ := p'
      obtain ⟨g1, g2, g3, e', g4, g5⟩ := f2
      obtain rfl : j = i := by omega
      obtain ⟨es2, u1, u2⟩ := updA_ok hk hx j hes g3
      refine turn es2 clock u2 ?_
      unfold Instr.mapUpdate
      simp only [Sem.run_bind, hT.underlying, Result.andThen_ok, hu, hg, hck, hfk]
      have hke : ((es'.toArray[j]?).map (fun e : MapEntry => e.key)).getD k' = e'.key := by simp [g4]
      simp only [hke, Instr.keyThatStays, g5, if_true, Sem.run_pure, Result.andThen_ok, u1, hset]
   split at hq
   ·rename_i q r hku hr
    exact main (.inl ⟨_, hku⟩) r hr hq
   ·rename_i r hku hr
    exact main (.inr hku) r hr hq
   ·cases hq
  ·cases hq
 ·cases hq

theorem eop0_ok (hE : E.Ok σ) (h : HR ρ σ own H w) (hown : ∀ k, w.heap.size ≤ k → own k) {ev : Operand → AV} {cv : Operand → Value} {o : Oper} (hev : ∀ x ∈ o.op.operands, VR ρ σ (ev x) (cv x)) {n : ANext} (hq : eop0 E H ev o.op = some n) :
  NextOk E ρ σ own H w (execOp cv o) n := by
 obtain ⟨dst, op, type, pos, after, guard⟩ := o
 simp only at hev hq
 have hn := h.none_of_ge (Nat.le_refl H.n)
 have fin : ∀ {s : Sem Value} {v' : Value} {w' : World}, s.run E.P w = .ok v' w' → (do pure (.value (← s)) : Sem Next).run E.P w = .ok (.value v') w' := fun hs => by simp only [Sem.run_bind, hs, Result.andThen_ok, Sem.run_pure]
 cases op with
 | buildSlice t len parts =>
  simp only [eop0] at hq
  cases hes : elemOfSlice E t with
  | none => rw [hes] at hq; cases hq
  | some p =>
  obtain ⟨el, ei⟩ := p
  rw [hes] at hq
  simp only at hq
  obtain ⟨hTu, hei⟩ := elemOfSlice_ok hE hes
  have hEi := hE.ty _ _ hei
  cases hc : (Nat.ble (len * ei.size) 1000000 && !Nat.beq ei.size 0) with
  | false => rw [hc] at hq; cases hq
  | true =>
  rw [hc] at hq
  simp only [cond_true] at hq
  simp only [Bool.and_eq_true, Bool.not_eq_true'] at hc
  have c1 := Nat.le_of_ble_eq_true hc.1
  have c2 := Nat.ne_of_beq_eq_false hc.2
  cases hf : fillA (fun i => some (i * ei.size, ei.size)) (rep ei.zero.cells len) (parts.toList.map fun p => (p.1, ev p.2)) with
  | none => rw [hf] at hq; cases hq
  | some cs =>
  rw [hf] at hq
  obtain ⟨i, z, hi1, hi2, hi3, hi4, hi5, hi6⟩ := hEi.info
  have hzc : VRs ρ σ ei.zero.cells z.cells.toList := zero_cells hi5
  have hrep := repV ei.zero.cells z.cells hzc len
  obtain ⟨r', f1, f2⟩ := fill_ok _ ((parts.map fun p => (p.1, cv p.2)).toList) _ cs _ hf hrep (by simp [List.map_map, Function.comp_def]) (by
   simp only [Array.toList_map, List.map_map]
   exact VRs.of_map _ _ _ fun p hp' => hev p.2 (by simp only [Op.operands]; simp; exact ⟨p.1, by simpa using hp'⟩))
  have hr'l : r'.length = len * ei.size := by
   have e1 : cs.length = (rep ei.zero.cells len).length := by
    clear f1 f2 hrep hq
    generalize rep ei.zero.cells len = c0 at hf
    generalize (parts.toList.map fun p => (p.1, ev p.2)) = ps at hf
    induction ps generalizing c0 with
    | nil => simp only [fillA, Option.some.injEq] at hf; rw [hf]
    | cons p ps ih =>
     obtain ⟨k, v⟩ := p
     simp only [fillA] at hf
     cases hgg : (Nat.beq v.cells.length ei.size && (lenGe c0 (k * ei.size + ei.size) && v.cells.all AV.cell)) with
     | false => rw [hgg] at hf; cases hf
     | true =>
      rw [hgg] at hf
      simp only [cond_true] at hf
      have := ih _ hf
      rw [this, setRange_length]
   rw [← f2.length, e1, rep_length, hzc.length]
   simp [hi6]
  have hzv : ∀ w, (zeroValue el).run E.P w = .ok z w := fun w => by simp [zeroValue, typeInfo, hi1, hi4]
  have hrun : (Instr.buildSlice t len (parts.map fun p => (p.1, cv p.2))).run E.P w = .ok (.slice (some ⟨w.heap.size, 0, none⟩) len len) (w.alloc (.cells r'.toArray el)) := by
   unfold Instr.buildSlice
   simp only [Sem.run_bind, run_underlying hTu, hEi.sizeOf, Result.andThen_ok]
   rw [if_neg (by omega)]
   rw [hi6] at f1
   by_cases h0 : len = 0
   ·subst h0
    simp only [Nat.zero_mul, if_true, Sem.run_bind, Sem.run_pure, Result.andThen_ok]
    simp only [Nat.zero_mul] at f1
    have e0 : ((Array.range 0).map (fun x => (#[] : Array Value)[x % (#[] : Array Value).size]!)) = ((Array.range 0).map (fun x => z.cells[x % ei.size]!)) := by simp
    rw [e0]
    have f1' : Instr.fill (fun i => some (i * ei.size, ei.size)) ((Array.range 0).map (fun x => z.cells[x % ei.size]!)) (parts.map fun p => (p.1, cv p.2)).toList = some r'.toArray := by
     rw [← f1]
    rw [f1']
    rfl
   ·have h0' : ¬ len * ei.size = 0 := by
     intro hh
     rcases Nat.mul_eq_zero.1 hh with h1 | h1
     ·exact h0 h1
     ·exact c2 h1
    simp only [h0', if_false, Sem.run_bind, hzv, Result.andThen_ok, Sem.run_pure]
    have f1' : Instr.fill (fun i => some (i * ei.size, ei.size)) ((Array.range (len * ei.size)).map (fun x => z.cells[x % z.cells.size]!)) (parts.map fun p => (p.1, cv p.2)).toList = some r'.toArray := by
     rw [← f1, hi6]
    rw [f1']
    rfl
  have hl : cs.length = r'.length := f2.length
  have hg := h.new (.cells el cs true false) (n := len * ei.size) (hown _ (Nat.le_refl _)) (o := .cells r'.toArray el) (.cells (by simpa using hr'l) (by simp; omega) (fun i a ha => by
   obtain ⟨v, g1, g2⟩ := f2.get ha
   exact ⟨v, by simpa using g1, g2.mono (upd_le hn)⟩) (fun _ i _ _ => by simp [shut]) (fun hh => by cases hh) (fun _ _ => ⟨rfl, by rw [hl, hr'l]⟩))
  simp only [Option.some.injEq] at hq
  subst hq
  refine ⟨_, _, _, Grow.upd hn (Nat.le_refl _), hg, Kp.alloc own _ _, Nat.le_succ _, ?_, .inl (fin hrun)⟩
  cases h0 : Nat.beq len 0 with
  | true =>
   obtain rfl := Nat.eq_of_beq_eq_true h0
   exact .slz fun _ => rfl
  | false =>
   have := VR.sl (ρ := upd ρ H.n ⟨w.heap.size, 0, len * ei.size⟩) (σ := σ) (b := H.n) (o := 0) (len := len) (cap := len) (e := ei.size) (cap' := len) (ex := true) (x := ⟨w.heap.size, 0, len * ei.size⟩) (upd_self _ _ _) (Nat.le_refl _) (fun _ => rfl) (by omega) (by simp) (Nat.le_refl _)
   exact this
 | store t a x =>
  have ha := hev a (by simp [Op.operands])
  have hx := hev x (by simp [Op.operands])
  simp only [eop0] at hq
  split at hq
  ·rename_i b o ti he ht
   rw [he] at ha
   generalize ea : cv a = av at ha
   cases ha with
   | @ptr _ _ y hy =>
   cases hc : Nat.beq (ev x).cells.length ti.size with
   | false => rw [hc] at hq; cases hq
   | true =>
   have c1 := Nat.eq_of_beq_eq_true hc
   rw [hc] at hq
   simp only [cond_true] at hq
   cases hst : storeN H b o (ev x).cells with
   | none => rw [hst] at hq; cases hq
   | some H' =>
   rw [hst] at hq
   cases hq
   have hcell : (ev x).cells.all AV.cell = true := by
    unfold storeN at hst
    split at hst
    ·rename_i el l so fr hb
     cases hg : (so && (lenGe l (o + (ev x).cells.length) && (ev x).cells.all AV.cell)) with
     | false => rw [hg] at hst; cases hst
     | true => simp only [Bool.and_eq_true] at hg; exact hg.2.2
    ·cases hst
   have hxc := hx.cells hcell
   obtain ⟨w', s1, s2, s3, s4⟩ := storeN_ok (P := E.P) h hst hy hxc
   refine ⟨ρ, w', undef, Grow.refl _ _, s2, s3, by omega, .tup .nil, .inr ⟨?_, rfl⟩⟩
   have hsz : (cv x).cells.size = ti.size := by rw [← c1, hxc.length]; simp
   simp only [execOp, Instr.storeAt, Instr.sureAddr, ea, Sem.run_bind, Sem.run_pure, Result.andThen_ok, storeVar, (hE.ty _ _ ht).sizeOf, hsz, ne_eq, not_true_eq_false, if_false, s1]
  ·cases hq
 | convert s d x =>
  have hx := hev x (by simp [Op.operands])
  simp only [eop0] at hq
  split at hq
  ·rename_i si di l hs hd he
   rw [he] at hx
   generalize ea : cv x = av at hx
   cases hx
   split at hq
   ·rename_i e h1 h2
    have hS := (hE.ty _ _ hs).und
    have hD := (hE.ty _ _ hd).und
    rw [h1] at hS; rw [h2] at hD
    cases hee : E.ty e with
    | none => rw [hee] at hq; cases hq
    | some ei =>
    rw [hee] at hq
    simp only at hq
    split at hq
    ·rename_i hu
     have hU := (hE.ty _ _ hee).und
     rw [hu] at hU
     cases hq
     have hrun := run_bytes_of_string (P := E.P) w s d e ⟨l.toArray⟩ hS hD hU
     have hcut : l.length ≤ grownCap w (ByteArray.mk l.toArray).size 0 e := by
      have := grownCap_ge w (ByteArray.mk l.toArray).size 0 e
      simpa [ByteArray.size] using this
     generalize hcc : grownCap w (ByteArray.mk l.toArray).size 0 e = cap at hrun hcut
     have hsz : (bytesRow ⟨l.toArray⟩ cap).size = cap := by
      simp [bytesRow, ByteArray.size]
      omega
     have hg := (h.drawn (w.drawn + 1)).new (.cells e (cellsOfStr l) true true) (n := cap) (hown _ (Nat.le_refl _)) (o := .cells (bytesRow ⟨l.toArray⟩ cap) e ((bytesRow ⟨l.toArray⟩ cap).size, (bytesRow ⟨l.toArray⟩ cap).size + 1))
      (.cells hsz (by rw [cellsOfStr_length]; simpa using hcut) (fun i a ha => by
       obtain ⟨v, g1, g2⟩ := (cellsOfStr_ok (ρ := upd ρ H.n ⟨w.heap.size, 0, cap⟩) (σ := σ) l).get ha
       have hi : i < l.length := by have := (List.getElem?_eq_some_iff.1 ha).1; rwa [cellsOfStr_length] at this
       refine ⟨v, ?_, g2⟩
       rw [Nat.zero_add, bytesRow_at _ _ _ (by simpa using hi)]
       rw [← g1]
       simp [byteCells, List.getElem?_eq_getElem hi]) (fun _ i _ hi => by
        simp only [shut, hsz, cellsOfStr_length] at hi ⊢
        have : ¬ cap ≤ i := by simp at hi; omega
        simp [this]) (fun _ i _ hi => by
        simp only [shut, hsz] at hi ⊢
        have : ¬ cap ≤ i := by omega
        simp [this]) (fun _ hh => by cases hh))
     refine ⟨_, _, _, Grow.upd hn (Nat.le_refl _), hg, (Kp.drawn own w (w.drawn + 1)).trans (Kp.alloc own _ _), Nat.le_succ _, ?_, .inl (fin (by rw [ea]; exact hrun))⟩
     have hs1 : (ByteArray.mk l.toArray).size = l.length := by simp [ByteArray.size]
     rw [hs1]
     have := VR.sl (ρ := upd ρ H.n ⟨w.heap.size, 0, cap⟩) (σ := σ) (b := H.n) (o := 0) (len := l.length) (cap := l.length) (e := 1) (cap' := cap) (ex := false) (x := ⟨w.heap.size, 0, cap⟩) (upd_self _ _ _) hcut (fun hh => by cases hh) (by omega) (by simp) (Nat.le_refl _)
     exact this
    ·cases hq
   ·cases hq
  ·cases hq
 | makeMap t r =>
  cases r with
  | some r => simp [eop0] at hq
  | none =>
   simp only [eop0, Option.some.injEq] at hq
   subst hq
   have hg := h.new (.map []) (n := 0) (hown _ (Nat.le_refl _)) (o := .map #[] 0) (.map (es' := []) .nil)
   refine ⟨_, _, .map (some w.heap.size), Grow.upd hn (Nat.le_refl _), hg, Kp.alloc own _ _, Nat.le_succ _, VR.map (x := ⟨w.heap.size, 0, 0⟩) (upd_self _ _ _), .inl (fin ?_)⟩
   simp only [Option.map_none, Instr.makeMap, Sem.run_bind, run_newObj, Result.andThen_ok, Sem.run_pure]
   rfl
 | makeSlice t l c =>
  have hl := hev l (by simp [Op.operands])
  have hc := hev c (by simp [Op.operands])
  simp only [eop0] at hq
  split at hq
  ·rename_i el ei kl n kc m hes he1 he2
   rw [he1] at hl; rw [he2] at hc
   obtain ⟨hTu, hei⟩ := elemOfSlice_ok hE hes
   have hEi := hE.ty _ _ hei
   cases hcc : (Nat.ble n m && (Nat.ble m 1000000 && (Nat.ble (ei.bytes * m) (2 ^ 40) && !Nat.beq ei.size 0))) with
   | false => rw [hcc] at hq; cases hq
   | true =>
   rw [hcc] at hq
   simp only [cond_true, Option.some.injEq] at hq
   simp only [Bool.and_eq_true, Bool.not_eq_true'] at hcc
   have c1 := Nat.le_of_ble_eq_true hcc.1
   have c2 := Nat.le_of_ble_eq_true hcc.2.1
   have c3 := Nat.le_of_ble_eq_true hcc.2.2.1
   have c4 := Nat.ne_of_beq_eq_false hcc.2.2.2
   obtain ⟨i, z, hi1, hi2, hi3, hi4, hi5, hi6⟩ := hEi.info
   have hby : (i.bytes : Int) * Int.ofNat m ≤ 281474976710656 := by
    have c3' : ei.bytes * m ≤ 1099511627776 := c3
    show (i.bytes : Int) * (m : Int) ≤ 281474976710656
    rw [hi3, ← Int.natCast_mul]
    omega
   have h63 : Int.ofNat m ≤ 9223372036854775807 := by
    show (m : Int) ≤ 9223372036854775807
    omega
   have hnm : Int.ofNat n ≤ Int.ofNat m := by
    show (n : Int) ≤ (m : Int)
    omega
   have hrun := run_make (P := E.P) w t el i z hTu hi1 hi4 kl kc (Int.ofNat n) (Int.ofNat m) (by simp) hnm hby h63
   have hrep := repV (ρ := ρ) (σ := σ) ei.zero.cells z.cells (zero_cells hi5) m
   have hmade : madeCells z.cells ((Int.ofNat m).toNat * i.size) = (Array.range (m * z.cells.size)).map (z.cells[· % z.cells.size]!) := by rw [hi2, ← hi6]; rfl
   rw [hmade] at hrun
   generalize hrow : (Array.range (m * z.cells.size)).map (z.cells[· % z.cells.size]!) = row at hrun hrep
   have hrl : row.size = m * ei.size := by rw [← hrow]; simp [hi6]
   have hlen := hrep.length
   have hg := h.new (.cells el (rep ei.zero.cells m) true false) (n := m * ei.size) (hown _ (Nat.le_refl _)) (o := .cells row el) (.cells hrl (by rw [hlen]; simp [hrl]) (fun j a ha => by
    obtain ⟨v, g1, g2⟩ := hrep.get ha
    exact ⟨v, by simpa using g1, g2.mono (upd_le hn)⟩) (fun _ j _ _ => by simp [shut]) (fun hh => by cases hh) (fun _ _ => ⟨rfl, by rw [hlen]; simp [hrl]⟩))
   subst hq
   refine ⟨_, _, _, Grow.upd hn (Nat.le_refl _), hg, Kp.alloc own _ _, Nat.le_succ _, ?_, .inl (fin (by rw [hl.at_inv, hc.at_inv]; exact hrun))⟩
   cases h0 : Nat.beq m 0 with
   | true =>
    obtain rfl := Nat.eq_of_beq_eq_true h0
    obtain rfl : n = 0 := by omega
    exact .slz fun _ => rfl
   | false =>
    have := VR.sl (ρ := upd ρ H.n ⟨w.heap.size, 0, m * ei.size⟩) (σ := σ) (b := H.n) (o := 0) (len := n) (cap := m) (e := ei.size) (cap' := m) (ex := true) (x := ⟨w.heap.size, 0, m * ei.size⟩) (upd_self _ _ _) (Nat.le_refl _) (fun _ => rfl) (by omega) (by simp) c1
    exact this
  ·cases hq
 | mapUpdate t m k x =>
  have hm := hev m (by simp [Op.operands])
  have hk := hev k (by simp [Op.operands])
  have hx := hev x (by simp [Op.operands])
  simp only [eop0] at hq
  exact mapPut_ok hE h hq hm hk hx (execOp cv ⟨dst, .mapUpdate t m k x, type, pos, after, guard⟩) fun w' hw => by simp only [execOp, Sem.run_bind, hw, Result.andThen_ok, Sem.run_pure]
 | insert t m k x =>
  have hm := hev m (by simp [Op.operands])
  have hk := hev k (by simp [Op.operands])
  have hx := hev x (by simp [Op.operands])
  simp only [eop0] at hq
  exact mapPut_ok hE h hq hm hk hx (execOp cv ⟨dst, .insert t m k x, type, pos, after, guard⟩) fun w' hw => by simp only [execOp, Sem.run_bind, hw, Result.andThen_ok, Sem.run_pure]
 | call c =>
  simp only [eop0] at hq
  split at hq
  ·rename_i f hf
   have hargs : VRs ρ σ (c.args.toList.map ev) (c.args.toList.map cv) := VRs.of_map _ _ _ fun x hx => hev x (by show x ∈ c.operands; unfold Call.operands; rw [hf]; simp; right; simpa using hx)
   have hfv := hev f (by show f ∈ c.operands; unfold Call.operands; rw [hf]; simp)
   have := callA_ok hE h hown hq hfv hargs
   have e : (c.args.toList.map cv).toArray = c.args.map cv := by apply Array.ext'; simp
   rw [e] at this
   have e2 : execOp cv ⟨dst, .call c, type, pos, after, guard⟩ = (do let d ← Deferred.ofValue (cv f) (c.args.map cv); invoke d.target d.args) := by simp only [execOp, resolve, hf]
   rw [e2]
   exact this
  ·rename_i b hb
   have hargs : VRs ρ σ (c.args.toList.map ev) (c.args.toList.map cv) := VRs.of_map _ _ _ fun x hx => hev x (by show x ∈ c.operands; unfold Call.operands; rw [hb]; simpa using hx)
   obtain ⟨cs, e2⟩ : ∃ cs, ∀ w, (execOp cv ⟨dst, .call c, type, pos, after, guard⟩).run E.P w = (builtin b c.argTypes type cs (c.args.map cv)).run E.P w :=
    ⟨_, fun w => by simp only [execOp, resolve, hb, Sem.run_bind, Sem.run_pure, Result.andThen_ok, invoke]; rfl⟩
   have := builtinE_ok (ty := type) (cs := cs) hE h hown hq hargs
   have e : (c.args.toList.map cv).toArray = c.args.map cv := by apply Array.ext'; simp
   rw [e] at this
   cases n <;> simp only [NextOk, e2] at this ⊢ <;> exact this
  ·cases hq
 | «defer» c =>
  simp only [eop0] at hq
  split at hq
  ·rename_i f hf
   have hargs : VRs ρ σ (c.args.toList.map ev) (c.args.toList.map cv) := VRs.of_map _ _ _ fun x hx => hev x (by show x ∈ c.operands; unfold Call.operands; rw [hf]; simp; right; simpa using hx)
   have hfv := hev f (by show f ∈ c.operands; unfold Call.operands; rw [hf]; simp)
   split at hq
   ·rename_i g first cap he
    rw [he] at hfv
    generalize ea : cv f = av at hfv
    cases hfv with
    | @fn _ _ _ first' cap' h1 h2 =>
    cases hx : E.ext g with
    | some _ => rw [hx] at hq; cases hq
    | none =>
     rw [hx] at hq
     cases hq
     refine ⟨rfl, { target := .fn (.func g) cap'.toArray, args := (first' ++ c.args.toList.map cv).toArray }, .call (by rw [List.append_assoc]; exact h1.append (hargs.append h2)), ?_⟩
     have e : c.args.map cv = (c.args.toList.map cv).toArray := by apply Array.ext'; simp
     simp only [execOp, resolve, hf, ea, Deferred.ofValue, Sem.run_bind, Sem.run_pure, Result.andThen_ok]
     rw [e]
     simp
   ·cases hq
  ·cases hq
 | _ => simp [eop0] at hq

theorem eop_ok (hE : E.Ok σ) (h : HR ρ σ own H w) (hown : ∀ k, w.heap.size ≤ k → own k) {ev : Operand → AV} {cv : Operand → Value} {o : Oper} (hev : ∀ x ∈ o.op.operands, VR ρ σ (ev x) (cv x)) {n : ANext} (hq : eop E H ev o.op = some n) :
  NextOk E ρ σ own H w (execOp cv o) n := by
 unfold eop at hq
 split at hq
 ·rename_i c hc
  split at hq
  ·rename_i v h' hb
   cases hq
   obtain ⟨ρ', w', v', g1, g2, g3, g4, g5, g6⟩ := hE.orb H ev _ v h' hb ρ own w h hown cv (by rw [← hc]; exact hev) o hc
   exact ⟨ρ', w', v', g1, g2, g3, g4, g5, .inl g6⟩
  ·exact eop0_ok hE h hown hev (by rw [hc]; exact hq)
 ·exact eop0_ok hE h hown hev hq
end
end Go.Eng
