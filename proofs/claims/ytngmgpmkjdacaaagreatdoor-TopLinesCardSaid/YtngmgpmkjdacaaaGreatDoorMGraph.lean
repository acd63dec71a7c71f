/-
 Runs by names through loops: between the places where a loop begins anew. Runs by names that end in a metric: its values stand in a row of their own. Runs by names through loops that make memory; they end in a metric whose values and tags are rows by names. The first byte of a string that is a given one, by a name.
-/
import Derived.Test.YtngmgpmkjdacaaaGreatDoorMWay
set_option linter.unusedSimpArgs false
set_option linter.unusedVariables false
namespace Go.Eng
open Go Go.Proofs

/-- 'done': the call's value; 'to': behind so many steps the configuration of a number, its names standing for these -/
inductive LTree where
 | done (v : AV) | to (j : Nat) (θ : Sub) (n : Nat) | dead | fork (t : Tok) (y n : LTree)
structure Node where
 c : ACfg
 ks : List (List Nat)
 tr : LTree

noncomputable def runDone (orc : Orc) (f : FuncId) (c : ACfg) (v : AV) (A : Known) : Bool :=
 match run (TS orc A) FUEL c with
 | some c' => endPlain f v c'
 | none => false
noncomputable def runTo (orc : Orc) (c : ACfg) (ks : List (List Nat)) (n : Nat) (A : Known) : Option ACfg :=
 match run (TS orc A) n c with
 | some c' => some (forgetC ks c')
 | none => none

def OkL (orc : Orc) (f : FuncId) (G : Nat → Node) (c : ACfg) : LTree → Known → Prop
 | .done v, A => runDone orc f c v A = true
 | .to j θ n, A => runTo orc c (G j).ks n A = some (mapC (subA θ) (Tok.subst θ) (G j).c)
 | .dead, _ => True
 | .fork t y n, A => OkL orc f G c y ((t, true) :: A) ∧ OkL orc f G c n ((t, false) :: A)

inductive Got where
 | b (x : Bool) | c (x : Option ACfg)
/-- all of a tree's runs, and what they should come to -/
noncomputable def got (orc : Orc) (f : FuncId) (G : Nat → Node) (c : ACfg) : LTree → Known → List Got
 | .done v, A => [.b (runDone orc f c v A)]
 | .to j _ n, A => [.c (runTo orc c (G j).ks n A)]
 | .dead, _ => []
 | .fork t y n, A => got orc f G c y ((t, true) :: A) ++ got orc f G c n ((t, false) :: A)
noncomputable def want (G : Nat → Node) : LTree → List Got
 | .done _ => [.b true]
 | .to j θ _ => [.c (some (mapC (subA θ) (Tok.subst θ) (G j).c))]
 | .dead => []
 | .fork _ y n => want G y ++ want G n
theorem got_len {orc : Orc} {f : FuncId} {G : Nat → Node} {c : ACfg} : ∀ (tr : LTree) (A : Known), (got orc f G c tr A).length = (want G tr).length
 | .done _, _ => rfl
 | .to _ _ _, _ => rfl
 | .dead, _ => rfl
 | .fork t y n, A => by simp [got, want, got_len y, got_len n]
theorem okL_of {orc : Orc} {f : FuncId} {G : Nat → Node} {c : ACfg} : ∀ (tr : LTree) (A : Known), got orc f G c tr A = want G tr → OkL orc f G c tr A
 | .done v, A, h => by simpa [got, want, OkL] using h
 | .to j θ n, A, h => by simpa [got, want, OkL] using h
 | .dead, _, _ => trivial
 | .fork t y n, A, h => by
  simp only [got, want] at h
  obtain ⟨h1, h2⟩ := List.append_inj h (got_len y _)
  exact ⟨okL_of y _ h1, okL_of n _ h2⟩
/-- the nodes 0 .. n -/
noncomputable def gotG (orc : Orc) (f : FuncId) (G : Nat → Node) : Nat → List (List Got)
 | 0 => []
 | n + 1 => got orc f G (G n).c (G n).tr [] :: gotG orc f G n
noncomputable def wantG (G : Nat → Node) : Nat → List (List Got)
 | 0 => []
 | n + 1 => want G (G n).tr :: wantG G n
theorem okG_of {orc : Orc} {f : FuncId} {G : Nat → Node} : ∀ {n : Nat}, gotG orc f G n = wantG G n → ∀ i, i < n → OkL orc f G (G i).c (G i).tr []
 | 0, _, i, h => absurd h (Nat.not_lt_zero _)
 | n + 1, h, i, hi => by
  simp only [gotG, wantG, List.cons.injEq] at h
  by_cases e : i = n
  ·subst e; exact okL_of _ _ h.1
  ·exact okG_of h.2 i (by omega)
def leafOf (ι : Asn) : LTree → LTree
 | .fork t y n => bif (t.eval ι).toB then leafOf ι y else leafOf ι n
 | l => l

theorem leaf_way {orc : Orc} {f : FuncId} {G : Nat → Node} {c : ACfg} {ι : Asn} : ∀ (tr : LTree) (A : Known), OkL orc f G c tr A → A.so ι → ∃ B, Known.so ι B ∧ OkL orc f G c (leafOf ι tr) B
 | .done v, A, h, hA => ⟨A, hA, h⟩
 | .to j θ n, A, h, hA => ⟨A, hA, h⟩
 | .dead, A, h, hA => ⟨A, hA, h⟩
 | .fork t y n, A, h, hA => by
  simp only [leafOf]
  cases ht : (t.eval ι).toB with
  | true => exact leaf_way y _ h.1 (fun q hq => (List.mem_cons.1 hq).elim (fun e => e ▸ ht) (hA q))
  | false => exact leaf_way n _ h.2 (fun q hq => (List.mem_cons.1 hq).elim (fun e => e ▸ ht) (hA q))

/-- what a round must do -/
def Round (Inv : Nat → Asn → Prop) (μ : Nat → Asn → Nat) (Q : Value → Prop) (ι : Asn) (m : Nat) : LTree → Prop
 | .done v => Q (v.val ι)
 | .to j θ _ => Inv j (ι.sub θ) ∧ μ j (ι.sub θ) < m
 | _ => False

theorem round_fork {Inv : Nat → Asn → Prop} {μ : Nat → Asn → Nat} {Q : Value → Prop} {ι : Asn} {m : Nat} {t : Tok} {y n : LTree} (h1 : (t.eval ι).toB = true → Round Inv μ Q ι m (leafOf ι y)) (h2 : (t.eval ι).toB = false → Round Inv μ Q ι m (leafOf ι n)) :
  Round Inv μ Q ι m (leafOf ι (.fork t y n)) := by
 simp only [leafOf]
 cases h : (t.eval ι).toB with
 | true => exact h1 h
 | false => exact h2 h

theorem wr64 {n : Int} (h1 : -4000000000000000000 ≤ n) (h2 : n ≤ 4000000000000000000) : IntKind.wrap .i64 n = n := by
 unfold IntKind.wrap
 simp only [IntKind.bits, IntKind.signed, Bool.true_and]
 split <;> rename_i h <;> simp at h <;> omega

theorem graph_way {orc : Orc} {f : FuncId} {G : Nat → Node} {Inv : Nat → Asn → Prop} {μ : Nat → Asn → Nat} {Q : Value → Prop}
  (hG : ∀ i ι, Inv i ι → OkL orc f G (G i).c (G i).tr []) (hR : ∀ i ι, Inv i ι → Round Inv μ Q ι (μ i ι) (leafOf ι (G i).tr)) :
  ∀ (m i : Nat) (ι : Asn), μ i ι < m → Inv i ι → ∃ ι' c' v, Way orc ι (G i).c ι' c' ∧ endPlain f v c' = true ∧ Q (v.val ι')
 | 0, _, _, h, _ => absurd h (Nat.not_lt_zero _)
 | m + 1, i, ι, h, hi => by
  have h1 := hG i ι hi
  have h2 := hR i ι hi
  obtain ⟨B, hB, hO⟩ := leaf_way (ι := ι) _ [] h1 (fun p hp => by cases hp)
  generalize leafOf ι (G i).tr = l at h2 hO
  cases l with
  | done v =>
   simp only [OkL, runDone] at hO
   split at hO
   ·rename_i c' hc
    exact ⟨ι, c', v, .run B FUEL hB hc (.refl _ _), hO, h2⟩
   ·cases hO
  | to j θ n =>
   obtain ⟨k1, k2⟩ := h2
   obtain ⟨ι', c', v, g1, g2, g3⟩ := graph_way hG hR m j (ι.sub θ) (by omega) k1
   simp only [OkL, runTo] at hO
   split at hO
   ·rename_i c1 hc
    exact ⟨ι', c', v, .run B n hB hc (.forget (G j).ks (.sub θ (by simpa using hO) g1)), g2, g3⟩
   ·cases hO
  | dead => exact h2.elim
  | fork t y n => exact h2.elim

noncomputable def entryC (f : FuncId) (args : List AV) : ACfg := ⟨match enterA TN f args false with | some fr => fr | none => ⟨0, [], [], [], false, false, none⟩, [], H0⟩
noncomputable def gotF (orc : Orc) (f : FuncId) (args : List AV) (G : Nat → Node) (n : Nat) : Bool × List (List Got) := ((enterA TN f args false).isSome, gotG orc f G n)
noncomputable def wantF (G : Nat → Node) (n : Nat) : Bool × List (List Got) := (true, wantG G n)

theorem fn_of_graph {F : Nat → Val → Val → Val} {orc : Orc} (ho : OrcIs F orc) {f : FuncId} {args : List AV} {G : Nat → Node} {Inv : Nat → Asn → Prop} {μ : Nat → Asn → Nat} {Q : Value → Prop} {n : Nat}
  (hG : gotF orc f args G n = wantF G n) (h0 : (G 0).c = entryC f args) (ha : AV.plains args = true) (hn : ∀ i ι, Inv i ι → i < n)
  (hR : ∀ i ι, Inv i ι → Round Inv μ Q ι (μ i ι) (leafOf ι (G i).tr)) {ι : Asn} (hf : ι.fn = F) (hi : Inv 0 ι) :
  ∃ out, Q out ∧ Fn f (AV.vals ι args) out := by
 simp only [gotF, wantF, Prod.mk.injEq] at hG
 obtain ⟨fr, he⟩ := Option.isSome_iff_exists.1 hG.1
 obtain ⟨ι', c', v, h1, h2, h3⟩ := graph_way (fun i ι hi => okG_of hG.2 i (hn i ι hi)) hR (μ 0 ι + 1) 0 ι (Nat.lt_succ_self _) hi
 rw [h0, entryC, he] at h1
 exact ⟨_, h3, (fn_of_way ho hf ha he h1 h2).2⟩

section
variable {ι : Asn} {a b c : Tok}
theorem ev_v {y : Ty} {n : Nat} : (Tok.v y n).eval ι = ι.v y n := rfl
theorem ev_fn {y : Ty} {f : Nat} : (Tok.fn y f a b).eval ι = ι.fn f (a.eval ι) (b.eval ι) := rfl
theorem ev_ki {k : IntKind} {n : Int} : (Tok.ki k n).eval ι = .i n := rfl
theorem ev_ks {l : List UInt8} : (Tok.ks l).eval ι = .s l := rfl
theorem toI_i {n : Int} : (Val.i n).toI = n := rfl
theorem toS_s {l : List UInt8} : (Val.s l).toS = l := rfl
theorem toB_b {x : Bool} : (Val.b x).toB = x := rfl
theorem ev_len : (Tok.len a).eval ι = .i ((a.eval ι).toS.length : Int) := rfl
theorem ev_add {k : IntKind} : (Tok.ar 0 k a b).eval ι = .i (k.wrap ((a.eval ι).toI + (b.eval ι).toI)) := rfl
theorem ev_sub {k : IntKind} : (Tok.ar 1 k a b).eval ι = .i (k.wrap ((a.eval ι).toI - (b.eval ι).toI)) := rfl
theorem ev_mul {k : IntKind} : (Tok.ar 2 k a b).eval ι = .i (k.wrap ((a.eval ι).toI * (b.eval ι).toI)) := rfl
theorem ev_quo {k : IntKind} : (Tok.ar 3 k a b).eval ι = .i (k.wrap ((a.eval ι).toI.tdiv (b.eval ι).toI)) := rfl
theorem ev_rem {k : IntKind} : (Tok.ar 4 k a b).eval ι = .i ((a.eval ι).toI.tmod (b.eval ι).toI) := rfl
theorem ev_cv {k : IntKind} : (Tok.cv k a).eval ι = .i (k.wrap (a.eval ι).toI) := rfl
theorem ev_cut : (Tok.sub a b c).eval ι = .s (((a.eval ι).toS.drop (b.eval ι).toI.toNat).take ((c.eval ι).toI.toNat - (b.eval ι).toI.toNat)) := rfl
theorem ev_cat : (Tok.cat a b).eval ι = .s ((a.eval ι).toS ++ (b.eval ι).toS) := rfl
theorem beq_t : (((Tok.cmp 0 a b).eval ι).toB = true) = ((a.eval ι).toI = (b.eval ι).toI) := by
 simp [Tok.eval, Val.toB, cmpI]
theorem beq_f : (((Tok.cmp 0 a b).eval ι).toB = false) = (¬ ((a.eval ι).toI = (b.eval ι).toI)) := by
 simp [Tok.eval, Val.toB, cmpI]
theorem bne_t : (((Tok.cmp 1 a b).eval ι).toB = true) = (¬ (a.eval ι).toI = (b.eval ι).toI) := by
 simp [Tok.eval, Val.toB, cmpI]
theorem bne_f : (((Tok.cmp 1 a b).eval ι).toB = false) = ((a.eval ι).toI = (b.eval ι).toI) := by
 simp [Tok.eval, Val.toB, cmpI]
theorem blt_t : (((Tok.cmp 2 a b).eval ι).toB = true) = ((a.eval ι).toI < (b.eval ι).toI) := by
 simp [Tok.eval, Val.toB, cmpI]
theorem blt_f : (((Tok.cmp 2 a b).eval ι).toB = false) = (¬ ((a.eval ι).toI < (b.eval ι).toI)) := by
 simp [Tok.eval, Val.toB, cmpI]
theorem ble_t : (((Tok.cmp 3 a b).eval ι).toB = true) = ((a.eval ι).toI ≤ (b.eval ι).toI) := by
 simp [Tok.eval, Val.toB, cmpI]
theorem ble_f : (((Tok.cmp 3 a b).eval ι).toB = false) = (¬ ((a.eval ι).toI ≤ (b.eval ι).toI)) := by
 simp [Tok.eval, Val.toB, cmpI]
theorem bgt_t : (((Tok.cmp 4 a b).eval ι).toB = true) = ((b.eval ι).toI < (a.eval ι).toI) := by
 simp [Tok.eval, Val.toB, cmpI]
theorem bgt_f : (((Tok.cmp 4 a b).eval ι).toB = false) = (¬ ((b.eval ι).toI < (a.eval ι).toI)) := by
 simp [Tok.eval, Val.toB, cmpI]
theorem bge_t : (((Tok.cmp 5 a b).eval ι).toB = true) = ((b.eval ι).toI ≤ (a.eval ι).toI) := by
 simp [Tok.eval, Val.toB, cmpI]
theorem bge_f : (((Tok.cmp 5 a b).eval ι).toB = false) = (¬ ((b.eval ι).toI ≤ (a.eval ι).toI)) := by
 simp [Tok.eval, Val.toB, cmpI]
theorem bseq_t : (((Tok.seq a b).eval ι).toB = true) = ((a.eval ι).toS = (b.eval ι).toS) := by
 simp [Tok.eval, Val.toB]
theorem bfits_t : (((Tok.fits a b).eval ι).toB = true) = ((a.eval ι).toS.length + (b.eval ι).toS.length ≤ 1000000) := by
 simp only [Tok.eval, Val.toB, Nat.ble_eq]
theorem bseq_f : (((Tok.seq a b).eval ι).toB = false) = (¬ (a.eval ι).toS = (b.eval ι).toS) := by
 simp [Tok.eval, Val.toB]
theorem bfits_f : (((Tok.fits a b).eval ι).toB = false) = (¬ ((a.eval ι).toS.length + (b.eval ι).toS.length ≤ 1000000)) := by
 simp only [Tok.eval, Val.toB, ← Bool.not_eq_true, Nat.ble_eq]
end
end Go.Eng
namespace Go.Eng
open Go Go.Proofs

/-- a value of a type -/
def OneTy (y : Ty) (v : Value) : Prop := ∃ x : Val, v = y.val x
/-- cells of so many types, over and over -/
def RowTy (tys : List Ty) (cells : List Value) : Prop := ∀ i v, cells[i]? = some v → ∃ y, tys[i % tys.length]? = some y ∧ OneTy y v
def AV.ty1 : AV → Ty → Bool
 | .at (.int k _), .int k' => decide (k = k')
 | .at (.bool _), .bool => true
 | .str _, .str => true
 | .sym t, y => t.ty.beq y
 | _, _ => false
def tys1 : List AV → List Ty → Bool
 | [], [] => true
 | a :: l, y :: ys => a.ty1 y && tys1 l ys
 | _, _ => false
/-- cells by the types ys, then by tys from the start -/
def tysRep (tys : List Ty) : List AV → List Ty → Bool
 | [], ys => ys.isEmpty
 | a :: l, [] => match tys with
  | [] => false
  | y :: ys => a.ty1 y && tysRep tys l ys
 | a :: l, y :: ys => a.ty1 y && tysRep tys l ys
def decTys : List Ty := [.bool, .int .u64, .int .i64]
def tagTys : List Ty := [.str, .str]
def metTys : List Ty := [.str, .int .i64, .int .i64, .int .i64, .int .i64, .int .i64]
theorem ty1_val (ι : Asn) : ∀ {a : AV} {y : Ty}, a.ty1 y = true → OneTy y (a.val ι) := fun {a y} h => by
 unfold AV.ty1 at h
 split at h
 ·rename_i k n k'
  obtain rfl := of_decide_eq_true h
  exact ⟨.i n, rfl⟩
 ·rename_i b
  exact ⟨.b b, rfl⟩
 ·rename_i l
  exact ⟨.s l, rfl⟩
 ·rename_i t
  exact ⟨t.eval ι, by rw [← Ty.beq_eq h]; rfl⟩
 ·cases h
theorem tysRep_ok (ι : Asn) (tys : List Ty) : ∀ (l : List AV) (pre ys : List Ty), tys = pre ++ ys → tysRep tys l ys = true → ∀ i v, (AV.vals ι l)[i]? = some v → ∃ y, tys[(pre.length + i) % tys.length]? = some y ∧ OneTy y v
 | [], _, _, _, _, i, v, h => by simp [AV.vals] at h
 | a :: l, pre, y :: ys, he, h, i, v, hv => by
  simp only [tysRep, Bool.and_eq_true] at h
  have hlen : tys.length = pre.length + (ys.length + 1) := by rw [he]; simp
  match i with
  | 0 =>
   simp only [AV.vals, List.getElem?_cons_zero, Option.some.injEq] at hv
   refine ⟨y, ?_, by rw [← hv]; exact ty1_val ι h.1⟩
   rw [Nat.add_zero, Nat.mod_eq_of_lt (by omega), he, List.getElem?_append_right (Nat.le_refl _), Nat.sub_self]
   rfl
  | i + 1 =>
   simp only [AV.vals, List.getElem?_cons_succ] at hv
   obtain ⟨z, h1, h2⟩ := tysRep_ok ι tys l (pre ++ [y]) ys (by rw [he]; simp) h.2 i v hv
   refine ⟨z, ?_, h2⟩
   rw [← h1, List.length_append, List.length_singleton, show pre.length + 1 + i = pre.length + (i + 1) by omega]
 | a :: l, pre, [], he, h, i, v, hv => by
  rw [List.append_nil] at he
  cases ht : tys with
  | nil => rw [ht] at h; simp [tysRep] at h
  | cons y ys =>
   rw [ht] at h
   simp only [tysRep, Bool.and_eq_true] at h
   rw [← ht] at h ⊢
   have hm : ∀ j, (pre.length + j) % tys.length = j % tys.length := fun j => by rw [← he, Nat.add_mod_left]
   rw [hm]
   match i with
   | 0 =>
    simp only [AV.vals, List.getElem?_cons_zero, Option.some.injEq] at hv
    refine ⟨y, ?_, by rw [← hv]; exact ty1_val ι h.1⟩
    rw [Nat.zero_mod, ht]
    rfl
   | i + 1 =>
    simp only [AV.vals, List.getElem?_cons_succ] at hv
    obtain ⟨z, h1, h2⟩ := tysRep_ok ι tys l [y] ys (by rw [ht]; rfl) h.2 i v hv
    exact ⟨z, by rw [← h1, List.length_singleton, Nat.add_comm 1 i], h2⟩
termination_by l => l.length
theorem tysRep_row (ι : Asn) {tys : List Ty} {l : List AV} (h : tysRep tys l [] = true) : RowTy tys (AV.vals ι l) := fun i v hv => by
 have := tysRep_ok ι tys l tys [] (by simp) h i v hv
 rwa [Nat.add_mod_left] at this
theorem tys1_get (ι : Asn) : ∀ {l : List AV} {ys : List Ty}, tys1 l ys = true → ∀ (i : Nat) (a : AV) (y : Ty), l[i]? = some a → ys[i]? = some y → OneTy y (a.val ι)
 | [], _, _, i, a, y, h, _ => by simp at h
 | b :: l, [], h, _, _, _, _, _ => by simp [tys1] at h
 | b :: l, z :: ys, h, i, a, y, ha, hy => by
  simp only [tys1, Bool.and_eq_true] at h
  match i with
  | 0 =>
   simp only [List.getElem?_cons_zero, Option.some.injEq] at ha hy
   rw [← ha, ← hy]
   exact ty1_val ι h.1
  | i + 1 =>
   simp only [List.getElem?_cons_succ] at ha hy
   exact tys1_get ι h.2 i a y ha hy
/-- a slice's elements have so many cells, its row's type is so -/
def slE (h : AHeap) (el e : Nat) : AV → Bool
 | .at (.slice none 0 0) => true
 | .sl b _ _ _ e' _ => Nat.beq e e' && (match h.get b with | some (.cells el' _ _ _) => Nat.beq el el' | _ => false)
 | _ => false

/-- the cells of a slice -/
def slCells (h : AHeap) : AV → Option (List AV)
 | .at (.slice none 0 0) => some []
 | .sl b o len _ e _ => loadN h b o (len * e)
 | _ => none
/-- a metric and a fault, the values' cells behind them -/
def metA (h : AHeap) (v : AV) : Option AV :=
 match v with
 | .tup [.agg [a0, a1, s, a3, .at (.slice none 0 0), a5], .agg [f0, f1]] => match slCells h s with
  | some cs => bif slE h 36 3 s && (tys1 [a0, a1, a3, a5, f0, f1] metTys && (tysRep decTys cs [] && Nat.ble cs.length 1000)) then some (.tup [.agg [a0, a1, a3, a5, f0, f1], .agg cs]) else none
  | none => none
 | _ => none
noncomputable def endMet (f : FuncId) (u : AV) (c : ACfg) : Bool :=
 match endVal TN f c with
 | some v => match metA c.h v with
  | some m => m.plain && sameAV m u
  | none => false
 | none => false

/-- a slice reads so -/
def SlAt (w : World) (V : Value) (el e : Nat) (cells : List Value) : Prop :=
 (V = .slice none 0 0 ∧ cells = []) ∨ ∃ b o len cap c fz, V = .slice (some ⟨b, o, none⟩) len cap ∧ len ≤ cap ∧ 0 < e ∧ o + cap * e ≤ c.size ∧ cells.length = len * e ∧ w.heap[b]? = some (.cells c el fz) ∧ ∀ i v, cells[i]? = some v → c[o + i]? = some v
def MetOut (w' : World) (e : Ending) (out : Value) : Prop :=
 ∃ a0 a1 a3 a5 f0 f1 V cells, out = .tuple #[.agg #[a0, a1, a3, a5, f0, f1], .agg (List.toArray cells)] ∧ e = .returned (.tuple #[.agg #[a0, a1, V, a3, .slice none 0 0, a5], .agg #[f0, f1]]) ∧ SlAt w' V 36 3 cells ∧
  (OneTy .str a0 ∧ OneTy (.int .i64) a1 ∧ OneTy (.int .i64) a3 ∧ OneTy (.int .i64) a5 ∧ OneTy (.int .i64) f0 ∧ OneTy (.int .i64) f1) ∧ RowTy decTys cells ∧ cells.length ≤ 3000000
def FnM (f : FuncId) (args : List Value) (out : Value) : Prop := ∀ w : World, W w → Calls Tryz.prog f args.toArray w fun e w' => MetOut w' e out ∧ Kp (fun k => w.heap.size ≤ k) w w'

theorem plains_get : ∀ {l : List AV} {i : Nat} {a : AV}, AV.plains l = true → l[i]? = some a → a.plain = true
 | [], _, _, _, h => by simp at h
 | b :: l, 0, a, hp, h => by
  simp only [AV.plains, Bool.and_eq_true] at hp
  simp only [List.getElem?_cons_zero, Option.some.injEq] at h
  rw [← h]; exact hp.1
 | b :: l, i + 1, a, hp, h => by
  simp only [AV.plains, Bool.and_eq_true] at hp
  simp only [List.getElem?_cons_succ] at h
  exact plains_get hp.2 h
theorem slCells_ok {ρ : Map} {ι : Asn} {own : Nat → Prop} {H : AHeap} {w : World} (hr : HR ρ (sg ι) own H w) {s : AV} {cs : List AV} {el e0 : Nat} (h : slCells H s = some cs) (hE : slE H el e0 s = true) {V : Value} (hv : VR ρ (sg ι) s V) (hp : AV.plains cs = true) : SlAt w V el e0 (AV.vals ι cs) := by
 unfold slCells at h
 split at h
 ·cases h
  exact .inl ⟨hv.at_inv, rfl⟩
 ·rename_i b o len cap e ex
  cases hv with
  | @sl _ _ _ _ _ cap' _ x hb h1 h2 h3 h4 h5 =>
   unfold loadN at h
   split at h
   ·rename_i el1 l so fr hg
    simp only [slE, hg, Bool.and_eq_true] at hE
    obtain rfl := Nat.eq_of_beq_eq_true hE.1
    obtain rfl := Nat.eq_of_beq_eq_true hE.2
    cases hl : lenGe l (o + len * e0) with
    | false => rw [hl] at h; cases h
    | true =>
     rw [hl] at h
     cases h
     have hlen := lenGe_le hl
     obtain ⟨ob, k1, k2⟩ := hr.obj b _ x hg hb
     cases k2 with
     | @cells _ _ _ _ _ c fz g1 g2 g3 _ _ _ =>
      refine .inr ⟨x.r, o + x.s, len, cap', c, fz, rfl, by omega, h3, by rw [g1]; exact h4, ?_, k1, fun i v hi => ?_⟩
      ·rw [← (VRs.vals (ρ := ρ) (ι := ι) hp).length]
       simp only [List.length_take, List.length_drop]
       omega
      ·have hpl := VRs.vals (ρ := ρ) (ι := ι) hp
       have hil : i < ((l.drop o).take (len * e0)).length := by
        rw [hpl.length]
        exact (List.getElem?_eq_some_iff.1 hi).1
       obtain ⟨a, ha⟩ : ∃ a, ((l.drop o).take (len * e0))[i]? = some a := ⟨_, List.getElem?_eq_getElem hil⟩
       have hla : l[o + i]? = some a := by
        rw [List.getElem?_take] at ha
        split at ha
        ·rw [List.getElem?_drop] at ha; exact ha
        ·cases ha
       obtain ⟨u, u1, u2⟩ := g3 (o + i) a hla
       obtain ⟨u', u3, u4⟩ := hpl.get ha
       rw [hi] at u3
       cases u3
       have hap : a.plain = true := plains_get hp ha
       rw [VR.val_eq hap u2, ← VR.val_eq hap u4] at u1
       rw [show o + x.s + i = x.s + (o + i) by omega]
       exact u1
   ·cases h
 ·cases h

noncomputable def runDoneM (orc : Orc) (f : FuncId) (c : ACfg) (v : AV) (A : Known) : Bool :=
 match run (TS orc A) FUEL c with
 | some c' => endMet f v c'
 | none => false

def OkLM (orc : Orc) (f : FuncId) (G : Nat → Node) (c : ACfg) : LTree → Known → Prop
 | .done v, A => runDoneM orc f c v A = true
 | .to j θ n, A => runTo orc c (G j).ks n A = some (mapC (subA θ) (Tok.subst θ) (G j).c)
 | .dead, _ => True
 | .fork t y n, A => OkLM orc f G c y ((t, true) :: A) ∧ OkLM orc f G c n ((t, false) :: A)

/-- all of a tree's runs, and what they should come to -/
noncomputable def gotM (orc : Orc) (f : FuncId) (G : Nat → Node) (c : ACfg) : LTree → Known → List Got
 | .done v, A => [.b (runDoneM orc f c v A)]
 | .to j _ n, A => [.c (runTo orc c (G j).ks n A)]
 | .dead, _ => []
 | .fork t y n, A => gotM orc f G c y ((t, true) :: A) ++ gotM orc f G c n ((t, false) :: A)
theorem gotM_len {orc : Orc} {f : FuncId} {G : Nat → Node} {c : ACfg} : ∀ (tr : LTree) (A : Known), (gotM orc f G c tr A).length = (want G tr).length
 | .done _, _ => rfl
 | .to _ _ _, _ => rfl
 | .dead, _ => rfl
 | .fork t y n, A => by simp [gotM, want, gotM_len y, gotM_len n]
theorem okLM_of {orc : Orc} {f : FuncId} {G : Nat → Node} {c : ACfg} : ∀ (tr : LTree) (A : Known), gotM orc f G c tr A = want G tr → OkLM orc f G c tr A
 | .done v, A, h => by simpa [gotM, want, OkLM] using h
 | .to j θ n, A, h => by simpa [gotM, want, OkLM] using h
 | .dead, _, _ => trivial
 | .fork t y n, A, h => by
  simp only [gotM, want] at h
  obtain ⟨h1, h2⟩ := List.append_inj h (gotM_len y _)
  exact ⟨okLM_of y _ h1, okLM_of n _ h2⟩
/-- the nodes 0 .. n -/
noncomputable def gotGM (orc : Orc) (f : FuncId) (G : Nat → Node) : Nat → List (List Got)
 | 0 => []
 | n + 1 => gotM orc f G (G n).c (G n).tr [] :: gotGM orc f G n
theorem okGM_of {orc : Orc} {f : FuncId} {G : Nat → Node} : ∀ {n : Nat}, gotGM orc f G n = wantG G n → ∀ i, i < n → OkLM orc f G (G i).c (G i).tr []
 | 0, _, i, h => absurd h (Nat.not_lt_zero _)
 | n + 1, h, i, hi => by
  simp only [gotGM, wantG, List.cons.injEq] at h
  by_cases e : i = n
  ·subst e; exact okLM_of _ _ h.1
  ·exact okGM_of h.2 i (by omega)

theorem leafM_way {orc : Orc} {f : FuncId} {G : Nat → Node} {c : ACfg} {ι : Asn} : ∀ (tr : LTree) (A : Known), OkLM orc f G c tr A → A.so ι → ∃ B, Known.so ι B ∧ OkLM orc f G c (leafOf ι tr) B
 | .done v, A, h, hA => ⟨A, hA, h⟩
 | .to j θ n, A, h, hA => ⟨A, hA, h⟩
 | .dead, A, h, hA => ⟨A, hA, h⟩
 | .fork t y n, A, h, hA => by
  simp only [leafOf]
  cases ht : (t.eval ι).toB with
  | true => exact leafM_way y _ h.1 (fun q hq => (List.mem_cons.1 hq).elim (fun e => e ▸ ht) (hA q))
  | false => exact leafM_way n _ h.2 (fun q hq => (List.mem_cons.1 hq).elim (fun e => e ▸ ht) (hA q))


theorem graphM_way {orc : Orc} {f : FuncId} {G : Nat → Node} {Inv : Nat → Asn → Prop} {μ : Nat → Asn → Nat} {Q : Value → Prop}
  (hG : ∀ i ι, Inv i ι → OkLM orc f G (G i).c (G i).tr []) (hR : ∀ i ι, Inv i ι → Round Inv μ Q ι (μ i ι) (leafOf ι (G i).tr)) :
  ∀ (m i : Nat) (ι : Asn), μ i ι < m → Inv i ι → ∃ ι' c' v, Way orc ι (G i).c ι' c' ∧ endMet f v c' = true ∧ Q (v.val ι')
 | 0, _, _, h, _ => absurd h (Nat.not_lt_zero _)
 | m + 1, i, ι, h, hi => by
  have h1 := hG i ι hi
  have h2 := hR i ι hi
  obtain ⟨B, hB, hO⟩ := leafM_way (ι := ι) _ [] h1 (fun p hp => by cases hp)
  generalize leafOf ι (G i).tr = l at h2 hO
  cases l with
  | done v =>
   simp only [OkLM, runDoneM] at hO
   split at hO
   ·rename_i c' hc
    exact ⟨ι, c', v, .run B FUEL hB hc (.refl _ _), hO, h2⟩
   ·cases hO
  | to j θ n =>
   obtain ⟨k1, k2⟩ := h2
   obtain ⟨ι', c', v, g1, g2, g3⟩ := graphM_way hG hR m j (ι.sub θ) (by omega) k1
   simp only [OkLM, runTo] at hO
   split at hO
   ·rename_i c1 hc
    exact ⟨ι', c', v, .run B n hB hc (.forget (G j).ks (.sub θ (by simpa using hO) g1)), g2, g3⟩
   ·cases hO
  | dead => exact h2.elim
  | fork t y n => exact h2.elim


theorem fnM_of_way {F : Nat → Val → Val → Val} {orc : Orc} (ho : OrcIs F orc) {ι ι2 : Asn} (hf : ι.fn = F) {f : FuncId} {args : List AV} (ha : AV.plains args = true) {fr : AFrame} (he : enterA TN f args false = some fr)
  {c' : ACfg} (hw : Way orc ι ⟨fr, [], H0⟩ ι2 c') {u : AV} (hp : endMet f u c' = true) : FnM f (AV.vals ι args) (u.val ι2) := by
 unfold endMet at hp
 split at hp
 ·rename_i v hv
  split at hp
  ·rename_i m hm
   simp only [Bool.and_eq_true] at hp
   obtain rfl := sameAV_eq hp.2
   intro w hW
   obtain ⟨ρ, h0, hg⟩ := start_ok (ι := ι) hW
   refine (calls_of_way ho hf (VRs.vals ha) h0 (fun k hk => hk) hg he hw hv).mono ?_
   rintro e w' ⟨v', ρ', rfl, h1, h2, h3⟩
   refine ⟨?_, h3⟩
   unfold metA at hm
   split at hm
   ·rename_i a0 a1 s a3 a5 f0 f1
    split at hm
    ·rename_i cs hcs
     cases hsh : (slE c'.h 36 3 s && (tys1 [a0, a1, a3, a5, f0, f1] metTys && (tysRep decTys cs [] && Nat.ble cs.length 1000))) with
     | false => rw [hsh] at hm; cases hm
     | true =>
     rw [hsh] at hm
     simp only [cond_true] at hm
     simp only [Bool.and_eq_true] at hsh
     obtain ⟨hs1, hs2, hs3, hs4⟩ := hsh
     cases hm
     have hpl := hp.1
     simp only [AV.plain, AV.plains, Bool.and_eq_true, Bool.and_true] at hpl
     obtain ⟨⟨q0, q1, q3, q5, q6, q7⟩, qc⟩ := hpl
     cases h1 with
     | tup h1 => cases h1 with
      | cons h1 h4 => cases h4 with
       | cons h4 h5 =>
        cases h5
        cases h1 with
        | agg h1 => cases h1 with
         | cons e0 h1 => cases h1 with
          | cons e1 h1 => cases h1 with
           | cons e2 h1 => cases h1 with
            | cons e3 h1 => cases h1 with
             | cons e4 h1 => cases h1 with
              | cons e5 h1 =>
               cases h1
               cases h4 with
               | agg h4 => cases h4 with
                | cons e6 h4 => cases h4 with
                 | cons e7 h4 =>
                  cases h4
                  refine ⟨a0.val ι2, a1.val ι2, a3.val ι2, a5.val ι2, f0.val ι2, f1.val ι2, _, AV.vals ι2 cs, rfl, ?_, slCells_ok h2 hcs hs1 e2 qc, ⟨tys1_get ι2 hs2 0 _ _ rfl rfl, tys1_get ι2 hs2 1 _ _ rfl rfl, tys1_get ι2 hs2 2 _ _ rfl rfl, tys1_get ι2 hs2 3 _ _ rfl rfl, tys1_get ι2 hs2 4 _ _ rfl rfl, tys1_get ι2 hs2 5 _ _ rfl rfl⟩, tysRep_row ι2 hs3, by
                   have := Nat.le_of_ble_eq_true hs4
                   have h2 := (VRs.vals (ρ := ρ) (ι := ι2) qc).length
                   omega⟩
                  rw [VR.val_eq q0 e0, VR.val_eq q1 e1, VR.val_eq q3 e3, VR.val_eq q5 e5, VR.val_eq q6 e6, VR.val_eq q7 e7, e4.at_inv]
    ·cases hm
   ·cases hm
  ·cases hp
 ·cases hp

noncomputable def gotFM (orc : Orc) (f : FuncId) (args : List AV) (G : Nat → Node) (n : Nat) : Bool × List (List Got) := ((enterA TN f args false).isSome, gotGM orc f G n)

theorem fnM_of_graph {F : Nat → Val → Val → Val} {orc : Orc} (ho : OrcIs F orc) {f : FuncId} {args : List AV} {G : Nat → Node} {Inv : Nat → Asn → Prop} {μ : Nat → Asn → Nat} {Q : Value → Prop} {n : Nat}
  (hG : gotFM orc f args G n = wantF G n) (h0 : (G 0).c = entryC f args) (ha : AV.plains args = true) (hn : ∀ i ι, Inv i ι → i < n)
  (hR : ∀ i ι, Inv i ι → Round Inv μ Q ι (μ i ι) (leafOf ι (G i).tr)) {ι : Asn} (hf : ι.fn = F) (hi : Inv 0 ι) :
  ∃ out, Q out ∧ FnM f (AV.vals ι args) out := by
 simp only [gotFM, wantF, Prod.mk.injEq] at hG
 obtain ⟨fr, he⟩ := Option.isSome_iff_exists.1 hG.1
 obtain ⟨ι', c', v, h1, h2, h3⟩ := graphM_way (fun i ι hi => okGM_of hG.2 i (hn i ι hi)) hR (μ 0 ι + 1) 0 ι (Nat.lt_succ_self _) hi
 rw [h0, entryC, he] at h1
 exact ⟨_, h3, fnM_of_way ho hf ha he h1 h2⟩

end Go.Eng
namespace Go.Eng
open Go Go.Proofs

/-- 'to': behind so many steps, blocks renumbered, the configuration of a number, its names standing for these -/
inductive RTree where
 | done (v : AV) | to (j : Nat) (θ : Sub) (μ : List Nat) (n : Nat) | dead | fork (t : Tok) (y n : RTree)
structure RNode where
 c : ACfg
 ks : List (List Nat)
 tr : RTree

noncomputable def runR (orc : Orc) (c : ACfg) (ks : List (List Nat)) (μ : List Nat) (n : Nat) (A : Known) : Option ACfg :=
 match run (TS orc A) n c with
 | some c' => renC μ (forgetC ks c')
 | none => none
noncomputable def runDoneR (orc : Orc) (p : ACfg → AV → Bool) (c : ACfg) (v : AV) (A : Known) : Bool :=
 match run (TS orc A) FUEL c with
 | some c' => p c' v
 | none => false

def OkR (orc : Orc) (p : ACfg → AV → Bool) (G : Nat → RNode) (c : ACfg) : RTree → Known → Prop
 | .done v, A => runDoneR orc p c v A = true
 | .to j θ μ n, A => runR orc c (G j).ks μ n A = some (mapC (subA θ) (Tok.subst θ) (G j).c)
 | .dead, _ => True
 | .fork t y n, A => OkR orc p G c y ((t, true) :: A) ∧ OkR orc p G c n ((t, false) :: A)

/-- all of a tree's runs, and what they should come to -/
noncomputable def gotR (orc : Orc) (p : ACfg → AV → Bool) (G : Nat → RNode) (c : ACfg) : RTree → Known → List Got
 | .done v, A => [.b (runDoneR orc p c v A)]
 | .to j _ μ n, A => [.c (runR orc c (G j).ks μ n A)]
 | .dead, _ => []
 | .fork t y n, A => gotR orc p G c y ((t, true) :: A) ++ gotR orc p G c n ((t, false) :: A)
noncomputable def wantR (G : Nat → RNode) : RTree → List Got
 | .done _ => [.b true]
 | .to j θ _ _ => [.c (some (mapC (subA θ) (Tok.subst θ) (G j).c))]
 | .dead => []
 | .fork _ y n => wantR G y ++ wantR G n
theorem gotR_len {orc : Orc} {p : ACfg → AV → Bool} {G : Nat → RNode} {c : ACfg} : ∀ (tr : RTree) (A : Known), (gotR orc p G c tr A).length = (wantR G tr).length
 | .done _, _ => rfl
 | .to _ _ _ _, _ => rfl
 | .dead, _ => rfl
 | .fork t y n, A => by simp [gotR, wantR, gotR_len y, gotR_len n]
theorem okR_of {orc : Orc} {p : ACfg → AV → Bool} {G : Nat → RNode} {c : ACfg} : ∀ (tr : RTree) (A : Known), gotR orc p G c tr A = wantR G tr → OkR orc p G c tr A
 | .done v, A, h => by simpa [gotR, wantR, OkR] using h
 | .to j θ μ n, A, h => by simpa [gotR, wantR, OkR] using h
 | .dead, _, _ => trivial
 | .fork t y n, A, h => by
  simp only [gotR, wantR] at h
  obtain ⟨h1, h2⟩ := List.append_inj h (gotR_len y _)
  exact ⟨okR_of y _ h1, okR_of n _ h2⟩
/-- the nodes 0 .. n -/
noncomputable def gotGR (orc : Orc) (p : ACfg → AV → Bool) (G : Nat → RNode) : Nat → List (List Got)
 | 0 => []
 | n + 1 => gotR orc p G (G n).c (G n).tr [] :: gotGR orc p G n
noncomputable def wantGR (G : Nat → RNode) : Nat → List (List Got)
 | 0 => []
 | n + 1 => wantR G (G n).tr :: wantGR G n
theorem okGR_of {orc : Orc} {p : ACfg → AV → Bool} {G : Nat → RNode} : ∀ {n : Nat}, gotGR orc p G n = wantGR G n → ∀ i, i < n → OkR orc p G (G i).c (G i).tr []
 | 0, _, i, h => absurd h (Nat.not_lt_zero _)
 | n + 1, h, i, hi => by
  simp only [gotGR, wantGR, List.cons.injEq] at h
  by_cases e : i = n
  ·subst e; exact okR_of _ _ h.1
  ·exact okGR_of h.2 i (by omega)
def leafR (ι : Asn) : RTree → RTree
 | .fork t y n => bif (t.eval ι).toB then leafR ι y else leafR ι n
 | l => l

theorem leafR_way {orc : Orc} {p : ACfg → AV → Bool} {G : Nat → RNode} {c : ACfg} {ι : Asn} : ∀ (tr : RTree) (A : Known), OkR orc p G c tr A → A.so ι → ∃ B, Known.so ι B ∧ OkR orc p G c (leafR ι tr) B
 | .done v, A, h, hA => ⟨A, hA, h⟩
 | .to j θ μ n, A, h, hA => ⟨A, hA, h⟩
 | .dead, A, h, hA => ⟨A, hA, h⟩
 | .fork t y n, A, h, hA => by
  simp only [leafR]
  cases ht : (t.eval ι).toB with
  | true => exact leafR_way y _ h.1 (fun q hq => (List.mem_cons.1 hq).elim (fun e => e ▸ ht) (hA q))
  | false => exact leafR_way n _ h.2 (fun q hq => (List.mem_cons.1 hq).elim (fun e => e ▸ ht) (hA q))

/-- rows are not great -/
def smallRow (ι : Asn) : AV → Prop
 | .sym T => (T.eval ι).toL.length ≤ 1000000
 | _ => True
def SmallV (ι : Asn) : AV → Prop
 | .tup [_, rs, rt] => smallRow ι rs ∧ smallRow ι rt
 | _ => True
/-- what a round must do -/
def Turn (Inv : Nat → Asn → Prop) (μ : Nat → Asn → Nat) (ι : Asn) (m : Nat) : RTree → Prop
 | .done v => SmallV ι v
 | .to j θ _ _ => Inv j (ι.sub θ) ∧ μ j (ι.sub θ) < m
 | _ => False
theorem turn_fork {Inv : Nat → Asn → Prop} {μ : Nat → Asn → Nat} {ι : Asn} {m : Nat} {t : Tok} {y n : RTree} (h1 : (t.eval ι).toB = true → Turn Inv μ ι m (leafR ι y)) (h2 : (t.eval ι).toB = false → Turn Inv μ ι m (leafR ι n)) :
  Turn Inv μ ι m (leafR ι (.fork t y n)) := by
 simp only [leafR]
 cases h : (t.eval ι).toB with
 | true => exact h1 h
 | false => exact h2 h

theorem graphR_way {orc : Orc} {p : ACfg → AV → Bool} {G : Nat → RNode} {Inv : Nat → Asn → Prop} {μ : Nat → Asn → Nat}
  (hG : ∀ i ι, Inv i ι → OkR orc p G (G i).c (G i).tr []) (hR : ∀ i ι, Inv i ι → Turn Inv μ ι (μ i ι) (leafR ι (G i).tr)) :
  ∀ (m i : Nat) (ι : Asn), μ i ι < m → Inv i ι → ∃ ι' c' v, Way orc ι (G i).c ι' c' ∧ p c' v = true ∧ SmallV ι' v
 | 0, _, _, h, _ => absurd h (Nat.not_lt_zero _)
 | m + 1, i, ι, h, hi => by
  have h1 := hG i ι hi
  have h2 := hR i ι hi
  obtain ⟨B, hB, hO⟩ := leafR_way (ι := ι) _ [] h1 (fun p hp => by cases hp)
  generalize leafR ι (G i).tr = l at h2 hO
  cases l with
  | done v =>
   simp only [OkR, runDoneR] at hO
   split at hO
   ·rename_i c' hc
    exact ⟨ι, c', v, .run B FUEL hB hc (.refl _ _), hO, h2⟩
   ·cases hO
  | to j θ ν n =>
   obtain ⟨k1, k2⟩ := h2
   obtain ⟨ι', c', v, g1, g2⟩ := graphR_way hG hR m j (ι.sub θ) (by omega) k1
   simp only [OkR, runR] at hO
   split at hO
   ·rename_i c1 hc
    exact ⟨ι', c', v, .run B n hB hc (.forget (G j).ks (.ren ν hO (.sub θ rfl g1))), g2⟩
   ·cases hO
  | dead => exact h2.elim
  | fork t y n => exact h2.elim

/-- a row by names, or none -/
def rowOf (h : AHeap) (el : TypeId) (tys : List Ty) : AV → Option AV
 | .at (.slice none 0 0) => some (.agg [])
 | .sq b e n => match h.get b with
  | some (.seq el' tys' T _) => bif Nat.beq el el' && (tysB tys tys' && (Nat.beq e tys.length && n.beq (.llen T))) then some (.sym T) else none
  | _ => none
 | _ => none
def metT (h : AHeap) (v : AV) : Option (List AV × AV × AV) :=
 match v with
 | .tup [.agg [a0, a1, s, a3, t, a5], .agg [f0, f1]] => match rowOf h 36 decTys s, rowOf h 39 tagTys t with
  | some rs, some rt => some ([a0, a1, a3, a5, f0, f1], rs, rt)
  | _, _ => none
 | _ => none
/-- a call's end: a metric and a fault -/
noncomputable def endMetT (f : FuncId) (c : ACfg) (u : AV) : Bool :=
 match endVal TN f c with
 | some v => match metT c.h v with
  | some (l, rs, rt) => AV.plains l && (tys1 l metTys && sameAV (.tup [.agg l, rs, rt]) u)
  | none => false
 | none => false

/-- the cells that a row by names has -/
def rowVals (ι : Asn) (tys : List Ty) : AV → List Value
 | .sym T => (List.range ((T.eval ι).toL.length * tys.length)).map fun m => match tys[m % tys.length]? with
  | some y => sg ι (.lget (m % tys.length) y T (.ki .i64 (.ofNat (m / tys.length))))
  | none => .bool false
 | _ => []
def metVal (ι : Asn) : AV → Value
 | .tup [.agg l, rs, rt] => .tuple #[.agg (AV.vals ι l).toArray, .agg (rowVals ι decTys rs).toArray, .agg (rowVals ι tagTys rt).toArray]
 | _ => .bool false

/-- a metric and a fault: its values and tags read so -/
def MetTags (w' : World) (e : Ending) (out : Value) : Prop :=
 ∃ a0 a1 a3 a5 f0 f1 V cells T tags, out = .tuple #[.agg #[a0, a1, a3, a5, f0, f1], .agg (List.toArray cells), .agg (List.toArray tags)] ∧ e = .returned (.tuple #[.agg #[a0, a1, V, a3, T, a5], .agg #[f0, f1]]) ∧ SlAt w' V 36 3 cells ∧ SlAt w' T 39 2 tags ∧
  (OneTy .str a0 ∧ OneTy (.int .i64) a1 ∧ OneTy (.int .i64) a3 ∧ OneTy (.int .i64) a5 ∧ OneTy (.int .i64) f0 ∧ OneTy (.int .i64) f1) ∧ RowTy decTys cells ∧ RowTy tagTys tags ∧ cells.length ≤ 3000000 ∧ tags.length ≤ 3000000
def FnT (f : FuncId) (args : List Value) (out : Value) : Prop := ∀ w : World, W w → Calls Tryz.prog f args.toArray w fun e w' => MetTags w' e out ∧ Kp (fun k => w.heap.size ≤ k) w w'

theorem FnM.tags {f : FuncId} {args : List Value} {out : Value} (h : FnM f args out) : ∃ out', FnT f args out' := by
 by_cases hx : ∃ p c, out = .tuple #[p, .agg c]
 ·obtain ⟨p, c, rfl⟩ := hx
  refine ⟨.tuple #[p, .agg c, .agg #[]], fun w hW => (h w hW).mono ?_⟩
  rintro e w' ⟨⟨a0, a1, a3, a5, f0, f1, V, cells, h1, h2, h3, h5, h6, h7⟩, h4⟩
  refine ⟨⟨a0, a1, a3, a5, f0, f1, V, cells, .slice none 0 0, [], ?_, h2, h3, .inl ⟨rfl, rfl⟩, h5, h6, (fun i v h => by simp at h), h7, Nat.zero_le _⟩, h4⟩
  simp only [Value.tuple.injEq, Array.mk.injEq, List.cons.injEq, and_true] at h1
  rw [h1.1, h1.2]
 ·refine ⟨.bool false, fun w hW => (h w hW).mono ?_⟩
  rintro e w' ⟨⟨a0, a1, a3, a5, f0, f1, V, cells, h1, h2, h3, h5, h6⟩, h4⟩
  exact absurd ⟨_, _, h1⟩ hx

theorem rowVals_ty {ι : Asn} {el : TypeId} {tys : List Ty} {H : AHeap} {s r : AV} (_ : rowOf H el tys s = some r) : RowTy tys (rowVals ι tys r) := fun i v hv => by
 unfold rowVals at hv
 split at hv
 ·rename_i T _
  rw [List.getElem?_map] at hv
  cases hr : (List.range ((T.eval ι).toL.length * tys.length))[i]? with
  | none => rw [hr] at hv; cases hv
  | some m =>
   obtain ⟨q1, q2⟩ := List.getElem?_eq_some_iff.1 hr
   rw [List.length_range] at q1
   rw [List.getElem_range] at q2
   subst q2
   rw [hr] at hv
   simp only [Option.map_some, Option.some.injEq] at hv
   have hpos : 0 < tys.length := by
    rcases Nat.eq_zero_or_pos tys.length with e | e
    ·rw [e, Nat.mul_zero] at q1; omega
    ·exact e
   have hlt := Nat.mod_lt i hpos
   have hy : tys[i % tys.length]? = some (tys[i % tys.length]'hlt) := List.getElem?_eq_getElem hlt
   rw [hy] at hv
   exact ⟨_, hy, _, hv.symm⟩
 ·simp at hv
theorem rowVals_small {ι : Asn} {tys : List Ty} (hk : tys.length ≤ 3) {r : AV} (h : smallRow ι r) : (rowVals ι tys r).length ≤ 3000000 := by
 unfold rowVals
 split
 ·rename_i T
  have h : (T.eval ι).toL.length ≤ 1000000 := h
  rw [List.length_map, List.length_range]
  have := Nat.mul_le_mul h hk
  omega
 ·simp
theorem rowOf_ok {ρ : Map} {ι : Asn} {own : Nat → Prop} {H : AHeap} {w : World} (hr : HR ρ (sg ι) own H w) {el : TypeId} {tys : List Ty} {s r : AV} (h : rowOf H el tys s = some r) {V : Value} (hv : VR ρ (sg ι) s V) : SlAt w V el tys.length (rowVals ι tys r) := by
 unfold rowOf at h
 split at h
 ·cases h
  exact .inl ⟨hv.at_inv, rfl⟩
 ·rename_i b e n
  split at h
  ·rename_i el' tys' T fr hg
   cases hb : (Nat.beq el el' && (tysB tys tys' && (Nat.beq e tys.length && n.beq (.llen T)))) with
   | false => rw [hb] at h; cases h
   | true =>
    rw [hb] at h
    cases h
    simp only [Bool.and_eq_true] at hb
    obtain ⟨b0, b1, b2, b3⟩ := hb
    obtain rfl := Nat.eq_of_beq_eq_true b0
    obtain rfl := tysB_eq b1
    obtain rfl := Nat.eq_of_beq_eq_true b2
    obtain rfl := Tok.beq_eq b3
    cases hv with
    | @sq _ _ _ len cap' x k1 k2 k3 k4 k5 =>
     obtain ⟨ob, h1, h2⟩ := hr.obj b _ x hg k1
     cases h2 with
     | @seq _ _ _ _ _ c fz n g1 g2 g3 g4 g5 g6 =>
      have hn := llen_inv g1
      have hlen : len = n := by
       rw [g1] at k2
       exact (Int.ofNat.inj (Value.int.inj k2).2).symm
      subst hlen
      refine .inr ⟨x.r, x.s, len, cap', c, fz, rfl, k3, k4, by rw [g3]; exact k5, by simp [rowVals, hn], h1, fun i v hi => ?_⟩
      simp only [rowVals, hn, List.getElem?_map] at hi
      cases hri : (List.range (len * tys.length))[i]? with
      | none => rw [hri] at hi; cases hi
      | some m =>
       obtain ⟨q1, q2⟩ := List.getElem?_eq_some_iff.1 hri
       rw [List.length_range] at q1
       rw [List.getElem_range] at q2
       subst q2
       rw [hri] at hi
       simp only [Option.map_some, Option.some.injEq] at hi
       have hj : i % tys.length < tys.length := Nat.mod_lt _ k4
       have hd : i / tys.length < len := Nat.div_lt_of_lt_mul (by rw [Nat.mul_comm]; exact q1)
       have hy : tys[i % tys.length]? = some tys[i % tys.length] := List.getElem?_eq_getElem hj
       rw [hy] at hi
       obtain ⟨m1, _⟩ := g5 (i / tys.length) (i % tys.length) _ hd hy
       rw [show i / tys.length * tys.length + i % tys.length = i from Nat.div_add_mod' i tys.length] at m1
       rw [m1, ← hi]
  ·cases h
 ·cases h

theorem fnT_of_way {F : Nat → Val → Val → Val} {orc : Orc} (ho : OrcIs F orc) {ι ι2 : Asn} (hf : ι.fn = F) {f : FuncId} {args : List AV} (ha : AV.plains args = true) {fr : AFrame} (he : enterA TN f args false = some fr)
  {c' : ACfg} (hw : Way orc ι ⟨fr, [], H0⟩ ι2 c') {u : AV} (hp : endMetT f c' u = true) (hsm : SmallV ι2 u) : FnT f (AV.vals ι args) (metVal ι2 u) := by
 unfold endMetT at hp
 split at hp
 ·rename_i v hv
  split at hp
  ·rename_i l rs rt hm
   simp only [Bool.and_eq_true] at hp
   obtain ⟨hpl, hty, hsame⟩ := hp
   obtain rfl := sameAV_eq hsame
   intro w hW
   obtain ⟨ρ, h0, hg⟩ := start_ok (ι := ι) hW
   refine (calls_of_way ho hf (VRs.vals ha) h0 (fun k hk => hk) hg he hw hv).mono ?_
   rintro e w' ⟨v', ρ', rfl, h1, h2, h3⟩
   refine ⟨?_, h3⟩
   unfold metT at hm
   split at hm
   ·rename_i a0 a1 s a3 t a5 f0 f1
    split at hm
    ·rename_i rs' rt' hs ht
     cases hm
     simp only [AV.plains, Bool.and_eq_true, Bool.and_true] at hpl
     obtain ⟨q0, q1, q3, q5, q6, q7⟩ := hpl
     cases h1 with
     | tup h1 => cases h1 with
      | cons h1 h4 => cases h4 with
       | cons h4 h5 =>
        cases h5
        cases h1 with
        | agg h1 => cases h1 with
         | cons e0 h1 => cases h1 with
          | cons e1 h1 => cases h1 with
           | cons e2 h1 => cases h1 with
            | cons e3 h1 => cases h1 with
             | cons e4 h1 => cases h1 with
              | cons e5 h1 =>
               cases h1
               cases h4 with
               | agg h4 => cases h4 with
                | cons e6 h4 => cases h4 with
                 | cons e7 h4 =>
                  cases h4
                  refine ⟨a0.val ι2, a1.val ι2, a3.val ι2, a5.val ι2, f0.val ι2, f1.val ι2, _, rowVals ι2 decTys rs, _, rowVals ι2 tagTys rt, rfl, ?_, rowOf_ok h2 hs e2, rowOf_ok h2 ht e4, ⟨tys1_get ι2 hty 0 _ _ rfl rfl, tys1_get ι2 hty 1 _ _ rfl rfl, tys1_get ι2 hty 2 _ _ rfl rfl, tys1_get ι2 hty 3 _ _ rfl rfl, tys1_get ι2 hty 4 _ _ rfl rfl, tys1_get ι2 hty 5 _ _ rfl rfl⟩, rowVals_ty hs, rowVals_ty ht, rowVals_small (by decide) hsm.1, rowVals_small (by decide) hsm.2⟩
                  rw [VR.val_eq q0 e0, VR.val_eq q1 e1, VR.val_eq q3 e3, VR.val_eq q5 e5, VR.val_eq q6 e6, VR.val_eq q7 e7]
    ·cases hm
   ·cases hm
  ·cases hp
 ·cases hp

noncomputable def gotFR (orc : Orc) (f : FuncId) (args : List AV) (G : Nat → RNode) (n : Nat) : Bool × List (List Got) := ((enterA TN f args false).isSome, gotGR orc (endMetT f) G n)
noncomputable def wantFR (G : Nat → RNode) (n : Nat) : Bool × List (List Got) := (true, wantGR G n)

theorem fnT_of_graph {F : Nat → Val → Val → Val} {orc : Orc} (ho : OrcIs F orc) {f : FuncId} {args : List AV} {G : Nat → RNode} {Inv : Nat → Asn → Prop} {μ : Nat → Asn → Nat} {n : Nat}
  (hG : gotFR orc f args G n = wantFR G n) (h0 : (G 0).c = entryC f args) (ha : AV.plains args = true) (hn : ∀ i ι, Inv i ι → i < n)
  (hR : ∀ i ι, Inv i ι → Turn Inv μ ι (μ i ι) (leafR ι (G i).tr)) {ι : Asn} (hf : ι.fn = F) (hi : Inv 0 ι) :
  ∃ out, FnT f (AV.vals ι args) out := by
 simp only [gotFR, wantFR, Prod.mk.injEq] at hG
 obtain ⟨fr, he⟩ := Option.isSome_iff_exists.1 hG.1
 obtain ⟨ι', c', v, h1, h2, h3⟩ := graphR_way (fun i ι hi => okGR_of hG.2 i (hn i ι hi)) hR (μ 0 ι + 1) 0 ι (Nat.lt_succ_self _) hi
 rw [h0, entryC, he] at h1
 exact ⟨_, fnT_of_way ho hf ha he h1 h2 h3⟩
end Go.Eng
namespace Go.Eng
open Go Go.Proofs

def idxF (a b : Val) : Val := .i (idxA a.toS b.toI.toNat)
def markB (c : Nat) : Bool := Nat.beq c 58 || (Nat.beq c 124 || (Nat.beq c 46 || (Nat.beq c 44 || Nat.beq c 32)))
def orcIdx (f : Nat) (args : List AV) : Option AV :=
 bif Nat.beq f 260 then (match args with
  | [.sym s, .at (.int .u8 (.ofNat c))] => bif isStrK s.ty && markB c then some (.sym (.fn (.int .i64) 1 s (.ki .u8 (.ofNat c)))) else none
  | _ => none) else none

set_option maxRecDepth 1000000 in
theorem idxRun (l : List UInt8) {c : Nat} (hc : markB c = true) : outA T0 260 [.str l, .at (.int .u8 (.ofNat c))] 100 = some (.at (.int .i64 (idxA l c))) := by
 simp only [markB, Bool.or_eq_true, Nat.beq_eq] at hc
 rcases hc with rfl | rfl | rfl | rfl | rfl <;> kernel_rfl

theorem idx_calls (l : List UInt8) {c : Nat} (hc : markB c = true) (w : World) : Calls Tryz.prog 260 #[.string ⟨l.toArray⟩, .int .u8 (.ofNat c)] w fun e w' => e = .returned (.int .i64 (idxA l c)) ∧ Kp (fun k => w.heap.size ≤ k) w w' := by
 refine (calls_of_out (E := T0) (σ := sg ⟨fun _ _ => .i 0, fun _ _ _ => .i 0⟩) T0_ok (fun _ => rfl) (idxRun l hc) rfl rfl (fun _ => none) _ w (.cons (.str l) (.cons (.at _) .nil))).mono ?_
 rintro e w' ⟨v', rfl, h1, h2⟩
 cases h1
 exact ⟨rfl, h2⟩

theorem orcIdx_is {F : Nat → Val → Val → Val} (hF : F 1 = idxF) : OrcIs1 F fun _ _ => orcIdx := fun ι A hf _ H f args v h ρ own args' w hr hg hargs => by
 replace h : orcIdx f args = some v := h
 unfold orcIdx at h
 cases hn : Nat.beq f 260 with
 | false => rw [hn] at h; cases h
 | true =>
  rw [hn] at h
  rw [Nat.eq_of_beq_eq_true hn]
  simp only [cond_true] at h
  split at h
  ·rename_i s c
   cases hq : (isStrK s.ty && markB c) with
   | false => rw [hq] at h; cases h
   | true =>
    rw [hq] at h
    cases h
    simp only [Bool.and_eq_true] at hq
    have e1 : sg ι s = .string ⟨(s.eval ι).toS.toArray⟩ := by unfold sg; rw [isStrK_inv hq.1]; rfl
    have e2 : sg ι (.fn (.int .i64) 1 s (.ki .u8 (.ofNat c))) = .int .i64 (idxA (s.eval ι).toS c) := by
     show Value.int .i64 ((ι.fn 1 (s.eval ι) (.i (.ofNat c))).toI) = _
     rw [hf, hF]; rfl
    rw [VRs.vals_eq (l := [.sym s, .at (.int .u8 (.ofNat c))]) rfl hargs]
    show Calls Tryz.prog 260 #[sg ι s, .int .u8 (.ofNat c)] w _
    rw [e1]
    refine (idx_calls (s.eval ι).toS hq.2 w).mono ?_
    rintro e w' ⟨rfl, hk⟩
    exact ⟨_, rfl, by rw [← e2]; exact .sym _ (sg_cell ι _), hk⟩
  ·cases h

/-- oracles together -/
def orcOr (a b : Orc1) : Orc1 := fun A H f args => match a A H f args with
 | some v => some v
 | none => b A H f args
theorem orcOr_is {F : Nat → Val → Val → Val} {a b : Orc1} (ha : OrcIs1 F a) (hb : OrcIs1 F b) : OrcIs1 F (orcOr a b) := fun ι A hf hA H f args v h => by
 replace h : (match a A H f args with | some v => some v | none => b A H f args) = some v := h
 split at h
 ·rename_i u hu
  cases h
  exact ha ι A hf hA H f args v hu
 ·exact hb ι A hf hA H f args v h
end Go.Eng
