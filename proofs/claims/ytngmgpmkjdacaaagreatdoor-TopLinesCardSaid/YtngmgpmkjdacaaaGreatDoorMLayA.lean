/-
 From a graph to what is said of a function. What is said of the strings' functions.
-/
import Derived.Test.YtngmgpmkjdacaaaGreatDoorMAtoi
set_option linter.unusedSimpArgs false
set_option linter.unusedVariables false
namespace Go.Eng
open Go Go.Proofs

mutual
def flatA : AV → List AV
 | .agg l => flatAs l
 | .tup l => flatAs l
 | a => [a]
def flatAs : List AV → List AV
 | [] => []
 | a :: l => flatA a ++ flatAs l
end
def tokV (ι : Asn) (a : AV) : Val := match a.tok with
 | some t => t.eval ι
 | none => .i 0
def leafOs (ι : Asn) (v : AV) : List Val := (flatA v).map (tokV ι)
/-- an answer of the form -/
def Qs (S : Spec) (vs : List Val) (out : Value) : Prop := ∃ os, out = S.out.val os ∧ S.post vs os
theorem q_leaf {S : Spec} {vs : List Val} {ι : Asn} {v : AV} (h : v.val ι = S.out.val (leafOs ι v)) (hp : S.post vs (leafOs ι v)) : Qs S vs (v.val ι) := ⟨_, h, hp⟩

theorem told_of_graph (id : Nat) {f : FuncId} (hsf : (sp id).f = f) {L : List Nat} (hL : ∀ i ∈ L, 1 ≤ i ∧ Told (sp i)) {args : List AV} {G : Nat → Node} {n : Nat} (hG : gotF (orcL L false) f args G n = wantF G n) (h0 : (G 0).c = entryC f args)
  (ha : AV.plains args = true) (hv : ∀ vs : List Val, vs.length = (tysOf (sp id).ins).length → AV.vals (asn vs) args = insOf (sp id).ins vs) {Inv : List Val → Nat → Asn → Prop} {μ : Nat → Asn → Nat} (hn : ∀ vs i ι, Inv vs i ι → i < n)
  (hi : ∀ vs : List Val, vs.length = (tysOf (sp id).ins).length → smalls (tysOf (sp id).ins) vs → Inv vs 0 (asn vs))
  (hR : ∀ (vs : List Val) i ι, Inv vs i ι → Round (Inv vs) μ (Qs (sp id) vs) ι (μ i ι) (leafOf ι (G i).tr)) : Told (sp id) := fun vs hl hs => by
 subst hsf
 obtain ⟨out, ⟨os, rfl, h1⟩, h2⟩ := fn_of_graph (orcL_is hL) hG h0 ha (hn vs) (hR vs) (ι := asn vs) rfl (hi vs hl hs)
 rw [hv vs hl] at h2
 exact ⟨os, h2, h1⟩

theorem no_oracles : ∀ i ∈ ([] : List Nat), 1 ≤ i ∧ Told (sp i) := fun i h => by cases h

/-- for a function without loops -/
def inv0 (P : List Val → Prop) (vs : List Val) : Nat → Asn → Prop
 | 0, ι => ι = asn vs ∧ P vs
 | _, _ => False
theorem inv0_lt {P : List Val → Prop} (vs : List Val) (i : Nat) (ι : Asn) (h : inv0 P vs i ι) : i < 1 := by
 match i, h with
 | 0, _ => exact Nat.zero_lt_one
theorem told_flat (id : Nat) {f : FuncId} (hsf : (sp id).f = f) {L : List Nat} (hL : ∀ i ∈ L, 1 ≤ i ∧ Told (sp i)) {args : List AV} {G : Nat → Node} (hG : gotF (orcL L false) f args G 1 = wantF G 1) (h0 : (G 0).c = entryC f args)
  (ha : AV.plains args = true) (hv : ∀ vs : List Val, vs.length = (tysOf (sp id).ins).length → AV.vals (asn vs) args = insOf (sp id).ins vs) (P : List Val → Prop)
  (hi : ∀ vs : List Val, vs.length = (tysOf (sp id).ins).length → smalls (tysOf (sp id).ins) vs → P vs)
  (hR : ∀ vs, P vs → Round (inv0 P vs) (fun _ _ => 0) (Qs (sp id) vs) (asn vs) 0 (leafOf (asn vs) (G 0).tr)) : Told (sp id) :=
 told_of_graph id hsf hL hG h0 ha hv (Inv := inv0 P) (μ := fun _ _ => 0) inv0_lt (fun vs hl hs => ⟨rfl, hi vs hl hs⟩) fun vs i ι h => by
  match i, h with
  | 0, ⟨h1, h2⟩ => rw [h1]; exact hR vs h2

theorem toB_kb {ι : Asn} {b : Bool} : ((Tok.kb b).eval ι).toB = b := rfl
theorem FF_0 (a b : Val) : FF 0 a b = .p a b := rfl
theorem FF_1 (a b : Val) : FF 1 a b = .i (idxA a.toS b.toI.toNat) := rfl
theorem unpack_p (a b : Val) : unpack (.p a b) = a :: unpack b := rfl
theorem unpack_i (n : Int) : unpack (.i n) = [] := rfl
theorem asn_fn (vs : List Val) : (asn vs).fn = FF := rfl
theorem asn_v (vs : List Val) (y : Ty) (n : Nat) : (asn vs).v y n = vs.getD n (.i 0) := rfl

theorem idxA_lt (l : List UInt8) (c : Nat) : -1 ≤ idxA l c ∧ idxA l c < l.length := by
 unfold idxA
 split
 ·rename_i i hi
  have := List.findIdx?_eq_some_iff_findIdx_eq.1 hi
  have h1 : i < l.length := this.1
  constructor
  ·have : (0 : Int) ≤ Int.ofNat i := Int.natCast_nonneg i
   omega
  ·exact Int.ofNat_lt.2 h1
 ·constructor
  ·omega
  ·have := Int.natCast_nonneg l.length
   omega
end Go.Eng
namespace Go.Eng
open Go Go.Proofs

noncomputable def g126c0 : ACfg := entryC 126 [(.sym (.v (.int .u64) 0)), (.sym (.v (.int .u64) 1))]
def g126t0 : LTree := (.fork (.cmp 0 (.ar 0 .u64 (.ar 0 .u64 (.ar 2 .u64 (.ar 10 .u64 (.v (.int .u64) 0) (.ki .u64 32)) (.ki .u64 0)) (.ar 10 .u64 (.ar 0 .u64 (.ar 2 .u64 (.ar 10 .u64 (.v (.int .u64) 0) (.ki .u64 32)) (.ki .u64 10)) (.ar 10 .u64 (.ar 2 .u64 (.ar 5 .u64 (.v (.int .u64) 0) (.ki .u64 4294967295)) (.ki .u64 10)) (.ki .u64 32))) (.ki .u64 32))) (.ar 10 .u64 (.ar 0 .u64 (.ar 5 .u64 (.ar 0 .u64 (.ar 2 .u64 (.ar 10 .u64 (.v (.int .u64) 0) (.ki .u64 32)) (.ki .u64 10)) (.ar 10 .u64 (.ar 2 .u64 (.ar 5 .u64 (.v (.int .u64) 0) (.ki .u64 4294967295)) (.ki .u64 10)) (.ki .u64 32))) (.ki .u64 4294967295)) (.ar 2 .u64 (.ar 5 .u64 (.v (.int .u64) 0) (.ki .u64 4294967295)) (.ki .u64 0))) (.ki .u64 32))) (.ki .u64 0)) (.fork (.cmp 0 (.ar 11 .u64 (.ar 2 .u64 (.v (.int .u64) 0) (.ki .u64 10)) (.v (.int .u64) 1)) (.ki .u64 0)) (.done (.tup [(.sym (.ar 12 .u64 (.ar 2 .u64 (.v (.int .u64) 0) (.ki .u64 10)) (.v (.int .u64) 1))), (.at (.bool true))])) (.done (.tup [(.sym (.ar 12 .u64 (.ar 2 .u64 (.v (.int .u64) 0) (.ki .u64 10)) (.v (.int .u64) 1))), (.at (.bool false))]))) (.done (.tup [(.sym (.ar 12 .u64 (.ar 2 .u64 (.v (.int .u64) 0) (.ki .u64 10)) (.v (.int .u64) 1))), (.at (.bool false))])))
noncomputable def g126 : Nat → Node
 | _ => ⟨g126c0, [], g126t0⟩
set_option maxRecDepth 1000000 in
theorem g126ok : gotF (orcL [] false) 126 [(.sym (.v (.int .u64) 0)), (.sym (.v (.int .u64) 1))] g126 1 = wantF g126 1 := by kernel_rfl
theorem g126in : (g126 0).c = entryC 126 [(.sym (.v (.int .u64) 0)), (.sym (.v (.int .u64) 1))] := rfl
theorem told1 : Told (sp 1) := by
 refine told_flat 1 rfl no_oracles g126ok g126in rfl (fun vs hl => ?_) (fun _ => True) (fun _ _ _ => trivial) fun vs _ => ?_
 ·match vs, hl with
  | [_, _], _ => rfl
 ·show Round _ _ _ _ _ (leafOf _ g126t0)
  unfold g126t0
  repeat' refine round_fork (fun _ => ?_) (fun _ => ?_)
  all_goals exact q_leaf rfl trivial

noncomputable def g162c0 : ACfg := entryC 162 [(.sym (.v .str 0)), (.str [45])]
def g162t0 : LTree := (.fork (.cmp 5 (.len (.v .str 0)) (.ki .i64 1)) (.fork (.cmp 3 (.ki .i64 1) (.len (.v .str 0))) (.fork (.seq (.sub (.v .str 0) (.ki .i64 0) (.ki .i64 1)) (.ks [45])) (.done (.tup [(.sym (.sub (.v .str 0) (.ki .i64 1) (.len (.v .str 0)))), (.at (.bool true))])) (.done (.tup [(.sym (.v .str 0)), (.at (.bool false))]))) .dead) (.done (.tup [(.sym (.v .str 0)), (.at (.bool false))])))
noncomputable def g162 : Nat → Node
 | _ => ⟨g162c0, [], g162t0⟩
set_option maxRecDepth 1000000 in
theorem g162ok : gotF (orcL [] false) 162 [(.sym (.v .str 0)), (.str [45])] g162 1 = wantF g162 1 := by kernel_rfl
theorem g162in : (g162 0).c = entryC 162 [(.sym (.v .str 0)), (.str [45])] := rfl
theorem told19 : Told (sp 19) := by
 refine told_flat 19 rfl no_oracles g162ok g162in rfl (fun vs hl => ?_) (fun vs => (vs.getD 0 (.i 0)).toS.length ≤ 1000000) (fun vs hl hs => ?_) fun vs hs => ?_
 ·match vs, hl with
  | [_], _ => rfl
 ·match vs, hl with
  | [_], _ => exact hs.1
 ·show Round _ _ _ _ _ (leafOf _ g162t0)
  unfold g162t0
  repeat' refine round_fork (fun _ => ?_) (fun _ => ?_)
  all_goals try refine q_leaf rfl ?_
  all_goals try show (Val.toS (List.getD _ _ _)).length ≤ _
  all_goals simp (disch := omega) only [leafOs, flatA, flatAs, tokV, AV.tok, List.map_cons, List.map_nil, List.cons_append, List.nil_append, List.append_nil, List.getD_cons_zero, List.getD_cons_succ, asn_fn, asn_v, FF_0, FF_1, ev_v, ev_fn, ev_ki, ev_ks, toI_i, toS_s, toB_b, ev_len, ev_add, ev_sub, ev_mul, ev_quo, ev_rem, ev_cv, ev_cut, ev_cat, beq_t, beq_f, bne_t, bne_f, blt_t, blt_f, ble_t, ble_f, bgt_t, bgt_f, bge_t, bge_f, bseq_t, bseq_f, bfits_t, bfits_f, wr64, List.length_take, List.length_drop, List.length_append] at *
  all_goals first | omega | skip

noncomputable def g106ac0 : ACfg := entryC 106 [(.sym (.v .str 0)), (.str [45])]
def g106at0 : LTree := (.fork (.cmp 5 (.len (.v .str 0)) (.ki .i64 1)) (.fork (.cmp 3 (.ki .i64 1) (.len (.v .str 0))) (.fork (.seq (.sub (.v .str 0) (.ki .i64 0) (.ki .i64 1)) (.ks [45])) (.done (.at (.bool true))) (.done (.at (.bool false)))) .dead) (.done (.at (.bool false))))
noncomputable def g106a : Nat → Node
 | _ => ⟨g106ac0, [], g106at0⟩
set_option maxRecDepth 1000000 in
theorem g106aok : gotF (orcL [] false) 106 [(.sym (.v .str 0)), (.str [45])] g106a 1 = wantF g106a 1 := by kernel_rfl
theorem g106ain : (g106a 0).c = entryC 106 [(.sym (.v .str 0)), (.str [45])] := rfl
theorem told20 : Told (sp 20) := by
 refine told_flat 20 rfl no_oracles g106aok g106ain rfl (fun vs hl => ?_) (fun vs => (vs.getD 0 (.i 0)).toS.length ≤ 1000000) (fun vs hl hs => ?_) fun vs hs => ?_
 ·match vs, hl with
  | [_], _ => rfl
 ·match vs, hl with
  | [_], _ => exact hs.1
 ·show Round _ _ _ _ _ (leafOf _ g106at0)
  unfold g106at0
  repeat' refine round_fork (fun _ => ?_) (fun _ => ?_)
  all_goals try refine q_leaf rfl ?_
  all_goals try refine fun _ => ?_
  all_goals try show 1 ≤ (Val.toS (List.getD vs _ _)).length
  all_goals simp (disch := omega) only [leafOs, flatA, flatAs, tokV, AV.tok, List.map_cons, List.map_nil, List.cons_append, List.nil_append, List.append_nil, List.getD_cons_zero, List.getD_cons_succ, asn_fn, asn_v, FF_0, FF_1, ev_v, ev_fn, ev_ki, ev_ks, toI_i, toS_s, toB_b, ev_len, ev_add, ev_sub, ev_mul, ev_quo, ev_rem, ev_cv, ev_cut, ev_cat, beq_t, beq_f, bne_t, bne_f, blt_t, blt_f, ble_t, ble_f, bgt_t, bgt_f, bge_t, bge_f, bseq_t, bseq_f, bfits_t, bfits_f, wr64, List.length_take, List.length_drop, List.length_append] at *
  all_goals first | omega | contradiction | exact ⟨trivial, rfl⟩

noncomputable def g106bc0 : ACfg := entryC 106 [(.sym (.v .str 0)), (.str [46])]
def g106bt0 : LTree := (.fork (.cmp 5 (.len (.v .str 0)) (.ki .i64 1)) (.fork (.cmp 3 (.ki .i64 1) (.len (.v .str 0))) (.fork (.seq (.sub (.v .str 0) (.ki .i64 0) (.ki .i64 1)) (.ks [46])) (.done (.at (.bool true))) (.done (.at (.bool false)))) .dead) (.done (.at (.bool false))))
noncomputable def g106b : Nat → Node
 | _ => ⟨g106bc0, [], g106bt0⟩
set_option maxRecDepth 1000000 in
theorem g106bok : gotF (orcL [] false) 106 [(.sym (.v .str 0)), (.str [46])] g106b 1 = wantF g106b 1 := by kernel_rfl
theorem g106bin : (g106b 0).c = entryC 106 [(.sym (.v .str 0)), (.str [46])] := rfl
theorem told21 : Told (sp 21) := by
 refine told_flat 21 rfl no_oracles g106bok g106bin rfl (fun vs hl => ?_) (fun vs => (vs.getD 0 (.i 0)).toS.length ≤ 1000000) (fun vs hl hs => ?_) fun vs hs => ?_
 ·match vs, hl with
  | [_], _ => rfl
 ·match vs, hl with
  | [_], _ => exact hs.1
 ·show Round _ _ _ _ _ (leafOf _ g106bt0)
  unfold g106bt0
  repeat' refine round_fork (fun _ => ?_) (fun _ => ?_)
  all_goals try refine q_leaf rfl ?_
  all_goals try refine fun _ => ?_
  all_goals try show 1 ≤ (Val.toS (List.getD vs _ _)).length
  all_goals simp (disch := omega) only [leafOs, flatA, flatAs, tokV, AV.tok, List.map_cons, List.map_nil, List.cons_append, List.nil_append, List.append_nil, List.getD_cons_zero, List.getD_cons_succ, asn_fn, asn_v, FF_0, FF_1, ev_v, ev_fn, ev_ki, ev_ks, toI_i, toS_s, toB_b, ev_len, ev_add, ev_sub, ev_mul, ev_quo, ev_rem, ev_cv, ev_cut, ev_cat, beq_t, beq_f, bne_t, bne_f, blt_t, blt_f, ble_t, ble_f, bgt_t, bgt_f, bge_t, bge_f, bseq_t, bseq_f, bfits_t, bfits_f, wr64, List.length_take, List.length_drop, List.length_append] at *
  all_goals first | omega | contradiction | exact ⟨trivial, rfl⟩

noncomputable def g106cc0 : ACfg := entryC 106 [(.sym (.v .str 0)), (.str [64])]
def g106ct0 : LTree := (.fork (.cmp 5 (.len (.v .str 0)) (.ki .i64 1)) (.fork (.cmp 3 (.ki .i64 1) (.len (.v .str 0))) (.fork (.seq (.sub (.v .str 0) (.ki .i64 0) (.ki .i64 1)) (.ks [64])) (.done (.at (.bool true))) (.done (.at (.bool false)))) .dead) (.done (.at (.bool false))))
noncomputable def g106c : Nat → Node
 | _ => ⟨g106cc0, [], g106ct0⟩
set_option maxRecDepth 1000000 in
theorem g106cok : gotF (orcL [] false) 106 [(.sym (.v .str 0)), (.str [64])] g106c 1 = wantF g106c 1 := by kernel_rfl
theorem g106cin : (g106c 0).c = entryC 106 [(.sym (.v .str 0)), (.str [64])] := rfl
theorem told22 : Told (sp 22) := by
 refine told_flat 22 rfl no_oracles g106cok g106cin rfl (fun vs hl => ?_) (fun vs => (vs.getD 0 (.i 0)).toS.length ≤ 1000000) (fun vs hl hs => ?_) fun vs hs => ?_
 ·match vs, hl with
  | [_], _ => rfl
 ·match vs, hl with
  | [_], _ => exact hs.1
 ·show Round _ _ _ _ _ (leafOf _ g106ct0)
  unfold g106ct0
  repeat' refine round_fork (fun _ => ?_) (fun _ => ?_)
  all_goals try refine q_leaf rfl ?_
  all_goals try refine fun _ => ?_
  all_goals try show 1 ≤ (Val.toS (List.getD vs _ _)).length
  all_goals simp (disch := omega) only [leafOs, flatA, flatAs, tokV, AV.tok, List.map_cons, List.map_nil, List.cons_append, List.nil_append, List.append_nil, List.getD_cons_zero, List.getD_cons_succ, asn_fn, asn_v, FF_0, FF_1, ev_v, ev_fn, ev_ki, ev_ks, toI_i, toS_s, toB_b, ev_len, ev_add, ev_sub, ev_mul, ev_quo, ev_rem, ev_cv, ev_cut, ev_cat, beq_t, beq_f, bne_t, bne_f, blt_t, blt_f, ble_t, ble_f, bgt_t, bgt_f, bge_t, bge_f, bseq_t, bseq_f, bfits_t, bfits_f, wr64, List.length_take, List.length_drop, List.length_append] at *
  all_goals first | omega | contradiction | exact ⟨trivial, rfl⟩

noncomputable def g101ac0 : ACfg := entryC 101 [(.sym (.v .str 0)), (.str [58])]
def g101at0 : LTree := (.fork (.seq (.ks [58]) (.v .str 0)) (.fork (.cmp 3 (.ki .i64 0) (.len (.v .str 0))) (.fork (.cmp 3 (.ki .i64 1) (.len (.v .str 0))) (.done (.tup [(.sym (.sub (.v .str 0) (.ki .i64 0) (.ki .i64 0))), (.sym (.sub (.v .str 0) (.ki .i64 1) (.len (.v .str 0)))), (.at (.bool true))])) .dead) .dead) (.fork (.cmp 5 (.fn (.int .i64) 1 (.v .str 0) (.ki .u8 58)) (.ki .i64 0)) (.fork (.cmp 3 (.ki .i64 0) (.fn (.int .i64) 1 (.v .str 0) (.ki .u8 58))) (.fork (.cmp 3 (.fn (.int .i64) 1 (.v .str 0) (.ki .u8 58)) (.len (.v .str 0))) (.fork (.cmp 3 (.ki .i64 0) (.ar 0 .i64 (.fn (.int .i64) 1 (.v .str 0) (.ki .u8 58)) (.ki .i64 1))) (.fork (.cmp 3 (.ar 0 .i64 (.fn (.int .i64) 1 (.v .str 0) (.ki .u8 58)) (.ki .i64 1)) (.len (.v .str 0))) (.done (.tup [(.sym (.sub (.v .str 0) (.ki .i64 0) (.fn (.int .i64) 1 (.v .str 0) (.ki .u8 58)))), (.sym (.sub (.v .str 0) (.ar 0 .i64 (.fn (.int .i64) 1 (.v .str 0) (.ki .u8 58)) (.ki .i64 1)) (.len (.v .str 0)))), (.at (.bool true))])) .dead) .dead) .dead) .dead) (.done (.tup [(.sym (.v .str 0)), (.str []), (.at (.bool false))]))))
noncomputable def g101a : Nat → Node
 | _ => ⟨g101ac0, [], g101at0⟩
set_option maxRecDepth 1000000 in
theorem g101aok : gotF (orcL [] false) 101 [(.sym (.v .str 0)), (.str [58])] g101a 1 = wantF g101a 1 := by kernel_rfl
theorem g101ain : (g101a 0).c = entryC 101 [(.sym (.v .str 0)), (.str [58])] := rfl
theorem told4 : Told (sp 4) := by
 refine told_flat 4 rfl no_oracles g101aok g101ain rfl (fun vs hl => ?_) (fun vs => (vs.getD 0 (.i 0)).toS.length ≤ 1000000) (fun vs hl hs => ?_) fun vs hs => ?_
 ·match vs, hl with
  | [_], _ => rfl
 ·match vs, hl with
  | [_], _ => exact hs.1
 ·have hi := idxA_lt (vs.getD 0 (.i 0)).toS (Int.toNat 58)
  show Round _ _ _ _ _ (leafOf _ g101at0)
  unfold g101at0
  refine round_fork (fun h0 => ?_) (fun _ => ?_)
  ·have h0 : 1 = (vs.getD 0 (.i 0)).toS.length := by
    rw [bseq_t] at h0
    exact congrArg List.length h0
   repeat' refine round_fork (fun _ => ?_) (fun _ => ?_)
   all_goals try refine q_leaf rfl ⟨fun hx => ?_, fun hx => ?_⟩
   all_goals try replace hx : Val.toB (List.getD _ 2 _) = _ := hx
   all_goals try show (Val.toS (List.getD _ 0 _)).length + 1 + (Val.toS (List.getD _ 1 _)).length = (Val.toS (List.getD vs 0 _)).length
   all_goals simp (disch := omega) only [toB_kb, leafOs, flatA, flatAs, tokV, AV.tok, List.map_cons, List.map_nil, List.cons_append, List.nil_append, List.append_nil, List.getD_cons_zero, List.getD_cons_succ, asn_fn, asn_v, FF_0, FF_1, ev_v, ev_fn, ev_ki, ev_ks, toI_i, toS_s, toB_b, ev_len, ev_add, ev_sub, ev_mul, ev_quo, ev_rem, ev_cv, ev_cut, ev_cat, beq_t, beq_f, bne_t, bne_f, blt_t, blt_f, ble_t, ble_f, bgt_t, bgt_f, bge_t, bge_f, bseq_t, bseq_f, bfits_t, bfits_f, wr64, List.length_take, List.length_drop, List.length_append] at *
   all_goals first | omega | contradiction | exact ⟨trivial, rfl⟩
  repeat' refine round_fork (fun _ => ?_) (fun _ => ?_)
  all_goals try refine q_leaf rfl ⟨fun hx => ?_, fun hx => ?_⟩
  all_goals try replace hx : Val.toB (List.getD _ 2 _) = _ := hx
  all_goals try show (Val.toS (List.getD _ 0 _)).length + 1 + (Val.toS (List.getD _ 1 _)).length = (Val.toS (List.getD vs 0 _)).length
  all_goals try show (Val.toS (List.getD _ 0 _)).length = (Val.toS (List.getD vs 0 _)).length ∧ (Val.toS (List.getD _ 1 _)).length = 0
  all_goals simp (disch := omega) only [toB_kb, leafOs, flatA, flatAs, tokV, AV.tok, List.map_cons, List.map_nil, List.cons_append, List.nil_append, List.append_nil, List.getD_cons_zero, List.getD_cons_succ, asn_fn, asn_v, FF_0, FF_1, ev_v, ev_fn, ev_ki, ev_ks, toI_i, toS_s, toB_b, ev_len, ev_add, ev_sub, ev_mul, ev_quo, ev_rem, ev_cv, ev_cut, ev_cat, beq_t, beq_f, bne_t, bne_f, blt_t, blt_f, ble_t, ble_f, bgt_t, bgt_f, bge_t, bge_f, bseq_t, bseq_f, bfits_t, bfits_f, wr64, List.length_take, List.length_drop, List.length_append] at *
  all_goals first | omega | contradiction | exact ⟨trivial, rfl⟩

noncomputable def g101bc0 : ACfg := entryC 101 [(.sym (.v .str 0)), (.str [124])]
def g101bt0 : LTree := (.fork (.seq (.ks [124]) (.v .str 0)) (.fork (.cmp 3 (.ki .i64 0) (.len (.v .str 0))) (.fork (.cmp 3 (.ki .i64 1) (.len (.v .str 0))) (.done (.tup [(.sym (.sub (.v .str 0) (.ki .i64 0) (.ki .i64 0))), (.sym (.sub (.v .str 0) (.ki .i64 1) (.len (.v .str 0)))), (.at (.bool true))])) .dead) .dead) (.fork (.cmp 5 (.fn (.int .i64) 1 (.v .str 0) (.ki .u8 124)) (.ki .i64 0)) (.fork (.cmp 3 (.ki .i64 0) (.fn (.int .i64) 1 (.v .str 0) (.ki .u8 124))) (.fork (.cmp 3 (.fn (.int .i64) 1 (.v .str 0) (.ki .u8 124)) (.len (.v .str 0))) (.fork (.cmp 3 (.ki .i64 0) (.ar 0 .i64 (.fn (.int .i64) 1 (.v .str 0) (.ki .u8 124)) (.ki .i64 1))) (.fork (.cmp 3 (.ar 0 .i64 (.fn (.int .i64) 1 (.v .str 0) (.ki .u8 124)) (.ki .i64 1)) (.len (.v .str 0))) (.done (.tup [(.sym (.sub (.v .str 0) (.ki .i64 0) (.fn (.int .i64) 1 (.v .str 0) (.ki .u8 124)))), (.sym (.sub (.v .str 0) (.ar 0 .i64 (.fn (.int .i64) 1 (.v .str 0) (.ki .u8 124)) (.ki .i64 1)) (.len (.v .str 0)))), (.at (.bool true))])) .dead) .dead) .dead) .dead) (.done (.tup [(.sym (.v .str 0)), (.str []), (.at (.bool false))]))))
noncomputable def g101b : Nat → Node
 | _ => ⟨g101bc0, [], g101bt0⟩
set_option maxRecDepth 1000000 in
theorem g101bok : gotF (orcL [] false) 101 [(.sym (.v .str 0)), (.str [124])] g101b 1 = wantF g101b 1 := by kernel_rfl
theorem g101bin : (g101b 0).c = entryC 101 [(.sym (.v .str 0)), (.str [124])] := rfl
theorem told5 : Told (sp 5) := by
 refine told_flat 5 rfl no_oracles g101bok g101bin rfl (fun vs hl => ?_) (fun vs => (vs.getD 0 (.i 0)).toS.length ≤ 1000000) (fun vs hl hs => ?_) fun vs hs => ?_
 ·match vs, hl with
  | [_], _ => rfl
 ·match vs, hl with
  | [_], _ => exact hs.1
 ·have hi := idxA_lt (vs.getD 0 (.i 0)).toS (Int.toNat 124)
  show Round _ _ _ _ _ (leafOf _ g101bt0)
  unfold g101bt0
  refine round_fork (fun h0 => ?_) (fun _ => ?_)
  ·have h0 : 1 = (vs.getD 0 (.i 0)).toS.length := by
    rw [bseq_t] at h0
    exact congrArg List.length h0
   repeat' refine round_fork (fun _ => ?_) (fun _ => ?_)
   all_goals try refine q_leaf rfl ⟨fun hx => ?_, fun hx => ?_⟩
   all_goals try replace hx : Val.toB (List.getD _ 2 _) = _ := hx
   all_goals try show (Val.toS (List.getD _ 0 _)).length + 1 + (Val.toS (List.getD _ 1 _)).length = (Val.toS (List.getD vs 0 _)).length
   all_goals simp (disch := omega) only [toB_kb, leafOs, flatA, flatAs, tokV, AV.tok, List.map_cons, List.map_nil, List.cons_append, List.nil_append, List.append_nil, List.getD_cons_zero, List.getD_cons_succ, asn_fn, asn_v, FF_0, FF_1, ev_v, ev_fn, ev_ki, ev_ks, toI_i, toS_s, toB_b, ev_len, ev_add, ev_sub, ev_mul, ev_quo, ev_rem, ev_cv, ev_cut, ev_cat, beq_t, beq_f, bne_t, bne_f, blt_t, blt_f, ble_t, ble_f, bgt_t, bgt_f, bge_t, bge_f, bseq_t, bseq_f, bfits_t, bfits_f, wr64, List.length_take, List.length_drop, List.length_append] at *
   all_goals first | omega | contradiction | exact ⟨trivial, rfl⟩
  repeat' refine round_fork (fun _ => ?_) (fun _ => ?_)
  all_goals try refine q_leaf rfl ⟨fun hx => ?_, fun hx => ?_⟩
  all_goals try replace hx : Val.toB (List.getD _ 2 _) = _ := hx
  all_goals try show (Val.toS (List.getD _ 0 _)).length + 1 + (Val.toS (List.getD _ 1 _)).length = (Val.toS (List.getD vs 0 _)).length
  all_goals try show (Val.toS (List.getD _ 0 _)).length = (Val.toS (List.getD vs 0 _)).length ∧ (Val.toS (List.getD _ 1 _)).length = 0
  all_goals simp (disch := omega) only [toB_kb, leafOs, flatA, flatAs, tokV, AV.tok, List.map_cons, List.map_nil, List.cons_append, List.nil_append, List.append_nil, List.getD_cons_zero, List.getD_cons_succ, asn_fn, asn_v, FF_0, FF_1, ev_v, ev_fn, ev_ki, ev_ks, toI_i, toS_s, toB_b, ev_len, ev_add, ev_sub, ev_mul, ev_quo, ev_rem, ev_cv, ev_cut, ev_cat, beq_t, beq_f, bne_t, bne_f, blt_t, blt_f, ble_t, ble_f, bgt_t, bgt_f, bge_t, bge_f, bseq_t, bseq_f, bfits_t, bfits_f, wr64, List.length_take, List.length_drop, List.length_append] at *
  all_goals first | omega | contradiction | exact ⟨trivial, rfl⟩

noncomputable def g101cc0 : ACfg := entryC 101 [(.sym (.v .str 0)), (.str [46])]
def g101ct0 : LTree := (.fork (.seq (.ks [46]) (.v .str 0)) (.fork (.cmp 3 (.ki .i64 0) (.len (.v .str 0))) (.fork (.cmp 3 (.ki .i64 1) (.len (.v .str 0))) (.done (.tup [(.sym (.sub (.v .str 0) (.ki .i64 0) (.ki .i64 0))), (.sym (.sub (.v .str 0) (.ki .i64 1) (.len (.v .str 0)))), (.at (.bool true))])) .dead) .dead) (.fork (.cmp 5 (.fn (.int .i64) 1 (.v .str 0) (.ki .u8 46)) (.ki .i64 0)) (.fork (.cmp 3 (.ki .i64 0) (.fn (.int .i64) 1 (.v .str 0) (.ki .u8 46))) (.fork (.cmp 3 (.fn (.int .i64) 1 (.v .str 0) (.ki .u8 46)) (.len (.v .str 0))) (.fork (.cmp 3 (.ki .i64 0) (.ar 0 .i64 (.fn (.int .i64) 1 (.v .str 0) (.ki .u8 46)) (.ki .i64 1))) (.fork (.cmp 3 (.ar 0 .i64 (.fn (.int .i64) 1 (.v .str 0) (.ki .u8 46)) (.ki .i64 1)) (.len (.v .str 0))) (.done (.tup [(.sym (.sub (.v .str 0) (.ki .i64 0) (.fn (.int .i64) 1 (.v .str 0) (.ki .u8 46)))), (.sym (.sub (.v .str 0) (.ar 0 .i64 (.fn (.int .i64) 1 (.v .str 0) (.ki .u8 46)) (.ki .i64 1)) (.len (.v .str 0)))), (.at (.bool true))])) .dead) .dead) .dead) .dead) (.done (.tup [(.sym (.v .str 0)), (.str []), (.at (.bool false))]))))
noncomputable def g101c : Nat → Node
 | _ => ⟨g101cc0, [], g101ct0⟩
set_option maxRecDepth 1000000 in
theorem g101cok : gotF (orcL [] false) 101 [(.sym (.v .str 0)), (.str [46])] g101c 1 = wantF g101c 1 := by kernel_rfl
theorem g101cin : (g101c 0).c = entryC 101 [(.sym (.v .str 0)), (.str [46])] := rfl
theorem told6 : Told (sp 6) := by
 refine told_flat 6 rfl no_oracles g101cok g101cin rfl (fun vs hl => ?_) (fun vs => (vs.getD 0 (.i 0)).toS.length ≤ 1000000) (fun vs hl hs => ?_) fun vs hs => ?_
 ·match vs, hl with
  | [_], _ => rfl
 ·match vs, hl with
  | [_], _ => exact hs.1
 ·have hi := idxA_lt (vs.getD 0 (.i 0)).toS (Int.toNat 46)
  show Round _ _ _ _ _ (leafOf _ g101ct0)
  unfold g101ct0
  refine round_fork (fun h0 => ?_) (fun _ => ?_)
  ·have h0 : 1 = (vs.getD 0 (.i 0)).toS.length := by
    rw [bseq_t] at h0
    exact congrArg List.length h0
   repeat' refine round_fork (fun _ => ?_) (fun _ => ?_)
   all_goals try refine q_leaf rfl ⟨fun hx => ?_, fun hx => ?_⟩
   all_goals try replace hx : Val.toB (List.getD _ 2 _) = _ := hx
   all_goals try show (Val.toS (List.getD _ 0 _)).length + 1 + (Val.toS (List.getD _ 1 _)).length = (Val.toS (List.getD vs 0 _)).length
   all_goals simp (disch := omega) only [toB_kb, leafOs, flatA, flatAs, tokV, AV.tok, List.map_cons, List.map_nil, List.cons_append, List.nil_append, List.append_nil, List.getD_cons_zero, List.getD_cons_succ, asn_fn, asn_v, FF_0, FF_1, ev_v, ev_fn, ev_ki, ev_ks, toI_i, toS_s, toB_b, ev_len, ev_add, ev_sub, ev_mul, ev_quo, ev_rem, ev_cv, ev_cut, ev_cat, beq_t, beq_f, bne_t, bne_f, blt_t, blt_f, ble_t, ble_f, bgt_t, bgt_f, bge_t, bge_f, bseq_t, bseq_f, bfits_t, bfits_f, wr64, List.length_take, List.length_drop, List.length_append] at *
   all_goals first | omega | contradiction | exact ⟨trivial, rfl⟩
  repeat' refine round_fork (fun _ => ?_) (fun _ => ?_)
  all_goals try refine q_leaf rfl ⟨fun hx => ?_, fun hx => ?_⟩
  all_goals try replace hx : Val.toB (List.getD _ 2 _) = _ := hx
  all_goals try show (Val.toS (List.getD _ 0 _)).length + 1 + (Val.toS (List.getD _ 1 _)).length = (Val.toS (List.getD vs 0 _)).length
  all_goals try show (Val.toS (List.getD _ 0 _)).length = (Val.toS (List.getD vs 0 _)).length ∧ (Val.toS (List.getD _ 1 _)).length = 0
  all_goals simp (disch := omega) only [toB_kb, leafOs, flatA, flatAs, tokV, AV.tok, List.map_cons, List.map_nil, List.cons_append, List.nil_append, List.append_nil, List.getD_cons_zero, List.getD_cons_succ, asn_fn, asn_v, FF_0, FF_1, ev_v, ev_fn, ev_ki, ev_ks, toI_i, toS_s, toB_b, ev_len, ev_add, ev_sub, ev_mul, ev_quo, ev_rem, ev_cv, ev_cut, ev_cat, beq_t, beq_f, bne_t, bne_f, blt_t, blt_f, ble_t, ble_f, bgt_t, bgt_f, bge_t, bge_f, bseq_t, bseq_f, bfits_t, bfits_f, wr64, List.length_take, List.length_drop, List.length_append] at *
  all_goals first | omega | contradiction | exact ⟨trivial, rfl⟩

noncomputable def g101ec0 : ACfg := entryC 101 [(.sym (.v .str 0)), (.str [32])]
def g101et0 : LTree := (.fork (.seq (.ks [32]) (.v .str 0)) (.fork (.cmp 3 (.ki .i64 0) (.len (.v .str 0))) (.fork (.cmp 3 (.ki .i64 1) (.len (.v .str 0))) (.done (.tup [(.sym (.sub (.v .str 0) (.ki .i64 0) (.ki .i64 0))), (.sym (.sub (.v .str 0) (.ki .i64 1) (.len (.v .str 0)))), (.at (.bool true))])) .dead) .dead) (.fork (.cmp 5 (.fn (.int .i64) 1 (.v .str 0) (.ki .u8 32)) (.ki .i64 0)) (.fork (.cmp 3 (.ki .i64 0) (.fn (.int .i64) 1 (.v .str 0) (.ki .u8 32))) (.fork (.cmp 3 (.fn (.int .i64) 1 (.v .str 0) (.ki .u8 32)) (.len (.v .str 0))) (.fork (.cmp 3 (.ki .i64 0) (.ar 0 .i64 (.fn (.int .i64) 1 (.v .str 0) (.ki .u8 32)) (.ki .i64 1))) (.fork (.cmp 3 (.ar 0 .i64 (.fn (.int .i64) 1 (.v .str 0) (.ki .u8 32)) (.ki .i64 1)) (.len (.v .str 0))) (.done (.tup [(.sym (.sub (.v .str 0) (.ki .i64 0) (.fn (.int .i64) 1 (.v .str 0) (.ki .u8 32)))), (.sym (.sub (.v .str 0) (.ar 0 .i64 (.fn (.int .i64) 1 (.v .str 0) (.ki .u8 32)) (.ki .i64 1)) (.len (.v .str 0)))), (.at (.bool true))])) .dead) .dead) .dead) .dead) (.done (.tup [(.sym (.v .str 0)), (.str []), (.at (.bool false))]))))
noncomputable def g101e : Nat → Node
 | _ => ⟨g101ec0, [], g101et0⟩
set_option maxRecDepth 1000000 in
theorem g101eok : gotF (orcL [] false) 101 [(.sym (.v .str 0)), (.str [32])] g101e 1 = wantF g101e 1 := by kernel_rfl
theorem g101ein : (g101e 0).c = entryC 101 [(.sym (.v .str 0)), (.str [32])] := rfl
theorem told8 : Told (sp 8) := by
 refine told_flat 8 rfl no_oracles g101eok g101ein rfl (fun vs hl => ?_) (fun vs => (vs.getD 0 (.i 0)).toS.length ≤ 1000000) (fun vs hl hs => ?_) fun vs hs => ?_
 ·match vs, hl with
  | [_], _ => rfl
 ·match vs, hl with
  | [_], _ => exact hs.1
 ·have hi := idxA_lt (vs.getD 0 (.i 0)).toS (Int.toNat 32)
  show Round _ _ _ _ _ (leafOf _ g101et0)
  unfold g101et0
  refine round_fork (fun h0 => ?_) (fun _ => ?_)
  ·have h0 : 1 = (vs.getD 0 (.i 0)).toS.length := by
    rw [bseq_t] at h0
    exact congrArg List.length h0
   repeat' refine round_fork (fun _ => ?_) (fun _ => ?_)
   all_goals try refine q_leaf rfl ⟨fun hx => ?_, fun hx => ?_⟩
   all_goals try replace hx : Val.toB (List.getD _ 2 _) = _ := hx
   all_goals try show (Val.toS (List.getD _ 0 _)).length + 1 + (Val.toS (List.getD _ 1 _)).length = (Val.toS (List.getD vs 0 _)).length
   all_goals simp (disch := omega) only [toB_kb, leafOs, flatA, flatAs, tokV, AV.tok, List.map_cons, List.map_nil, List.cons_append, List.nil_append, List.append_nil, List.getD_cons_zero, List.getD_cons_succ, asn_fn, asn_v, FF_0, FF_1, ev_v, ev_fn, ev_ki, ev_ks, toI_i, toS_s, toB_b, ev_len, ev_add, ev_sub, ev_mul, ev_quo, ev_rem, ev_cv, ev_cut, ev_cat, beq_t, beq_f, bne_t, bne_f, blt_t, blt_f, ble_t, ble_f, bgt_t, bgt_f, bge_t, bge_f, bseq_t, bseq_f, bfits_t, bfits_f, wr64, List.length_take, List.length_drop, List.length_append] at *
   all_goals first | omega | contradiction | exact ⟨trivial, rfl⟩
  repeat' refine round_fork (fun _ => ?_) (fun _ => ?_)
  all_goals try refine q_leaf rfl ⟨fun hx => ?_, fun hx => ?_⟩
  all_goals try replace hx : Val.toB (List.getD _ 2 _) = _ := hx
  all_goals try show (Val.toS (List.getD _ 0 _)).length + 1 + (Val.toS (List.getD _ 1 _)).length = (Val.toS (List.getD vs 0 _)).length
  all_goals try show (Val.toS (List.getD _ 0 _)).length = (Val.toS (List.getD vs 0 _)).length ∧ (Val.toS (List.getD _ 1 _)).length = 0
  all_goals simp (disch := omega) only [toB_kb, leafOs, flatA, flatAs, tokV, AV.tok, List.map_cons, List.map_nil, List.cons_append, List.nil_append, List.append_nil, List.getD_cons_zero, List.getD_cons_succ, asn_fn, asn_v, FF_0, FF_1, ev_v, ev_fn, ev_ki, ev_ks, toI_i, toS_s, toB_b, ev_len, ev_add, ev_sub, ev_mul, ev_quo, ev_rem, ev_cv, ev_cut, ev_cat, beq_t, beq_f, bne_t, bne_f, blt_t, blt_f, ble_t, ble_f, bgt_t, bgt_f, bge_t, bge_f, bseq_t, bseq_f, bfits_t, bfits_f, wr64, List.length_take, List.length_drop, List.length_append] at *
  all_goals first | omega | contradiction | exact ⟨trivial, rfl⟩
end Go.Eng
