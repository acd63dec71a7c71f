/-
 What is said of trims, of a text's class, of numbers' looks, and of kinds' words. What is said of a text's class, and of a number's look. What is said of a number's form, of a tag's check, and of a rate.
-/
import Derived.Test.YtngmgpmkjdacaaaGreatDoorMLayA
set_option linter.unusedSimpArgs false
set_option linter.unusedVariables false
namespace Go.Eng
open Go Go.Proofs

def len0 (vs : List Val) : Nat := (vs.getD 0 (.i 0)).toS.length

noncomputable def g158c0 : ACfg := entryC 158 [(.sym (.v .str 0)), (.str [48])]
def yA2_0 : List AV := tu 37 [(0, (.sym (.v .str 0))), (1, (.str [48])), (4, (.str [])), (22, (.sym (.v .str 0))), (24, (.at (.int .u8 48))), (25, uu)]
def yA2_1 : AObj := .cells 197 [(.iface 389 .unk)] false false
noncomputable def g158c1 : ACfg := ⟨⟨208, (tu 23 [(0, (.sym (.v .str 10))), (1, (.at (.int .u8 48))), (3, uu), (4, (.str []))]), [(.code (cd 208 [1, 0, 0, 0])), (.inLoop (cd 208 [1, 0, 0, 0])), (.inBlock 0), (.code (cd 208 [1, 1]))], [], false, false, none⟩, [⟨158, yA2_0, [(.ops ((os 158 [1, 1, 0, 1, 0, 0]).toList.drop 3) (os 158 [1, 1, 0, 1, 0, 0])), (.code (cd 158 [1, 0, 1, 0, 1])), (.code (cd 158 [1, 1, 1]))], [], false, false, none⟩], ⟨hT [(6, yA2_1), (7, yA2_1)], 8⟩⟩
def g158s0 : Sub := [(10, (.v .str 0))]
def g158s1 : Sub := [(10, (.sub (.v .str 10) (.ki .i64 0) (.ar 1 .i64 (.len (.v .str 10)) (.ki .i64 1))))]
theorem g158s1_ (ι : Asn) : SA ι g158s1 .str 10 (.sub (.v .str 10) (.ki .i64 0) (.ar 1 .i64 (.len (.v .str 10)) (.ki .i64 1))) := rfl
def g158t0 : LTree := (.fork (.seq (.v .str 0) (.ks [])) (.done (.sym (.v .str 0))) (.to 1 g158s0 42))
def g158t1 : LTree := (.fork (.cmp 4 (.len (.v .str 10)) (.ki .i64 0)) (.fork (.cmp 3 (.ki .i64 0) (.ar 1 .i64 (.len (.v .str 10)) (.ki .i64 1))) (.fork (.cmp 2 (.ar 1 .i64 (.len (.v .str 10)) (.ki .i64 1)) (.len (.v .str 10))) (.fork (.cmp 0 (.idx (.v .str 10) (.ar 1 .i64 (.len (.v .str 10)) (.ki .i64 1))) (.ki .u8 48)) (.fork (.cmp 3 (.ar 1 .i64 (.len (.v .str 10)) (.ki .i64 1)) (.len (.v .str 10))) (.to 1 g158s1 29) .dead) (.done (.sym (.v .str 10)))) .dead) .dead) (.done (.sym (.v .str 10))))
noncomputable def g158 : Nat → Node | 1 => ⟨g158c1, [[0, 3, 1, 4], [22, 24, 25, 1, 0, 4]], g158t1⟩ | _ => ⟨g158c0, [], g158t0⟩
set_option maxRecDepth 1000000 in
theorem g158ok : gotF (orcL [] false) 158 [(.sym (.v .str 0)), (.str [48])] g158 2 = wantF g158 2 := by kernel_rfl
theorem g158in : (g158 0).c = entryC 158 [(.sym (.v .str 0)), (.str [48])] := rfl
noncomputable def g163c0 : ACfg := entryC 163 [(.sym (.v .str 0)), (.str [48])]
noncomputable def g163c1 : ACfg := ⟨⟨217, (tu 17 [(0, (.sym (.v .str 10))), (1, (.at (.int .u8 48))), (3, uu), (4, (.str []))]), [(.code (cd 217 [1, 0, 0, 0])), (.inLoop (cd 217 [1, 0, 0, 0])), (.inBlock 0), (.code (cd 217 [1, 1]))], [], false, false, none⟩, [⟨163, yA2_0, [(.ops ((os 163 [1, 1, 0, 1, 0, 0]).toList.drop 3) (os 163 [1, 1, 0, 1, 0, 0])), (.code (cd 163 [1, 0, 1, 0, 1])), (.code (cd 163 [1, 1, 1]))], [], false, false, none⟩], ⟨hT [(6, yA2_1), (7, yA2_1)], 8⟩⟩
def g163s0 : Sub := [(10, (.v .str 0))]
def g163s1 : Sub := [(10, (.sub (.v .str 10) (.ki .i64 1) (.len (.v .str 10))))]
theorem g163s1_ (ι : Asn) : SA ι g163s1 .str 10 (.sub (.v .str 10) (.ki .i64 1) (.len (.v .str 10))) := rfl
def g163t0 : LTree := (.fork (.seq (.v .str 0) (.ks [])) (.done (.sym (.v .str 0))) (.to 1 g163s0 42))
def g163t1 : LTree := (.fork (.cmp 4 (.len (.v .str 10)) (.ki .i64 0)) (.fork (.cmp 2 (.ki .i64 0) (.len (.v .str 10))) (.fork (.cmp 0 (.idx (.v .str 10) (.ki .i64 0)) (.ki .u8 48)) (.fork (.cmp 3 (.ki .i64 1) (.len (.v .str 10))) (.to 1 g163s1 23) .dead) (.done (.sym (.v .str 10)))) .dead) (.done (.sym (.v .str 10))))
noncomputable def g163 : Nat → Node | 1 => ⟨g163c1, [[0, 3, 1, 4], [22, 24, 25, 1, 0, 4]], g163t1⟩ | _ => ⟨g163c0, [], g163t0⟩
set_option maxRecDepth 1000000 in
theorem g163ok : gotF (orcL [] false) 163 [(.sym (.v .str 0)), (.str [48])] g163 2 = wantF g163 2 := by kernel_rfl
theorem g163in : (g163 0).c = entryC 163 [(.sym (.v .str 0)), (.str [48])] := rfl

def invTrim (vs : List Val) : Nat → Asn → Prop | 0, ι => (ι.v .str 0).toS.length ≤ len0 vs ∧ len0 vs ≤ 1000000 | 1, ι => (ι.v .str 10).toS.length ≤ len0 vs ∧ len0 vs ≤ 1000000 | _, _ => False
def muTrim : Nat → Asn → Nat | 0, ι => (ι.v .str 0).toS.length + 1 | _, ι => (ι.v .str 10).toS.length
theorem invTrim_lt (vs : List Val) (i : Nat) (ι : Asn) (h : invTrim vs i ι) : i < 2 := by
 match i, h with
 | 0, _ => omega
 | 1, _ => omega
theorem invTrim_0 (vs : List Val) (hl : vs.length = 1) (hs : smalls [.str] vs) : invTrim vs 0 (asn vs) := by
 match vs, hl with
 | [v], _ => exact ⟨Nat.le_refl _, hs.1⟩

theorem trim_leaf {f : Nat} {vs : List Val} {ι : Asn} {t : Tok} (ht : t.ty = .str) (h : (t.eval ι).toS.length ≤ len0 vs) : Qs (trimSpec f) vs ((AV.sym t).val ι) :=
 q_leaf (by show sg ι t = Ty.str.val (t.eval ι); unfold sg; rw [ht]) h

theorem told2 : Told (sp 2) := by
 refine told_of_graph 2 rfl no_oracles g158ok g158in rfl (fun vs hl => ?_) invTrim_lt invTrim_0 (μ := muTrim) fun vs i ι hi => ?_
 ·match vs, hl with
  | [_], _ => rfl
 ·match i, hi with
  | 0, ⟨h1, h2⟩ => exact round_fork (fun _ => trim_leaf rfl h1) fun _ => ⟨⟨h1, h2⟩, Nat.lt_succ_self _⟩
  | 1, ⟨h1, h2⟩ =>
   show Round _ _ _ _ _ (leafOf ι g158t1)
   unfold g158t1
   repeat' refine round_fork (fun _ => ?_) (fun _ => ?_)
   all_goals try exact trim_leaf rfl h1
   all_goals try refine ⟨⟨?_, h2⟩, ?_⟩
   all_goals simp (disch := omega) only [muTrim, g158s1_, ev_v, ev_fn, ev_ki, ev_ks, toI_i, toS_s, toB_b, ev_len, ev_add, ev_sub, ev_mul, ev_quo, ev_rem, ev_cv, ev_cut, ev_cat, beq_t, beq_f, bne_t, bne_f, blt_t, blt_f, ble_t, ble_f, bgt_t, bgt_f, bge_t, bge_f, bseq_t, bseq_f, bfits_t, bfits_f, wr64, List.length_take, List.length_drop, List.length_append] at *
   all_goals omega
theorem told3 : Told (sp 3) := by
 refine told_of_graph 3 rfl no_oracles g163ok g163in rfl (fun vs hl => ?_) invTrim_lt invTrim_0 (μ := muTrim) fun vs i ι hi => ?_
 ·match vs, hl with
  | [_], _ => rfl
 ·match i, hi with
  | 0, ⟨h1, h2⟩ => exact round_fork (fun _ => trim_leaf rfl h1) fun _ => ⟨⟨h1, h2⟩, Nat.lt_succ_self _⟩
  | 1, ⟨h1, h2⟩ =>
   show Round _ _ _ _ _ (leafOf ι g163t1)
   unfold g163t1
   repeat' refine round_fork (fun _ => ?_) (fun _ => ?_)
   all_goals try exact trim_leaf rfl h1
   all_goals try refine ⟨⟨?_, h2⟩, ?_⟩
   all_goals simp (disch := omega) only [muTrim, g163s1_, ev_v, ev_fn, ev_ki, ev_ks, toI_i, toS_s, toB_b, ev_len, ev_add, ev_sub, ev_mul, ev_quo, ev_rem, ev_cv, ev_cut, ev_cat, beq_t, beq_f, bne_t, bne_f, blt_t, blt_f, ble_t, ble_f, bgt_t, bgt_f, bge_t, bge_f, bseq_t, bseq_f, bfits_t, bfits_f, wr64, List.length_take, List.length_drop, List.length_append] at *
   all_goals omega

noncomputable def g105c0 : ACfg := entryC 105 [(.sym (.v .str 0))]
def g105t0 : LTree := (.fork (.seq (.ks [99]) (.v .str 0)) (.done (.tup [(.at (.int .i64 1)), (.at (.int .i64 0))])) (.fork (.seq (.ks [103]) (.v .str 0)) (.done (.tup [(.at (.int .i64 2)), (.at (.int .i64 0))])) (.fork (.seq (.ks [109, 115]) (.v .str 0)) (.done (.tup [(.at (.int .i64 3)), (.at (.int .i64 0))])) (.fork (.seq (.ks [104]) (.v .str 0)) (.done (.tup [(.at (.int .i64 4)), (.at (.int .i64 0))])) (.done (.tup [(.at (.int .i64 0)), (.at (.int .i64 16))]))))))
noncomputable def g105 : Nat → Node | _ => ⟨g105c0, [], g105t0⟩
set_option maxRecDepth 1000000 in
theorem g105ok : gotF (orcL [] false) 105 [(.sym (.v .str 0))] g105 1 = wantF g105 1 := by kernel_rfl
theorem g105in : (g105 0).c = entryC 105 [(.sym (.v .str 0))] := rfl
theorem told17 : Told (sp 17) := by
 refine told_flat 17 rfl no_oracles g105ok g105in rfl (fun vs hl => ?_) (fun _ => True) (fun _ _ _ => trivial) fun vs _ => ?_
 ·match vs, hl with
  | [_], _ => rfl
 ·show Round _ _ _ _ _ (leafOf _ g105t0)
  unfold g105t0
  repeat' refine round_fork (fun _ => ?_) (fun _ => ?_)
  all_goals exact q_leaf rfl trivial

noncomputable def g172c0 : ACfg := entryC 172 [(.sym (.v .str 0))]
def g172t0 : LTree := (.fork (.seq (.ks [99]) (.v .str 0)) (.done (.tup [(.at (.int .i64 1)), (.at (.int .i64 0))])) (.fork (.seq (.ks [103]) (.v .str 0)) (.done (.tup [(.at (.int .i64 2)), (.at (.int .i64 0))])) (.fork (.seq (.ks [109, 115]) (.v .str 0)) (.done (.tup [(.at (.int .i64 3)), (.at (.int .i64 0))])) (.fork (.seq (.ks [104]) (.v .str 0)) (.done (.tup [(.at (.int .i64 4)), (.at (.int .i64 0))])) (.fork (.seq (.ks [100]) (.v .str 0)) (.done (.tup [(.at (.int .i64 5)), (.at (.int .i64 0))])) (.done (.tup [(.at (.int .i64 0)), (.at (.int .i64 16))])))))))
noncomputable def g172 : Nat → Node | _ => ⟨g172c0, [], g172t0⟩
set_option maxRecDepth 1000000 in
theorem g172ok : gotF (orcL [] false) 172 [(.sym (.v .str 0))] g172 1 = wantF g172 1 := by kernel_rfl
theorem g172in : (g172 0).c = entryC 172 [(.sym (.v .str 0))] := rfl
theorem told18 : Told (sp 18) := by
 refine told_flat 18 rfl no_oracles g172ok g172in rfl (fun vs hl => ?_) (fun _ => True) (fun _ _ _ => trivial) fun vs _ => ?_
 ·match vs, hl with
  | [_], _ => rfl
 ·show Round _ _ _ _ _ (leafOf _ g172t0)
  unfold g172t0
  repeat' refine round_fork (fun _ => ?_) (fun _ => ?_)
  all_goals exact q_leaf rfl trivial
end Go.Eng
namespace Go.Eng
open Go Go.Proofs

noncomputable def g102c0 : ACfg := entryC 102 [(.sym (.v (.int .i64) 0)), (.sym (.v .str 1)), (.sym (.v (.int .i64) 2)), (.sym (.v (.int .i64) 3))]
def yA3_0 : AV := .at (.int .i64 0)
def yA3_1 : AV := .sym (.v (.int .i64) 10)
def yA3_2 : AObj := .cells 197 [(.iface 389 .unk)] false false
def yA3_3 : AV := .fn (.func 215) [] [(.ptr 10 0), (.ptr 8 0)]
def yA3_4 : Nat × AObj := (8, (.cells 9 [(.sym (.v .str 0))] true false))
def yA3_5 : AV := .sym (.ar 0 .i64 (.v (.int .i64) 10) (.ki .i64 1))
noncomputable def g102c1 : ACfg := ⟨⟨160, (tu 23 [(0, (.sym (.v (.int .i64) 0))), (1, (.sym (.v .str 1))), (4, yA3_0), (5, yA3_0), (11, (.sym (.len (.v .str 1)))), (12, yA3_1)]), [(.code (cd 160 [1, 1, 0, 1, 0, 0])), (.inLoop (cd 160 [1, 1, 0, 1, 0, 0])), (.inBlock 0), (.code (cd 160 [1, 1, 1]))], [], false, false, none⟩, [⟨102, (tu 51 [(1, (.sym (.v .str 1))), (2, (.sym (.v (.int .i64) 2))), (3, (.sym (.v (.int .i64) 3))), (6, uu), (8, (.ptr 8 0)), (9, uu), (10, uu), (11, uu), (12, (.sym (.v (.int .i64) 0))), (13, (.sym (.v .str 1))), (14, uu), (15, uu), (16, uu)]), [(.ops ((os 102 [1, 0]).toList.drop 2) (os 102 [1, 0])), (.code (cd 102 [1, 1]))], [], false, false, none⟩], ⟨hT [(6, yA3_2), (7, yA3_2), (8, (.cells 127 [yA3_0, yA3_0] true false))], 9⟩⟩
def g102s0 : Sub := [(10, (.ki .i64 0))]
theorem g102s0_ (ι : Asn) : SV ι g102s0 (.int .i64) 0 ∧ SA ι g102s0 (.int .i64) 10 (.ki .i64 0) ∧ SV ι g102s0 .str 1 ∧ SV ι g102s0 (.int .i64) 2 := ⟨rfl, rfl, rfl, rfl⟩
def g102s1 : Sub := [(10, (.ar 0 .i64 (.v (.int .i64) 10) (.ki .i64 1)))]
theorem g102s1_ (ι : Asn) : SV ι g102s1 (.int .i64) 0 ∧ SA ι g102s1 (.int .i64) 10 (.ar 0 .i64 (.v (.int .i64) 10) (.ki .i64 1)) ∧ SV ι g102s1 .str 1 ∧ SV ι g102s1 (.int .i64) 2 := ⟨rfl, rfl, rfl, rfl⟩
def g102t0 : LTree := (.fork (.cmp 5 (.v (.int .i64) 0) (.ki .i64 1)) (.fork (.cmp 3 (.v (.int .i64) 0) (.ki .i64 4)) (.to 1 g102s0 48) (.done (.agg [(.at (.int .i64 1)), (.at (.int .i64 0))]))) (.done (.agg [(.at (.int .i64 1)), (.at (.int .i64 0))])))
def g102t1 : LTree := (.fork (.cmp 2 (.v (.int .i64) 10) (.len (.v .str 1))) (.fork (.cmp 3 (.ki .i64 0) (.v (.int .i64) 10)) (.fork (.cmp 3 (.ki .i64 1) (.v (.int .i64) 0)) (.fork (.cmp 3 (.v (.int .i64) 0) (.ki .i64 4)) (.fork (.fn .bool 5 (.v (.int .i64) 0) (.idx (.v .str 1) (.v (.int .i64) 10))) (.to 1 g102s1 31) (.fork (.cmp 2 (.v (.int .i64) 2) (.ki .i64 0)) (.done (.agg [(.at (.int .i64 1)), (.at (.int .i64 0))])) (.fork (.cmp 2 (.v (.int .i64) 3) (.v (.int .i64) 2)) (.done (.agg [(.at (.int .i64 1)), (.at (.int .i64 0))])) (.fork (.cmp 2 (.len (.v .str 1)) (.v (.int .i64) 2)) (.done (.agg [(.at (.int .i64 13)), (.sym (.len (.v .str 1)))])) (.fork (.cmp 4 (.len (.v .str 1)) (.v (.int .i64) 3)) (.done (.agg [(.at (.int .i64 12)), (.sym (.v (.int .i64) 3))])) (.fork (.cmp 5 (.v (.int .i64) 10) (.ki .i64 0)) (.done (.agg [(.at (.int .i64 14)), (.sym (.v (.int .i64) 10))])) (.done (.agg [(.at (.int .i64 0)), (.at (.int .i64 0))])))))))) .dead) .dead) .dead) (.fork (.cmp 2 (.v (.int .i64) 2) (.ki .i64 0)) (.done (.agg [(.at (.int .i64 1)), (.at (.int .i64 0))])) (.fork (.cmp 2 (.v (.int .i64) 3) (.v (.int .i64) 2)) (.done (.agg [(.at (.int .i64 1)), (.at (.int .i64 0))])) (.fork (.cmp 2 (.len (.v .str 1)) (.v (.int .i64) 2)) (.done (.agg [(.at (.int .i64 13)), (.sym (.len (.v .str 1)))])) (.fork (.cmp 4 (.len (.v .str 1)) (.v (.int .i64) 3)) (.done (.agg [(.at (.int .i64 12)), (.sym (.v (.int .i64) 3))])) (.done (.agg [(.at (.int .i64 0)), (.at (.int .i64 0))])))))))
noncomputable def g102 : Nat → Node | 1 => ⟨g102c1, [[12, 11, 0, 1, 4, 5], [12, 13, 14, 11, 15, 16, 10, 2, 3, 6, 8, 1, 9]], g102t1⟩ | _ => ⟨g102c0, [], g102t0⟩
set_option maxRecDepth 1000000 in
theorem g102ok : gotF (orcL [] false) 102 [(.sym (.v (.int .i64) 0)), (.sym (.v .str 1)), (.sym (.v (.int .i64) 2)), (.sym (.v (.int .i64) 3))] g102 2 = wantF g102 2 := by kernel_rfl
theorem g102in : (g102 0).c = entryC 102 [(.sym (.v (.int .i64) 0)), (.sym (.v .str 1)), (.sym (.v (.int .i64) 2)), (.sym (.v (.int .i64) 3))] := rfl
def invText (vs : List Val) : Nat → Asn → Prop | 0, ι => ι = asn vs ∧ (vs.getD 1 (.i 0)).toS.length ≤ 1000000 | 1, ι => (ι.v .str 1 = vs.getD 1 (.i 0) ∧ ι.v (.int .i64) 2 = vs.getD 2 (.i 0)) ∧ ((ι.v (.int .i64) 0).toI ≥ 1 ∧ (ι.v (.int .i64) 0).toI ≤ 4) ∧ ((ι.v (.int .i64) 10).toI ≥ 0 ∧ (ι.v (.int .i64) 10).toI ≤ (ι.v .str 1).toS.length) ∧ (ι.v .str 1).toS.length ≤ 1000000 | _, _ => False
def muText : Nat → Asn → Nat | 0, ι => (ι.v .str 1).toS.length + 1 | _, ι => ((ι.v .str 1).toS.length - (ι.v (.int .i64) 10).toI).toNat
theorem told9 : Told (sp 9) := by
 refine told_of_graph 9 rfl no_oracles g102ok g102in rfl (fun vs hl => ?_) (fun vs i ι h => ?_) (fun vs hl hs => ?_) (Inv := invText) (μ := muText) fun vs i ι hi => ?_
 ·match vs, hl with
  | [_, _, _, _], _ => rfl
 ·match i, h with
  | 0, _ => omega
  | 1, _ => omega
 ·match vs, hl with
  | [_, _, _, _], _ => exact ⟨rfl, hs.2.1⟩
 ·match i, hi with
  | 0, ⟨h1, h2⟩ =>
   subst h1
   show Round _ _ _ _ _ (leafOf _ g102t0)
   unfold g102t0
   refine round_fork (fun g1 => round_fork (fun g2 => ?_) fun _ => q_leaf rfl (fun h => by cases h)) fun _ => q_leaf rfl (fun h => by cases h)
   refine ⟨⟨⟨rfl, rfl⟩, ⟨?_, ?_⟩, ⟨?_, ?_⟩, h2⟩, ?_⟩
   all_goals simp (disch := omega) only [muText, g102s0_, asn_v, ev_v, ev_fn, ev_ki, ev_ks, toI_i, toS_s, toB_b, ev_len, ev_add, ev_sub, ev_mul, ev_quo, ev_rem, ev_cv, ev_cut, ev_cat, beq_t, beq_f, bne_t, bne_f, blt_t, blt_f, ble_t, ble_f, bgt_t, bgt_f, bge_t, bge_f, bseq_t, bseq_f, bfits_t, bfits_f, wr64, List.length_take, List.length_drop, List.length_append] at *
   all_goals omega
  | 1, ⟨⟨k1, k2⟩, ⟨h1, h2⟩, ⟨h3, h4⟩, h5⟩ =>
   show Round _ _ _ _ _ (leafOf ι g102t1)
   unfold g102t1
   repeat' refine round_fork (fun _ => ?_) (fun _ => ?_)
   all_goals try (refine q_leaf rfl (fun h => ?_); cases h; done)
   all_goals try refine ⟨⟨⟨k1, k2⟩, ⟨h1, h2⟩, ⟨?_, ?_⟩, h5⟩, ?_⟩
   all_goals try refine q_leaf rfl fun _ => ?_
   all_goals try show (vs.getD 2 (.i 0)).toI ≤ (vs.getD 1 (.i 0)).toS.length
   all_goals try rw [← k1, ← k2]
   all_goals simp (disch := omega) only [muText, g102s1_, ev_v, ev_fn, ev_ki, ev_ks, toI_i, toS_s, toB_b, ev_len, ev_add, ev_sub, ev_mul, ev_quo, ev_rem, ev_cv, ev_cut, ev_cat, beq_t, beq_f, bne_t, bne_f, blt_t, blt_f, ble_t, ble_f, bgt_t, bgt_f, bge_t, bge_f, bseq_t, bseq_f, bfits_t, bfits_f, wr64, List.length_take, List.length_drop, List.length_append] at *
   all_goals omega

noncomputable def g161c0 : ACfg := entryC 161 [(.sym (.v .str 0))]
noncomputable def g161c1 : ACfg := ⟨⟨215, (tu 26 [(0, (.ptr 10 0)), (1, (.ptr 8 0)), (2, (.at (.bool false))), (3, yA3_1), (4, yA3_1)]), [(.code (cd 215 [1, 1, 0, 0, 0])), (.inLoop (cd 215 [1, 1, 0, 0, 0])), (.inBlock 0), (.code (cd 215 [1, 1, 1]))], [], false, false, none⟩, [⟨161, (tu 42 [(1, (.ptr 8 0)), (2, (.ptr 9 0)), (3, (.ptr 10 0)), (4, yA3_3), (5, uu), (11, yA3_3), (12, uu)]), [(.ops ((os 161 [1, 1, 1, 1, 0]).toList.drop 1) (os 161 [1, 1, 1, 1, 0])), (.code (cd 161 [1, 1, 1, 1, 1]))], [], false, false, none⟩], ⟨hT [(6, yA3_2), (7, yA3_2), yA3_4, (9, (.cells 127 [yA3_0, yA3_0] true false)), (10, (.cells 3 [(.sym (.v (.int .i64) 11))] true false))], 11⟩⟩
noncomputable def g161c2 : ACfg := ⟨⟨215, (tu 26 [(0, (.ptr 10 0)), (1, (.ptr 8 0)), (2, (.at (.bool false))), (3, yA3_5), (4, yA3_5)]), [(.code (cd 215 [1, 1, 0, 0, 0])), (.inLoop (cd 215 [1, 1, 0, 0, 0])), (.inBlock 0), (.code (cd 215 [1, 1, 1]))], [], false, false, none⟩, [⟨161, (tu 42 [(1, (.ptr 8 0)), (2, (.ptr 9 0)), (3, (.ptr 10 0)), (5, (.at (.bool true))), (22, yA3_3)]), [(.ops ((os 161 [1, 1, 1, 1, 1, 0, 1, 0, 1]).toList.drop 1) (os 161 [1, 1, 1, 1, 1, 0, 1, 0, 1])), (.code (cd 161 [1, 1, 1, 1, 1, 1]))], [], false, false, none⟩], ⟨hT [(6, yA3_2), (7, yA3_2), yA3_4, (9, (.cells 127 [yA3_0, yA3_0] true false)), (10, (.cells 3 [(.sym (.v (.int .i64) 12))] true false))], 11⟩⟩
def g161s0 : Sub := [(11, (.ki .i64 1)), (10, (.ki .i64 1))]
theorem g161s0_ (ι : Asn) : SV ι g161s0 .str 0 ∧ SA ι g161s0 (.int .i64) 11 (.ki .i64 1) ∧ SA ι g161s0 (.int .i64) 10 (.ki .i64 1) := ⟨rfl, rfl, rfl⟩
def g161s1 : Sub := [(11, (.ki .i64 0)), (10, (.ki .i64 0))]
theorem g161s1_ (ι : Asn) : SV ι g161s1 .str 0 ∧ SA ι g161s1 (.int .i64) 11 (.ki .i64 0) ∧ SA ι g161s1 (.int .i64) 10 (.ki .i64 0) := ⟨rfl, rfl, rfl⟩
def g161s2 : Sub := [(11, (.ar 0 .i64 (.v (.int .i64) 11) (.ki .i64 1)))]
theorem g161s2_ (ι : Asn) : SV ι g161s2 .str 0 ∧ SA ι g161s2 (.int .i64) 11 (.ar 0 .i64 (.v (.int .i64) 11) (.ki .i64 1)) ∧ SV ι g161s2 (.int .i64) 10 := ⟨rfl, rfl, rfl⟩
def g161s3 : Sub := [(12, (.ar 0 .i64 (.v (.int .i64) 11) (.ki .i64 1))), (10, (.v (.int .i64) 11))]
theorem g161s3_ (ι : Asn) : SV ι g161s3 .str 0 ∧ SA ι g161s3 (.int .i64) 10 (.v (.int .i64) 11) ∧ SA ι g161s3 (.int .i64) 12 (.ar 0 .i64 (.v (.int .i64) 11) (.ki .i64 1)) := ⟨rfl, rfl, rfl⟩
def g161s4 : Sub := [(12, (.ar 0 .i64 (.v (.int .i64) 11) (.ki .i64 1))), (10, (.v (.int .i64) 11))]
theorem g161s4_ (ι : Asn) : SV ι g161s4 .str 0 ∧ SA ι g161s4 (.int .i64) 10 (.v (.int .i64) 11) ∧ SA ι g161s4 (.int .i64) 12 (.ar 0 .i64 (.v (.int .i64) 11) (.ki .i64 1)) := ⟨rfl, rfl, rfl⟩
def g161s5 : Sub := [(12, (.ar 0 .i64 (.v (.int .i64) 11) (.ki .i64 1))), (10, (.v (.int .i64) 11))]
theorem g161s5_ (ι : Asn) : SV ι g161s5 .str 0 ∧ SA ι g161s5 (.int .i64) 10 (.v (.int .i64) 11) ∧ SA ι g161s5 (.int .i64) 12 (.ar 0 .i64 (.v (.int .i64) 11) (.ki .i64 1)) := ⟨rfl, rfl, rfl⟩
def g161s6 : Sub := [(12, (.ar 0 .i64 (.v (.int .i64) 12) (.ki .i64 1)))]
theorem g161s6_ (ι : Asn) : SV ι g161s6 .str 0 ∧ SV ι g161s6 (.int .i64) 10 ∧ SA ι g161s6 (.int .i64) 12 (.ar 0 .i64 (.v (.int .i64) 12) (.ki .i64 1)) := ⟨rfl, rfl, rfl⟩
def g161t0 : LTree := (.fork (.cmp 3 (.len (.v .str 0)) (.ki .i64 1000000)) (.fork (.fn .bool 200 (.fn .str 0 (.v .str 0) (.ki .i64 0)) (.ki .i64 0)) (.to 1 g161s0 43) (.to 1 g161s1 39)) .dead)
def g161t1 : LTree := (.fork (.cmp 2 (.v (.int .i64) 11) (.len (.v .str 0))) (.fork (.cmp 3 (.ki .i64 0) (.v (.int .i64) 11)) (.fork (.cmp 5 (.idx (.v .str 0) (.v (.int .i64) 11)) (.ki .u8 48)) (.fork (.cmp 3 (.idx (.v .str 0) (.v (.int .i64) 11)) (.ki .u8 57)) (.to 1 g161s2 30) (.fork (.cmp 4 (.v (.int .i64) 11) (.v (.int .i64) 10)) (.fork (.cmp 3 (.v (.int .i64) 11) (.len (.v .str 0))) (.fork (.cmp 3 (.len (.sub (.v .str 0) (.v (.int .i64) 11) (.len (.v .str 0)))) (.ki .i64 1000000)) (.fork (.fn .bool 210 (.fn .str 0 (.sub (.v .str 0) (.v (.int .i64) 11) (.len (.v .str 0))) (.ki .i64 0)) (.ki .i64 0)) (.to 2 g161s3 66) (.fork (.cmp 0 (.v (.int .i64) 11) (.len (.v .str 0))) (.done (.agg [(.at (.int .i64 0)), (.at (.int .i64 0))])) (.done (.agg [(.at (.int .i64 14)), (.sym (.v (.int .i64) 11))])))) .dead) .dead) (.fork (.cmp 0 (.v (.int .i64) 11) (.len (.v .str 0))) (.done (.agg [(.at (.int .i64 11)), (.sym (.v (.int .i64) 11))])) (.done (.agg [(.at (.int .i64 14)), (.sym (.v (.int .i64) 11))]))))) (.fork (.cmp 4 (.v (.int .i64) 11) (.v (.int .i64) 10)) (.fork (.cmp 3 (.v (.int .i64) 11) (.len (.v .str 0))) (.fork (.cmp 3 (.len (.sub (.v .str 0) (.v (.int .i64) 11) (.len (.v .str 0)))) (.ki .i64 1000000)) (.fork (.fn .bool 210 (.fn .str 0 (.sub (.v .str 0) (.v (.int .i64) 11) (.len (.v .str 0))) (.ki .i64 0)) (.ki .i64 0)) (.to 2 g161s4 66) (.fork (.cmp 0 (.v (.int .i64) 11) (.len (.v .str 0))) (.done (.agg [(.at (.int .i64 0)), (.at (.int .i64 0))])) (.done (.agg [(.at (.int .i64 14)), (.sym (.v (.int .i64) 11))])))) .dead) .dead) (.fork (.cmp 0 (.v (.int .i64) 11) (.len (.v .str 0))) (.done (.agg [(.at (.int .i64 11)), (.sym (.v (.int .i64) 11))])) (.done (.agg [(.at (.int .i64 14)), (.sym (.v (.int .i64) 11))]))))) .dead) (.fork (.cmp 4 (.v (.int .i64) 11) (.v (.int .i64) 10)) (.fork (.cmp 3 (.ki .i64 0) (.v (.int .i64) 11)) (.fork (.cmp 3 (.v (.int .i64) 11) (.len (.v .str 0))) (.fork (.cmp 3 (.len (.sub (.v .str 0) (.v (.int .i64) 11) (.len (.v .str 0)))) (.ki .i64 1000000)) (.fork (.fn .bool 210 (.fn .str 0 (.sub (.v .str 0) (.v (.int .i64) 11) (.len (.v .str 0))) (.ki .i64 0)) (.ki .i64 0)) (.to 2 g161s5 66) (.fork (.cmp 0 (.v (.int .i64) 11) (.len (.v .str 0))) (.done (.agg [(.at (.int .i64 0)), (.at (.int .i64 0))])) (.done (.agg [(.at (.int .i64 14)), (.sym (.v (.int .i64) 11))])))) .dead) .dead) .dead) (.fork (.cmp 0 (.v (.int .i64) 11) (.len (.v .str 0))) (.done (.agg [(.at (.int .i64 11)), (.sym (.v (.int .i64) 11))])) (.done (.agg [(.at (.int .i64 14)), (.sym (.v (.int .i64) 11))])))))
def g161t2 : LTree := (.fork (.cmp 2 (.v (.int .i64) 12) (.len (.v .str 0))) (.fork (.cmp 3 (.ki .i64 0) (.v (.int .i64) 12)) (.fork (.cmp 5 (.idx (.v .str 0) (.v (.int .i64) 12)) (.ki .u8 48)) (.fork (.cmp 3 (.idx (.v .str 0) (.v (.int .i64) 12)) (.ki .u8 57)) (.to 2 g161s6 30) (.fork (.cmp 4 (.v (.int .i64) 12) (.ar 0 .i64 (.v (.int .i64) 10) (.ki .i64 1))) (.fork (.cmp 0 (.v (.int .i64) 12) (.len (.v .str 0))) (.done (.agg [(.at (.int .i64 0)), (.at (.int .i64 0))])) (.done (.agg [(.at (.int .i64 14)), (.sym (.v (.int .i64) 12))]))) (.fork (.cmp 0 (.v (.int .i64) 12) (.len (.v .str 0))) (.done (.agg [(.at (.int .i64 11)), (.sym (.v (.int .i64) 12))])) (.done (.agg [(.at (.int .i64 14)), (.sym (.v (.int .i64) 12))]))))) (.fork (.cmp 4 (.v (.int .i64) 12) (.ar 0 .i64 (.v (.int .i64) 10) (.ki .i64 1))) (.fork (.cmp 0 (.v (.int .i64) 12) (.len (.v .str 0))) (.done (.agg [(.at (.int .i64 0)), (.at (.int .i64 0))])) (.done (.agg [(.at (.int .i64 14)), (.sym (.v (.int .i64) 12))]))) (.fork (.cmp 0 (.v (.int .i64) 12) (.len (.v .str 0))) (.done (.agg [(.at (.int .i64 11)), (.sym (.v (.int .i64) 12))])) (.done (.agg [(.at (.int .i64 14)), (.sym (.v (.int .i64) 12))]))))) .dead) (.fork (.cmp 4 (.v (.int .i64) 12) (.ar 0 .i64 (.v (.int .i64) 10) (.ki .i64 1))) (.fork (.cmp 0 (.v (.int .i64) 12) (.len (.v .str 0))) (.done (.agg [(.at (.int .i64 0)), (.at (.int .i64 0))])) (.done (.agg [(.at (.int .i64 14)), (.sym (.v (.int .i64) 12))]))) (.fork (.cmp 0 (.v (.int .i64) 12) (.len (.v .str 0))) (.done (.agg [(.at (.int .i64 11)), (.sym (.v (.int .i64) 12))])) (.done (.agg [(.at (.int .i64 14)), (.sym (.v (.int .i64) 12))])))))
noncomputable def g161 : Nat → Node | 1 => ⟨g161c1, [[0, 1, 4, 3, 2], [11, 12, 5, 1, 3, 4, 2]], g161t1⟩ | 2 => ⟨g161c2, [[0, 1, 4, 3, 2], [22, 23, 5, 3, 1, 2]], g161t2⟩ | _ => ⟨g161c0, [], g161t0⟩
set_option maxRecDepth 1000000 in
theorem g161ok : gotF (orcL [20, 21] false) 161 [(.sym (.v .str 0))] g161 3 = wantF g161 3 := by kernel_rfl
theorem g161in : (g161 0).c = entryC 161 [(.sym (.v .str 0))] := rfl
theorem FF_210 (a b : Val) : FF 210 a b = (tab sp 21 (unpack a)).getD 0 (.i 0) := FF_at (id := 21) (j := 0) (by omega) (by omega) a b
def invLook (vs : List Val) : Nat → Asn → Prop | 0, ι => ι.fn = FF ∧ (ι.v .str 0).toS.length ≤ 1000000 ∧ ((ι.v .str 0).toS.length = (vs.getD 0 (.i 0)).toS.length ∧ ι = asn vs) | 1, ι => ι.fn = FF ∧ (ι.v .str 0).toS.length ≤ 1000000 ∧ ((ι.v (.int .i64) 11).toI ≥ 0 ∧ (ι.v (.int .i64) 11).toI ≤ (ι.v .str 0).toS.length) | 2, ι => ι.fn = FF ∧ (ι.v .str 0).toS.length ≤ 1000000 ∧ ((ι.v (.int .i64) 12).toI ≥ 0 ∧ (ι.v (.int .i64) 12).toI ≤ (ι.v .str 0).toS.length) | _, _ => False
def muLook : Nat → Asn → Nat | 0, ι => 2 * (ι.v .str 0).toS.length + 10 | 1, ι => (2 * (ι.v .str 0).toS.length - (ι.v (.int .i64) 11).toI).toNat + 5 | _, ι => ((ι.v .str 0).toS.length - (ι.v (.int .i64) 12).toI).toNat
theorem FF_200 (a b : Val) : FF 200 a b = (tab sp 20 (unpack a)).getD 0 (.i 0) := FF_at (id := 20) (j := 0) (by omega) (by omega) a b
theorem has20 (v : Val) (h : v.toS.length ≤ 1000000) : ((tab sp 20 [v]).getD 0 (.i 0)).toB = true → 1 ≤ v.toS.length := post_of told20 (vs := [v]) rfl ⟨h, trivial⟩
theorem has21 (v : Val) (h : v.toS.length ≤ 1000000) : ((tab sp 21 [v]).getD 0 (.i 0)).toB = true → 1 ≤ v.toS.length := post_of told21 (vs := [v]) rfl ⟨h, trivial⟩
theorem told10 : Told (sp 10) := by
 refine told_of_graph 10 rfl (L := [20, 21]) (fun i hi => ?_) g161ok g161in rfl (fun vs hl => ?_) (fun vs i ι h => ?_) (fun vs hl hs => ?_) (Inv := invLook) (μ := muLook) fun vs i ι hi => ?_
 ·rcases List.mem_cons.1 hi with rfl | hi
  ·exact ⟨by omega, told20⟩
  ·rcases List.mem_cons.1 hi with rfl | hi
   ·exact ⟨by omega, told21⟩
   ·cases hi
 ·match vs, hl with
  | [_], _ => rfl
 ·match i, h with
  | 0, _ => omega
  | 1, _ => omega
  | 2, _ => omega
 ·match vs, hl with
  | [_], _ => exact ⟨rfl, hs.1, rfl, rfl⟩
 ·match i, hi with
  | 0, ⟨hf, h1, h2, h3⟩ =>
   have e := has20 (ι.v .str 0) h1
   show Round _ _ _ _ _ (leafOf _ g161t0)
   unfold g161t0
   repeat' refine round_fork (fun _ => ?_) (fun _ => ?_)
   all_goals try refine ⟨⟨hf, h1, ?_, ?_⟩, ?_⟩
   all_goals simp (disch := omega) only [muLook, g161s0_, g161s1_, g161s2_, g161s3_, g161s4_, g161s5_, g161s6_, hf, FF_0, FF_200, unpack_p, unpack_i, ev_v, ev_fn, ev_ki, ev_ks, toI_i, toS_s, toB_b, ev_len, ev_add, ev_sub, ev_mul, ev_quo, ev_rem, ev_cv, ev_cut, ev_cat, beq_t, beq_f, bne_t, bne_f, blt_t, blt_f, ble_t, ble_f, bgt_t, bgt_f, bge_t, bge_f, bseq_t, bseq_f, bfits_t, bfits_f, wr64, List.length_take, List.length_drop, List.length_append] at *
   all_goals first | omega | (have := e (by assumption); omega)
  | 1, ⟨hf, h1, h3, h4⟩ =>
   show Round _ _ _ _ _ (leafOf ι g161t1)
   unfold g161t1
   repeat' refine round_fork (fun _ => ?_) (fun _ => ?_)
   all_goals try exact q_leaf rfl trivial
   all_goals try refine ⟨⟨hf, h1, ?_, ?_⟩, ?_⟩
   all_goals have e := has21 ((Tok.sub (.v .str 0) (.v (.int .i64) 11) (.len (.v .str 0))).eval ι) (by simp only [ev_v, ev_fn, ev_ki, ev_ks, toI_i, toS_s, toB_b, ev_len, ev_add, ev_sub, ev_mul, ev_quo, ev_rem, ev_cv, ev_cut, ev_cat, beq_t, beq_f, bne_t, bne_f, blt_t, blt_f, ble_t, ble_f, bgt_t, bgt_f, bge_t, bge_f, bseq_t, bseq_f, bfits_t, bfits_f, wr64, List.length_take, List.length_drop, List.length_append]; omega)
   all_goals simp (disch := omega) only [muLook, g161s0_, g161s1_, g161s2_, g161s3_, g161s4_, g161s5_, g161s6_, hf, FF_0, FF_210, unpack_p, unpack_i, ev_v, ev_fn, ev_ki, ev_ks, toI_i, toS_s, toB_b, ev_len, ev_add, ev_sub, ev_mul, ev_quo, ev_rem, ev_cv, ev_cut, ev_cat, beq_t, beq_f, bne_t, bne_f, blt_t, blt_f, ble_t, ble_f, bgt_t, bgt_f, bge_t, bge_f, bseq_t, bseq_f, bfits_t, bfits_f, wr64, List.length_take, List.length_drop, List.length_append] at *
   all_goals first | omega | (have := e (by assumption); omega)
  | 2, ⟨hf, h1, h3, h4⟩ =>
   show Round _ _ _ _ _ (leafOf ι g161t2)
   unfold g161t2
   repeat' refine round_fork (fun _ => ?_) (fun _ => ?_)
   all_goals try exact q_leaf rfl trivial
   all_goals try refine ⟨⟨hf, h1, ?_, ?_⟩, ?_⟩
   all_goals simp (disch := omega) only [muLook, g161s0_, g161s1_, g161s2_, g161s3_, g161s4_, g161s5_, g161s6_, ev_v, ev_fn, ev_ki, ev_ks, toI_i, toS_s, toB_b, ev_len, ev_add, ev_sub, ev_mul, ev_quo, ev_rem, ev_cv, ev_cut, ev_cat, beq_t, beq_f, bne_t, bne_f, blt_t, blt_f, ble_t, ble_f, bgt_t, bgt_f, bge_t, bge_f, bseq_t, bseq_f, bfits_t, bfits_f, wr64, List.length_take, List.length_drop, List.length_append] at *
   all_goals omega
end Go.Eng
namespace Go.Eng
open Go Go.Proofs

theorem in1 {i : Nat} (h : Told (sp i)) (hi : 1 ≤ i) : ∀ j ∈ [i], 1 ≤ j ∧ Told (sp j) := fun j hj => by
 rw [List.mem_singleton.1 hj]; exact ⟨hi, h⟩

noncomputable def g69c0 : ACfg := entryC 69 [(.agg [(.sym (.v .bool 0)), (.sym (.v (.int .u64) 1)), (.sym (.v (.int .i64) 2))])]
def yB_0 : AV := .at (.int .i64 0)
def yB_1 : AObj := .cells 197 [(.iface 389 .unk)] false false
def yB_2 : Tok := .sub (.v .str 0) (.ki .i64 2) (.len (.v .str 0))
def yB_3 : Tok := .fn .str 0 (.ki .i64 4) (.fn .str 0 yB_2 (.fn .str 0 (.ki .i64 1) (.fn .str 0 (.ar 0 .i64 (.len yB_2) (.ki .i64 1)) (.ki .i64 0))))
def wB_0 : Tok := .ki .i64 0
def wB_1 : Tok := .ar 2 .i64 (.ki .i64 10) (.v (.int .i64) 11)
def wB_2 : Nat × Tok := (10, (.ar 0 .i64 (.v (.int .i64) 10) (.ki .i64 1)))
noncomputable def g69c1 : ACfg := ⟨⟨69, (tu 50 [(1, (.ptr 8 0)), (2, (.ptr 9 0)), (3, yB_0), (4, uu)]), [(.code (cd 69 [1, 1, 0, 0, 0])), (.inLoop (cd 69 [1, 1, 0, 0, 0])), (.inBlock 0), (.code (cd 69 [1, 1, 1]))], [], false, false, none⟩, [], ⟨hT [(6, yB_1), (7, yB_1), (8, (.cells 36 [(.sym (.v .bool 0)), (.sym (.v (.int .u64) 1)), (.sym (.v (.int .i64) 2))] true false)), (9, (.cells 36 [(.at (.bool false)), (.at (.int .u64 0)), yB_0] true false))], 10⟩⟩
noncomputable def g69c2 : ACfg := ⟨⟨69, (tu 50 [(1, (.ptr 8 0)), (2, (.ptr 9 0)), (3, yB_0)]), [(.code (cd 69 [1, 1, 1, 0, 0, 0])), (.inLoop (cd 69 [1, 1, 1, 0, 0, 0])), (.inBlock 2), (.code (cd 69 [1, 1, 1, 1]))], [], false, false, none⟩, [], ⟨hT [(6, yB_1), (7, yB_1), (8, (.cells 36 [(.sym (.v .bool 0)), (.sym (.v (.int .u64) 1)), (.sym (.v (.int .i64) 2))] true false)), (9, (.cells 36 [(.at (.bool false)), (.at (.int .u64 0)), yB_0] true false))], 10⟩⟩
def g69s0 : Sub := []
theorem g69s0_ (ι : Asn) : SV ι g69s0 (.int .i64) 2 := rfl
def g69s1 : Sub := [(2, (.ar 0 .i64 (.v (.int .i64) 2) (.ki .i64 1))), (1, (.ar 3 .u64 (.v (.int .u64) 1) (.ki .u64 10)))]
theorem g69s1_ (ι : Asn) : SA ι g69s1 (.int .i64) 2 (.ar 0 .i64 (.v (.int .i64) 2) (.ki .i64 1)) := rfl
def g69s2 : Sub := []
theorem g69s2_ (ι : Asn) : SV ι g69s2 (.int .i64) 2 := rfl
def g69s3 : Sub := []
theorem g69s3_ (ι : Asn) : SV ι g69s3 (.int .i64) 2 := rfl
def g69s4 : Sub := [(2, (.ar 1 .i64 (.v (.int .i64) 2) (.ki .i64 1))), (1, (.fn (.int .u64) 10 (.fn .str 0 (.v (.int .u64) 1) (.fn .str 0 (.ki .u64 0) wB_0)) wB_0))]
theorem g69s4_ (ι : Asn) : SA ι g69s4 (.int .i64) 2 (.ar 1 .i64 (.v (.int .i64) 2) (.ki .i64 1)) := rfl
def g69t0 : LTree := (.fork (.cmp 0 (.v (.int .u64) 1) (.ki .u64 0)) (.done (.tup [(.agg [(.at (.bool false)), (.at (.int .u64 0)), (.at (.int .i64 0))]), (.at (.int .i64 0))])) (.to 1 g69s0 18))
def g69t1 : LTree := (.fork (.cmp 0 (.ar 4 .u64 (.v (.int .u64) 1) (.ki .u64 10)) (.ki .u64 0)) (.fork (.cmp 2 (.v (.int .i64) 2) (.ki .i64 18)) (.to 1 g69s1 30) (.to 2 g69s2 18)) (.to 2 g69s3 18))
def g69t2 : LTree := (.fork (.cmp 4 (.v (.int .i64) 2) (.ki .i64 18)) (.fork (.fn .bool 11 (.fn .str 0 (.v (.int .u64) 1) (.fn .str 0 (.ki .u64 0) (.ki .i64 0))) (.ki .i64 0)) (.to 2 g69s4 41) (.done (.tup [(.agg [(.at (.bool false)), (.at (.int .u64 0)), (.at (.int .i64 0))]), (.at (.int .i64 10))]))) (.fork (.cmp 2 (.v (.int .i64) 2) (.ki .i64 (-18))) (.done (.tup [(.agg [(.at (.bool false)), (.at (.int .u64 0)), (.at (.int .i64 0))]), (.at (.int .i64 10))])) (.done (.tup [(.agg [(.sym (.v .bool 0)), (.sym (.v (.int .u64) 1)), (.sym (.v (.int .i64) 2))]), (.at (.int .i64 0))]))))
noncomputable def g69 : Nat → Node | 1 => ⟨g69c1, [[1, 4, 2, 3]], g69t1⟩ | 2 => ⟨g69c2, [[1, 2, 3]], g69t2⟩ | _ => ⟨g69c0, [], g69t0⟩
set_option maxRecDepth 1000000 in
theorem g69ok : gotF (orcL [1] false) 69 [(.agg [(.sym (.v .bool 0)), (.sym (.v (.int .u64) 1)), (.sym (.v (.int .i64) 2))])] g69 3 = wantF g69 3 := by kernel_rfl
theorem g69in : (g69 0).c = entryC 69 [(.agg [(.sym (.v .bool 0)), (.sym (.v (.int .u64) 1)), (.sym (.v (.int .i64) 2))])] := rfl
def invNorm (vs : List Val) : Nat → Asn → Prop | 0, ι => -1000000000000000 ≤ (ι.v (.int .i64) 2).toI ∧ (ι.v (.int .i64) 2).toI ≤ 1000000000000000 | 1, ι => -1000000000000000 ≤ (ι.v (.int .i64) 2).toI ∧ (ι.v (.int .i64) 2).toI ≤ 1000000000000000 | 2, ι => -1000000000000000 ≤ (ι.v (.int .i64) 2).toI ∧ (ι.v (.int .i64) 2).toI ≤ 1000000000000000 | _, _ => vs ≠ vs
def muNorm : Nat → Asn → Nat | 0, _ => 9000000000000000 | 1, ι => (1000000000000000 - (ι.v (.int .i64) 2).toI).toNat + 3000000000000000 | _, ι => ((ι.v (.int .i64) 2).toI + 1000000000000000).toNat
theorem told11 : Told (sp 11) := by
 refine told_of_graph 11 rfl (in1 told1 (by omega)) g69ok g69in rfl (fun vs hl => ?_) (fun vs i ι h => ?_) (fun vs hl hs => ?_) (Inv := invNorm) (μ := muNorm) fun vs i ι hi => ?_
 ·match vs, hl with
  | [_, _, _], _ => rfl
 ·match i, h with
  | 0, _ => omega
  | 1, _ => omega
  | 2, _ => omega
  | _ + 3, h => exact absurd rfl h
 ·match vs, hl with
  | [_, _, _], _ => exact hs.2.2.1
 ·match i, hi with
  | 0, ⟨h1, h2⟩ =>
   show Round _ _ _ _ _ (leafOf ι g69t0)
   unfold g69t0
   repeat' refine round_fork (fun _ => ?_) (fun _ => ?_)
   all_goals try exact q_leaf rfl trivial
   all_goals refine ⟨⟨?_, ?_⟩, ?_⟩
   all_goals simp (disch := omega) only [muNorm, g69s0_, ev_v, ev_fn, ev_ki, ev_ks, toI_i, toS_s, toB_b, ev_len, ev_add, ev_sub, ev_mul, ev_quo, ev_rem, ev_cv, ev_cut, ev_cat, beq_t, beq_f, bne_t, bne_f, blt_t, blt_f, ble_t, ble_f, bgt_t, bgt_f, bge_t, bge_f, bseq_t, bseq_f, bfits_t, bfits_f, wr64, List.length_take, List.length_drop, List.length_append] at *
   all_goals omega
  | 1, ⟨h1, h2⟩ =>
   show Round _ _ _ _ _ (leafOf ι g69t1)
   unfold g69t1
   repeat' refine round_fork (fun _ => ?_) (fun _ => ?_)
   all_goals try exact q_leaf rfl trivial
   all_goals refine ⟨⟨?_, ?_⟩, ?_⟩
   all_goals simp (disch := omega) only [muNorm, g69s1_, g69s2_, g69s3_, ev_v, ev_fn, ev_ki, ev_ks, toI_i, toS_s, toB_b, ev_len, ev_add, ev_sub, ev_mul, ev_quo, ev_rem, ev_cv, ev_cut, ev_cat, beq_t, beq_f, bne_t, bne_f, blt_t, blt_f, ble_t, ble_f, bgt_t, bgt_f, bge_t, bge_f, bseq_t, bseq_f, bfits_t, bfits_f, wr64, List.length_take, List.length_drop, List.length_append] at *
   all_goals omega
  | 2, ⟨h1, h2⟩ =>
   show Round _ _ _ _ _ (leafOf ι g69t2)
   unfold g69t2
   repeat' refine round_fork (fun _ => ?_) (fun _ => ?_)
   all_goals try exact q_leaf rfl trivial
   all_goals refine ⟨⟨?_, ?_⟩, ?_⟩
   all_goals simp (disch := omega) only [muNorm, g69s4_, ev_v, ev_fn, ev_ki, ev_ks, toI_i, toS_s, toB_b, ev_len, ev_add, ev_sub, ev_mul, ev_quo, ev_rem, ev_cv, ev_cut, ev_cat, beq_t, beq_f, bne_t, bne_f, blt_t, blt_f, ble_t, ble_f, bgt_t, bgt_f, bge_t, bge_f, bseq_t, bseq_f, bfits_t, bfits_f, wr64, List.length_take, List.length_drop, List.length_append] at *
   all_goals omega
  | _ + 3, h => exact absurd rfl h

noncomputable def g137c0 : ACfg := entryC 137 [(.agg [(.sym (.v .str 0)), (.sym (.v .str 1))])]
def g137t0 : LTree := (.fork (.cmp 3 (.len (.v .str 0)) (.ki .i64 1000000)) (.fork (.cmp 0 (.fn (.int .i64) 90 (.fn .str 0 (.ki .i64 2) (.fn .str 0 (.v .str 0) (.fn .str 0 (.ki .i64 1) (.fn .str 0 (.ki .i64 64) (.ki .i64 0))))) (.ki .i64 0)) (.ki .i64 0)) (.fork (.cmp 0 (.fn (.int .i64) 91 (.fn .str 0 (.ki .i64 2) (.fn .str 0 (.v .str 0) (.fn .str 0 (.ki .i64 1) (.fn .str 0 (.ki .i64 64) (.ki .i64 0))))) (.ki .i64 0)) (.ki .i64 0)) (.fork (.cmp 3 (.len (.v .str 1)) (.ki .i64 1000000)) (.fork (.cmp 0 (.fn (.int .i64) 90 (.fn .str 0 (.ki .i64 3) (.fn .str 0 (.v .str 1) (.fn .str 0 (.ki .i64 0) (.fn .str 0 (.ki .i64 100) (.ki .i64 0))))) (.ki .i64 0)) (.ki .i64 0)) (.fork (.cmp 0 (.fn (.int .i64) 91 (.fn .str 0 (.ki .i64 3) (.fn .str 0 (.v .str 1) (.fn .str 0 (.ki .i64 0) (.fn .str 0 (.ki .i64 100) (.ki .i64 0))))) (.ki .i64 0)) (.ki .i64 0)) (.done (.at (.int .i64 0))) (.done (.at (.int .i64 19)))) (.done (.at (.int .i64 19)))) .dead) (.done (.at (.int .i64 19)))) (.done (.at (.int .i64 19)))) .dead)
noncomputable def g137 : Nat → Node | _ => ⟨g137c0, [], g137t0⟩
set_option maxRecDepth 1000000 in
theorem g137ok : gotF (orcL [9] false) 137 [(.agg [(.sym (.v .str 0)), (.sym (.v .str 1))])] g137 1 = wantF g137 1 := by kernel_rfl
theorem g137in : (g137 0).c = entryC 137 [(.agg [(.sym (.v .str 0)), (.sym (.v .str 1))])] := rfl
theorem told16 : Told (sp 16) := by
 refine told_flat 16 rfl (in1 told9 (by omega)) g137ok g137in rfl (fun vs hl => ?_) (fun vs => (vs.getD 0 (.i 0)).toS.length ≤ 1000000 ∧ (vs.getD 1 (.i 0)).toS.length ≤ 1000000) (fun vs hl hs => ?_) fun vs hs => ?_
 ·match vs, hl with
  | [_, _], _ => rfl
 ·match vs, hl with
  | [_, _], _ => exact ⟨hs.1, hs.2.1⟩
 ·show Round _ _ _ _ _ (leafOf _ g137t0)
  unfold g137t0
  repeat' refine round_fork (fun _ => ?_) (fun _ => ?_)
  all_goals try exact q_leaf rfl trivial
  all_goals simp (disch := omega) only [leafOs, flatA, flatAs, tokV, AV.tok, List.map_cons, List.map_nil, List.cons_append, List.nil_append, List.append_nil, List.getD_cons_zero, List.getD_cons_succ, asn_fn, asn_v, FF_0, FF_1, unpack_p, unpack_i, ev_v, ev_fn, ev_ki, ev_ks, toI_i, toS_s, toB_b, ev_len, ev_add, ev_sub, ev_mul, ev_quo, ev_rem, ev_cv, ev_cut, ev_cat, beq_t, beq_f, bne_t, bne_f, blt_t, blt_f, ble_t, ble_f, bgt_t, bgt_f, bge_t, bge_f, bseq_t, bseq_f, bfits_t, bfits_f, wr64, List.length_take, List.length_drop, List.length_append] at *
  all_goals omega

noncomputable def g107c0 : ACfg := entryC 107 [(.sym (.v .str 0))]
noncomputable def g107c1 : ACfg := ⟨⟨107, (tu 102 [(0, (.sym (.v .str 0))), (2, yB_0), (3, (.ptr 8 0)), (7, (.sym yB_2)), (9, (.ptr 11 0)), (10, (.fn (.func 166) [] [(.ptr 11 0)])), (81, (.sym (.v (.int .i64) 10)))]), [(.code (cd 107 [1, 0, 1, 1, 1, 1, 1, 1, 1, 1, 1, 1, 0, 1, 0, 0])), (.inLoop (cd 107 [1, 0, 1, 1, 1, 1, 1, 1, 1, 1, 1, 1, 0, 1, 0, 0])), (.inBlock 3), (.code (cd 107 [1, 0, 1, 1, 1, 1, 1, 1, 1, 1, 1, 1, 1])), (.inScope (cd 107 [1, 0]))], [], false, false, none⟩, [], ⟨hT [(6, yB_1), (7, yB_1), (8, (.cells 127 [yB_0, yB_0] true false)), (9, (.cells 127 [yB_0, yB_0] true false)), (10, (.cells 127 [(.sym (.fn (.int .i64) 90 yB_3 wB_0)), (.sym (.fn (.int .i64) 91 yB_3 wB_0))] true false)), (11, (.cells 3 [(.sym (.v (.int .i64) 11))] true false))], 12⟩⟩
def g107s0 : Sub := [(11, wB_0), (10, wB_0)]
theorem g107s0_ (ι : Asn) : SV ι g107s0 .str 0 ∧ SA ι g107s0 (.int .i64) 10 (.ki .i64 0) := ⟨rfl, rfl⟩
def g107s1 : Sub := [(11, wB_0), (10, wB_0)]
theorem g107s1_ (ι : Asn) : SV ι g107s1 .str 0 ∧ SA ι g107s1 (.int .i64) 10 (.ki .i64 0) := ⟨rfl, rfl⟩
def g107s2 : Sub := [(11, (.ar 0 .i64 wB_1 (.cv .i64 (.ar 1 .u8 (.idx (.sub (.v .str 0) (.ki .i64 2) (.len (.v .str 0))) (.v (.int .i64) 10)) (.ki .u8 48))))), wB_2]
theorem g107s2_ (ι : Asn) : SV ι g107s2 .str 0 ∧ SA ι g107s2 (.int .i64) 10 (.ar 0 .i64 (.v (.int .i64) 10) (.ki .i64 1)) := ⟨rfl, rfl⟩
def g107s3 : Sub := [(11, (.ar 0 .i64 wB_1 wB_0)), wB_2]
theorem g107s3_ (ι : Asn) : SV ι g107s3 .str 0 ∧ SA ι g107s3 (.int .i64) 10 (.ar 0 .i64 (.v (.int .i64) 10) (.ki .i64 1)) := ⟨rfl, rfl⟩
def g107t0 : LTree := (.fork (.seq (.v .str 0) (.ks [49])) (.done (.tup [(.at (.int .i64 1000000)), (.agg [(.at (.int .i64 0)), (.at (.int .i64 0))])])) (.fork (.cmp 0 (.ki .i64 0) (.len (.v .str 0))) (.done (.tup [(.at (.int .i64 0)), (.agg [(.at (.int .i64 13)), (.at (.int .i64 0))])])) (.fork (.cmp 5 (.ki .i64 0) (.len (.v .str 0))) (.done (.tup [(.at (.int .i64 0)), (.agg [(.at (.int .i64 11)), (.at (.int .i64 0))])])) (.fork (.cmp 2 (.ki .i64 0) (.len (.v .str 0))) (.fork (.cmp 1 (.idx (.v .str 0) (.ki .i64 0)) (.ki .u8 48)) (.done (.tup [(.at (.int .i64 0)), (.agg [(.at (.int .i64 11)), (.at (.int .i64 0))])])) (.fork (.cmp 0 (.ki .i64 1) (.len (.v .str 0))) (.fork (.cmp 5 (.ki .i64 1) (.len (.v .str 0))) (.done (.tup [(.at (.int .i64 0)), (.agg [(.at (.int .i64 11)), (.at (.int .i64 1))])])) (.fork (.cmp 2 (.ki .i64 1) (.len (.v .str 0))) (.fork (.cmp 1 (.idx (.v .str 0) (.ki .i64 1)) (.ki .u8 46)) (.done (.tup [(.at (.int .i64 0)), (.agg [(.at (.int .i64 11)), (.at (.int .i64 1))])])) (.fork (.cmp 3 (.ki .i64 2) (.len (.v .str 0))) (.fork (.cmp 3 (.len (.sub (.v .str 0) (.ki .i64 2) (.len (.v .str 0)))) (.ki .i64 1000000)) (.fork (.cmp 3 (.ki .i64 (-1000000000000000)) (.ar 0 .i64 (.len (.sub (.v .str 0) (.ki .i64 2) (.len (.v .str 0)))) (.ki .i64 1))) (.fork (.cmp 3 (.ar 0 .i64 (.len (.sub (.v .str 0) (.ki .i64 2) (.len (.v .str 0)))) (.ki .i64 1)) (.ki .i64 1000000000000000)) (.fork (.cmp 0 (.fn (.int .i64) 90 (.fn .str 0 (.ki .i64 4) (.fn .str 0 (.sub (.v .str 0) (.ki .i64 2) (.len (.v .str 0))) (.fn .str 0 (.ki .i64 1) (.fn .str 0 (.ar 0 .i64 (.len (.sub (.v .str 0) (.ki .i64 2) (.len (.v .str 0)))) (.ki .i64 1)) (.ki .i64 0))))) (.ki .i64 0)) (.ki .i64 0)) (.fork (.cmp 0 (.fn (.int .i64) 91 (.fn .str 0 (.ki .i64 4) (.fn .str 0 (.sub (.v .str 0) (.ki .i64 2) (.len (.v .str 0))) (.fn .str 0 (.ki .i64 1) (.fn .str 0 (.ar 0 .i64 (.len (.sub (.v .str 0) (.ki .i64 2) (.len (.v .str 0)))) (.ki .i64 1)) (.ki .i64 0))))) (.ki .i64 0)) (.ki .i64 0)) (.fork (.cmp 4 (.len (.sub (.v .str 0) (.ki .i64 2) (.len (.v .str 0)))) (.ki .i64 6)) (.done (.tup [(.at (.int .i64 0)), (.agg [(.at (.int .i64 12)), (.at (.int .i64 8))])])) (.to 1 g107s0 203)) (.done (.tup [(.at (.int .i64 0)), (.agg [(.sym (.fn (.int .i64) 90 (.fn .str 0 (.ki .i64 4) (.fn .str 0 (.sub (.v .str 0) (.ki .i64 2) (.len (.v .str 0))) (.fn .str 0 (.ki .i64 1) (.fn .str 0 (.ar 0 .i64 (.len (.sub (.v .str 0) (.ki .i64 2) (.len (.v .str 0)))) (.ki .i64 1)) (.ki .i64 0))))) (.ki .i64 0))), (.sym (.ar 0 .i64 (.ki .i64 2) (.fn (.int .i64) 91 (.fn .str 0 (.ki .i64 4) (.fn .str 0 (.sub (.v .str 0) (.ki .i64 2) (.len (.v .str 0))) (.fn .str 0 (.ki .i64 1) (.fn .str 0 (.ar 0 .i64 (.len (.sub (.v .str 0) (.ki .i64 2) (.len (.v .str 0)))) (.ki .i64 1)) (.ki .i64 0))))) (.ki .i64 0))))])]))) (.done (.tup [(.at (.int .i64 0)), (.agg [(.sym (.fn (.int .i64) 90 (.fn .str 0 (.ki .i64 4) (.fn .str 0 (.sub (.v .str 0) (.ki .i64 2) (.len (.v .str 0))) (.fn .str 0 (.ki .i64 1) (.fn .str 0 (.ar 0 .i64 (.len (.sub (.v .str 0) (.ki .i64 2) (.len (.v .str 0)))) (.ki .i64 1)) (.ki .i64 0))))) (.ki .i64 0))), (.sym (.ar 0 .i64 (.ki .i64 2) (.fn (.int .i64) 91 (.fn .str 0 (.ki .i64 4) (.fn .str 0 (.sub (.v .str 0) (.ki .i64 2) (.len (.v .str 0))) (.fn .str 0 (.ki .i64 1) (.fn .str 0 (.ar 0 .i64 (.len (.sub (.v .str 0) (.ki .i64 2) (.len (.v .str 0)))) (.ki .i64 1)) (.ki .i64 0))))) (.ki .i64 0))))])]))) .dead) .dead) .dead) .dead)) .dead)) (.fork (.cmp 5 (.ki .i64 1) (.len (.v .str 0))) (.done (.tup [(.at (.int .i64 0)), (.agg [(.at (.int .i64 11)), (.at (.int .i64 1))])])) (.fork (.cmp 2 (.ki .i64 1) (.len (.v .str 0))) (.fork (.cmp 1 (.idx (.v .str 0) (.ki .i64 1)) (.ki .u8 46)) (.done (.tup [(.at (.int .i64 0)), (.agg [(.at (.int .i64 11)), (.at (.int .i64 1))])])) (.fork (.cmp 3 (.ki .i64 2) (.len (.v .str 0))) (.fork (.cmp 3 (.len (.sub (.v .str 0) (.ki .i64 2) (.len (.v .str 0)))) (.ki .i64 1000000)) (.fork (.cmp 3 (.ki .i64 (-1000000000000000)) (.ar 0 .i64 (.len (.sub (.v .str 0) (.ki .i64 2) (.len (.v .str 0)))) (.ki .i64 1))) (.fork (.cmp 3 (.ar 0 .i64 (.len (.sub (.v .str 0) (.ki .i64 2) (.len (.v .str 0)))) (.ki .i64 1)) (.ki .i64 1000000000000000)) (.fork (.cmp 0 (.fn (.int .i64) 90 (.fn .str 0 (.ki .i64 4) (.fn .str 0 (.sub (.v .str 0) (.ki .i64 2) (.len (.v .str 0))) (.fn .str 0 (.ki .i64 1) (.fn .str 0 (.ar 0 .i64 (.len (.sub (.v .str 0) (.ki .i64 2) (.len (.v .str 0)))) (.ki .i64 1)) (.ki .i64 0))))) (.ki .i64 0)) (.ki .i64 0)) (.fork (.cmp 0 (.fn (.int .i64) 91 (.fn .str 0 (.ki .i64 4) (.fn .str 0 (.sub (.v .str 0) (.ki .i64 2) (.len (.v .str 0))) (.fn .str 0 (.ki .i64 1) (.fn .str 0 (.ar 0 .i64 (.len (.sub (.v .str 0) (.ki .i64 2) (.len (.v .str 0)))) (.ki .i64 1)) (.ki .i64 0))))) (.ki .i64 0)) (.ki .i64 0)) (.fork (.cmp 4 (.len (.sub (.v .str 0) (.ki .i64 2) (.len (.v .str 0)))) (.ki .i64 6)) (.done (.tup [(.at (.int .i64 0)), (.agg [(.at (.int .i64 12)), (.at (.int .i64 8))])])) (.to 1 g107s1 203)) (.done (.tup [(.at (.int .i64 0)), (.agg [(.sym (.fn (.int .i64) 90 (.fn .str 0 (.ki .i64 4) (.fn .str 0 (.sub (.v .str 0) (.ki .i64 2) (.len (.v .str 0))) (.fn .str 0 (.ki .i64 1) (.fn .str 0 (.ar 0 .i64 (.len (.sub (.v .str 0) (.ki .i64 2) (.len (.v .str 0)))) (.ki .i64 1)) (.ki .i64 0))))) (.ki .i64 0))), (.sym (.ar 0 .i64 (.ki .i64 2) (.fn (.int .i64) 91 (.fn .str 0 (.ki .i64 4) (.fn .str 0 (.sub (.v .str 0) (.ki .i64 2) (.len (.v .str 0))) (.fn .str 0 (.ki .i64 1) (.fn .str 0 (.ar 0 .i64 (.len (.sub (.v .str 0) (.ki .i64 2) (.len (.v .str 0)))) (.ki .i64 1)) (.ki .i64 0))))) (.ki .i64 0))))])]))) (.done (.tup [(.at (.int .i64 0)), (.agg [(.sym (.fn (.int .i64) 90 (.fn .str 0 (.ki .i64 4) (.fn .str 0 (.sub (.v .str 0) (.ki .i64 2) (.len (.v .str 0))) (.fn .str 0 (.ki .i64 1) (.fn .str 0 (.ar 0 .i64 (.len (.sub (.v .str 0) (.ki .i64 2) (.len (.v .str 0)))) (.ki .i64 1)) (.ki .i64 0))))) (.ki .i64 0))), (.sym (.ar 0 .i64 (.ki .i64 2) (.fn (.int .i64) 91 (.fn .str 0 (.ki .i64 4) (.fn .str 0 (.sub (.v .str 0) (.ki .i64 2) (.len (.v .str 0))) (.fn .str 0 (.ki .i64 1) (.fn .str 0 (.ar 0 .i64 (.len (.sub (.v .str 0) (.ki .i64 2) (.len (.v .str 0)))) (.ki .i64 1)) (.ki .i64 0))))) (.ki .i64 0))))])]))) .dead) .dead) .dead) .dead)) .dead)))) .dead))))
def g107t1 : LTree := (.fork (.cmp 2 (.v (.int .i64) 10) (.ki .i64 6)) (.fork (.cmp 2 (.v (.int .i64) 10) (.len (.sub (.v .str 0) (.ki .i64 2) (.len (.v .str 0))))) (.fork (.cmp 3 (.ki .i64 0) (.v (.int .i64) 10)) (.to 1 g107s2 55) .dead) (.to 1 g107s3 50)) (.fork (.cmp 0 (.v (.int .i64) 11) (.ki .i64 0)) (.done (.tup [(.at (.int .i64 0)), (.agg [(.at (.int .i64 10)), (.at (.int .i64 0))])])) (.done (.tup [(.sym (.v (.int .i64) 11)), (.agg [(.at (.int .i64 0)), (.at (.int .i64 0))])]))))
noncomputable def g107 : Nat → Node | 1 => ⟨g107c1, [[81, 7, 10, 9, 3, 0, 2]], g107t1⟩ | _ => ⟨g107c0, [], g107t0⟩
set_option maxRecDepth 1000000 in
theorem g107ok : gotF (orcL [9] false) 107 [(.sym (.v .str 0))] g107 2 = wantF g107 2 := by kernel_rfl
theorem g107in : (g107 0).c = entryC 107 [(.sym (.v .str 0))] := rfl
def invRate (vs : List Val) : Nat → Asn → Prop | 0, ι => (ι.v .str 0).toS.length ≤ 1000000 | 1, ι => 2 ≤ (ι.v .str 0).toS.length ∧ (ι.v .str 0).toS.length ≤ 1000000 ∧ 0 ≤ (ι.v (.int .i64) 10).toI ∧ (ι.v (.int .i64) 10).toI ≤ 6 | _, _ => vs ≠ vs
def muRate : Nat → Asn → Nat | 0, _ => 10 | _, ι => (6 - (ι.v (.int .i64) 10).toI).toNat
theorem told13 : Told (sp 13) := by
 refine told_of_graph 13 rfl (in1 told9 (by omega)) g107ok g107in rfl (fun vs hl => ?_) (fun vs i ι h => ?_) (fun vs hl hs => ?_) (Inv := invRate) (μ := muRate) fun vs i ι hi => ?_
 ·match vs, hl with
  | [_], _ => rfl
 ·match i, h with
  | 0, _ => omega
  | 1, _ => omega
  | _ + 2, h => exact absurd rfl h
 ·match vs, hl with
  | [_], _ => exact hs.1
 ·match i, hi with
  | 0, h1 =>
   have h1 : (ι.v .str 0).toS.length ≤ 1000000 := h1
   show Round _ _ _ _ _ (leafOf ι g107t0)
   unfold g107t0
   repeat' refine round_fork (fun _ => ?_) (fun _ => ?_)
   all_goals try exact q_leaf rfl trivial
   all_goals try refine ⟨⟨?_, ?_, ?_, ?_⟩, ?_⟩
   all_goals simp (disch := omega) only [muRate, g107s0_, g107s1_, ev_v, ev_fn, ev_ki, ev_ks, toI_i, toS_s, toB_b, ev_len, ev_add, ev_sub, ev_mul, ev_quo, ev_rem, ev_cv, ev_cut, ev_cat, beq_t, beq_f, bne_t, bne_f, blt_t, blt_f, ble_t, ble_f, bgt_t, bgt_f, bge_t, bge_f, bseq_t, bseq_f, bfits_t, bfits_f, wr64, List.length_take, List.length_drop, List.length_append] at *
   all_goals omega
  | 1, ⟨h1, h2, h3, h4⟩ =>
   show Round _ _ _ _ _ (leafOf ι g107t1)
   unfold g107t1
   repeat' refine round_fork (fun _ => ?_) (fun _ => ?_)
   all_goals try exact q_leaf rfl trivial
   all_goals try refine ⟨⟨h1, h2, ?_, ?_⟩, ?_⟩
   all_goals simp (disch := omega) only [muRate, g107s2_, g107s3_, ev_v, ev_fn, ev_ki, ev_ks, toI_i, toS_s, toB_b, ev_len, ev_add, ev_sub, ev_mul, ev_quo, ev_rem, ev_cv, ev_cut, ev_cat, beq_t, beq_f, bne_t, bne_f, blt_t, blt_f, ble_t, ble_f, bgt_t, bgt_f, bge_t, bge_f, bseq_t, bseq_f, bfits_t, bfits_f, wr64, List.length_take, List.length_drop, List.length_append] at *
   all_goals omega
  | _ + 2, h => exact absurd rfl h
end Go.Eng
