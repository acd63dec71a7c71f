/-
 What the listed variables' readings give the walk (strconv's two errors, the powers of ten), and the row's contract lifted.
-/
import Derived.Test.YtngmgpmkjdacaaaGreatDoorTie
import Derived.Test.YtngmgpmkjdacaaaGreatDoorCards
import Derived.Test.YtngmgpmkjdacaaaGreatDoorMArgs
import Derived.Test.YtngmgpmkjdacaaaGreatDoorMFacts
import Derived.Test.YtngmgpmkjdacaaaGreatDoorMWalk
import Derived.WalkKit
import Derived.ProofKit
import Derived.OpenShut
import Derived.LaidLaws
import Derived.LaidMore
import Derived.Lay
import Derived.ChangeOld
import Derived.Below
import Derived.SevenTiedAt
import Derived.Stop.Joined
set_option linter.unusedSimpArgs false
set_option linter.unusedVariables false
namespace Go.Proofs.YtngmgpmkjdacaaaGreatDoor
open Go.ChangeShapes Go.WideShapes Go.ChangeAt Go.RowKit

theorem trod_name {H : Type} {enc : TypeId × Value → H} {P : Program} {w : World} {base : Nat} {spare : Nat → Bool} {fuel : Nat} {t : TypeId} {ms : Array (String × TypeId)} {cs : List Value} {name : String} {d : DataW H} {ps : List MemPlace}
  (ht : P.underlying t = some (.interface ms)) (h : DataW.trod enc P w base spare false fuel t cs = some (.iface name d, ps)) : ∃ u v, cs = [.iface u v] ∧ P.typeName? 3 u = some name := by
 cases fuel with
 | zero => simp [DataW.trod] at h
 | succ n =>
  unfold DataW.trod at h
  rw [ht] at h
  match cs, h with
  | [x], h =>
   cases x with
   | iface u v =>
    refine ⟨u, v, rfl, ?_⟩
    simp only at h
    cases hn : P.typeName? 3 u with
    | none => rw [hn] at h; cases h
    | some m =>
     rw [hn] at h
     simp only [Option.map_eq_some_iff, Prod.mk.injEq, DataW.iface.injEq] at h
     obtain ⟨x, _, ⟨e, _⟩, _⟩ := h
     rw [e]
   | _ => simp at h
  | [], h => simp at h
  | a :: b :: l, h => cases a <;> simp at h

theorem star : "*" ++ "errors.errorString" = "*errors.errorString" := by decide
theorem err_type {u : TypeId} (h : Tryz.prog.typeName? 3 u = some "*errors.errorString") : u = 389 :=
 typeName_ptr_named (nm := "errors.errorString") (by rw [star]; kernel_rfl) (by kernel_rfl) (by decide) u (by rw [star]; exact h)

theorem row_of {W : World} (hs : W.ShapedOpen Tryz.prog) (g : Nat) (t : TypeId) (hg : g < Tryz.prog.globals.size)
  (hz : (((begin Tryz.prog (fun _ _ => 0) default).world.heap[g]?).bind Obj.row?).map (·.2) = some t) : ∃ cs, W.heap[g]? = some (.cells cs t) := by
 obtain ⟨⟨zero, t'⟩, h1, h2⟩ := Option.map_eq_some_iff.1 hz
 cases h2
 obtain ⟨cs, h3, _⟩ := hs.1 g zero _ hg h1
 exact ⟨cs, h3⟩
theorem var_row {W : World} {n : String} {g : Nat} {t : TypeId} {cs cs' : Array Value} (hg : Tryz.prog.globalNamed n = some g) (hv : W.var? Tryz.prog n = some cs) (hr : W.heap[g]? = some (.cells cs' t)) : cs' = cs := by
 unfold World.var? at hv
 rw [hg] at hv
 simp only [Option.bind_some] at hv
 rw [hr] at hv
 exact Option.some.inj hv

theorem pow_row {H : Type} {enc : TypeId × Value → H} {W : World} {spare : Nat → Bool} {fuel : Nat} {cs : Array Value} {p : List MemPlace}
  (hd : DataW.trod enc Tryz.prog W 0 spare false fuel 361 cs.toList = some (Rows.laid_internal_strconv_uint64pow10, p)) : cs = Go.Eng.powRow := by
 obtain ⟨xs, m, _, ex, hlen, hl, hel⟩ := DataW.trod_array Tryz.underlying361 hd
 have c8 : Tryz.prog.cellsOf 34 = 1 := by kernel_rfl
 have hn : cs.toList.length = 20 := hlen.trans (by kernel_rfl)
 have e3 : xs.map (·.1) = Go.Eng.powL.map fun n => .lit (.int .u64 (Int.ofNat n)) := (DataW.agg.inj (Prod.mk.inj ex).1).symm
 have hp : Go.Eng.powL.length = 20 := rfl
 apply Array.toList_inj.1
 apply List.ext_getElem?
 intro r
 by_cases hr : r < 20
 ·have hE := hel r hr
  rw [c8, Nat.mul_one, List.getElem?_eq_getElem (by omega)] at hE
  obtain ⟨z, e1, e2, _⟩ := DataW.trod_int Tryz.underlying34 hE
  have e4 : (xs.map (·.1))[r]? = (Go.Eng.powL.map fun n => (DataW.lit (.int .u64 (Int.ofNat n)) : DataW H))[r]? := by rw [e3]
  rw [List.getElem?_map, List.getElem?_map, List.getElem?_eq_getElem (by omega : r < xs.length), List.getElem?_eq_getElem (by omega : r < Go.Eng.powL.length), e2] at e4
  simp only [Option.map_some, Option.some.injEq, DataW.lit.injEq, Lit.int.injEq, true_and] at e4
  have e5 : cs.toList[r]? = some (.int .u64 z) := by
   have h0 : ((cs.toList.drop r).take 1)[0]? = some (.int .u64 z) := by rw [e1]; rfl
   simpa using h0
  rw [e5, e4]
  show _ = (Go.Eng.powL.map fun n => Value.int .u64 (.ofNat n))[r]?
  rw [List.getElem?_map, List.getElem?_eq_getElem (by omega : r < Go.Eng.powL.length)]
  rfl
 ·rw [List.getElem?_eq_none (by omega)]
  exact (List.getElem?_eq_none (by show (Go.Eng.powL.map _).length ≤ r; rw [List.length_map]; omega)).symm

theorem err_at {H : Type} {enc : TypeId × Value → H} {W : World} {spare : Nat → Bool} {fuel g : Nat} {cs cs' : Array Value} {d : DataW H} {p : List MemPlace} {n : String} (hg : Tryz.prog.globalNamed n = some g) (hv : W.var? Tryz.prog n = some cs)
  (hr : W.heap[g]? = some (.cells cs' 197)) (hd : DataW.trod enc Tryz.prog W 0 spare false fuel 197 cs.toList = some (.iface "*errors.errorString" d, p)) : Go.Eng.ErrAt W g := by
 obtain rfl := var_row hg hv hr
 obtain ⟨u, v, e1, e2⟩ := trod_name Tryz.underlying197 hd
 obtain rfl := err_type e2
 refine ⟨_, _, v, hr, ?_⟩
 rw [← Array.getElem?_toList, e1]
 rfl

theorem wt_of {W : World} (hs : W.ShapedOpen Tryz.prog) (h : laidMetH Tryz.prog Rows.topLinesRow.laid W) : Go.Eng.WT W := by
 rw [MakeChecks.laidMetH_plain _ _ _ (by kernel_rfl)] at h
 obtain ⟨ps, ⟨_, _, _, _, _, _, _, _, _, _, ⟨_, _, _, _, _, _, _, _, _, _, ⟨g2, t2, cs2, f2, p2, q2, hg2, ht2, hv2, hd2, ⟨_, _, _, _, _, _, _, _, _, _, ⟨g4, t4, cs4, f4, p4, q4, hg4, ht4, hv4, hd4, ⟨g5, t5, cs5, f5, p5, q5, hg5, ht5, hv5, hd5, _, _⟩, _⟩, _⟩, _⟩, _⟩, _⟩, _, _⟩ := h
 have n2 : Tryz.prog.globalNamed "internal/strconv.uint64pow10" = some 1 := by kernel_rfl
 have n4 : Tryz.prog.globalNamed "strconv.ErrRange" = some 7 := by kernel_rfl
 have n5 : Tryz.prog.globalNamed "strconv.ErrSyntax" = some 6 := by kernel_rfl
 obtain rfl := Option.some.inj (n2.symm.trans hg2)
 obtain rfl := Option.some.inj (n4.symm.trans hg4)
 obtain rfl := Option.some.inj (n5.symm.trans hg5)
 obtain rfl := Option.some.inj ((show (Tryz.prog.globals[1]?).map (·.type) = some 361 by kernel_rfl).symm.trans ht2)
 obtain rfl := Option.some.inj ((show (Tryz.prog.globals[7]?).map (·.type) = some 197 by kernel_rfl).symm.trans ht4)
 obtain rfl := Option.some.inj ((show (Tryz.prog.globals[6]?).map (·.type) = some 197 by kernel_rfl).symm.trans ht5)
 obtain ⟨c1, r1⟩ := row_of hs 1 361 (by decide +kernel) (by kernel_rfl)
 obtain ⟨c6, r6⟩ := row_of hs 6 197 (by decide +kernel) (by kernel_rfl)
 obtain ⟨c7, r7⟩ := row_of hs 7 197 (by decide +kernel) (by kernel_rfl)
 obtain rfl := var_row n2 hv2 r1
 rw [pow_row hd2] at r1
 exact ⟨⟨err_at n5 hv5 r6 hd5, err_at n4 hv4 r7 hd4⟩, _, r1⟩

theorem own : ownKnob Tryz.prog.godebug = none := by kernel_rfl

set_option maxRecDepth 100000 in
theorem lifted (os : Os) (started : os.Started) (H : Type) (enc : TypeId × Value → H) :
  ReturnsInHanded {} Tryz.checked os 3 .any (fun w args => (Rows.topLinesSpec.pre enc Tryz.prog Tryz.f3 [] false w args ∧ laidMetH Tryz.prog Rows.topLinesRow.laid w) ∧ sizedMet enc Tryz.prog Tryz.f3 (OpenSpec.ofChange Rows.topLinesSpec) false w args)
   (Rows.topLinesSpec.post enc Tryz.prog Tryz.f3 false true false false) := by
 refine returnsInHanded_of_calls own started (by kernel_rfl)
  (ChangeSpec.witness_shaped (enc := enc) (C := Tryz.checked) (os := os) (X := fun w _ => laidMetH Tryz.prog Rows.topLinesRow.laid w) false (World.laidAll Tryz.prog os Rows.topLinesRow.laid) #[.agg #[.slice none 0 0, .slice none 0 0], .slice none 0 0, .int .i64 0] 8 (World.laidAll_os _ _ _)
   (World.shaped_of_ZipB (by kernel_rfl) (by kernel_rfl)) (by kernel_rfl) (by kernel_rfl) (by kernel_rfl)
   (by rw [MakeChecks.laidMetH_plain _ _ _ (by kernel_rfl)]; exact laidMet_laidAll _ (by kernel_rfl) (by kernel_rfl))) ?_
 intro w tape i _ hs _ hok hpre _
 obtain ⟨_, _, _, fn', hfn', _, _, _, _, hval1⟩ := hok
 obtain rfl : fn' = Tryz.f3 := Option.some.inj (hfn'.symm.trans Tryz.func3)
 obtain ⟨⟨⟨ds, gs, before, hW0, _⟩, hL0⟩, _⟩ := hpre
 have hW1 := DataW.Whole.of_heap (w' := w.forCall tape i) (by rfl) hW0
 have hT : Go.Eng.WT (w.forCall tape i) := wt_of hs (hL0.of_heap (by rfl))
 suffices hmain : Calls Tryz.prog 3 i.args (w.forCall tape i) fun e W' => ∃ v, e = .returned v ∧ Rows.topLinesSpec.post enc Tryz.prog Tryz.f3 false true false false (w.forCall tape i) i.args v W' from
  hmain.mono fun e W' ⟨v, he, hp⟩ => by subst he; exact ChangeSpec.post_blind hp
 clear hs hL0 hW0 hfn'
 generalize w.heap.size = base at hval1
 generalize w.forCall tape i = W at hval1 hW1 hT ⊢
 generalize i.args = args at hval1 hW1 ⊢
 have hval0 : ∀ (j : Nat) t v, Tryz.f3.params[j]? = some t → args[j]? = some v → Value.okWide Tryz.prog W .any base t v := hval1
 have hval := hval0
 have hW' := hW1
 obtain ⟨p, q, hA0, hV, rfl, hfz, hnd⟩ := hW1
 have hA : DataW.TrodAll enc Tryz.prog W 0 (fun _ => true) true Tryz.f3.params.toList args.toList ds p := hA0
 rw [Tryz.params3] at hA hval
 obtain ⟨v0, vs0, d0, ds0, p0, q0, hargs, rfl, rfl, h0, r0⟩ := trodAll_cons hA
 obtain ⟨v1, vs1, d1, ds1, p1, q1, rfl, rfl, rfl, h1, r1⟩ := trodAll_cons r0
 obtain ⟨v2, vs2, d2, ds2, p2, q2, rfl, rfl, rfl, h2, r2⟩ := trodAll_cons r1
 obtain ⟨rfl, rfl, rfl⟩ := trodAll_nil r2
 obtain rfl : args = #[v0, v1, v2] := by cases args; simp_all
 obtain ⟨rfl, rfl⟩ := trodVars_none hV
 obtain ⟨cs0, rfl, _⟩ := okWide_array Tryz.underlying23 (hval 0 23 v0 rfl rfl)
 have k0 := h0
 have lt0 : ∀ x ∈ p0, x.block < W.heap.size := by obtain ⟨m, hm⟩ := k0; exact DataW.trod_lt m _ _ _ hm
 obtain ⟨fu0, hf0⟩ := h0
 obtain ⟨x0, K0⟩ := openTwo H enc W _ _ _ fu0 _ _ hf0
 obtain ⟨a1, len1, cap1, rfl⟩ := okWide_slice Tryz.underlying22 (hval 1 22 v1 rfl rfl)
 have k1 := h1
 have lt1 : ∀ x ∈ p1, x.block < W.heap.size := by obtain ⟨m, hm⟩ := k1; exact DataW.trod_lt m _ _ _ hm
 obtain ⟨fu1, hf1⟩ := h1
 obtain ⟨x1, K1⟩ := openBytes H enc W _ _ _ fu1 _ _ hf1
 obtain ⟨A1, C1, e1, L1, R1⟩ := K1
 simp [Value.cells] at e1
 obtain ⟨rfl, rfl, rfl⟩ := e1
 obtain ⟨x2, rfl, rfl, rfl, w2⟩ := open_int Tryz.underlying3 (hval 2 3 v2 rfl rfl) h2
 obtain ⟨B1, D1, B2, D2, e1, s1, s2⟩ := K0
 obtain rfl := agg2 e1
 have T0 := tidy_two (hval 0 23 _ rfl rfl)
 have T1 := tidy_of Tryz.underlying22 (hval 1 22 _ rfl rfl)
 clear hA0 hval0 hval1
 refine (Go.Eng.top_any hT s1.2 T0.1.1 s1.1 s2.2 T0.2.1 s2.1 T0.2.2 R1 T1.1 L1.1).mono fun e W' ⟨he, bel⟩ => ?_
 subst he
 exact ⟨_, rfl, _, _, _, [], _, [], hW', trodAll_mk1 (shut_bool Tryz.underlying4 _), (trodAll_cons_mk (Below.trod laidOut (by kernel_rfl) (of_decide_eq_true (by kernel_rfl)) k0 bel lt0) (trodAll_cons_mk (Below.trod laidOut (by kernel_rfl) (of_decide_eq_true (by kernel_rfl)) k1 bel lt1) (trodAll_cons_mk (shut_int Tryz.underlying3 w2) trodAll_mk0))), rfl, bel.frame _, fun h => by cases h⟩
end Go.Proofs.YtngmgpmkjdacaaaGreatDoor
