/-
  The walk of EventBehind.
-/
import Derived.Test.YtigchloekolaoaaZ
import Derived.Test.YtigchloekolaoaaEventBehindPlain
import Derived.Test.YtigchloekolaoaaEventTellsCodesWalk
import Derived.Lib.Hide
import Derived.Deep.RegionWith
namespace Go.Proofs.Ytigchloekolaoaa.PEventTells
open Go.RowKit Go.Proofs.YtigchloekolaoaaW.PrintWords Go.Proofs.YtigchloekolaoaaW.PrintLast Go.Proofs.YtigchloekolaoaaW.PrintMore

section
variable {P : Program} {md : Region.Mode} {ops : Array Oper} {Q : Exit → Act → World → Prop} {S : World → Prop} {z : Nat}
theorem z_oneg {i : Nat} {oi : Oper} {fuel : Nat} {listed : Array Bool} {a : Act} {w : World} (hr : Region.ready md ops listed = [i]) (hi : ops[i]? = some oi) (hg : Region.wanted oi (yielded ops a.tmps) = true)
    (h : oi.wp P a w (fun a' w' => (i = z ∨ S w') ∧ wpAnyZ P md ops Q S z fuel (listed.setIfInBounds i true) a' w') Q) : wpAnyZ P md ops Q S z (fuel + 1) listed a w := by
  refine ⟨fun h0 => (by rw [h0] at hr; cases hr), fun j hj => ?_⟩
  rw [hr] at hj
  obtain rfl := List.mem_singleton.1 hj
  unfold wpOp
  rw [hi]
  dsimp only
  rw [if_pos hg]
  exact .inl h
end

theorem few_calls (A : Option Addr) (cc : Nat) (l : List S46) (w : World) (hr : Kd.C k46 w A l.length l) (hc : l.length ≤ cc) :
    Calls Try.prog 9 #[.slice A l.length cc] w fun e w' => e = .returned (.bool (few21B l)) ∧ Below w.heap.size w w' := by
  obtain ⟨k, hk⟩ := (few21_ev l).rounds
  exact forebaylaw21_Few.calls k A cc l _ w hr hc hk

theorem awake_calls (w : World) : Calls Try.prog 10 #[] w fun e w' => e = .returned (.bool true) ∧ Below w.heap.size w w' := by
  obtain ⟨k, hk⟩ := awake_ev.rounds
  exact forebaylaw21_awake.calls k true w hk

/-- Counts as a value. -/
def agg7 (x : C7) : Array Value := #[.int .i64 x.1, .int .i64 x.2.1, .int .i64 x.2.2.1, .int .i64 x.2.2.2.1, .int .i64 x.2.2.2.2.1, .int .i64 x.2.2.2.2.2.1, .int .i64 x.2.2.2.2.2.2]

theorem count_calls (A : Option Addr) (cc : Nat) (l : List S46) (w : World) (hl : l.length ≤ 1000) (hr : Kd.C k46 w A l.length l) (hc : l.length ≤ cc) :
    Calls Try.prog 11 #[.slice A l.length cc] w fun e w' => e = .returned (.agg #[.int .i64 (cnt l zero7).1, .int .i64 (cnt l zero7).2.1, .int .i64 (cnt l zero7).2.2.1, .int .i64 (cnt l zero7).2.2.2.1, .int .i64 (cnt l zero7).2.2.2.2.1, .int .i64 (cnt l zero7).2.2.2.2.2.1, .int .i64 (cnt l zero7).2.2.2.2.2.2]) ∧ Below w.heap.size w w' := by
  obtain ⟨k, hk⟩ := (count_ev l hl).rounds
  exact event_Count.calls k A cc l _ _ _ _ _ _ _ w hr hc hk

theorem add_calls (x y : C7) (w : World) : Calls Try.prog 13 #[.agg #[.int .i64 x.1, .int .i64 x.2.1, .int .i64 x.2.2.1, .int .i64 x.2.2.2.1, .int .i64 x.2.2.2.2.1, .int .i64 x.2.2.2.2.2.1, .int .i64 x.2.2.2.2.2.2], .agg #[.int .i64 y.1, .int .i64 y.2.1, .int .i64 y.2.2.1, .int .i64 y.2.2.2.1, .int .i64 y.2.2.2.2.1, .int .i64 y.2.2.2.2.2.1, .int .i64 y.2.2.2.2.2.2]] w fun e w' => e = .returned (.agg #[.int .i64 (add7 x y).1, .int .i64 (add7 x y).2.1, .int .i64 (add7 x y).2.2.1, .int .i64 (add7 x y).2.2.2.1, .int .i64 (add7 x y).2.2.2.2.1, .int .i64 (add7 x y).2.2.2.2.2.1, .int .i64 (add7 x y).2.2.2.2.2.2]) ∧ Below w.heap.size w w' :=
  event_Add.calls _ _ _ _ _ _ _ _ _ _ _ _ _ _ _ _ _ _ _ _ _ w rfl

/-- 'append(v, x...)' of events. -/
theorem append_evs (w0 W : World) {ops : Array Oper} {rest : List Oper} {o : Oper} {aa : Act} {Q : Exit → Act → World → Prop} (hgd : o.guard = none) (s x : Operand)
    (ho : o.op = .call { callee := .builtin .append, args := #[s, x], argTypes := #[22, 22] }) (v : Value) (xs ys : List S46) (A : Option Addr) (m c : Nat) (hs : aa.eval s = v) (hx : aa.eval x = .slice A m c)
    (HO : Kd.N k46 46 W w0.heap.size (fun _ => True) v xs) (HR : Kd.C k46 w0 A m ys) (HB : Below w0.heap.size w0 W) (hl : xs.length + m ≤ 10000)
    (h : ∀ v1 w1, Kd.N k46 46 w1 w0.heap.size (fun _ => True) v1 (xs ++ ys) → Below w0.heap.size w0 w1 → wpList Try.prog ops Q rest (aa.put o.dst v1) w1) : wpList Try.prog ops Q (o :: rest) aa W :=
  Kd.N_append_rows k46 (w0 := w0) w0.heap.size hgd s x 22 46 _ 64 ho Try.underlying22 info46 rfl (by decide) (by omega) v xs ys A m c (fun _ => True) (fun k => k < w0.heap.size) hs hx HO (Kd.F_below (Kd.C_F k46_heap HR) HB)
    (fun k hk => ⟨trivial, fun e => by have := Kd.N_base HO k e.symm; omega⟩) (fun _ _ => trivial) HB HB.size (by omega) (fun v1 w1 h1 h2 _ _ => h v1 w1 h1 h2)

/-- 'append(v, x...)' of metrics of one's own. -/
theorem append_mets (w0 W : World) (b2 : Nat) {ops : Array Oper} {rest : List Oper} {o : Oper} {aa : Act} {Q : Exit → Act → World → Prop} (hgd : o.guard = none) (s x : Operand)
    (ho : o.op = .call { callee := .builtin .append, args := #[s, x], argTypes := #[30, 30] }) (v : Value) (xs ys : List S36) (A : Option Addr) (m c : Nat) (hs : aa.eval s = v) (hx : aa.eval x = .slice A m c) (hm : ys.length = m)
    (HO : Kd.S k36 36 W w0.heap.size (fun _ => True) v xs) (hv : ∀ k, v.ownBlock = some k → k < b2) (HS : Kd.S k36 36 W b2 (fun _ => True) (.slice A m c) ys) (HB : Below w0.heap.size w0 W) (hl : xs.length + m ≤ 10000)
    (h : ∀ v1 w1, Kd.N k36 36 w1 w0.heap.size (fun _ => True) v1 (xs ++ ys) → Below w0.heap.size w0 w1 → wpList Try.prog ops Q rest (aa.put o.dst v1) w1) : wpList Try.prog ops Q (o :: rest) aa W := by
  subst hm
  exact Kd.N_append_rows k36 (w0 := w0) w0.heap.size hgd s x 30 36 _ 88 ho Try.underlying30 info36 rfl (by decide) (by omega) v xs ys A _ c (fun _ => True) _ hs hx (Kd.S_N HO) (Kd.V_F (Kd.S_V (base' := 0) (Kd.S_bound HS)))
    (fun k hk => ⟨trivial, fun e => by have := hv k e.symm; have := hk.2.1; omega⟩) (fun _ _ => trivial) HB HB.size (by omega) (fun v1 w1 h1 h2 _ _ => h v1 w1 h1 h2)

/-- Events that are not too great. -/
structure SmL (l : List S46) : Prop where
  len : l.length ≤ 120
  el : ∀ e ∈ l, SmE e
  mets : (mets l).length ≤ 4800
  wf : ∀ e ∈ l, W64 e.f4

theorem SmL.met {l : List S46} (h : SmL l) : ∀ m ∈ PEventTells.mets l, Sm m := mets_sm (fun e he => (h.el e he).2)

theorem smL_of {l : List S46} (hf : few21B l = true) (hw : ∀ e ∈ l, W64 e.f4) : SmL l ∧ l.length ≤ 60 := by
  obtain ⟨h1, h2⟩ := few21_sm hf
  have := mets_len l (fun e he => (h2 e he).1)
  exact ⟨⟨by omega, h2, by omega, hw⟩, h1⟩

theorem smL_append {a b : List S46} (ha : SmL a) (hb : SmL b) (h1 : a.length ≤ 60) (h2 : b.length ≤ 60) : SmL (a ++ b) := by
  have h3 := mets_len a (fun e he => (ha.el e he).1)
  have h4 := mets_len b (fun e he => (hb.el e he).1)
  refine ⟨by rw [List.length_append]; omega, fun e he => ?_, by rw [mets_append, List.length_append]; omega, fun e he => ?_⟩
  · rcases List.mem_append.1 he with h | h
    · exact ha.el e h
    · exact hb.el e h
  · rcases List.mem_append.1 he with h | h
    · exact ha.wf e h
    · exact hb.wf e h

theorem evmets_calls (A : Option Addr) (cc : Nat) (l : List S46) (w : World) (h : SmL l) (hr : Kd.C k46 w A l.length l) (hc : l.length ≤ cc) :
    Calls Try.prog 16 #[.slice A l.length cc] w fun e w' => ∃ v, e = .returned v ∧ Kd.S k36 36 w' w.heap.size (fun _ => True) v (mets l) ∧ Below w.heap.size w w' := by
  obtain ⟨k, hk⟩ := (evmets_ev2 l (by have := h.len; omega) h.el (by have := h.mets; omega)).rounds
  exact event_Metrics.calls k A cc l _ w hr hc hk

theorem equal_calls (A : Option Addr) (cc : Nat) (B : Option Addr) (cb : Nat) (l : List S36) (w : World) (hl : l.length ≤ 4800) (hs : ∀ m ∈ l, Sm m) (hr : Kd.C k36 w A l.length l) (hc : l.length ≤ cc) (hr2 : Kd.C k36 w B l.length l) (hc2 : l.length ≤ cb) :
    Calls Try.prog 17 #[.slice A l.length cc, .slice B l.length cb] w fun e w' => e = .returned (.bool true) ∧ Below w.heap.size w w' := by
  obtain ⟨k, hk⟩ := (eq8_ev l (by omega) hs).rounds
  exact forebayref08_Equal.calls k A cc l B cb l true w hr hc hr2 hc2 hk

theorem evequal_calls (A B : Option Addr) (ca cb : Nat) (a b : List S46) (w : World) (h : SmL a) (hra : Kd.C k46 w A a.length a) (hca : a.length ≤ ca) (hrb : Kd.C k46 w B b.length b) (hcb : b.length ≤ cb) :
    Calls Try.prog 19 #[.slice A a.length ca, .slice B b.length cb] w fun e w' => e = .returned (.bool (allB evB a b)) ∧ Below w.heap.size w w' := by
  obtain ⟨k, hk⟩ := (evs_ev a b (by have := h.len; omega) h.el).rounds
  exact event_Equal.calls k A ca a B cb b _ w hra hca hrb hcb hk

/-- Counts that stand in a box. -/
structure BoxAt (g : Nat) (c : C7) (W : World) : Prop where
  lt : g < W.heap.size
  s0 : W.cell? ⟨g, 0, none⟩ = some (.int .i64 c.1)
  s1 : W.cell? ⟨g, 1, none⟩ = some (.int .i64 c.2.1)
  s2 : W.cell? ⟨g, 2, none⟩ = some (.int .i64 c.2.2.1)
  s3 : W.cell? ⟨g, 3, none⟩ = some (.int .i64 c.2.2.2.1)
  s4 : W.cell? ⟨g, 4, none⟩ = some (.int .i64 c.2.2.2.2.1)
  s5 : W.cell? ⟨g, 5, none⟩ = some (.int .i64 c.2.2.2.2.2.1)
  s6 : W.cell? ⟨g, 6, none⟩ = some (.int .i64 c.2.2.2.2.2.2)

theorem BoxAt.below {g : Nat} {c : C7} {W W1 : World} (h : BoxAt g c W) (hb : Below W.heap.size W W1) : BoxAt g c W1 :=
  ⟨Nat.lt_of_lt_of_le h.lt hb.size, (hb.cell (p := ⟨g, 0, none⟩) h.lt).trans h.s0, (hb.cell (p := ⟨g, 1, none⟩) h.lt).trans h.s1, (hb.cell (p := ⟨g, 2, none⟩) h.lt).trans h.s2, (hb.cell (p := ⟨g, 3, none⟩) h.lt).trans h.s3,
    (hb.cell (p := ⟨g, 4, none⟩) h.lt).trans h.s4, (hb.cell (p := ⟨g, 5, none⟩) h.lt).trans h.s5, (hb.cell (p := ⟨g, 6, none⟩) h.lt).trans h.s6⟩

theorem box_at (w : World) (c : C7) : BoxAt w.heap.size c (w.alloc (.cells #[.int .i64 c.1, .int .i64 c.2.1, .int .i64 c.2.2.1, .int .i64 c.2.2.2.1, .int .i64 c.2.2.2.2.1, .int .i64 c.2.2.2.2.2.1, .int .i64 c.2.2.2.2.2.2] 24)) := by
  refine ⟨by rw [World.size_alloc]; omega, ?_, ?_, ?_, ?_, ?_, ?_, ?_⟩ <;> (rw [World.cell?_alloc_new]; rfl)

theorem w_small {i : Int} (h0 : 0 ≤ i) (h1 : i < 100000) : wrap64 i = i := by unfold wrap64; omega

/-- The sums of the first counts. -/
theorem sums_spec (f : Int → Nat) (cs : List Int) (hp : cs.Pairwise (· < ·)) (h1 : ∀ c ∈ cs, 0 < f c) (m : Nat) (hm : (cs.map f).sum = m) :
    ∃ S : Nat → Nat, S 0 = 0 ∧ S cs.length = m ∧ (∀ i, i < cs.length → S (i + 1) = S i + f (cs.getD i 0) ∧ S (i + 1) ≤ m ∧ 0 < f (cs.getD i 0) ∧ (cs.map fun c => (f c : Int)).getD i 0 = (f (cs.getD i 0) : Int)) ∧
      (∀ i, i + 1 < cs.length → cs.getD i 0 < cs.getD (i + 1) 0) := by
  refine ⟨fun i => ((cs.take i).map f).sum, by simp, by simpa using hm, fun i hi => ?_, fun i hi => ?_⟩
  · have e : cs.getD i 0 = cs[i] := by rw [List.getD_eq_getElem?_getD, List.getElem?_eq_getElem hi]; rfl
    have ht : cs.take (i + 1) = cs.take i ++ [cs[i]] := by rw [List.take_append_getElem hi]
    have hle : ((cs.take (i + 1)).map f).sum ≤ m := by
      have : (cs.map f).sum = ((cs.take (i + 1)).map f).sum + ((cs.drop (i + 1)).map f).sum := by
        rw [← List.sum_append, ← List.map_append, List.take_append_drop]
      omega
    refine ⟨?_, hle, ?_, ?_⟩
    · show ((cs.take (i + 1)).map f).sum = _
      rw [ht, List.map_append, List.sum_append, e]
      simp
    · rw [e]; exact h1 _ (List.getElem_mem hi)
    · rw [e, List.getD_eq_getElem?_getD, List.getElem?_map, List.getElem?_eq_getElem hi]; rfl
  · have e : cs.getD i 0 = cs[i] := by rw [List.getD_eq_getElem?_getD, List.getElem?_eq_getElem (by omega)]; rfl
    have e1 : cs.getD (i + 1) 0 = cs[i + 1] := by rw [List.getD_eq_getElem?_getD, List.getElem?_eq_getElem hi]; rfl
    rw [e, e1]
    exact List.pairwise_iff_getElem.1 hp i (i + 1) (by omega) hi (by omega)

/-- Events behind others are those behind these, where either is empty. -/
theorem both_eq (a b : List S46) (h : a = [] ∨ b = []) : allB evB (a ++ b) (b ++ a) = true := by
  rcases h with rfl | rfl
  · rw [List.nil_append, List.append_nil]; exact allB_refl _ evB_refl _
  · rw [List.nil_append, List.append_nil]; exact allB_refl _ evB_refl _

set_option maxRecDepth 100000 in
set_option maxHeartbeats 4000000 in
theorem eventBehind_small (A : Option Addr) (ca : Nat) (a : List S46) (B : Option Addr) (cb : Nat) (b : List S46) (w : World) (hra : Kd.C k46 w A a.length a) (hca : a.length ≤ ca) (hrb : Kd.C k46 w B b.length b) (hcb : b.length ≤ cb) (hf : few21B a = false ∨ few21B b = false) :
    Calls Try.prog 8 #[.slice A a.length ca, .slice B b.length cb] w fun e w' => e = .returned (.bool true) ∧ Below w.heap.size w w' := by
  have HA := Lib.hid hra
  have HB := Lib.hid hrb
  clear hra hrb
  go_enter Try.func8, Try.ntmps8
  go_wp2_with fail
  refine (few_calls A ca a _ HA.out hca).mono ?_
  rintro e w1 ⟨rfl, hb1⟩
  have HB1 := Lib.hid hb1
  clear hb1
  cases ha : few21B a with
  | false =>
    clear hf ha
    go_wp2_with fail
    refine (awake_calls _).mono ?_
    rintro e w2 ⟨rfl, hb2⟩
    have HB2 := Lib.hid (HB1.out.trans (hb2.mono HB1.out.size))
    clear hb2
    go_wp2_with fail
    go_ret
    exact ⟨rfl, HB2.out⟩
  | true =>
    have hb := hf.resolve_left (by rw [ha]; decide)
    have HFB := Lib.hid hb
    clear hf ha hb
    go_wp2_with fail
    refine (few_calls B cb b _ (Kd.C_below HB.out HB1.out) hcb).mono ?_
    rintro e w2 ⟨rfl, hb2⟩
    rw [HFB.out]
    have HB2 := Lib.hid (HB1.out.trans (hb2.mono HB1.out.size))
    clear hb2
    go_wp2_with fail
    refine (awake_calls _).mono ?_
    rintro e w3 ⟨rfl, hb3⟩
    have HB3 := Lib.hid (HB2.out.trans (hb3.mono HB2.out.size))
    clear hb3
    go_wp2_with fail
    go_ret
    exact ⟨rfl, HB3.out⟩

set_option maxRecDepth 100000 in
set_option maxHeartbeats 8000000 in
theorem eventBehind_in (A : Option Addr) (ca n : Nat) (a : List S46) (B : Option Addr) (cb m : Nat) (b : List S46) (w : World) (hn : a.length = n) (hm : b.length = m) (hra : Kd.C k46 w A a.length a) (hca : a.length ≤ ca) (hrb : Kd.C k46 w B b.length b) (hcb : b.length ≤ cb) (hfa : few21B a = true) (hfb : few21B b = true) (hwa : ∀ e ∈ a, W64 e.f4) (hwb : ∀ e ∈ b, W64 e.f4) :
    Calls Try.prog 8 #[.slice A n ca, .slice B m cb] w fun e w' => e = .returned (.bool true) ∧ Below w.heap.size w w' := by
  have HA := Lib.hid hra
  have HB := Lib.hid hrb
  have HFA := Lib.hid hfa
  have HFB := Lib.hid hfb
  have hsa := smL_of hfa hwa
  have hsb := smL_of hfb hwb
  have HSA := Lib.hid hsa.1
  have HSB := Lib.hid hsb.1
  have HAB := Lib.hid (smL_append hsa.1 hsb.1 hsa.2 hsb.2)
  have HBA := Lib.hid (smL_append hsb.1 hsa.1 hsb.2 hsa.2)
  have hla := hsa.2
  have hlb := hsb.2
  clear hra hrb hfa hfb hwa hwb hsa hsb
  subst hn
  subst hm
  go_enter Try.func8, Try.ntmps8
  go_wp2_with fail
  refine (few_calls A ca a _ HA.out hca).mono ?_
  rintro e w1 ⟨rfl, hb1⟩
  rw [HFA.out]
  have HB1 := Lib.hid hb1
  clear hb1
  go_wp2_with fail
  refine (few_calls B cb b _ (Kd.C_below HB.out HB1.out) hcb).mono ?_
  rintro e w2 ⟨rfl, hb2⟩
  rw [HFB.out]
  have hb12 := HB1.out.trans (hb2.mono HB1.out.size)
  have HB2 := Lib.hid hb12
  have HA2 := Lib.hid (Kd.C_below HA.out hb12)
  have HR2 := Lib.hid (Kd.C_below HB.out hb12)
  have b0 := (Below.refl w2.heap.size w2).alloc (Nat.le_refl _) (.cells #[] 46)
  have hN0 : Kd.N k46 46 (w2.alloc (.cells #[] 46)) w2.heap.size (fun _ => True) (.slice (some ⟨w2.heap.size, 0, none⟩) 0 0) [] := Kd.R_N ⟨fun _ _ => trivial, [], World.ownsRow_made w2 #[] 0 (Nat.le_refl _) (by decide) rfl, Reps.none _ _⟩
  clear hb2 hb12 HB1
  have hl1 : ([] : List S46).length + a.length ≤ 10000 := by simp only [List.length_nil]; omega
  have hl2 : ([] ++ a).length + b.length ≤ 10000 := by rw [List.nil_append]; omega
  go_wp2_with (first
    | (at_builtin; refine append_evs w2 _ rfl _ _ rfl (.slice (some ⟨w2.heap.size, 0, none⟩) 0 0) [] a A a.length ca rfl rfl hN0 HA2.out b0 hl1 ?_; intro v3 w3 hN3 hb3)
    | (at_builtin; refine append_evs w2 _ rfl _ _ rfl v3 ([] ++ a) b B b.length cb rfl rfl hN3 HR2.out hb3 hl2 ?_; intro v4 w4 hN4 hb4
       have hN5 := Kd.N_alloc hN4 (.cells #[] 46)
       have HB4 := Lib.hid (HB2.out.trans (hb4.mono HB2.out.size))
       have HA4 := Lib.hid (Kd.C_below HA2.out hb4)
       have HR4 := Lib.hid (Kd.C_below HR2.out hb4)
       have HNB := Lib.hid hN4
       have b4 := (Below.refl w4.heap.size w4).alloc (Nat.le_refl _) (.cells #[] 46)
       have hM0 : Kd.N k46 46 (w4.alloc (.cells #[] 46)) w4.heap.size (fun _ => True) (.slice (some ⟨w4.heap.size, 0, none⟩) 0 0) [] := Kd.R_N ⟨fun _ _ => trivial, [], World.ownsRow_made w4 #[] 0 (Nat.le_refl _) (by decide) rfl, Reps.none _ _⟩
       have hl3 : ([] : List S46).length + b.length ≤ 10000 := by simp only [List.length_nil]; omega
       have hl4 : ([] ++ b).length + a.length ≤ 10000 := by rw [List.nil_append]; omega
       clear hN0 b0 hl1 hl2 hN3 hb3 hb4 hN5 hN4)
    | (at_builtin; refine append_evs w4 _ rfl _ _ rfl (.slice (some ⟨w4.heap.size, 0, none⟩) 0 0) [] b B b.length cb rfl rfl hM0 HR4.out b4 hl3 ?_; intro v5 w5 hM5 hb5)
    | (at_builtin; refine append_evs w4 _ rfl _ _ rfl v5 ([] ++ b) a A a.length ca rfl rfl hM5 HA4.out hb5 hl4 ?_; intro v6 w6 hM6 hb6)
    | fail)
  have hNB := HNB.out
  rw [List.nil_append] at hNB hM6
  have HCA := Lib.hid (cnt_append a b)
  have HCO := Lib.hid (cnt_other a b)
  have HMA := Lib.hid (mets_append a b)
  have HPB := Lib.hid (fun h => show allB evB (a ++ b) (b ++ a) = true from both_eq a b h)
  generalize a ++ b = ab at hNB HAB HCA HCO HMA HPB
  generalize b ++ a = ba at hM6 HBA HCO HPB
  obtain ⟨A7, c7, rfl, hc7, hC7⟩ := Kd.N_reads (Kd.N_below hNB hb6)
  obtain ⟨A8, c8, rfl, hc8, hC8⟩ := Kd.N_reads hM6
  have HC7 := Lib.hid hC7
  have HC8 := Lib.hid hC8
  have HB6 := Lib.hid (HB4.out.trans (hb6.mono HB4.out.size))
  have HA6 := Lib.hid (Kd.C_below HA4.out hb6)
  have HR6 := Lib.hid (Kd.C_below HR4.out hb6)
  clear hNB hC7 hC8 hM6 HNB hb6 HB4 HA4 HR4 HA2 HR2 HB2 hb5 hM5 b4 hM0 hl3 hl4
  go_wp2_with fail
  refine (count_calls A7 c7 ab w6 (by have := HAB.out.len; omega) HC7.out hc7).mono ?_
  rintro e w7 ⟨rfl, hb7⟩
  have HB7 := Lib.hid (HB6.out.trans (hb7.mono HB6.out.size))
  have HA7 := Lib.hid (Kd.C_below HA6.out hb7)
  have HR7 := Lib.hid (Kd.C_below HR6.out hb7)
  have HC71 := Lib.hid (Kd.C_below HC7.out hb7)
  have HC81 := Lib.hid (Kd.C_below HC8.out hb7)
  clear hb7 HB6 HA6 HR6 HC7 HC8
  rw [HCA.out] at HCO
  have HCP := Lib.hid (cnt_parts ab)
  rw [HCA.out] at HCP ⊢
  generalize hc0 : add7 (cnt a zero7) (cnt b zero7) = c0 at HCO HCP ⊢
  go_wp2_with fail
  have b8 := (Below.refl w7.heap.size w7).alloc (Nat.le_refl _) (.cells #[.int .i64 c0.1, .int .i64 c0.2.1, .int .i64 c0.2.2.1, .int .i64 c0.2.2.2.1, .int .i64 c0.2.2.2.2.1, .int .i64 c0.2.2.2.2.2.1, .int .i64 c0.2.2.2.2.2.2] 24)
  have h8 := box_at w7 c0
  generalize w7.alloc (.cells #[.int .i64 c0.1, .int .i64 c0.2.1, .int .i64 c0.2.2.1, .int .i64 c0.2.2.2.1, .int .i64 c0.2.2.2.2.1, .int .i64 c0.2.2.2.2.2.1, .int .i64 c0.2.2.2.2.2.2] 24) = w8 at b8 h8 ⊢
  have b9 := b8.drew
  have hS : BoxAt w7.heap.size c0 w8.drew := h8.below (below_drew (Below.refl _ _))
  refine region_plain (BoxAt w7.heap.size c0) 99 (by kernel_rfl) ?_
  generalize w8.drew = w9 at b9 hS ⊢
  have HB9 := Lib.hid (HB7.out.trans (b9.mono HB7.out.size))
  have HA9 := Lib.hid (Kd.C_below HA7.out b9)
  have HR9 := Lib.hid (Kd.C_below HR7.out b9)
  have HC79 := Lib.hid (Kd.C_below HC71.out b9)
  have HC89 := Lib.hid (Kd.C_below HC81.out b9)
  clear b8 h8 b9 HB7 HA7 HR7 HC71 HC81
  refine z_take (i := 0) (v := ?_) rfl (by kernel_rfl) (by kernel_rfl) (by kernel_rfl) (by kernel_rfl) (fun _ _ _ h => h) (Or.inl ⟨by rfl, ?_⟩) hS ?_
  rotate_left
  · (rintro wS ⟨hlt, s0, s1, s2, s3, s4, s5, s6⟩; (try simp only [List.getElem_toArray, List.getElem_cons_zero]); go_simp <;> with_reducible rfl)
  simp only [Act.put, List.getElem_toArray, List.getElem_cons_zero, List.setIfInBounds_toArray, List.set_cons_zero, List.set_cons_succ]
  refine z_take (i := 1) (v := ?_) rfl (by kernel_rfl) (by kernel_rfl) (by kernel_rfl) (by kernel_rfl) (fun _ _ _ h => h) (Or.inl ⟨by rfl, ?_⟩) hS ?_
  rotate_left
  · (rintro wS ⟨hlt, s0, s1, s2, s3, s4, s5, s6⟩; (try simp only [List.getElem_toArray, List.getElem_cons_zero, List.getElem_cons_succ]); go_simp <;> with_reducible rfl)
  simp only [Act.put, List.getElem_toArray, List.getElem_cons_zero, List.getElem_cons_succ, List.setIfInBounds_toArray, List.set_cons_zero, List.set_cons_succ]
  refine z_take (i := 3) (v := ?_) rfl (by kernel_rfl) (by kernel_rfl) (by kernel_rfl) (by kernel_rfl) (fun _ _ _ h => h) (Or.inl ⟨by rfl, ?_⟩) hS ?_
  rotate_left
  · (rintro wS ⟨hlt, s0, s1, s2, s3, s4, s5, s6⟩; (try simp only [List.getElem_toArray, List.getElem_cons_zero, List.getElem_cons_succ]); go_simp <;> with_reducible rfl)
  simp only [Act.put, List.getElem_toArray, List.getElem_cons_zero, List.getElem_cons_succ, List.setIfInBounds_toArray, List.set_cons_zero, List.set_cons_succ]
  refine z_one (i := 2) (by kernel_rfl) rfl rfl ?_
  go_simp
  refine (count_calls A ca a w9 (by omega) HA9.out hca).mono ?_
  rintro e w10 ⟨rfl, st⟩
  replace hS := hS.below st
  try refine ⟨hS, ?_⟩
  have HBx := Lib.hid (HB9.out.trans (st.mono HB9.out.size))
  have HAx := Lib.hid (Kd.C_below HA9.out st)
  have HRx := Lib.hid (Kd.C_below HR9.out st)
  have HC7x := Lib.hid (Kd.C_below HC79.out st)
  have HC8x := Lib.hid (Kd.C_below HC89.out st)
  clear st HB9 HA9 HR9 HC79 HC89
  refine z_one (i := 4) (by kernel_rfl) rfl rfl ?_
  go_simp
  refine (count_calls B cb b w10 (by omega) HRx.out hcb).mono ?_
  rintro e w11 ⟨rfl, st⟩
  replace hS := hS.below st
  try refine ⟨hS, ?_⟩
  have HBy := Lib.hid (HBx.out.trans (st.mono HBx.out.size))
  have HAy := Lib.hid (Kd.C_below HAx.out st)
  have HRy := Lib.hid (Kd.C_below HRx.out st)
  have HC7y := Lib.hid (Kd.C_below HC7x.out st)
  have HC8y := Lib.hid (Kd.C_below HC8x.out st)
  clear st HBx HAx HRx HC7x HC8x
  refine z_one (i := 5) (by kernel_rfl) rfl rfl ?_
  go_simp
  refine (add_calls (cnt a zero7) (cnt b zero7) w11).mono ?_
  rintro e w12 ⟨rfl, st⟩
  rw [hc0]
  replace hS := hS.below st
  try refine ⟨hS, ?_⟩
  have HBz := Lib.hid (HBy.out.trans (st.mono HBy.out.size))
  have HAz := Lib.hid (Kd.C_below HAy.out st)
  have HRz := Lib.hid (Kd.C_below HRy.out st)
  have HC7z := Lib.hid (Kd.C_below HC7y.out st)
  have HC8z := Lib.hid (Kd.C_below HC8y.out st)
  clear st HBy HAy HRy HC7y HC8y hc0
  refine z_take (i := 6) (v := ?_) rfl (by kernel_rfl) (by kernel_rfl) (by kernel_rfl) (by kernel_rfl) (fun _ _ _ h => h) (Or.inl ⟨by rfl, ?_⟩) hS ?_
  rotate_left
  · (rintro wS ⟨hlt, s0, s1, s2, s3, s4, s5, s6⟩; (try simp only [List.getElem_toArray, List.getElem_cons_zero, List.getElem_cons_succ]); go_simp <;> with_reducible rfl)
  simp only [Act.put, List.getElem_toArray, List.getElem_cons_zero, List.getElem_cons_succ, List.setIfInBounds_toArray, List.set_cons_zero, List.set_cons_succ]
  refine z_take (i := 7) (v := ?_) rfl (by kernel_rfl) (by kernel_rfl) (by kernel_rfl) (by kernel_rfl) (fun _ _ _ h => h) (Or.inl ⟨by rfl, ?_⟩) hS ?_
  rotate_left
  · (rintro wS ⟨hlt, s0, s1, s2, s3, s4, s5, s6⟩; (try simp only [List.getElem_toArray, List.getElem_cons_zero, List.getElem_cons_succ]); go_simp <;> with_reducible rfl)
  simp only [Act.put, List.getElem_toArray, List.getElem_cons_zero, List.getElem_cons_succ, List.setIfInBounds_toArray, List.set_cons_zero, List.set_cons_succ]
  refine z_take (i := 8) (v := ?_) rfl (by kernel_rfl) (by kernel_rfl) (by kernel_rfl) (by kernel_rfl) (fun _ _ _ h => h) (Or.inl ⟨by rfl, ?_⟩) hS ?_
  rotate_left
  · (rintro wS ⟨hlt, s0, s1, s2, s3, s4, s5, s6⟩; (try simp only [List.getElem_toArray, List.getElem_cons_zero, List.getElem_cons_succ]); go_simp <;> with_reducible rfl)
  simp only [Act.put, List.getElem_toArray, List.getElem_cons_zero, List.getElem_cons_succ, List.setIfInBounds_toArray, List.set_cons_zero, List.set_cons_succ]
  refine z_take (i := 9) (v := ?_) rfl (by kernel_rfl) (by kernel_rfl) (by kernel_rfl) (by kernel_rfl) (fun _ _ _ h => h) (Or.inl ⟨by rfl, ?_⟩) hS ?_
  rotate_left
  · (rintro wS ⟨hlt, s0, s1, s2, s3, s4, s5, s6⟩; (try simp only [List.getElem_toArray, List.getElem_cons_zero, List.getElem_cons_succ]); go_simp <;> with_reducible rfl)
  simp only [Act.put, List.getElem_toArray, List.getElem_cons_zero, List.getElem_cons_succ, List.setIfInBounds_toArray, List.set_cons_zero, List.set_cons_succ]
  refine z_oneg (i := 10) (by kernel_rfl) rfl (by rfl) ?_
  go_simp
  refine (count_calls A8 c8 ba w12 (by have := HBA.out.len; omega) HC8z.out hc8).mono ?_
  rintro e w13 ⟨rfl, st⟩
  rw [← HCO.out]
  replace hS := hS.below st
  try refine ⟨hS, ?_⟩
  have HB13 := Lib.hid (HBz.out.trans (st.mono HBz.out.size))
  have HA13 := Lib.hid (Kd.C_below HAz.out st)
  have HR13 := Lib.hid (Kd.C_below HRz.out st)
  have HC7 := Lib.hid (Kd.C_below HC7z.out st)
  have HC8 := Lib.hid (Kd.C_below HC8z.out st)
  clear st HBz HAz HRz HC7z HC8z HCO
  refine z_take (i := 11) (v := ?_) rfl (by kernel_rfl) (by kernel_rfl) (by kernel_rfl) (by kernel_rfl) (fun _ _ _ h => h) (Or.inl ⟨by rfl, ?_⟩) hS ?_
  rotate_left
  · (rintro wS ⟨hlt, s0, s1, s2, s3, s4, s5, s6⟩; (try simp only [List.getElem_toArray, List.getElem_cons_zero, List.getElem_cons_succ]); go_simp <;> with_reducible rfl)
  simp only [Act.put, List.getElem_toArray, List.getElem_cons_zero, List.getElem_cons_succ, List.setIfInBounds_toArray, List.set_cons_zero, List.set_cons_succ]
  refine z_take (i := 12) (v := ?_) rfl (by kernel_rfl) (by kernel_rfl) (by kernel_rfl) (by kernel_rfl) (fun _ _ _ h => h) (Or.inl ⟨by rfl, ?_⟩) hS ?_
  rotate_left
  · (rintro wS ⟨hlt, s0, s1, s2, s3, s4, s5, s6⟩; (try simp only [List.getElem_toArray, List.getElem_cons_zero, List.getElem_cons_succ]); go_simp <;> with_reducible rfl)
  simp only [Act.put, List.getElem_toArray, List.getElem_cons_zero, List.getElem_cons_succ, List.setIfInBounds_toArray, List.set_cons_zero, List.set_cons_succ]
  refine z_done (by kernel_rfl) ?_ _
  have HS := Lib.hid hS
  clear hS
  go_wp2_with fail
  refine (evmets_calls A7 c7 ab w13 HAB.out HC7.out hc7).mono ?_
  rintro e w14 ⟨v14, rfl, hM14, st⟩
  obtain ⟨A14, c14, rfl, hc14, hC14⟩ := Kd.S_reads hM14
  have HC14 := Lib.hid hC14
  have HB14 := Lib.hid (HB13.out.trans (st.mono HB13.out.size))
  have HA14 := Lib.hid (Kd.C_below HA13.out st)
  have HR14 := Lib.hid (Kd.C_below HR13.out st)
  have HC714 := Lib.hid (Kd.C_below HC7.out st)
  have HC814 := Lib.hid (Kd.C_below HC8.out st)
  have HS14 := Lib.hid (HS.out.below st)
  clear st hM14 hC14 HB13 HA13 HR13 HC7 HC8 HS
  go_wp2_with fail
  refine (evmets_calls A ca a w14 HSA.out HA14.out hca).mono ?_
  rintro e w15 ⟨v15, rfl, hM15, b15⟩
  go_wp2_with fail
  refine (evmets_calls B cb b w15 HSB.out (Kd.C_below HR14.out b15) hcb).mono ?_
  rintro e w16 ⟨v16, rfl, hM16, b16⟩
  obtain ⟨A16, c16, rfl, hc16, _⟩ := Kd.S_reads hM16
  have hm15 := Kd.S_below hM15 b16
  have hv15 := (Kd.S_R (Kd.S_bound hM15)).1
  have hb16 := b15.trans (b16.mono b15.size)
  have hl16 : (mets a).length + (mets b).length ≤ 10000 := by have := HSA.out.mets; have := HSB.out.mets; omega
  go_wp2_with (at_builtin; refine append_mets w14 w16 w15.heap.size rfl _ _ rfl v15 (mets a) (mets b) A16 (mets b).length c16 rfl rfl rfl hm15 (fun k hk => (hv15 k hk).2.2.1) hM16 hb16 hl16 ?_; intro v17 w17 hM17 b17)
  rw [← HMA.out] at hM17
  obtain ⟨A17, c17, rfl, hc17, hC17⟩ := Kd.N_reads hM17
  refine (equal_calls A14 c14 A17 c17 (mets ab) w17 HAB.out.mets HAB.out.met (Kd.C_below HC14.out b17) hc14 hC17 hc17).mono ?_
  rintro e w18 ⟨rfl, st⟩
  have b18 := b17.trans (st.mono b17.size)
  have HB18 := Lib.hid (HB14.out.trans (b18.mono HB14.out.size))
  have HA18 := Lib.hid (Kd.C_below HA14.out b18)
  have HR18 := Lib.hid (Kd.C_below HR14.out b18)
  have HC718 := Lib.hid (Kd.C_below HC714.out b18)
  have HC818 := Lib.hid (Kd.C_below HC814.out b18)
  have HS18 := Lib.hid (HS14.out.below b18)
  have s1 := HS18.out.s1
  rw [HCP.out.1, w_small (by omega) (by have := HAB.out.mets; omega)] at s1
  clear st b17 b18 hM17 hC17 hc17 hc14 HC14 HB14 HA14 HR14 HC714 HC814 HS14 hb16 hl16 hv15 hm15 hM15 hM16 b15 b16 hc16
  go_wp2_with fail
  refine (codes_calls A7 ab.length c7 ab w18 rfl HC718.out (by have := HAB.out.len; omega) HAB.out.wf).mono ?_
  rintro e w19 ⟨A19, c19, B19, d19, rfl, i19, j19, st⟩
  have HB19 := Lib.hid (HB18.out.trans (st.mono HB18.out.size))
  have HA19 := Lib.hid (Kd.C_below HA18.out st)
  have HR19 := Lib.hid (Kd.C_below HR18.out st)
  have HC719 := Lib.hid (Kd.C_below HC718.out st)
  have HC819 := Lib.hid (Kd.C_below HC818.out st)
  have HS19 := Lib.hid (HS18.out.below st)
  have HI := Lib.hid i19
  have HJ := Lib.hid j19
  obtain ⟨hx1, hx2, hx3⟩ := codes_all ab
  obtain ⟨S, hS0, hSN, hSi, hRi⟩ := sums_spec (cntC ab) (codesOf ab) hx1 (fun c hc => (hx2 c).1 hc) _ (sum_all ab)
  have hq1 : (ab.countP fun e => decide (e.f0 = 2)) ≤ 120 := Nat.le_trans List.countP_le_length HAB.out.len
  have hN : (codesOf ab).length ≤ 120 := Nat.le_trans hx3 HAB.out.len
  have HSN := Lib.hid hSN
  have HS0 := Lib.hid hS0
  have HSI := Lib.hid hSi
  have HRI := Lib.hid hRi
  clear st i19 j19 hx1 hx2 hx3 hS0 hSN hSi hRi HB18 HA18 HR18 HC718 HC818 HS18 s1
  generalize (codesOf ab).map (fun c => (cntC ab c : Int)) = qs at HJ HSI
  generalize cntC ab = ff at HSI
  generalize (codesOf ab).length = N at HI HJ HSN HSI HRI hN ⊢
  generalize codesOf ab = cs at HI HSI HRI
  generalize ab.countP (fun e => decide (e.f0 = 2)) = tot at HSN HSI HCP hq1
  go_wp2_with fail
  go_loopw [11, 12] (fun vs vi wr => ∃ i j : Nat, vs = .int .i64 (S i : Nat) ∧ vi = .int .i64 i ∧ i ≤ N ∧ wr = w19.drewN j) (fun _ vi _ => N - (intOf vi).toNat)
  case atStart => exact ⟨0, 0, by rw [HS0.out]; rfl, rfl, Nat.zero_le _, (World.drewN_zero _).symm⟩
  case round =>
    obtain ⟨i, j, rfl, rfl, hi, rfl⟩ := hrel
    by_cases hin : i < N
    · have hii : (i : Int) < (N : Int) := by omega
      obtain ⟨b1, o1, rfl, _, f1⟩ := HI.out.2.resolve_left (by omega)
      obtain ⟨b2, o2, rfl, _, f2⟩ := HJ.out.2.resolve_left (by omega)
      obtain ⟨e1, e2, e3, e4⟩ := HSI.out i hin
      have s2 := f2 i hin
      rw [e4] at s2
      generalize ff (cs.getD i 0) = q at e1 e3 s2
      have hw : wrap64 ((S i : Int) + (q : Int)) = ((S (i + 1) : Nat) : Int) := by rw [w_small (by omega) (by omega), e1]; omega
      rcases Nat.eq_zero_or_pos i with rfl | hpos
      · clear f1 f2 HSI HRI HI HJ e1 e2 e4
        go_wp2_with fail
        refine region_plain (fun W => W.cell? ⟨b2, o2, none⟩ = some (.int .i64 q)) 99 (by kernel_rfl) ?_
        have hS : (w19.drewN j).drew.cell? ⟨b2, o2, none⟩ = some (.int .i64 q) := s2
        have hq : ¬ ((q : Int) < 1) := by omega
        refine z_take (i := 0) (v := ?_) rfl (by kernel_rfl) (by kernel_rfl) (by kernel_rfl) (by kernel_rfl) (fun _ _ _ h => h) (Or.inl ⟨by rfl, ?_⟩) hS ?_
        rotate_left
        · (rintro wS s2; (try simp only [List.getElem_toArray, List.getElem_cons_zero]); go_simp <;> with_reducible rfl)
        simp only [Act.put, List.getElem_toArray, List.getElem_cons_zero, List.setIfInBounds_toArray, List.set_cons_zero, List.set_cons_succ]
        refine z_take (i := 1) (v := ?_) rfl (by kernel_rfl) (by kernel_rfl) (by kernel_rfl) (by kernel_rfl) (fun _ _ _ h => h) (Or.inl ⟨by rfl, ?_⟩) hS ?_
        rotate_left
        · (rintro wS s2; (try simp only [List.getElem_toArray, List.getElem_cons_zero, List.getElem_cons_succ]); go_simp <;> with_reducible rfl)
        simp only [Act.put, List.getElem_toArray, List.getElem_cons_zero, List.getElem_cons_succ, List.setIfInBounds_toArray, List.set_cons_zero, List.set_cons_succ]
        refine z_take (i := 2) (v := ?_) rfl (by kernel_rfl) (by kernel_rfl) (by kernel_rfl) (by kernel_rfl) (fun _ _ _ h => h) (Or.inl ⟨by rfl, ?_⟩) hS ?_
        rotate_left
        · (rintro wS s2; (try simp only [List.getElem_toArray, List.getElem_cons_zero, List.getElem_cons_succ]); go_simp <;> with_reducible rfl)
        simp only [Act.put, List.getElem_toArray, List.getElem_cons_zero, List.getElem_cons_succ, List.setIfInBounds_toArray, List.set_cons_zero, List.set_cons_succ]
        refine z_take (i := 3) (v := ?_) rfl (by kernel_rfl) (by kernel_rfl) (by kernel_rfl) (by kernel_rfl) (fun _ _ _ h => h) (Or.inl ⟨by rfl, ?_⟩) hS ?_
        rotate_left
        · (rintro wS s2; (try simp only [List.getElem_toArray, List.getElem_cons_zero, List.getElem_cons_succ]); go_simp <;> with_reducible rfl)
        simp only [Act.put, List.getElem_toArray, List.getElem_cons_zero, List.getElem_cons_succ, List.setIfInBounds_toArray, List.set_cons_zero, List.set_cons_succ]
        refine z_take (i := 4) (v := ?_) rfl (by kernel_rfl) (by kernel_rfl) (by kernel_rfl) (by kernel_rfl) (fun _ _ _ h => h) (Or.inl ⟨by rfl, ?_⟩) hS ?_
        rotate_left
        · (rintro wS s2; (try simp only [List.getElem_toArray, List.getElem_cons_zero, List.getElem_cons_succ]); go_simp <;> with_reducible rfl)
        simp only [Act.put, List.getElem_toArray, List.getElem_cons_zero, List.getElem_cons_succ, List.setIfInBounds_toArray, List.set_cons_zero, List.set_cons_succ]
        refine z_take (i := 5) (v := ?_) rfl (by kernel_rfl) (by kernel_rfl) (by kernel_rfl) (by kernel_rfl) (fun _ _ _ h => h) (Or.inl ⟨by rfl, ?_⟩) hS ?_
        rotate_left
        · (rintro wS s2; (try simp only [List.getElem_toArray, List.getElem_cons_zero, List.getElem_cons_succ]); go_simp <;> with_reducible rfl)
        simp only [Act.put, List.getElem_toArray, List.getElem_cons_zero, List.getElem_cons_succ, List.setIfInBounds_toArray, List.set_cons_zero, List.set_cons_succ]
        refine z_take (i := 6) (v := ?_) rfl (by kernel_rfl) (by kernel_rfl) (by kernel_rfl) (by kernel_rfl) (fun _ _ _ h => h) (Or.inl ⟨by rfl, ?_⟩) hS ?_
        rotate_left
        · (rintro wS s2; (try simp only [List.getElem_toArray, List.getElem_cons_zero, List.getElem_cons_succ]); go_simp <;> with_reducible rfl)
        simp only [Act.put, List.getElem_toArray, List.getElem_cons_zero, List.getElem_cons_succ, List.setIfInBounds_toArray, List.set_cons_zero, List.set_cons_succ]
        refine z_take (i := 7) (v := ?_) rfl (by kernel_rfl) (by kernel_rfl) (by kernel_rfl) (by kernel_rfl) (fun _ _ _ h => h) (Or.inl ⟨by rfl, ?_⟩) hS ?_
        rotate_left
        · (rintro wS s2; (try simp only [List.getElem_toArray, List.getElem_cons_zero, List.getElem_cons_succ]); go_simp <;> with_reducible rfl)
        simp only [Act.put, List.getElem_toArray, List.getElem_cons_zero, List.getElem_cons_succ, List.setIfInBounds_toArray, List.set_cons_zero, List.set_cons_succ]
        refine z_take (i := 8) (v := ?_) rfl (by kernel_rfl) (by kernel_rfl) (by kernel_rfl) (by kernel_rfl) (fun _ _ _ h => h) (Or.inl ⟨by rfl, ?_⟩) hS ?_
        rotate_left
        · (rintro wS s2; (try simp only [List.getElem_toArray, List.getElem_cons_zero, List.getElem_cons_succ]); go_simp <;> with_reducible rfl)
        simp only [Act.put, List.getElem_toArray, List.getElem_cons_zero, List.getElem_cons_succ, List.setIfInBounds_toArray, List.set_cons_zero, List.set_cons_succ]
        refine z_take (i := 9) (v := undef) rfl (by kernel_rfl) (by kernel_rfl) (by kernel_rfl) (by kernel_rfl) (fun _ _ _ h => h) (Or.inr ⟨by rfl, rfl⟩) hS ?_
        simp only [Act.put, List.getElem_toArray, List.getElem_cons_zero, List.getElem_cons_succ, List.setIfInBounds_toArray, List.set_cons_zero, List.set_cons_succ]
        refine z_take (i := 10) (v := undef) rfl (by kernel_rfl) (by kernel_rfl) (by kernel_rfl) (by kernel_rfl) (fun _ _ _ h => h) (Or.inr ⟨by rfl, rfl⟩) hS ?_
        simp only [Act.put, List.getElem_toArray, List.getElem_cons_zero, List.getElem_cons_succ, List.setIfInBounds_toArray, List.set_cons_zero, List.set_cons_succ]
        refine z_take (i := 11) (v := undef) rfl (by kernel_rfl) (by kernel_rfl) (by kernel_rfl) (by kernel_rfl) (fun _ _ _ h => h) (Or.inr ⟨by rfl, rfl⟩) hS ?_
        simp only [Act.put, List.getElem_toArray, List.getElem_cons_zero, List.getElem_cons_succ, List.setIfInBounds_toArray, List.set_cons_zero, List.set_cons_succ]
        refine z_take (i := 12) (v := undef) rfl (by kernel_rfl) (by kernel_rfl) (by kernel_rfl) (by kernel_rfl) (fun _ _ _ h => h) (Or.inr ⟨by rfl, rfl⟩) hS ?_
        simp only [Act.put, List.getElem_toArray, List.getElem_cons_zero, List.getElem_cons_succ, List.setIfInBounds_toArray, List.set_cons_zero, List.set_cons_succ]
        refine z_take (i := 13) (v := undef) rfl (by kernel_rfl) (by kernel_rfl) (by kernel_rfl) (by kernel_rfl) (fun _ _ _ h => h) (Or.inr ⟨by rfl, rfl⟩) hS ?_
        simp only [Act.put, List.getElem_toArray, List.getElem_cons_zero, List.getElem_cons_succ, List.setIfInBounds_toArray, List.set_cons_zero, List.set_cons_succ]
        refine z_take (i := 14) (v := undef) rfl (by kernel_rfl) (by kernel_rfl) (by kernel_rfl) (by kernel_rfl) (fun _ _ _ h => h) (Or.inr ⟨by rfl, rfl⟩) hS ?_
        simp only [Act.put, List.getElem_toArray, List.getElem_cons_zero, List.getElem_cons_succ, List.setIfInBounds_toArray, List.set_cons_zero, List.set_cons_succ]
        refine z_take (i := 15) (v := undef) rfl (by kernel_rfl) (by kernel_rfl) (by kernel_rfl) (by kernel_rfl) (fun _ _ _ h => h) (Or.inr ⟨by rfl, rfl⟩) hS ?_
        simp only [Act.put, List.getElem_toArray, List.getElem_cons_zero, List.getElem_cons_succ, List.setIfInBounds_toArray, List.set_cons_zero, List.set_cons_succ]
        refine z_take (i := 16) (v := undef) rfl (by kernel_rfl) (by kernel_rfl) (by kernel_rfl) (by kernel_rfl) (fun _ _ _ h => h) (Or.inr ⟨by rfl, rfl⟩) hS ?_
        simp only [Act.put, List.getElem_toArray, List.getElem_cons_zero, List.getElem_cons_succ, List.setIfInBounds_toArray, List.set_cons_zero, List.set_cons_succ]
        refine z_take (i := 17) (v := undef) rfl (by kernel_rfl) (by kernel_rfl) (by kernel_rfl) (by kernel_rfl) (fun _ _ _ h => h) (Or.inr ⟨by rfl, rfl⟩) hS ?_
        simp only [Act.put, List.getElem_toArray, List.getElem_cons_zero, List.getElem_cons_succ, List.setIfInBounds_toArray, List.set_cons_zero, List.set_cons_succ]
        refine z_take (i := 18) (v := undef) rfl (by kernel_rfl) (by kernel_rfl) (by kernel_rfl) (by kernel_rfl) (fun _ _ _ h => h) (Or.inr ⟨by rfl, rfl⟩) hS ?_
        simp only [Act.put, List.getElem_toArray, List.getElem_cons_zero, List.getElem_cons_succ, List.setIfInBounds_toArray, List.set_cons_zero, List.set_cons_succ]
        refine z_take (i := 19) (v := ?_) rfl (by kernel_rfl) (by kernel_rfl) (by kernel_rfl) (by kernel_rfl) (fun _ _ _ h => h) (Or.inl ⟨by rfl, ?_⟩) hS ?_
        rotate_left
        · (rintro wS s2; (try simp only [List.getElem_toArray, List.getElem_cons_zero, List.getElem_cons_succ]); go_simp <;> with_reducible rfl)
        simp only [Act.put, List.getElem_toArray, List.getElem_cons_zero, List.getElem_cons_succ, List.setIfInBounds_toArray, List.set_cons_zero, List.set_cons_succ]
        refine z_take (i := 20) (v := ?_) rfl (by kernel_rfl) (by kernel_rfl) (by kernel_rfl) (by kernel_rfl) (fun _ _ _ h => h) (Or.inl ⟨by rfl, ?_⟩) hS ?_
        rotate_left
        · (rintro wS s2; (try simp only [List.getElem_toArray, List.getElem_cons_zero, List.getElem_cons_succ]); go_simp <;> with_reducible rfl)
        simp only [Act.put, List.getElem_toArray, List.getElem_cons_zero, List.getElem_cons_succ, List.setIfInBounds_toArray, List.set_cons_zero, List.set_cons_succ]
        refine z_done (by kernel_rfl) ?_ _
        have s3 : w19.cell? ⟨b2, o2, none⟩ = some (.int .i64 q) := s2
        clear s2 hS
        go_wp2_with fail
        go_roundw
        case rel => exact ⟨1, j + 1, by rw [hw], rfl, by omega, rfl⟩
        case measure => simp [intOf]; omega
      · obtain ⟨k, rfl⟩ : ∃ k, i = k + 1 := ⟨i - 1, by omega⟩
        have s1 := f1 (k + 1) hin
        have s0 := f1 k (by omega)
        have hlt := HRI.out k hin
        generalize cs.getD (k + 1) 0 = x1 at s1 hlt
        generalize cs.getD k 0 = x0 at s0 hlt
        clear f1 f2 HSI HRI HI HJ e1 e2 e4
        go_wp2_with fail
        refine region_plain (fun W => W.cell? ⟨b2, o2 + (k + 1), none⟩ = some (.int .i64 q) ∧ W.cell? ⟨b1, o1 + (k + 1), none⟩ = some (.int .i64 x1) ∧ W.cell? ⟨b1, o1 + k, none⟩ = some (.int .i64 x0)) 99 (by kernel_rfl) ?_
        have hS : (w19.drewN j).drew.cell? ⟨b2, o2 + (k + 1), none⟩ = some (.int .i64 q) ∧ (w19.drewN j).drew.cell? ⟨b1, o1 + (k + 1), none⟩ = some (.int .i64 x1) ∧ (w19.drewN j).drew.cell? ⟨b1, o1 + k, none⟩ = some (.int .i64 x0) := ⟨s2, s1, s0⟩
        have hq : ¬ ((q : Int) < 1) := by omega
        have hx : ¬ (x1 ≤ x0) := by omega
        have hwk : IntKind.i64.wrap (k : Int) = (k : Int) := by rw [i64_w]; exact w_small (by omega) (by omega)
        have h0k : (0 : Int) ≤ (k : Int) + 1 := by omega
        have h1k : (k : Int) + 1 < (N : Int) := by omega
        have h2k : (k : Int) < (N : Int) := by omega
        have h3k : (0 : Int) < (k : Int) + 1 := by omega
        refine z_take (i := 0) (v := ?_) rfl (by kernel_rfl) (by kernel_rfl) (by kernel_rfl) (by kernel_rfl) (fun _ _ _ h => h) (Or.inl ⟨by rfl, ?_⟩) hS ?_
        rotate_left
        · (rintro wS ⟨s2, s1, s0⟩; (try simp only [List.getElem_toArray, List.getElem_cons_zero]); go_simp <;> with_reducible rfl)
        simp only [Act.put, List.getElem_toArray, List.getElem_cons_zero, List.setIfInBounds_toArray, List.set_cons_zero, List.set_cons_succ]
        refine z_take (i := 1) (v := ?_) rfl (by kernel_rfl) (by kernel_rfl) (by kernel_rfl) (by kernel_rfl) (fun _ _ _ h => h) (Or.inl ⟨by rfl, ?_⟩) hS ?_
        rotate_left
        · (rintro wS ⟨s2, s1, s0⟩; (try simp only [List.getElem_toArray, List.getElem_cons_zero, List.getElem_cons_succ]); go_simp <;> with_reducible rfl)
        simp only [Act.put, List.getElem_toArray, List.getElem_cons_zero, List.getElem_cons_succ, List.setIfInBounds_toArray, List.set_cons_zero, List.set_cons_succ]
        refine z_take (i := 2) (v := ?_) rfl (by kernel_rfl) (by kernel_rfl) (by kernel_rfl) (by kernel_rfl) (fun _ _ _ h => h) (Or.inl ⟨by rfl, ?_⟩) hS ?_
        rotate_left
        · (rintro wS ⟨s2, s1, s0⟩; (try simp only [List.getElem_toArray, List.getElem_cons_zero, List.getElem_cons_succ]); go_simp <;> with_reducible rfl)
        simp only [Act.put, List.getElem_toArray, List.getElem_cons_zero, List.getElem_cons_succ, List.setIfInBounds_toArray, List.set_cons_zero, List.set_cons_succ]
        refine z_take (i := 3) (v := ?_) rfl (by kernel_rfl) (by kernel_rfl) (by kernel_rfl) (by kernel_rfl) (fun _ _ _ h => h) (Or.inl ⟨by rfl, ?_⟩) hS ?_
        rotate_left
        · (rintro wS ⟨s2, s1, s0⟩; (try simp only [List.getElem_toArray, List.getElem_cons_zero, List.getElem_cons_succ]); go_simp <;> with_reducible rfl)
        simp only [Act.put, List.getElem_toArray, List.getElem_cons_zero, List.getElem_cons_succ, List.setIfInBounds_toArray, List.set_cons_zero, List.set_cons_succ]
        refine z_take (i := 4) (v := ?_) rfl (by kernel_rfl) (by kernel_rfl) (by kernel_rfl) (by kernel_rfl) (fun _ _ _ h => h) (Or.inl ⟨by rfl, ?_⟩) hS ?_
        rotate_left
        · (rintro wS ⟨s2, s1, s0⟩; (try simp only [List.getElem_toArray, List.getElem_cons_zero, List.getElem_cons_succ]); go_simp <;> with_reducible rfl)
        simp only [Act.put, List.getElem_toArray, List.getElem_cons_zero, List.getElem_cons_succ, List.setIfInBounds_toArray, List.set_cons_zero, List.set_cons_succ]
        refine z_take (i := 5) (v := ?_) rfl (by kernel_rfl) (by kernel_rfl) (by kernel_rfl) (by kernel_rfl) (fun _ _ _ h => h) (Or.inl ⟨by rfl, ?_⟩) hS ?_
        rotate_left
        · (rintro wS ⟨s2, s1, s0⟩; (try simp only [List.getElem_toArray, List.getElem_cons_zero, List.getElem_cons_succ]); go_simp <;> with_reducible rfl)
        simp only [Act.put, List.getElem_toArray, List.getElem_cons_zero, List.getElem_cons_succ, List.setIfInBounds_toArray, List.set_cons_zero, List.set_cons_succ]
        refine z_take (i := 6) (v := ?_) rfl (by kernel_rfl) (by kernel_rfl) (by kernel_rfl) (by kernel_rfl) (fun _ _ _ h => h) (Or.inl ⟨by rfl, ?_⟩) hS ?_
        rotate_left
        · (rintro wS ⟨s2, s1, s0⟩; (try simp only [List.getElem_toArray, List.getElem_cons_zero, List.getElem_cons_succ]); go_simp <;> with_reducible rfl)
        simp only [Act.put, List.getElem_toArray, List.getElem_cons_zero, List.getElem_cons_succ, List.setIfInBounds_toArray, List.set_cons_zero, List.set_cons_succ]
        refine z_take (i := 7) (v := ?_) rfl (by kernel_rfl) (by kernel_rfl) (by kernel_rfl) (by kernel_rfl) (fun _ _ _ h => h) (Or.inl ⟨by rfl, ?_⟩) hS ?_
        rotate_left
        · (rintro wS ⟨s2, s1, s0⟩; (try simp only [List.getElem_toArray, List.getElem_cons_zero, List.getElem_cons_succ]); go_simp <;> with_reducible rfl)
        simp only [Act.put, List.getElem_toArray, List.getElem_cons_zero, List.getElem_cons_succ, List.setIfInBounds_toArray, List.set_cons_zero, List.set_cons_succ]
        refine z_take (i := 8) (v := ?_) rfl (by kernel_rfl) (by kernel_rfl) (by kernel_rfl) (by kernel_rfl) (fun _ _ _ h => h) (Or.inl ⟨by rfl, ?_⟩) hS ?_
        rotate_left
        · (rintro wS ⟨s2, s1, s0⟩; (try simp only [List.getElem_toArray, List.getElem_cons_zero, List.getElem_cons_succ]); go_simp <;> with_reducible rfl)
        simp only [Act.put, List.getElem_toArray, List.getElem_cons_zero, List.getElem_cons_succ, List.setIfInBounds_toArray, List.set_cons_zero, List.set_cons_succ]
        refine z_take (i := 9) (v := ?_) rfl (by kernel_rfl) (by kernel_rfl) (by kernel_rfl) (by kernel_rfl) (fun _ _ _ h => h) (Or.inl ⟨by rfl, ?_⟩) hS ?_
        rotate_left
        · (rintro wS ⟨s2, s1, s0⟩; (try simp only [List.getElem_toArray, List.getElem_cons_zero, List.getElem_cons_succ]); go_simp <;> with_reducible rfl)
        simp only [Act.put, List.getElem_toArray, List.getElem_cons_zero, List.getElem_cons_succ, List.setIfInBounds_toArray, List.set_cons_zero, List.set_cons_succ]
        refine z_take (i := 10) (v := ?_) rfl (by kernel_rfl) (by kernel_rfl) (by kernel_rfl) (by kernel_rfl) (fun _ _ _ h => h) (Or.inl ⟨by rfl, ?_⟩) hS ?_
        rotate_left
        · (rintro wS ⟨s2, s1, s0⟩; (try simp only [List.getElem_toArray, List.getElem_cons_zero, List.getElem_cons_succ]); go_simp <;> with_reducible rfl)
        simp only [Act.put, List.getElem_toArray, List.getElem_cons_zero, List.getElem_cons_succ, List.setIfInBounds_toArray, List.set_cons_zero, List.set_cons_succ]
        refine z_take (i := 11) (v := ?_) rfl (by kernel_rfl) (by kernel_rfl) (by kernel_rfl) (by kernel_rfl) (fun _ _ _ h => h) (Or.inl ⟨by rfl, ?_⟩) hS ?_
        rotate_left
        · (rintro wS ⟨s2, s1, s0⟩; (try simp only [List.getElem_toArray, List.getElem_cons_zero, List.getElem_cons_succ]); go_simp <;> with_reducible rfl)
        simp only [Act.put, List.getElem_toArray, List.getElem_cons_zero, List.getElem_cons_succ, List.setIfInBounds_toArray, List.set_cons_zero, List.set_cons_succ]
        refine z_take (i := 12) (v := ?_) rfl (by kernel_rfl) (by kernel_rfl) (by kernel_rfl) (by kernel_rfl) (fun _ _ _ h => h) (Or.inl ⟨by rfl, ?_⟩) hS ?_
        rotate_left
        · (rintro wS ⟨s2, s1, s0⟩; (try simp only [List.getElem_toArray, List.getElem_cons_zero, List.getElem_cons_succ]); go_simp <;> with_reducible rfl)
        simp only [Act.put, List.getElem_toArray, List.getElem_cons_zero, List.getElem_cons_succ, List.setIfInBounds_toArray, List.set_cons_zero, List.set_cons_succ]
        refine z_take (i := 13) (v := ?_) rfl (by kernel_rfl) (by kernel_rfl) (by kernel_rfl) (by kernel_rfl) (fun _ _ _ h => h) (Or.inl ⟨by rfl, ?_⟩) hS ?_
        rotate_left
        · (rintro wS ⟨s2, s1, s0⟩; (try simp only [List.getElem_toArray, List.getElem_cons_zero, List.getElem_cons_succ]); go_simp <;> with_reducible rfl)
        simp only [Act.put, List.getElem_toArray, List.getElem_cons_zero, List.getElem_cons_succ, List.setIfInBounds_toArray, List.set_cons_zero, List.set_cons_succ]
        refine z_take (i := 14) (v := ?_) rfl (by kernel_rfl) (by kernel_rfl) (by kernel_rfl) (by kernel_rfl) (fun _ _ _ h => h) (Or.inl ⟨by rfl, ?_⟩) hS ?_
        rotate_left
        · (rintro wS ⟨s2, s1, s0⟩; (try simp only [List.getElem_toArray, List.getElem_cons_zero, List.getElem_cons_succ]); go_simp <;> with_reducible rfl)
        simp only [Act.put, List.getElem_toArray, List.getElem_cons_zero, List.getElem_cons_succ, List.setIfInBounds_toArray, List.set_cons_zero, List.set_cons_succ]
        refine z_take (i := 15) (v := ?_) rfl (by kernel_rfl) (by kernel_rfl) (by kernel_rfl) (by kernel_rfl) (fun _ _ _ h => h) (Or.inl ⟨by rfl, ?_⟩) hS ?_
        rotate_left
        · (rintro wS ⟨s2, s1, s0⟩; (try simp only [List.getElem_toArray, List.getElem_cons_zero, List.getElem_cons_succ]); go_simp <;> with_reducible rfl)
        simp only [Act.put, List.getElem_toArray, List.getElem_cons_zero, List.getElem_cons_succ, List.setIfInBounds_toArray, List.set_cons_zero, List.set_cons_succ]
        refine z_take (i := 16) (v := ?_) rfl (by kernel_rfl) (by kernel_rfl) (by kernel_rfl) (by kernel_rfl) (fun _ _ _ h => h) (Or.inl ⟨by rfl, ?_⟩) hS ?_
        rotate_left
        · (rintro wS ⟨s2, s1, s0⟩; (try simp only [List.getElem_toArray, List.getElem_cons_zero, List.getElem_cons_succ]); go_simp <;> with_reducible rfl)
        simp only [Act.put, List.getElem_toArray, List.getElem_cons_zero, List.getElem_cons_succ, List.setIfInBounds_toArray, List.set_cons_zero, List.set_cons_succ]
        refine z_take (i := 17) (v := ?_) rfl (by kernel_rfl) (by kernel_rfl) (by kernel_rfl) (by kernel_rfl) (fun _ _ _ h => h) (Or.inl ⟨by rfl, ?_⟩) hS ?_
        rotate_left
        · (rintro wS ⟨s2, s1, s0⟩; (try simp only [List.getElem_toArray, List.getElem_cons_zero, List.getElem_cons_succ]); go_simp <;> with_reducible rfl)
        simp only [Act.put, List.getElem_toArray, List.getElem_cons_zero, List.getElem_cons_succ, List.setIfInBounds_toArray, List.set_cons_zero, List.set_cons_succ]
        refine z_take (i := 18) (v := ?_) rfl (by kernel_rfl) (by kernel_rfl) (by kernel_rfl) (by kernel_rfl) (fun _ _ _ h => h) (Or.inl ⟨by rfl, ?_⟩) hS ?_
        rotate_left
        · (rintro wS ⟨s2, s1, s0⟩; (try simp only [List.getElem_toArray, List.getElem_cons_zero, List.getElem_cons_succ]); go_simp <;> with_reducible rfl)
        simp only [Act.put, List.getElem_toArray, List.getElem_cons_zero, List.getElem_cons_succ, List.setIfInBounds_toArray, List.set_cons_zero, List.set_cons_succ]
        refine z_take (i := 19) (v := ?_) rfl (by kernel_rfl) (by kernel_rfl) (by kernel_rfl) (by kernel_rfl) (fun _ _ _ h => h) (Or.inl ⟨by rfl, ?_⟩) hS ?_
        rotate_left
        · (rintro wS ⟨s2, s1, s0⟩; (try simp only [List.getElem_toArray, List.getElem_cons_zero, List.getElem_cons_succ]); go_simp <;> with_reducible rfl)
        simp only [Act.put, List.getElem_toArray, List.getElem_cons_zero, List.getElem_cons_succ, List.setIfInBounds_toArray, List.set_cons_zero, List.set_cons_succ]
        refine z_take (i := 20) (v := ?_) rfl (by kernel_rfl) (by kernel_rfl) (by kernel_rfl) (by kernel_rfl) (fun _ _ _ h => h) (Or.inl ⟨by rfl, ?_⟩) hS ?_
        rotate_left
        · (rintro wS ⟨s2, s1, s0⟩; (try simp only [List.getElem_toArray, List.getElem_cons_zero, List.getElem_cons_succ]); go_simp <;> with_reducible rfl)
        simp only [Act.put, List.getElem_toArray, List.getElem_cons_zero, List.getElem_cons_succ, List.setIfInBounds_toArray, List.set_cons_zero, List.set_cons_succ]
        refine z_done (by kernel_rfl) ?_ _
        clear hS
        go_wp2_with fail
        go_roundw
        case rel => exact ⟨k + 1 + 1, j + 1, by rw [hw], by go_num, by omega, rfl⟩
        case measure => simp [intOf]; omega
    · obtain rfl : i = N := by omega
      clear HI HJ HSI HRI
      have HB20 : Hid (Below w.heap.size w (w19.drewN j)) := Lib.hid ⟨HB19.out.os, HB19.out.tape, HB19.out.output, HB19.out.size, HB19.out.block⟩
      have b20 : Below w19.heap.size w19 (w19.drewN j) := pw_below_drewN (Below.refl _ _) j
      have HA20 := Lib.hid (Kd.C_below HA19.out b20)
      have HR20 := Lib.hid (Kd.C_below HR19.out b20)
      have HC720 := Lib.hid (Kd.C_below HC719.out b20)
      have HC820 := Lib.hid (Kd.C_below HC819.out b20)
      have HS20 := Lib.hid (HS19.out.below b20)
      clear b20 HB19 HA19 HR19 HC719 HC819 HS19
      generalize w19.drewN j = w20 at HB20 HA20 HR20 HC720 HC820 HS20 ⊢
      have s3 := HS20.out.s3
      rw [HCP.out.2, w_small (by omega) (by omega)] at s3
      rw [HSN.out]
      go_wp2_with fail
      refine (evequal_calls A7 A8 c7 c8 ab ba w20 HAB.out HC720.out hc7 HC820.out hc8).mono ?_
      rintro e w21 ⟨rfl, st⟩
      have HB21 := Lib.hid (HB20.out.trans (st.mono HB20.out.size))
      clear st HB20 HA20 HR20 HC720 HC820 HS20 s3
      cases he : allB evB ab ba with
      | true =>
        clear he
        go_wp2_with fail
        refine (awake_calls _).mono ?_
        rintro e w22 ⟨rfl, st⟩
        have HB22 := Lib.hid (HB21.out.trans (st.mono HB21.out.size))
        clear st
        go_wp2_with fail
        go_ret
        exact ⟨rfl, HB22.out⟩
      | false =>
        have hp : 0 < a.length ∧ 0 < b.length := by
          refine ⟨Nat.pos_of_ne_zero fun h => ?_, Nat.pos_of_ne_zero fun h => ?_⟩
          · rw [HPB.out (.inl (List.eq_nil_of_length_eq_zero h))] at he; cases he
          · rw [HPB.out (.inr (List.eq_nil_of_length_eq_zero h))] at he; cases he
        have hp1 : (0 : Int) < (a.length : Int) := by omega
        have hp2 : (0 : Int) < (b.length : Int) := by omega
        clear he hp
        go_wp2_with fail
        refine (awake_calls _).mono ?_
        rintro e w22 ⟨rfl, st⟩
        have HB22 := Lib.hid (HB21.out.trans (st.mono HB21.out.size))
        clear st
        go_wp2_with fail
        go_ret
        exact ⟨rfl, HB22.out⟩

theorem eventBehind_walk (A : Option Addr) (ca : Nat) (a : List S46) (B : Option Addr) (cb : Nat) (b : List S46) (w : World) (hra : Kd.C k46 w A a.length a) (hca : a.length ≤ ca) (hrb : Kd.C k46 w B b.length b) (hcb : b.length ≤ cb) (hwa : ∀ e ∈ a, W64 e.f4) (hwb : ∀ e ∈ b, W64 e.f4) :
    Calls Try.prog 8 #[.slice A a.length ca, .slice B b.length cb] w fun e w' => e = .returned (.bool true) ∧ Below w.heap.size w w' := by
  cases hfa : few21B a with
  | false => exact eventBehind_small A ca a B cb b w hra hca hrb hcb (.inl hfa)
  | true =>
    cases hfb : few21B b with
    | false => exact eventBehind_small A ca a B cb b w hra hca hrb hcb (.inr hfb)
    | true => exact eventBehind_in A ca _ a B cb _ b w rfl rfl hra hca hrb hcb hfa hfb hwa hwb
end Go.Proofs.Ytigchloekolaoaa.PEventTells
