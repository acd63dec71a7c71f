/-
  Try with whatever read: what it takes from the read, and what it tells.
-/
import Derived.Test.YtiikppiogglppaaAwake
namespace Go.Proofs.Ytiikppiogglppaa
open Go.RowKit

theorem size64 : (Try.prog.info? 64).map (·.size) = some 5 := by kernel_rfl
theorem ptr_other (g0 g : Nat) (h : g0 ≠ g) (w : World) {ca cb : Array Value} {ta tb : TypeId} (ha : w.heap[g0]? = some (.cells ca ta (0, 0))) (hb : w.heap[g]? = some (.cells cb tb (0, 0))) :
    (binOp .neq 26 (.pointer (some ⟨g0, 0, none⟩)) (.pointer (some ⟨g, 0, none⟩))).run Try.prog w = .ok (.bool true) w := by
  obtain ⟨j, hj, hs⟩ : ∃ j, Try.prog.info? 64 = some j ∧ j.size ≠ 0 := by
    refine ⟨_, info64, ?_⟩
    have := size64
    rw [info64] at this
    simp only [Option.map_some, Option.some.injEq] at this
    rw [this]; decide
  have hne : (⟨g0, 0, none⟩ : Addr) ≠ ⟨g, 0, none⟩ := fun e => h (congrArg Addr.block e)
  have hq : ∀ d : Nat, (Op.equalIn (d + 1) 26 (.pointer (some ⟨g0, 0, none⟩)) (.pointer (some ⟨g, 0, none⟩))).run Try.prog w = .ok false w := fun d => by
    simp [Op.equalIn, run_underlying Try.underlying26, sizeOf, typeInfo, hj, hs, run_sameAddr_other w hne ha hb]
  simp only [binOp]
  simp [Op.equal, Op.maxDepth, hq 9999]

set_option maxHeartbeats 2000000 in
/-- The closure, entered as a deferred call of a frame that a Must of this Cur has stopped, others' panics behind it. -/
theorem catch_stop' (w : World) (V N F g : Nat) (A : Option Addr) (c : Nat) (l : List Int) (s : CS) (tr : Bool) (older : List PanicEntry) (hv : Vars w V N F g) (h : IsCur w g A c l s tr) :
    CallsD Try.prog 30 #[.pointer (some ⟨V, 0, none⟩), .pointer (some ⟨N, 0, none⟩), .pointer (some ⟨F, 0, none⟩)] (.panicking ({ v := stopOf g, recovered := false } :: older)) w fun e u' w' => e = .returned (.tuple #[]) ∧ u' = .panicking ({ v := stopOf g, recovered := true } :: older) ∧ Caught w N F g A c l s w' := by
  obtain ⟨x0, x1, x2, x3, x4⟩ := h.cells
  have hvc : w.cell? ⟨V, 0, none⟩ = some (.pointer (some ⟨g, 0, none⟩)) := by rw [cell_of_row _ V 0 _ 26 (0, 0) hv.v]; rfl
  have f4 := h.free 4
  refine callsD_of_wpS Try.func30 rfl fun c₀ cs hu => ?_
  simp only [Try.ntmps30, List.size_toArray, List.length_cons, List.length_nil, Nat.reduceAdd, Nat.reduceSub, Array.replicate_succ, Array.replicate_zero, List.push_toArray, List.append_toArray, List.nil_append, List.cons_append]
  apply wpS_seq
  apply wpS_region
  simp [wpOpsS, go_sem, recoverD, hu, Exit.thenS, hvc, x4, f4]
  apply wpS_seq
  apply wpS_seq
  apply wpS_region
  simp [wpOpsS, go_sem, recoverD, hu, Exit.thenS, stopOf]
  refine wpS_of_wp ?_
  have P1 := h.put_tried false
  have V1 := hv.grown (grown_set w g 4 (.bool false))
  have hb := (Below.refl (w.setCell ⟨g, 4, none⟩ (.bool false)).heap.size (w.setCell ⟨g, 4, none⟩ (.bool false))).alloc (Nat.le_refl _) (.cells #[.pointer (some ⟨g, 0, none⟩)] 66)
  have P2 := P1.below hb
  have V2 := V1.grown (grown_below (row := some g) hb)
  have CA := Lib.hid (caught_end w _ V N F g A c l s ((grown_set w g 4 (.bool false)).trans (grown_below (row := some g) hb)) V2 P2)
  obtain ⟨y0, y1, y2, y3, y4⟩ := P2.cells
  obtain ⟨z1, ⟨_, z2⟩, z3, ⟨_, z4⟩, ⟨_, z5⟩, z6, z7⟩ := V2.cells
  have v1 := V1.cells.1
  obtain ⟨n1, n2, n3, n4, n5, n6⟩ := hv.ne
  have has := assert_stop
  have hps := ptr_same g
  clear hv h P1 V1 P2 V2 hb hvc x0 x1 x2 x3 x4
  go_wp2_with fail
  simp only [Exit.thenS]
  refine wpS_of_wp ?_
  refine wp_region_noPanic ?_
  go_region_law (fail)
  all_goals (
    refine NoPanic.normal ?_
    show bodyPostS _ _ _ _ _ _ _ _ (told ((w.setCell ⟨g, 4, none⟩ (.bool false)).alloc (.cells #[.pointer (some ⟨g, 0, none⟩)] 66)) N F s).drew
    simp [bodyPostS, results, Try.results30]
    exact CA.out)
set_option maxHeartbeats 2000000 in
/-- The closure, entered as a deferred call of a frame that a Must of another Cur has stopped: it panics anew. -/
theorem catch_pass (w : World) (V N F g : Nat) (A : Option Addr) (c : Nat) (l : List Int) (s : CS) (tr : Bool) (older : List PanicEntry) (g0 : Nat) (hne : g0 ≠ g) (hg0 : ∃ (ca : Array Value) (ta : TypeId), w.heap[g0]? = some (.cells ca ta (0, 0))) (hv : Vars w V N F g) (h : IsCur w g A c l s tr) :
    CallsD Try.prog 30 #[.pointer (some ⟨V, 0, none⟩), .pointer (some ⟨N, 0, none⟩), .pointer (some ⟨F, 0, none⟩)] (.panicking ({ v := stopOf g0, recovered := false } :: older)) w fun e u' w' => e = .panicked [{ v := stopOf g0, recovered := false }] ∧ u' = .panicking ({ v := stopOf g0, recovered := true } :: older) ∧ IsCur w' g A c l s false ∧ w.grownBy w' (some g) := by
  obtain ⟨x0, x1, x2, x3, x4⟩ := h.cells
  have hvc : w.cell? ⟨V, 0, none⟩ = some (.pointer (some ⟨g, 0, none⟩)) := by rw [cell_of_row _ V 0 _ 26 (0, 0) hv.v]; rfl
  have f4 := h.free 4
  refine callsD_of_wpS Try.func30 rfl fun c₀ cs hu => ?_
  simp only [Try.ntmps30, List.size_toArray, List.length_cons, List.length_nil, Nat.reduceAdd, Nat.reduceSub, Array.replicate_succ, Array.replicate_zero, List.push_toArray, List.append_toArray, List.nil_append, List.cons_append]
  apply wpS_seq
  apply wpS_region
  simp [wpOpsS, go_sem, recoverD, hu, Exit.thenS, hvc, x4, f4]
  apply wpS_seq
  apply wpS_seq
  apply wpS_region
  simp [wpOpsS, go_sem, recoverD, hu, Exit.thenS, stopOf]
  refine wpS_of_wp ?_
  have P1 := h.put_tried false
  have V1 := hv.grown (grown_set w g 4 (.bool false))
  have hb := (Below.refl (w.setCell ⟨g, 4, none⟩ (.bool false)).heap.size (w.setCell ⟨g, 4, none⟩ (.bool false))).alloc (Nat.le_refl _) (.cells #[.pointer (some ⟨g0, 0, none⟩)] 66)
  have P2 := Lib.hid (P1.below hb)
  have G2 := Lib.hid ((grown_set w g 4 (.bool false)).trans (grown_below (row := some g) hb))
  have V2 := V1.grown (grown_below (row := some g) hb)
  have v1 := V1.cells.1
  have z1 := V2.cells.1
  have has := assert_stop
  obtain ⟨ca, ta, hca⟩ := hg0
  have hps := ptr_other g0 g hne ((w.setCell ⟨g, 4, none⟩ (.bool false)).alloc (.cells #[.pointer (some ⟨g0, 0, none⟩)] 66)) ((Below.heap_alloc _ _ _ (by have := (Array.getElem?_eq_some_iff.1 hca).1; simpa [World.setCell] using this)).trans ((heap_setCell_other _ _ _ _ hne).trans hca)) P2.out.1
  clear hv h P1 V1 V2 hb hca hvc x0 x1 x2 x3 x4
  go_wp2_with fail
  simp only [Exit.thenS]
  simp [bodyPostS]
  exact ⟨P2.out, G2.out⟩


/-- The panics behind one that is recovered: none of them is Goexit's. -/
def Plain (older : List PanicEntry) : Prop := older.dropWhile (!·.goexit) = []

/-- What a read that Try calls does: it returns, or a Must of its Cur stops it. -/
def Read (base : Nat) (w1 : World) (g : Nat) (A : Option Addr) (c : Nat) (l : List Int) (Φ : CS → World → Prop) (e : Ending) (w' : World) : Prop :=
  ∃ s, (e = .returned (.tuple #[]) ∨ ∃ older, Plain older ∧ e = .panicked ({ v := stopOf g, recovered := false } :: older)) ∧ IsCur w' g A c l s true ∧ Φ s w' ∧ w1.heap.size ≤ w'.heap.size ∧ (∀ k, base ≤ k → k < w1.heap.size → k ≠ g → w'.heap[k]? = w1.heap[k]?)

theorem Vars.across {w w' : World} {V N F g : Nat} (h : Vars w V N F g) (hk : ∀ k, (k = V ∨ k = N ∨ k = F) → w'.heap[k]? = w.heap[k]?) : Vars w' V N F g := by
  obtain ⟨hv, ⟨x, hn⟩, ⟨y, z, hf⟩, hne⟩ := h
  exact ⟨(hk V (.inl rfl)).trans hv, ⟨x, (hk N (.inr (.inl rfl))).trans hn⟩, ⟨y, z, (hk F (.inr (.inr rfl))).trans hf⟩, hne⟩

theorem told_keeps (w : World) (V N F g : Nat) (A : Option Addr) (c : Nat) (l : List Int) (s : CS) (tr : Bool) (hv : Vars w V N F g) (h : IsCur w g A c l s tr) :
    Vars (told w N F s).drew V N F g ∧ IsCur (told w N F s).drew g A c l s tr ∧ (∀ k, k ≠ N → k ≠ F → (told w N F s).drew.heap[k]? = w.heap[k]?) ∧ (told w N F s).drew.heap.size = w.heap.size := by
  obtain ⟨hV, ⟨x, hn⟩, ⟨y, z, hf⟩, h1, h2, h3, h4, h5, h6⟩ := hv
  have N1 : (w.setCell ⟨N, 0, none⟩ (.int .i64 s.n)).heap[N]? = some (.cells #[.int .i64 s.n] 3 (0, 0)) := by
    rw [heap_setCell_same _ N 0 _ 3 _ hn]; rfl
  have F0 : (w.setCell ⟨N, 0, none⟩ (.int .i64 s.n)).heap[F]? = some (.cells #[.int .i64 y, .int .i64 z] 31 (0, 0)) :=
    (heap_setCell_other _ _ _ _ (Ne.symm h6)).trans hf
  have F1 : ((w.setCell ⟨N, 0, none⟩ (.int .i64 s.n)).setCell ⟨F, 0, none⟩ (.int .i64 s.code)).heap[F]? = some (.cells #[.int .i64 s.code, .int .i64 z] 31 (0, 0)) := by
    rw [heap_setCell_same _ F 0 _ 31 _ F0]; rfl
  have F2 : (told w N F s).heap[F]? = some (.cells #[.int .i64 s.code, .int .i64 s.fat] 31 (0, 0)) := by
    unfold told
    rw [heap_setCell_same _ F 1 _ 31 _ F1]; rfl
  have far : ∀ j, j ≠ N → j ≠ F → (told w N F s).heap[j]? = w.heap[j]? := fun j e1 e2 => by
    unfold told
    rw [heap_setCell_other _ _ _ _ e2, heap_setCell_other _ _ _ _ e2, heap_setCell_other _ _ _ _ e1]
  have N2 : (told w N F s).heap[N]? = some (.cells #[.int .i64 s.n] 3 (0, 0)) := by
    unfold told
    rw [heap_setCell_other _ _ _ _ h6, heap_setCell_other _ _ _ _ h6]
    exact N1
  have hsz : (told w N F s).heap.size = w.heap.size := by unfold told; simp [World.setCell]
  have hsl : Sl (told w N F s) A l.length l := by
    have c1 : w.cell? ⟨N, 0, none⟩ = some (.int .i64 x) := by rw [cell_of_row _ N 0 _ 3 (0, 0) hn]; rfl
    have c2 : (w.setCell ⟨N, 0, none⟩ (.int .i64 s.n)).cell? ⟨F, 0, none⟩ = some (.int .i64 y) := by rw [cell_of_row _ F 0 _ 31 (0, 0) F0]; rfl
    have c3 : ((w.setCell ⟨N, 0, none⟩ (.int .i64 s.n)).setCell ⟨F, 0, none⟩ (.int .i64 s.code)).cell? ⟨F, 1, none⟩ = some (.int .i64 z) := by rw [cell_of_row _ F 1 _ 31 (0, 0) F1]; rfl
    exact (((h.2.1.put _ c1 (fun z e => by cases e)).put _ c2 (fun z e => by cases e)).put _ c3 (fun z e => by cases e))
  exact ⟨⟨(far V h4 h5).trans hV, ⟨_, N2⟩, ⟨_, _, F2⟩, h1, h2, h3, h4, h5, h6⟩, ⟨(far g h2 h3).trans h.1, hsl, h.2.2⟩, far, hsz⟩

/-- What Try tells, and leaves, of a read that returned or was stopped by its own Cur's Must. -/
def Tried (base : Nat) (l : List Int) (Φ : Nat → CS → World → Prop) (e : Ending) (w' : World) : Prop :=
  ∃ g A c s w3, e = .returned (.tuple #[.int .i64 s.n, .agg #[.int .i64 s.code, .int .i64 s.fat]]) ∧ base ≤ g ∧ Φ g s w3 ∧ Below base w3 w' ∧ IsCur w' g A c l s false

set_option maxHeartbeats 4000000 in
theorem try_any (B : Option Addr) (nb cb : Nat) (l : List Int) (f : Nat) (cap : Array Value) (w : World) (Φ : Nat → CS → World → Prop) (hs : Sl w B nb l) (hB : B = none → cb = 0) (hn : nb ≤ 1000)
    (hnf : ∀ w : World, (binOp .eql 34 (.func (.func f) #[] cap) .nilFunc).run Try.prog w = .ok (.bool false) w)
    (hent : ∀ (args : Array Value) (w : World), (callFunc f args).run Try.prog w = .ok (.enter f args) w)
    (hread : ∀ (g : Nat) (A : Option Addr) (c : Nat) (w1 : World), w.heap.size + 2 ≤ g → Below w.heap.size w w1 → IsCur w1 g A c l CS.start true → (∀ ad, A = some ad → w.heap.size ≤ ad.block) → Calls Try.prog f (#[.pointer (some ⟨g, 0, none⟩)] ++ cap) w1 (Read w.heap.size w1 g A c l (Φ g))) :
    Calls Try.prog 13 #[.slice B nb cb, .func (.func f) #[] cap] w (Tried w.heap.size l Φ) := by
  have hmf : ∀ (fn : Fn) (first cap : Array Value) (w : World), (Instr.makeFunc fn first cap).run Try.prog w = .ok (.func fn first cap) w := fun _ _ _ _ => rfl
  have hb0 := ((Below.refl w.heap.size w).alloc (Nat.le_refl _) (.cells #[.int .i64 0] 3)).alloc (by simp) (.cells #[.int .i64 0, .int .i64 0] 31)
  have HS := Lib.hid (hs.below hb0)
  have HB0 := Lib.hid hb0
  have HR := Lib.hid hread
  clear hs hb0 hread
  go_enter_defers Try.func13, Try.ntmps13
  go_wp2_with fail
  refine (new_any B nb cb l _ HS.out hB hn).mono ?_
  rintro e w1 ⟨g, A, c, rfl, h1, hge, hA, hb1⟩
  have hsz : w.heap.size + 2 ≤ w1.heap.size := by have := hb1.size; simpa using this
  have hgs : w.heap.size + 2 ≤ g := by simpa using hge
  have hN : w1.heap[w.heap.size]? = some (.cells #[.int .i64 0] 3 (0, 0)) := by
    rw [hb1.block w.heap.size (by simp; omega), Below.heap_alloc _ _ _ (by simp)]
    exact heap_alloc_new w _
  have hF : w1.heap[w.heap.size + 1]? = some (.cells #[.int .i64 0, .int .i64 0] 31 (0, 0)) := by
    rw [hb1.block (w.heap.size + 1) (by simp)]
    have := heap_alloc_new (w.alloc (.cells #[.int .i64 0] 3)) (.cells #[.int .i64 0, .int .i64 0] 31)
    rw [World.size_alloc] at this
    exact this
  have hglt := h1.lt
  have hss : (w1.setCell ⟨g, 4, none⟩ (.bool true)).heap.size = w1.heap.size := by simp [World.setCell]
  have hbV := (Below.refl (w1.setCell ⟨g, 4, none⟩ (.bool true)).heap.size (w1.setCell ⟨g, 4, none⟩ (.bool true))).alloc (Nat.le_refl _) (.cells #[.pointer (some ⟨g, 0, none⟩)] 26)
  have hnew := heap_alloc_new (w1.setCell ⟨g, 4, none⟩ (.bool true)) (.cells #[.pointer (some ⟨g, 0, none⟩)] 26)
  rw [hss] at hnew
  have hV1 : Vars ((w1.setCell ⟨g, 4, none⟩ (.bool true)).alloc (.cells #[.pointer (some ⟨g, 0, none⟩)] 26)) w1.heap.size w.heap.size (w.heap.size + 1) g :=
    ⟨hnew, ⟨0, (hbV.block _ (by rw [hss]; omega)).trans ((heap_setCell_other _ _ _ _ (by show w.heap.size ≠ g; omega)).trans hN)⟩,
      ⟨0, 0, (hbV.block _ (by rw [hss]; omega)).trans ((heap_setCell_other _ _ _ _ (by show w.heap.size + 1 ≠ g; omega)).trans hF)⟩, by omega, by omega, by omega, by omega, by omega, by omega⟩
  have HV := Lib.hid hV1
  have P1 := Lib.hid ((h1.put_tried true).below hbV)
  have HB1 := Lib.hid ((((HB0.out.trans (hb1.mono HB0.out.size)).setCell (p := ⟨g, 4, none⟩) (by show w.heap.size ≤ g; omega) (.bool true))).trans (hbV.mono (by rw [hss]; omega)))
  obtain ⟨x0, x1, x2, x3, x4⟩ := h1.cells
  have f4 := h1.free 4
  have HGL := Lib.hid hgs
  have HSZ := Lib.hid hsz
  have HAD : Hid (∀ ad, A = some ad → w.heap.size ≤ ad.block) := Lib.hid (fun ad e => by have := hA ad e; simp at this; omega)
  clear h1 hV1 hbV hb1 hN hF hnew hss hge hgs hsz hA
  go_wp2_with fail
  refine (HR.out g A c _ HGL.out HB1.out P1.out HAD.out).mono ?_
  rintro e w3 ⟨s, he, h3, hΦ, hsz3, hk3⟩
  have hss2 : ((w1.setCell ⟨g, 4, none⟩ (.bool true)).alloc (.cells #[.pointer (some ⟨g, 0, none⟩)] 26)).heap.size = w1.heap.size + 1 := by simp [World.setCell]
  have V3 : Vars w3 w1.heap.size w.heap.size (w.heap.size + 1) g := HV.out.across (fun k hk => by
    have h1 := HSZ.out
    have h2 := HGL.out
    refine hk3 k (by omega) (by rw [hss2]; omega) (by omega))
  have HV3 := Lib.hid V3
  have H3 := Lib.hid h3
  have HΦ := Lib.hid hΦ
  have HS3 : Hid (w.heap.size + 2 ≤ w3.heap.size) := Lib.hid (by have h1 := HSZ.out; omega)
  clear h3 hΦ hsz3 hk3 V3 hss2 HV P1
  rcases he with rfl | ⟨older, hpl, rfl⟩
  · obtain ⟨T1, T2, T3, T4⟩ := told_keeps w3 w1.heap.size w.heap.size (w.heap.size + 1) g A c l s true HV3.out H3.out
    have HT1 := Lib.hid T1
    have HT2 := Lib.hid T2
    have HT3 := Lib.hid T3
    have HT4 := Lib.hid T4
    obtain ⟨y0, y1, y2, y3, y4⟩ := H3.out.cells
    obtain ⟨z1, ⟨_, z2⟩, z3, ⟨_, z4⟩, ⟨_, z5⟩, z6, z7⟩ := HV3.out.cells
    obtain ⟨n1, n2, n3, n4, n5, n6⟩ := HV3.out.ne
    clear T1 T2 T3 T4 x0 x1 x2 x3 x4
    go_wp2_with fail
    refine wp_region_noPanic ?_
    go_region_law (fail)
    all_goals (
      refine NoPanic.normal ?_
      go_wp2_with fail
      show bodyPostD _ _ _ _ _ (told w3 w.heap.size (w.heap.size + 1) s).drew
      refine leaves_cons (f := 30) (args := #[.pointer (some ⟨w1.heap.size, 0, none⟩), .pointer (some ⟨w.heap.size, 0, none⟩), .pointer (some ⟨w.heap.size + 1, 0, none⟩)]) (by simp) (by simp [go_sem]) ?_
      refine (catch_idle _ w1.heap.size w.heap.size (w.heap.size + 1) g A c l s true HT1.out HT2.out).mono ?_
      rintro e u' w4 ⟨rfl, rfl, hN4, hF4, h4, ho1, ho2, ho3, hsz4, hk4⟩
      have e1 : w4.cell? ⟨w.heap.size, 0, none⟩ = some (.int .i64 s.n) := by rw [cell_of_row _ _ 0 _ 3 (0, 0) hN4]; rfl
      have e2 : w4.cell? ⟨w.heap.size + 1, 0, none⟩ = some (.int .i64 s.code) := by rw [cell_of_row _ _ 0 _ 31 (0, 0) hF4]; rfl
      have e3 : w4.cell? ⟨w.heap.size + 1, 1, none⟩ = some (.int .i64 s.fat) := by rw [cell_of_row _ _ 1 _ 31 (0, 0) hF4]; rfl
      simp [Leaves, settle, results, Try.results13, go_sem, e1, e2, e3]
      have h1 := HS3.out
      have h2 := HGL.out
      have h3 := HT4.out
      exact ⟨g, A, c, s, w3, rfl, by omega, HΦ.out, ⟨ho1, ho2, ho3, by omega, fun k hk => (hk4 k (by omega) (by omega) (by omega) (by omega)).trans (HT3.out k (by omega) (by omega))⟩, h4⟩)
  · go_wp2_with fail
    refine leaves_cons (f := 30) (args := #[.pointer (some ⟨w1.heap.size, 0, none⟩), .pointer (some ⟨w.heap.size, 0, none⟩), .pointer (some ⟨w.heap.size + 1, 0, none⟩)]) (by simp) (by simp [go_sem]) ?_
    refine (catch_stop' w3 w1.heap.size w.heap.size (w.heap.size + 1) g A c l s true older HV3.out H3.out).mono ?_
    rintro e u' w4 ⟨rfl, rfl, hN4, hF4, h4, ho1, ho2, ho3, hsz4, hk4⟩
    have e1 : w4.cell? ⟨w.heap.size, 0, none⟩ = some (.int .i64 s.n) := by rw [cell_of_row _ _ 0 _ 3 (0, 0) hN4]; rfl
    have e2 : w4.cell? ⟨w.heap.size + 1, 0, none⟩ = some (.int .i64 s.code) := by rw [cell_of_row _ _ 0 _ 31 (0, 0) hF4]; rfl
    have e3 : w4.cell? ⟨w.heap.size + 1, 1, none⟩ = some (.int .i64 s.fat) := by rw [cell_of_row _ _ 1 _ 31 (0, 0) hF4]; rfl
    unfold Plain at hpl
    simp [Leaves, settle, hpl, results, Try.results13, go_sem, e1, e2, e3]
    have h1 := HS3.out
    have h2 := HGL.out
    exact ⟨g, A, c, s, w3, rfl, by omega, HΦ.out, ⟨ho1, ho2, ho3, by omega, fun k hk => hk4 k (by omega) (by omega) (by omega) (by omega)⟩, h4⟩
end Go.Proofs.Ytiikppiogglppaa
