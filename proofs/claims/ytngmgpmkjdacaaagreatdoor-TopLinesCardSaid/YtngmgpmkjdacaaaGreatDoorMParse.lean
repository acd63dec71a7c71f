/-
 text.Parse at the three formats of lines: what the format's reader tells.
-/
import Derived.Test.YtngmgpmkjdacaaaGreatDoorMGraph
import Derived.Test.YtngmgpmkjdacaaaGreatDoorMLnD
import Derived.Laws.EntriesVeiled
set_option linter.unusedSimpArgs false
set_option linter.unusedVariables false
namespace Go.Eng
set_option maxRecDepth 100000
open Go Go.Proofs Go.RowKit

theorem hidden {p : Prop} (h : p) : Hid p := h
theorem kpB {w w' : World} (h : RowKit.Below w.heap.size w w') : Kp (fun k => w.heap.size ≤ k) w w' :=
 ⟨h.tape, h.os, h.output, h.size, fun k hk _ => h.block k hk⟩
theorem belowK {w w' : World} (h : Kp (fun k => w.heap.size ≤ k) w w') : RowKit.Below w.heap.size w w' :=
 ⟨h.os, h.tape, h.output, h.size, fun k hk => h.heap k hk (by omega)⟩

theorem res_ct {P : Program} {fn : Func} {p u : Tmp} {ty : TypeId} (h : fn.results = #[.cell p ty, .tmp u]) (tmps : Array Value) (w : World) (g : Nat) (t : TypeId) (cs : Array Value) (fr : Nat × Nat) (d : TypeDesc) (y : Value)
  (hp : tmps.getD p undef = .pointer (some ⟨g, 0, none⟩)) (hg : w.heap[g]? = some (.cells cs t fr)) (hu : P.underlying ty = some d) (hd : (match d with | .struct _ | .array _ _ => true | _ => false) = true) (hi : (P.info? ty).map (·.size) = some cs.size)
  (hy : tmps.getD u undef = y) : (results fn tmps).run P w = .ok (.tuple #[.agg cs, y]) w := by
 have hp' : tmps[p]?.getD undef = .pointer (some ⟨g, 0, none⟩) := by simpa using hp
 have hy' : tmps[u]?.getD undef = y := by simpa using hy
 simp [results, h, hp', hy', asAddr, run_loadVar_row w g t ty cs fr d hg hu hd hi]
theorem res_cc {P : Program} {fn : Func} {p q : Tmp} {ty ty2 : TypeId} (h : fn.results = #[.cell p ty, .cell q ty2]) (tmps : Array Value) (w : World) (g : Nat) (t : TypeId) (cs : Array Value) (fr : Nat × Nat) (d : TypeDesc) (g2 : Nat) (t2 : TypeId) (cs2 : Array Value) (fr2 : Nat × Nat) (d2 : TypeDesc)
  (hp : tmps.getD p undef = .pointer (some ⟨g, 0, none⟩)) (hg : w.heap[g]? = some (.cells cs t fr)) (hu : P.underlying ty = some d) (hd : (match d with | .struct _ | .array _ _ => true | _ => false) = true) (hi : (P.info? ty).map (·.size) = some cs.size)
  (hp2 : tmps.getD q undef = .pointer (some ⟨g2, 0, none⟩)) (hg2 : w.heap[g2]? = some (.cells cs2 t2 fr2)) (hu2 : P.underlying ty2 = some d2) (hd2 : (match d2 with | .struct _ | .array _ _ => true | _ => false) = true) (hi2 : (P.info? ty2).map (·.size) = some cs2.size) :
  (results fn tmps).run P w = .ok (.tuple #[.agg cs, .agg cs2]) w := by
 have hp' : tmps[p]?.getD undef = .pointer (some ⟨g, 0, none⟩) := by simpa using hp
 have hq' : tmps[q]?.getD undef = .pointer (some ⟨g2, 0, none⟩) := by simpa using hp2
 simp [results, h, hp', hq', asAddr, run_loadVar_row w g t ty cs fr d hg hu hd hi, run_loadVar_row w g2 t2 ty2 cs2 fr2 d2 hg2 hu2 hd2 hi2]

/-- what a format does -/
def kindV (fmt : Int) : Value := if fmt = 1 then .agg #[.func (.func 59) #[] #[], .func (.func 60) #[] #[]] else if fmt = 2 then .agg #[.func (.func 61) #[] #[], .func (.func 62) #[] #[]] else .agg #[.func (.func 63) #[] #[], .func (.func 64) #[] #[]]
theorem of_any (fmt : Int) (hf : fmt = 1 ∨ fmt = 2 ∨ fmt = 3) (w : World) : Calls Tryz.prog 34 #[.int .i64 fmt] w fun e w' => e = .returned (.tuple #[kindV fmt, .bool true]) ∧ RowKit.Below w.heap.size w w' := by
 rcases hf with rfl | rfl | rfl
 all_goals
  go_enter Tryz.func34, Tryz.ntmps34
  go_wp2
  exact bodyPost_ret (res_ct rfl _ _ w.heap.size 89 _ (0, 0) _ (.bool true) rfl (heap_alloc_new w _) Tryz.underlying89 rfl (by kernel_rfl) rfl) rfl ⟨rfl, (Below.refl _ w).alloc (Nat.le_refl _) _⟩

/-- the reader of a format -/
def readerF (fmt : Int) : FuncId := if fmt = 1 then 60 else if fmt = 2 then 62 else 64
theorem SlAt.slice {w : World} {V : Value} {el e : Nat} {cells : List Value} (h : SlAt w V el e cells) : ∃ A n c, V = .slice A n c := by
 rcases h with ⟨rfl, _⟩ | ⟨b, o, len, cap, c, fz, rfl, _⟩
 ·exact ⟨_, _, _, rfl⟩
 ·exact ⟨_, _, _, rfl⟩
theorem ErrAt.lt {w : World} {k : Nat} (h : ErrAt w k) : k < w.heap.size := by
 obtain ⟨c, fz, pe, h1, _⟩ := h
 exact (Array.getElem?_eq_some_iff.1 h1).1
theorem W.below {w w' : World} (h : W w) (hb : RowKit.Below w.heap.size w w') : W w' := by
 obtain ⟨h6, h7⟩ := h
 have e6 := hb.block 6 h6.lt
 have e7 := hb.block 7 h7.lt
 exact ⟨by unfold ErrAt; rw [e6]; exact h6, by unfold ErrAt; rw [e7]; exact h7⟩

/-- a row's type is so: then it is kept -/
theorem SlAt.kept {w w' : World} {V : Value} {el e : Nat} {cells : List Value} (h : SlAt w V el e cells) (hk : ∀ (k : Nat) (c : Array Value) (fz : Nat × Nat), w.heap[k]? = some (Obj.cells c el fz) → w'.heap[k]? = w.heap[k]?) : SlAt w' V el e cells := by
 rcases h with h | ⟨b, o, len, cap, c, fz, h0, h1, h2, h3, h4, h5, h6⟩
 ·exact .inl h
 ·exact .inr ⟨b, o, len, cap, c, fz, h0, h1, h2, h3, h4, (hk b c fz h5).trans h5, h6⟩
/-- a metric and a fault, stored into their boxes -/
def put62 (w : World) (m n : Nat) (v0 v1 v2 v3 v4 v5 u0 u1 : Value) : World := (((((((w.setCell ⟨m, 0, none⟩ v0).setCell ⟨m, 1, none⟩ v1).setCell ⟨m, 2, none⟩ v2).setCell ⟨m, 3, none⟩ v3).setCell ⟨m, 4, none⟩ v4).setCell ⟨m, 5, none⟩ v5).setCell ⟨n, 0, none⟩ u0).setCell ⟨n, 1, none⟩ u1
theorem put62_at {w : World} {m n : Nat} {c0 c1 c2 c3 c4 c5 d0 d1 : Value} (hm : w.heap[m]? = some (.cells #[c0, c1, c2, c3, c4, c5] 42 (0, 0))) (hn : w.heap[n]? = some (.cells #[d0, d1] 127 (0, 0))) (v0 v1 v2 v3 v4 v5 u0 u1 : Value) :
  (put62 w m n v0 v1 v2 v3 v4 v5 u0 u1).heap[m]? = some (.cells #[v0, v1, v2, v3, v4, v5] 42 (0, 0)) ∧ (put62 w m n v0 v1 v2 v3 v4 v5 u0 u1).heap[n]? = some (.cells #[u0, u1] 127 (0, 0)) ∧ (∀ k, k ≠ m → k ≠ n → (put62 w m n v0 v1 v2 v3 v4 v5 u0 u1).heap[k]? = w.heap[k]?) := by
 have hne : m ≠ n := fun e => by rw [e, hn] at hm; cases hm
 unfold put62
 refine ⟨?_, ?_, fun k k1 k2 => ?_⟩
 ·rw [heap_setCell_other _ _ _ _ hne, heap_setCell_other _ _ _ _ hne]
  have a : _ = some (Obj.cells #[v0, c1, c2, c3, c4, c5] 42 (0, 0)) := heap_setCell_same _ m 0 _ 42 v0 hm
  have a : _ = some (Obj.cells #[v0, v1, c2, c3, c4, c5] 42 (0, 0)) := heap_setCell_same _ m 1 _ 42 v1 a
  have a : _ = some (Obj.cells #[v0, v1, v2, c3, c4, c5] 42 (0, 0)) := heap_setCell_same _ m 2 _ 42 v2 a
  have a : _ = some (Obj.cells #[v0, v1, v2, v3, c4, c5] 42 (0, 0)) := heap_setCell_same _ m 3 _ 42 v3 a
  have a : _ = some (Obj.cells #[v0, v1, v2, v3, v4, c5] 42 (0, 0)) := heap_setCell_same _ m 4 _ 42 v4 a
  have a : _ = some (Obj.cells #[v0, v1, v2, v3, v4, v5] 42 (0, 0)) := heap_setCell_same _ m 5 _ 42 v5 a
  exact a
 ·have a : ((((((w.setCell ⟨m, 0, none⟩ v0).setCell ⟨m, 1, none⟩ v1).setCell ⟨m, 2, none⟩ v2).setCell ⟨m, 3, none⟩ v3).setCell ⟨m, 4, none⟩ v4).setCell ⟨m, 5, none⟩ v5).heap[n]? = some (.cells #[d0, d1] 127 (0, 0)) := by
   rw [heap_setCell_other _ _ _ _ hne.symm, heap_setCell_other _ _ _ _ hne.symm, heap_setCell_other _ _ _ _ hne.symm, heap_setCell_other _ _ _ _ hne.symm, heap_setCell_other _ _ _ _ hne.symm, heap_setCell_other _ _ _ _ hne.symm]
   exact hn
  have a := heap_setCell_same _ n 0 _ 127 u0 a
  exact heap_setCell_same _ n 1 _ 127 u1 a
 ·rw [heap_setCell_other _ _ _ _ k2, heap_setCell_other _ _ _ _ k2, heap_setCell_other _ _ _ _ k1, heap_setCell_other _ _ _ _ k1, heap_setCell_other _ _ _ _ k1, heap_setCell_other _ _ _ _ k1, heap_setCell_other _ _ _ _ k1, heap_setCell_other _ _ _ _ k1]
theorem kp_set (w : World) (g j : Nat) (v : Value) {B : Nat} (h : B ≤ g) : Kp (fun k => B ≤ k) w (w.setCell ⟨g, j, none⟩ v) :=
 ⟨rfl, rfl, rfl, by simp [World.setCell], fun k _ hB => heap_setCell_other _ _ _ _ (by show k ≠ g; omega)⟩
theorem put62_kp (w : World) (m n : Nat) (v0 v1 v2 v3 v4 v5 u0 u1 : Value) {B : Nat} (hm : B ≤ m) (hn : B ≤ n) : Kp (fun k => B ≤ k) w (put62 w m n v0 v1 v2 v3 v4 v5 u0 u1) :=
 (kp_set _ m 0 v0 hm).trans ((kp_set _ m 1 v1 hm).trans ((kp_set _ m 2 v2 hm).trans ((kp_set _ m 3 v3 hm).trans ((kp_set _ m 4 v4 hm).trans ((kp_set _ m 5 v5 hm).trans ((kp_set _ n 0 u0 hn).trans (kp_set _ n 1 u1 hn)))))))

set_option maxHeartbeats 4000000 in
theorem parse_any (fmt : Int) (hf : fmt = 1 ∨ fmt = 2 ∨ fmt = 3) (s : ByteArray) (hs : s.size ≤ 8192) (out : Value) (h : FnT (readerF fmt) [.string s] out) : FnT 88 [.string s, .int .i64 fmt] out := fun w hW => by
 have hof := fun w => of_any fmt hf w
 have hs' : ¬ (8192 : Int) < (s.size : Int) := by omega
 show Calls Tryz.prog 88 #[.string s, .int .i64 fmt] w fun e w' => MetTags w' e out ∧ Kp (fun k => w.heap.size ≤ k) w w'
 rcases hf with rfl | rfl | rfl
 ·have hof : ∀ w, Calls Tryz.prog 34 #[.int .i64 1] w fun e w' => e = .returned (.tuple #[.agg #[.func (.func 59) #[] #[], .func (.func 60) #[] #[]], .bool true]) ∧ RowKit.Below w.heap.size w w' := hof
  have h : FnT 60 [.string s] out := h
  go_enter Tryz.func88, Tryz.ntmps88
  go_wp2_with (go_at_call 34; refine (hof _).mono ?_; rintro e w2 ⟨rfl, hb2⟩)
  obtain ⟨wa, hwa⟩ : ∃ wa, wa = (w.alloc (.cells #[.string ⟨#[]⟩, .int .i64 0, .slice none 0 0, .int .i64 0, .slice none 0 0, .int .i64 0] 42)).alloc (.cells #[.int .i64 0, .int .i64 0] 127) := ⟨_, rfl⟩
  rw [← hwa] at hb2
  have hba : RowKit.Below w.heap.size w wa := by rw [hwa]; exact ((Below.refl _ w).alloc (Nat.le_refl _) _).alloc (by simp) _
  have hz0 : wa.heap[w.heap.size]? = some (.cells #[.string ⟨#[]⟩, .int .i64 0, .slice none 0 0, .int .i64 0, .slice none 0 0, .int .i64 0] 42 (0, 0)) := by
   rw [hwa]; exact (Below.heap_alloc _ _ _ (by simp)).trans (heap_alloc_new w _)
  have hz1 : wa.heap[w.heap.size + 1]? = some (.cells #[.int .i64 0, .int .i64 0] 127 (0, 0)) := by
   rw [hwa]
   have := heap_alloc_new (w.alloc (.cells #[.string ⟨#[]⟩, .int .i64 0, .slice none 0 0, .int .i64 0, .slice none 0 0, .int .i64 0] 42)) (.cells #[.int .i64 0, .int .i64 0] 127)
   rwa [World.size_alloc] at this
  clear hwa
  have hbX : RowKit.Below wa.heap.size wa (w2.alloc (.cells #[.func (.func 59) #[] #[], .func (.func 60) #[] #[]] 89)) := hb2.alloc hb2.size _
  refine (h _ ((hW.below hba).below hbX)).mono ?_
  rintro e w3 ⟨⟨a0, a1, a3, a5, f0, f1, V, cells, T, tags, ho, rfl, hV, hT, ⟨⟨x0, rfl⟩, ⟨x1, rfl⟩, ⟨x3, rfl⟩, ⟨x5, rfl⟩, ⟨y0, rfl⟩, ⟨y1, rfl⟩⟩, hc, ht⟩, hk⟩
  have hb3 : RowKit.Below wa.heap.size wa w3 := hbX.trans ((belowK hk).mono hbX.size)
  have z0 := (hb3.block _ (Array.getElem?_eq_some_iff.1 hz0).1).trans hz0
  have z1 := (hb3.block _ (Array.getElem?_eq_some_iff.1 hz1).1).trans hz1
  have HB := hidden (hba.trans (hb3.mono hba.size))
  obtain ⟨VA, Vn, Vc, rfl⟩ := hV.slice
  obtain ⟨TA, Tn, Tc, rfl⟩ := hT.slice
  clear hk hb2 hbX hb3 hz0 hz1 hba hof h
  have c00 : w3.cell? ⟨w.heap.size, 0, none⟩ = some (.string ⟨#[]⟩) := by rw [cell_of_row _ _ _ _ _ _ z0]; rfl
  have c01 : w3.cell? ⟨w.heap.size, 1, none⟩ = some (.int .i64 0) := by rw [cell_of_row _ _ _ _ _ _ z0]; rfl
  have c02 : w3.cell? ⟨w.heap.size, 2, none⟩ = some (.slice none 0 0) := by rw [cell_of_row _ _ _ _ _ _ z0]; rfl
  have c03 : w3.cell? ⟨w.heap.size, 3, none⟩ = some (.int .i64 0) := by rw [cell_of_row _ _ _ _ _ _ z0]; rfl
  have c04 : w3.cell? ⟨w.heap.size, 4, none⟩ = some (.slice none 0 0) := by rw [cell_of_row _ _ _ _ _ _ z0]; rfl
  have c05 : w3.cell? ⟨w.heap.size, 5, none⟩ = some (.int .i64 0) := by rw [cell_of_row _ _ _ _ _ _ z0]; rfl
  have c10 : w3.cell? ⟨w.heap.size + 1, 0, none⟩ = some (.int .i64 0) := by rw [cell_of_row _ _ _ _ _ _ z1]; rfl
  have c11 : w3.cell? ⟨w.heap.size + 1, 1, none⟩ = some (.int .i64 0) := by rw [cell_of_row _ _ _ _ _ _ z1]; rfl
  have f0 := fun j => frozen_of_row w3 w.heap.size j _ 42 z0
  have f1 := fun j => frozen_of_row w3 (w.heap.size + 1) j _ 127 z1
  have Z0 := hidden z0
  have Z1 := hidden z1
  have HV := hidden hV
  have HT := hidden hT
  have HO := hidden ho
  have HC := hidden hc
  have HTt := hidden ht
  clear z0 z1 hV hT ho hc ht
  simp only [Ty.val]
  go_wp2_with fail
  have hp := put62_at Z0.out Z1.out (.string ⟨x0.toS.toArray⟩) (.int .i64 x1.toI) (.slice VA Vn Vc) (.int .i64 x3.toI) (.slice TA Tn Tc) (.int .i64 x5.toI) (.int .i64 y0.toI) (.int .i64 y1.toI)
  have hK := put62_kp w3 w.heap.size (w.heap.size + 1) (.string ⟨x0.toS.toArray⟩) (.int .i64 x1.toI) (.slice VA Vn Vc) (.int .i64 x3.toI) (.slice TA Tn Tc) (.int .i64 x5.toI) (.int .i64 y0.toI) (.int .i64 y1.toI) (B := w.heap.size) (Nat.le_refl _) (Nat.le_succ _)
  have hother : ∀ (el k : Nat) (c : Array Value) (fz : Nat × Nat), el ≠ 42 → el ≠ 127 → w3.heap[k]? = some (.cells c el fz) → k ≠ w.heap.size ∧ k ≠ w.heap.size + 1 := fun el k c fz h1 h2 hk =>
   ⟨fun e => by rw [e, Z0.out] at hk; cases hk; exact h1 rfl, fun e => by rw [e, Z1.out] at hk; cases hk; exact h2 rfl⟩
  refine bodyPost_ret (res_cc rfl _ _ w.heap.size 42 _ (0, 0) _ (w.heap.size + 1) 127 _ (0, 0) _ rfl hp.1 Tryz.underlying42 rfl (by kernel_rfl) rfl hp.2.1 Tryz.underlying127 rfl (by kernel_rfl)) rfl
   ⟨⟨_, _, _, _, _, _, _, _, _, _, HO.out, rfl, HV.out.kept fun k c fz hk => ?_, HT.out.kept fun k c fz hk => ?_, ⟨⟨x0, rfl⟩, ⟨x1, rfl⟩, ⟨x3, rfl⟩, ⟨x5, rfl⟩, ⟨y0, rfl⟩, ⟨y1, rfl⟩⟩, HC.out, HTt.out⟩, (kpB HB.out).trans hK⟩
  ·obtain ⟨q1, q2⟩ := hother 36 k c fz (by decide) (by decide) hk
   exact hp.2.2 k q1 q2
  ·obtain ⟨q1, q2⟩ := hother 39 k c fz (by decide) (by decide) hk
   exact hp.2.2 k q1 q2
 ·have hof : ∀ w, Calls Tryz.prog 34 #[.int .i64 2] w fun e w' => e = .returned (.tuple #[.agg #[.func (.func 61) #[] #[], .func (.func 62) #[] #[]], .bool true]) ∧ RowKit.Below w.heap.size w w' := hof
  have h : FnT 62 [.string s] out := h
  go_enter Tryz.func88, Tryz.ntmps88
  go_wp2_with (go_at_call 34; refine (hof _).mono ?_; rintro e w2 ⟨rfl, hb2⟩)
  obtain ⟨wa, hwa⟩ : ∃ wa, wa = (w.alloc (.cells #[.string ⟨#[]⟩, .int .i64 0, .slice none 0 0, .int .i64 0, .slice none 0 0, .int .i64 0] 42)).alloc (.cells #[.int .i64 0, .int .i64 0] 127) := ⟨_, rfl⟩
  rw [← hwa] at hb2
  have hba : RowKit.Below w.heap.size w wa := by rw [hwa]; exact ((Below.refl _ w).alloc (Nat.le_refl _) _).alloc (by simp) _
  have hz0 : wa.heap[w.heap.size]? = some (.cells #[.string ⟨#[]⟩, .int .i64 0, .slice none 0 0, .int .i64 0, .slice none 0 0, .int .i64 0] 42 (0, 0)) := by
   rw [hwa]; exact (Below.heap_alloc _ _ _ (by simp)).trans (heap_alloc_new w _)
  have hz1 : wa.heap[w.heap.size + 1]? = some (.cells #[.int .i64 0, .int .i64 0] 127 (0, 0)) := by
   rw [hwa]
   have := heap_alloc_new (w.alloc (.cells #[.string ⟨#[]⟩, .int .i64 0, .slice none 0 0, .int .i64 0, .slice none 0 0, .int .i64 0] 42)) (.cells #[.int .i64 0, .int .i64 0] 127)
   rwa [World.size_alloc] at this
  clear hwa
  have hbX : RowKit.Below wa.heap.size wa (w2.alloc (.cells #[.func (.func 61) #[] #[], .func (.func 62) #[] #[]] 89)) := hb2.alloc hb2.size _
  refine (h _ ((hW.below hba).below hbX)).mono ?_
  rintro e w3 ⟨⟨a0, a1, a3, a5, f0, f1, V, cells, T, tags, ho, rfl, hV, hT, ⟨⟨x0, rfl⟩, ⟨x1, rfl⟩, ⟨x3, rfl⟩, ⟨x5, rfl⟩, ⟨y0, rfl⟩, ⟨y1, rfl⟩⟩, hc, ht⟩, hk⟩
  have hb3 : RowKit.Below wa.heap.size wa w3 := hbX.trans ((belowK hk).mono hbX.size)
  have z0 := (hb3.block _ (Array.getElem?_eq_some_iff.1 hz0).1).trans hz0
  have z1 := (hb3.block _ (Array.getElem?_eq_some_iff.1 hz1).1).trans hz1
  have HB := hidden (hba.trans (hb3.mono hba.size))
  obtain ⟨VA, Vn, Vc, rfl⟩ := hV.slice
  obtain ⟨TA, Tn, Tc, rfl⟩ := hT.slice
  clear hk hb2 hbX hb3 hz0 hz1 hba hof h
  have c00 : w3.cell? ⟨w.heap.size, 0, none⟩ = some (.string ⟨#[]⟩) := by rw [cell_of_row _ _ _ _ _ _ z0]; rfl
  have c01 : w3.cell? ⟨w.heap.size, 1, none⟩ = some (.int .i64 0) := by rw [cell_of_row _ _ _ _ _ _ z0]; rfl
  have c02 : w3.cell? ⟨w.heap.size, 2, none⟩ = some (.slice none 0 0) := by rw [cell_of_row _ _ _ _ _ _ z0]; rfl
  have c03 : w3.cell? ⟨w.heap.size, 3, none⟩ = some (.int .i64 0) := by rw [cell_of_row _ _ _ _ _ _ z0]; rfl
  have c04 : w3.cell? ⟨w.heap.size, 4, none⟩ = some (.slice none 0 0) := by rw [cell_of_row _ _ _ _ _ _ z0]; rfl
  have c05 : w3.cell? ⟨w.heap.size, 5, none⟩ = some (.int .i64 0) := by rw [cell_of_row _ _ _ _ _ _ z0]; rfl
  have c10 : w3.cell? ⟨w.heap.size + 1, 0, none⟩ = some (.int .i64 0) := by rw [cell_of_row _ _ _ _ _ _ z1]; rfl
  have c11 : w3.cell? ⟨w.heap.size + 1, 1, none⟩ = some (.int .i64 0) := by rw [cell_of_row _ _ _ _ _ _ z1]; rfl
  have f0 := fun j => frozen_of_row w3 w.heap.size j _ 42 z0
  have f1 := fun j => frozen_of_row w3 (w.heap.size + 1) j _ 127 z1
  have Z0 := hidden z0
  have Z1 := hidden z1
  have HV := hidden hV
  have HT := hidden hT
  have HO := hidden ho
  have HC := hidden hc
  have HTt := hidden ht
  clear z0 z1 hV hT ho hc ht
  simp only [Ty.val]
  go_wp2_with fail
  have hp := put62_at Z0.out Z1.out (.string ⟨x0.toS.toArray⟩) (.int .i64 x1.toI) (.slice VA Vn Vc) (.int .i64 x3.toI) (.slice TA Tn Tc) (.int .i64 x5.toI) (.int .i64 y0.toI) (.int .i64 y1.toI)
  have hK := put62_kp w3 w.heap.size (w.heap.size + 1) (.string ⟨x0.toS.toArray⟩) (.int .i64 x1.toI) (.slice VA Vn Vc) (.int .i64 x3.toI) (.slice TA Tn Tc) (.int .i64 x5.toI) (.int .i64 y0.toI) (.int .i64 y1.toI) (B := w.heap.size) (Nat.le_refl _) (Nat.le_succ _)
  have hother : ∀ (el k : Nat) (c : Array Value) (fz : Nat × Nat), el ≠ 42 → el ≠ 127 → w3.heap[k]? = some (.cells c el fz) → k ≠ w.heap.size ∧ k ≠ w.heap.size + 1 := fun el k c fz h1 h2 hk =>
   ⟨fun e => by rw [e, Z0.out] at hk; cases hk; exact h1 rfl, fun e => by rw [e, Z1.out] at hk; cases hk; exact h2 rfl⟩
  refine bodyPost_ret (res_cc rfl _ _ w.heap.size 42 _ (0, 0) _ (w.heap.size + 1) 127 _ (0, 0) _ rfl hp.1 Tryz.underlying42 rfl (by kernel_rfl) rfl hp.2.1 Tryz.underlying127 rfl (by kernel_rfl)) rfl
   ⟨⟨_, _, _, _, _, _, _, _, _, _, HO.out, rfl, HV.out.kept fun k c fz hk => ?_, HT.out.kept fun k c fz hk => ?_, ⟨⟨x0, rfl⟩, ⟨x1, rfl⟩, ⟨x3, rfl⟩, ⟨x5, rfl⟩, ⟨y0, rfl⟩, ⟨y1, rfl⟩⟩, HC.out, HTt.out⟩, (kpB HB.out).trans hK⟩
  ·obtain ⟨q1, q2⟩ := hother 36 k c fz (by decide) (by decide) hk
   exact hp.2.2 k q1 q2
  ·obtain ⟨q1, q2⟩ := hother 39 k c fz (by decide) (by decide) hk
   exact hp.2.2 k q1 q2
 ·have hof : ∀ w, Calls Tryz.prog 34 #[.int .i64 3] w fun e w' => e = .returned (.tuple #[.agg #[.func (.func 63) #[] #[], .func (.func 64) #[] #[]], .bool true]) ∧ RowKit.Below w.heap.size w w' := hof
  have h : FnT 64 [.string s] out := h
  go_enter Tryz.func88, Tryz.ntmps88
  go_wp2_with (go_at_call 34; refine (hof _).mono ?_; rintro e w2 ⟨rfl, hb2⟩)
  obtain ⟨wa, hwa⟩ : ∃ wa, wa = (w.alloc (.cells #[.string ⟨#[]⟩, .int .i64 0, .slice none 0 0, .int .i64 0, .slice none 0 0, .int .i64 0] 42)).alloc (.cells #[.int .i64 0, .int .i64 0] 127) := ⟨_, rfl⟩
  rw [← hwa] at hb2
  have hba : RowKit.Below w.heap.size w wa := by rw [hwa]; exact ((Below.refl _ w).alloc (Nat.le_refl _) _).alloc (by simp) _
  have hz0 : wa.heap[w.heap.size]? = some (.cells #[.string ⟨#[]⟩, .int .i64 0, .slice none 0 0, .int .i64 0, .slice none 0 0, .int .i64 0] 42 (0, 0)) := by
   rw [hwa]; exact (Below.heap_alloc _ _ _ (by simp)).trans (heap_alloc_new w _)
  have hz1 : wa.heap[w.heap.size + 1]? = some (.cells #[.int .i64 0, .int .i64 0] 127 (0, 0)) := by
   rw [hwa]
   have := heap_alloc_new (w.alloc (.cells #[.string ⟨#[]⟩, .int .i64 0, .slice none 0 0, .int .i64 0, .slice none 0 0, .int .i64 0] 42)) (.cells #[.int .i64 0, .int .i64 0] 127)
   rwa [World.size_alloc] at this
  clear hwa
  have hbX : RowKit.Below wa.heap.size wa (w2.alloc (.cells #[.func (.func 63) #[] #[], .func (.func 64) #[] #[]] 89)) := hb2.alloc hb2.size _
  refine (h _ ((hW.below hba).below hbX)).mono ?_
  rintro e w3 ⟨⟨a0, a1, a3, a5, f0, f1, V, cells, T, tags, ho, rfl, hV, hT, ⟨⟨x0, rfl⟩, ⟨x1, rfl⟩, ⟨x3, rfl⟩, ⟨x5, rfl⟩, ⟨y0, rfl⟩, ⟨y1, rfl⟩⟩, hc, ht⟩, hk⟩
  have hb3 : RowKit.Below wa.heap.size wa w3 := hbX.trans ((belowK hk).mono hbX.size)
  have z0 := (hb3.block _ (Array.getElem?_eq_some_iff.1 hz0).1).trans hz0
  have z1 := (hb3.block _ (Array.getElem?_eq_some_iff.1 hz1).1).trans hz1
  have HB := hidden (hba.trans (hb3.mono hba.size))
  obtain ⟨VA, Vn, Vc, rfl⟩ := hV.slice
  obtain ⟨TA, Tn, Tc, rfl⟩ := hT.slice
  clear hk hb2 hbX hb3 hz0 hz1 hba hof h
  have c00 : w3.cell? ⟨w.heap.size, 0, none⟩ = some (.string ⟨#[]⟩) := by rw [cell_of_row _ _ _ _ _ _ z0]; rfl
  have c01 : w3.cell? ⟨w.heap.size, 1, none⟩ = some (.int .i64 0) := by rw [cell_of_row _ _ _ _ _ _ z0]; rfl
  have c02 : w3.cell? ⟨w.heap.size, 2, none⟩ = some (.slice none 0 0) := by rw [cell_of_row _ _ _ _ _ _ z0]; rfl
  have c03 : w3.cell? ⟨w.heap.size, 3, none⟩ = some (.int .i64 0) := by rw [cell_of_row _ _ _ _ _ _ z0]; rfl
  have c04 : w3.cell? ⟨w.heap.size, 4, none⟩ = some (.slice none 0 0) := by rw [cell_of_row _ _ _ _ _ _ z0]; rfl
  have c05 : w3.cell? ⟨w.heap.size, 5, none⟩ = some (.int .i64 0) := by rw [cell_of_row _ _ _ _ _ _ z0]; rfl
  have c10 : w3.cell? ⟨w.heap.size + 1, 0, none⟩ = some (.int .i64 0) := by rw [cell_of_row _ _ _ _ _ _ z1]; rfl
  have c11 : w3.cell? ⟨w.heap.size + 1, 1, none⟩ = some (.int .i64 0) := by rw [cell_of_row _ _ _ _ _ _ z1]; rfl
  have f0 := fun j => frozen_of_row w3 w.heap.size j _ 42 z0
  have f1 := fun j => frozen_of_row w3 (w.heap.size + 1) j _ 127 z1
  have Z0 := hidden z0
  have Z1 := hidden z1
  have HV := hidden hV
  have HT := hidden hT
  have HO := hidden ho
  have HC := hidden hc
  have HTt := hidden ht
  clear z0 z1 hV hT ho hc ht
  simp only [Ty.val]
  go_wp2_with fail
  have hp := put62_at Z0.out Z1.out (.string ⟨x0.toS.toArray⟩) (.int .i64 x1.toI) (.slice VA Vn Vc) (.int .i64 x3.toI) (.slice TA Tn Tc) (.int .i64 x5.toI) (.int .i64 y0.toI) (.int .i64 y1.toI)
  have hK := put62_kp w3 w.heap.size (w.heap.size + 1) (.string ⟨x0.toS.toArray⟩) (.int .i64 x1.toI) (.slice VA Vn Vc) (.int .i64 x3.toI) (.slice TA Tn Tc) (.int .i64 x5.toI) (.int .i64 y0.toI) (.int .i64 y1.toI) (B := w.heap.size) (Nat.le_refl _) (Nat.le_succ _)
  have hother : ∀ (el k : Nat) (c : Array Value) (fz : Nat × Nat), el ≠ 42 → el ≠ 127 → w3.heap[k]? = some (.cells c el fz) → k ≠ w.heap.size ∧ k ≠ w.heap.size + 1 := fun el k c fz h1 h2 hk =>
   ⟨fun e => by rw [e, Z0.out] at hk; cases hk; exact h1 rfl, fun e => by rw [e, Z1.out] at hk; cases hk; exact h2 rfl⟩
  refine bodyPost_ret (res_cc rfl _ _ w.heap.size 42 _ (0, 0) _ (w.heap.size + 1) 127 _ (0, 0) _ rfl hp.1 Tryz.underlying42 rfl (by kernel_rfl) rfl hp.2.1 Tryz.underlying127 rfl (by kernel_rfl)) rfl
   ⟨⟨_, _, _, _, _, _, _, _, _, _, HO.out, rfl, HV.out.kept fun k c fz hk => ?_, HT.out.kept fun k c fz hk => ?_, ⟨⟨x0, rfl⟩, ⟨x1, rfl⟩, ⟨x3, rfl⟩, ⟨x5, rfl⟩, ⟨y0, rfl⟩, ⟨y1, rfl⟩⟩, HC.out, HTt.out⟩, (kpB HB.out).trans hK⟩
  ·obtain ⟨q1, q2⟩ := hother 36 k c fz (by decide) (by decide) hk
   exact hp.2.2 k q1 q2
  ·obtain ⟨q1, q2⟩ := hother 39 k c fz (by decide) (by decide) hk
   exact hp.2.2 k q1 q2
end Go.Eng
