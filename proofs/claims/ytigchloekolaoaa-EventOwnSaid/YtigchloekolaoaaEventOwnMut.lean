/-
  Metrics of one's own, whose names, numbers and tags are changed.
-/
import Derived.Test.YtigchloekolaoaaEventOwnPlain
import Derived.Laws.Rows
namespace Go.Proofs.Ytigchloekolaoaa.PEventOwn
open Go.RowKit Go.Proofs.YtigchloekolaoaaW.PrintWords Go.Proofs.YtigchloekolaoaaW.PrintLast Go.Proofs.YtigchloekolaoaaW.PrintMore

/-- A block whose cells may be stored. -/
def Thaw (W : World) (b : Nat) : Prop := ∃ cs t, W.heap[b]? = some (.cells cs t (0, 0))
/-- A string that is not too long. -/
def P1 (W : World) (p : Addr) (N : Nat) : Prop := ∃ s, W.cell? p = some (.string s) ∧ s.size ≤ N
/-- A number. -/
def P2 (W : World) (p : Addr) : Prop := ∃ z, W.cell? p = some (.int .u64 z)

theorem Thaw.free {W : World} {b : Nat} (h : Thaw W b) (j : Nat) : W.frozen? ⟨b, j, none⟩ = false := by
  obtain ⟨cs, t, h⟩ := h
  exact frozen_of_row W b j cs t h
theorem Thaw.set {W : World} {b : Nat} (h : Thaw W b) (g j : Nat) (u : Value) : Thaw (W.setCell ⟨g, j, none⟩ u) b := by
  obtain ⟨cs, t, h⟩ := h
  by_cases e : b = g
  · subst e
    exact ⟨_, _, heap_setCell_same W b j cs t u h⟩
  · exact ⟨cs, t, (heap_setCell_other W ⟨g, j, none⟩ b u e).trans h⟩

theorem cell_put {W : World} {p q : Addr} {u v u0 : Value} (h0 : W.cell? p = some u0) (h : W.cell? q = some v) (hne : u0 ≠ v) : (W.setCell p u).cell? q = some v := by
  rw [World.cell?_setCell_other _ _ _ _ (fun e => ?_)]
  · exact h
  · rw [e, h] at h0
    exact hne (Option.some.inj h0).symm

theorem P1.str {W : World} {p q : Addr} {N : Nat} {s : ByteArray} (h0 : P1 W p N) (h : P1 W q N) (hs : s.size ≤ N + 1) : P1 (W.setCell p (.string s)) q (N + 1) := by
  obtain ⟨s0, h0, _⟩ := h0
  obtain ⟨s1, h1, h2⟩ := h
  by_cases e : p = q
  · subst e
    exact ⟨s, World.cell?_setCell_same _ _ _ h0, hs⟩
  · exact ⟨s1, (World.cell?_setCell_other _ _ _ _ e).trans h1, by omega⟩
theorem P2.str {W : World} {p q : Addr} {N : Nat} {u : Value} (h0 : P1 W p N) (h : P2 W q) : P2 (W.setCell p u) q := by
  obtain ⟨s0, h0, _⟩ := h0
  obtain ⟨z, h⟩ := h
  exact ⟨z, cell_put h0 h (by intro e; cases e)⟩
theorem P1.num {W : World} {p q : Addr} {N : Nat} {u : Value} (h0 : P2 W p) (h : P1 W q N) : P1 (W.setCell p u) q N := by
  obtain ⟨z, h0⟩ := h0
  obtain ⟨s, h, hs⟩ := h
  exact ⟨s, cell_put h0 h (by intro e; cases e), hs⟩
theorem P2.num {W : World} {p q : Addr} {z : Int} (h0 : P2 W p) (h : P2 W q) : P2 (W.setCell p (.int .u64 z)) q := by
  obtain ⟨z0, h0⟩ := h0
  obtain ⟨z1, h⟩ := h
  by_cases e : p = q
  · subst e
    exact ⟨z, World.cell?_setCell_same _ _ _ h0⟩
  · exact ⟨z1, (World.cell?_setCell_other _ _ _ _ e).trans h⟩

/-- One metric. -/
structure MutEl (W : World) (B N g i : Nat) (A2 : Option Addr) (n2 c2 : Nat) (A4 : Option Addr) (n4 c4 : Nat) : Prop where
  name : P1 W ⟨g, i * 6, none⟩ N
  vals : W.cell? ⟨g, i * 6 + 2, none⟩ = some (.slice A2 n2 c2)
  tags : W.cell? ⟨g, i * 6 + 4, none⟩ = some (.slice A4 n4 c4)
  l2 : n2 ≤ 80
  l4 : n4 ≤ 50
  val : n2 = 0 ∨ ∃ b, A2 = some ⟨b, 0, none⟩ ∧ B ≤ b ∧ Thaw W b ∧ ∀ k, k < n2 → P2 W ⟨b, k * 3 + 1, none⟩
  tag : n4 = 0 ∨ ∃ b, A4 = some ⟨b, 0, none⟩ ∧ B ≤ b ∧ Thaw W b ∧ ∀ k, k < n4 → P1 W ⟨b, k * 2, none⟩ N

/-- All metrics. -/
structure MutAt (w W : World) (N g n : Nat) : Prop where
  ge : w.heap.size ≤ g
  thaw : Thaw W g
  el : ∀ i, i < n → ∃ A2 n2 c2 A4 n4 c4, MutEl W w.heap.size N g i A2 n2 c2 A4 n4 c4
  below : Below w.heap.size w W

theorem MutAt.str {w W : World} {N g n b j : Nat} {s : ByteArray} (h : MutAt w W N g n) (hb : w.heap.size ≤ b) (h0 : P1 W ⟨b, j, none⟩ N) (hs : s.size ≤ N + 1) : MutAt w (W.setCell ⟨b, j, none⟩ (.string s)) (N + 1) g n := by
  refine ⟨h.ge, h.thaw.set b j _, fun i hi => ?_, h.below.setCell (p := ⟨b, j, none⟩) hb _⟩
  obtain ⟨A2, n2, c2, A4, n4, c4, e⟩ := h.el i hi
  have hc : ∀ q A n c, W.cell? q = some (.slice A n c) → (W.setCell ⟨b, j, none⟩ (.string s)).cell? q = some (.slice A n c) := fun q A n c hq => by
    obtain ⟨s0, h0, _⟩ := h0
    exact cell_put h0 hq (by intro e; cases e)
  exact ⟨A2, n2, c2, A4, n4, c4, ⟨P1.str h0 e.name hs, hc _ _ _ _ e.vals, hc _ _ _ _ e.tags, e.l2, e.l4,
    e.val.imp id (fun ⟨b2, e2, h2, t2, f2⟩ => ⟨b2, e2, h2, t2.set b j _, fun k hk => P2.str h0 (f2 k hk)⟩), e.tag.imp id (fun ⟨b2, e2, h2, t2, f2⟩ => ⟨b2, e2, h2, t2.set b j _, fun k hk => P1.str h0 (f2 k hk) hs⟩)⟩⟩

theorem MutAt.num {w W : World} {N g n b j : Nat} {z : Int} (h : MutAt w W N g n) (hb : w.heap.size ≤ b) (h0 : P2 W ⟨b, j, none⟩) : MutAt w (W.setCell ⟨b, j, none⟩ (.int .u64 z)) N g n := by
  refine ⟨h.ge, h.thaw.set b j _, fun i hi => ?_, h.below.setCell (p := ⟨b, j, none⟩) hb _⟩
  obtain ⟨A2, n2, c2, A4, n4, c4, e⟩ := h.el i hi
  have hc : ∀ q A n c, W.cell? q = some (.slice A n c) → (W.setCell ⟨b, j, none⟩ (.int .u64 z)).cell? q = some (.slice A n c) := fun q A n c hq => by
    obtain ⟨s0, h0⟩ := h0
    exact cell_put h0 hq (by intro e; cases e)
  exact ⟨A2, n2, c2, A4, n4, c4, ⟨P1.num h0 e.name, hc _ _ _ _ e.vals, hc _ _ _ _ e.tags, e.l2, e.l4,
    e.val.imp id (fun ⟨b2, e2, h2, t2, f2⟩ => ⟨b2, e2, h2, t2.set b j _, fun k hk => P2.num h0 (f2 k hk)⟩), e.tag.imp id (fun ⟨b2, e2, h2, t2, f2⟩ => ⟨b2, e2, h2, t2.set b j _, fun k hk => P1.num h0 (f2 k hk)⟩)⟩⟩

theorem MutAt.drew {w W : World} {N g n : Nat} (h : MutAt w W N g n) : MutAt w W.drew N g n := by
  refine ⟨h.ge, h.thaw, fun i hi => ?_, below_drew h.below⟩
  obtain ⟨A2, n2, c2, A4, n4, c4, e⟩ := h.el i hi
  exact ⟨A2, n2, c2, A4, n4, c4, ⟨e.name, e.vals, e.tags, e.l2, e.l4, e.val, e.tag⟩⟩

theorem P1.mono {W : World} {p : Addr} {N N' : Nat} (h : P1 W p N) (hn : N ≤ N') : P1 W p N' := h.imp fun _ ⟨a, b⟩ => ⟨a, Nat.le_trans b hn⟩
theorem MutAt.mono {w W : World} {N N' g n : Nat} (h : MutAt w W N g n) (hn : N ≤ N') : MutAt w W N' g n := by
  refine ⟨h.ge, h.thaw, fun i hi => ?_, h.below⟩
  obtain ⟨A2, n2, c2, A4, n4, c4, e⟩ := h.el i hi
  exact ⟨A2, n2, c2, A4, n4, c4, ⟨e.name.mono hn, e.vals, e.tags, e.l2, e.l4, e.val, e.tag.imp id (fun ⟨b2, e2, h2, t2, f2⟩ => ⟨b2, e2, h2, t2, fun k hk => (f2 k hk).mono hn⟩)⟩⟩

/-- Metrics that were just made. -/
theorem mutAt_of {w W : World} {v : Value} {xs : List S36} (h : Kd.S k36 36 W w.heap.size (fun _ => True) v xs) (hb : Below w.heap.size w W) (hs : ∀ m ∈ xs, Sm m) (hp : 0 < xs.length) :
    ∃ g cap, v = .slice (some ⟨g, 0, none⟩) xs.length cap ∧ MutAt w W 300 g xs.length := by
  obtain ⟨g, cap, rfl, hg, _, cells, hc⟩ := Kd.S_form h hp
  have hR := Kd.S_R h
  refine ⟨g, cap, rfl, hg, ⟨cells, 36, hc⟩, fun i hi => ?_, hb⟩
  obtain ⟨c, hl, hM, hcc, _⟩ := Kd.R_elem hR z36 (i : Int) (by omega) (by omega)
  rw [Int.toNat_natCast] at hM hcc
  have hmem : xs.getD i z36 ∈ xs := by
    rw [List.getD_eq_getElem?_getD, List.getElem?_eq_getElem hi]
    exact List.getElem_mem hi
  have hsm := hs _ hmem
  generalize xs.getD i z36 = m at hM hsm
  obtain ⟨v2, v4, rfl, r2, r4⟩ := k36_openM hM
  have hcc : ∀ j u, [Value.string m.f0, .int .i64 m.f1, v2, .int .i64 m.f3, v4, .int .i64 m.f5][j]? = some u → W.cell? ⟨g, i * 6 + j, none⟩ = some u := hcc
  obtain ⟨A2, c2, e2⟩ := Kd.R_slice r2
  obtain ⟨A4, c4, e4⟩ := Kd.R_slice r4
  subst e2
  subst e4
  refine ⟨A2, m.f2.length, c2, A4, m.f4.length, c4, ⟨⟨m.f0, hcc 0 _ rfl, hsm.1⟩, hcc 2 _ rfl, hcc 4 _ rfl, hsm.2.1, hsm.2.2.1, ?_, ?_⟩⟩
  · rcases Nat.eq_zero_or_pos m.f2.length with h0 | h0
    · exact .inl h0
    · obtain ⟨b, cap2, e, hb2, _, cells2, hc2⟩ := Kd.R_form r2 h0
      cases e
      refine .inr ⟨b, rfl, hb2, ⟨cells2, 39, hc2⟩, fun k hk => ?_⟩
      obtain ⟨c', _, hM', hcc', _⟩ := Kd.R_elem r2 z39 (k : Int) (by omega) (by omega)
      rw [Int.toNat_natCast] at hM' hcc'
      obtain rfl := k39_openM hM'
      exact ⟨_, hcc' 1 _ rfl⟩
  · rcases Nat.eq_zero_or_pos m.f4.length with h0 | h0
    · exact .inl h0
    · obtain ⟨b, cap4, e, hb4, _, cells4, hc4⟩ := Kd.R_form r4 h0
      cases e
      refine .inr ⟨b, rfl, hb4, ⟨cells4, 41, hc4⟩, fun k hk => ?_⟩
      obtain ⟨c', _, hM', hcc', _⟩ := Kd.R_elem r4 z41 (k : Int) (by omega) (by omega)
      rw [Int.toNat_natCast] at hM' hcc'
      have ht := hsm.2.2.2 (m.f4.getD k z41) (by
        rw [List.getD_eq_getElem?_getD, List.getElem?_eq_getElem hk]
        exact List.getElem_mem hk)
      obtain rfl := k41_openM hM'
      exact ⟨_, hcc' 0 _ rfl, by omega⟩
end Go.Proofs.Ytigchloekolaoaa.PEventOwn
