/-
  What stands within a round of Feed.
-/
import Derived.Test.YtnlnadpbbcjfdaaPieces
import Derived.Test.YtnlnadpbbcjfdaaTight
namespace Go.Proofs.Ytnlnadpbbcjfdaa
open Go.RowKit Go.Shelf

/-- What the body keeps for the iterator: all blocks but the Framer's and the row's box. -/
def Kf (n₀ g o : Nat) (W W' : World) : Prop := W.heap.size ≤ W'.heap.size ∧ ∀ k, k < n₀ → k ≠ g → k ≠ o → W'.heap[k]? = W.heap[k]?
theorem Kf.trans {n g o : Nat} {A B C : World} (h1 : Kf n g o A B) (h2 : Kf n g o B C) : Kf n g o A C := ⟨Nat.le_trans h1.1 h2.1, fun k hk hg ho => (h2.2 k hk hg ho).trans (h1.2 k hk hg ho)⟩

theorem IsFr.put_open {w : World} {g m at_ fr : Nat} {cur : List Int} {cl : Bool} {O : Option Addr} {co : Nat} (h : IsFr w g m at_ fr cur cl O co) (c2 : List Int) (A : Option Addr) (n c : Nat)
    (hn : n = (opn m c2).length) (hs : Sl w A n (opn m c2)) (hne : ∀ ad, A = some ad → ad.block ≠ g) (hT : Tidy A c) (hle : n ≤ c) (hb : fr + c2.length ≤ 100000) :
    IsFr (w.setCell ⟨g, 3, none⟩ (.slice A n c)) g m at_ fr c2 cl A c := by
  subst hn
  exact
    { row := by rw [heap_setCell_same w g 3 _ 55 _ h.row]; rfl
      sl := hs.grown (grown_set w g 3 _) (fun ad e => fun e2 => hne ad e (Option.some.inj e2).symm)
      ne := hne
      nil := hT
      le := hle
      big := ⟨h.big.1, hb, h.big.2.2⟩ }

/-- Within a round that began in W. -/
structure MidAt (w W : World) (g m : Nat) (O : Option Addr) (xA : Option Addr) (xn : Nat) (xt : List Int) (v : Value) (ls : List LV) (X : World) (a f1 : Nat) (c1 : List Int) (O1 : Option Addr) (co1 : Nat) : Prop where
  fr : IsFr X g m a f1 c1 false O1 co1
  fbox : X.heap[w.heap.size]? = some (.cells #[.pointer (some ⟨g, 0, none⟩)] 36 (0, 0))
  obox : X.heap[w.heap.size + 1]? = some (.cells #[v] 26 (0, 0))
  own : OwnL X (w.heap.size + 3) v ls
  txt : Sl X xA xn xt
  far : ∀ ad, O1 = some ad → v.ownBlock ≠ some ad.block ∧ (O1 = O ∨ w.heap.size + 3 ≤ ad.block) ∧ ad.block < X.heap.size
  grown : w.grownBy X (some g)
  kf : KeepsFrom (w.heap.size + 3) W X
  kp : Kf (w.heap.size + 3) g (w.heap.size + 1) W X
  lt : g < w.heap.size
  sz : w.heap.size + 3 ≤ X.heap.size

section
variable {w W : World} {g m : Nat} {O : Option Addr} {xA : Option Addr} {xn : Nat} {xt : List Int} {v : Value} {ls : List LV} {X Y : World} {a f1 : Nat} {c1 : List Int} {O1 : Option Addr} {co1 xc : Nat}

theorem MidAt.cells (h : MidAt w W g m O xA xn xt v ls X a f1 c1 O1 co1) : X.cell? ⟨w.heap.size, 0, none⟩ = some (.pointer (some ⟨g, 0, none⟩)) ∧ X.cell? ⟨w.heap.size + 1, 0, none⟩ = some v ∧ X.frozen? ⟨w.heap.size + 1, 0, none⟩ = false :=
  ⟨by rw [cell_of_row _ _ _ _ 36 (0, 0) h.fbox]; rfl, by rw [cell_of_row _ _ _ _ 26 (0, 0) h.obox]; rfl, frozen_of_row _ _ 0 _ 26 h.obox⟩

theorem MidAt.below (h : MidAt w W g m O xA xn xt v ls X a f1 c1 O1 co1) (hb : Below X.heap.size X Y) : MidAt w W g m O xA xn xt v ls Y a f1 c1 O1 co1 :=
  { fr := h.fr.below hb
    fbox := (hb.block _ (Array.getElem?_eq_some_iff.1 h.fbox).1).trans h.fbox
    obox := (hb.block _ (Array.getElem?_eq_some_iff.1 h.obox).1).trans h.obox
    own := World.ownsRow.kept h.own (grown_below (row := none) hb) (by cases v.ownBlock <;> simp)
    txt := h.txt.below hb
    far := fun ad e => ⟨(h.far ad e).1, (h.far ad e).2.1, Nat.lt_of_lt_of_le (h.far ad e).2.2 hb.size⟩
    grown := ⟨hb.os.trans h.grown.os, hb.tape.trans h.grown.tape, hb.output.trans h.grown.output, Nat.le_trans h.grown.size hb.size, fun k hk2 hn => (hb.block k (Nat.lt_of_lt_of_le hk2 h.grown.size)).trans (h.grown.block k hk2 hn)⟩
    kf := h.kf.trans ⟨hb.size, fun k o _ hk _ => (hb.block k (Array.getElem?_eq_some_iff.1 hk).1).trans hk⟩
    kp := h.kp.trans ⟨hb.size, fun k hk2 _ _ => hb.block k (Nat.lt_of_lt_of_le hk2 h.sz)⟩
    lt := h.lt
    sz := Nat.le_trans h.sz hb.size }

/-- A store into the Framer. -/
theorem MidAt.put (h : MidAt w W g m O xA xn xt v ls X a f1 c1 O1 co1) (j : Nat) (u u0 : Value) (hc : X.cell? ⟨g, j, none⟩ = some u0) (hu : ∀ z, u0 ≠ .int .u8 z) {a2 f2 : Nat} {c2 : List Int} {O2 : Option Addr} {co2 : Nat}
    (hf : IsFr (X.setCell ⟨g, j, none⟩ u) g m a2 f2 c2 false O2 co2) (hO : ∀ ad, O2 = some ad → v.ownBlock ≠ some ad.block ∧ (O2 = O ∨ w.heap.size + 3 ≤ ad.block) ∧ ad.block < X.heap.size) :
    MidAt w W g m O xA xn xt v ls (X.setCell ⟨g, j, none⟩ u) a2 f2 c2 O2 co2 :=
  have hlt := h.lt
  have hg := grown_set X g j u
  { fr := hf
    fbox := (heap_setCell_other _ _ _ _ (by show w.heap.size ≠ g; omega)).trans h.fbox
    obox := (heap_setCell_other _ _ _ _ (by show w.heap.size + 1 ≠ g; omega)).trans h.obox
    own := World.ownsRow.kept h.own hg (by
      cases hv : v.ownBlock with
      | none => exact .inl rfl
      | some b => exact .inr (fun e => by cases e; have := (h.own.lt _ hv).1; omega))
    txt := h.txt.put u hc hu
    far := fun ad e => ⟨(hO ad e).1, (hO ad e).2.1, Nat.lt_of_lt_of_le (hO ad e).2.2 hg.size⟩
    grown := grown_step h.grown _ (.inl rfl) u
    kf := h.kf.trans ((KeepsOthers.setCell _ _ _).from _)
    kp := h.kp.trans ⟨hg.size, fun k _ hk _ => heap_setCell_other _ _ _ _ hk⟩
    lt := h.lt
    sz := Nat.le_trans h.sz hg.size }

theorem MidAt.put_at (h : MidAt w W g m O xA xn xt v ls X a f1 c1 O1 co1) (x : Nat) (hx : x ≤ 100001) : MidAt w W g m O xA xn xt v ls (X.setCell ⟨g, 1, none⟩ (.int .i64 (x : Int))) x f1 c1 O1 co1 :=
  h.put 1 _ _ h.fr.cells.2.1 (fun z e => by cases e) (h.fr.put_at x hx) h.far

theorem MidAt.drewN (h : MidAt w W g m O xA xn xt v ls X a f1 c1 O1 co1) (n : Nat) : MidAt w W g m O xA xn xt v ls (X.drewN n) a f1 c1 O1 co1 :=
  h.below (below_drewN' (Below.refl _ _) n)

/-- What is open is too long. -/
theorem MidAt.long (h : MidAt w W g m O xA xn xt v ls X a f1 c1 O1 co1) (hl : m < c1.length + xt.length) (hb : f1 + (c1.length + xt.length) ≤ 100000) : MidAt w W g m O xA xn xt v ls (X.setCell ⟨g, 3, none⟩ (.slice none 0 0)) a f1 (c1 ++ xt) none 0 := by
  have he : opn m (c1 ++ xt) = [] := by unfold opn; rw [if_pos (by rw [List.length_append]; exact hl)]
  exact h.put 3 _ _ h.fr.cells.2.2.2.1 (fun z e => by cases e) (h.fr.put_open (c1 ++ xt) none 0 0 (by rw [he]; rfl) (by rw [he]; exact sl_nil _ _) (fun ad e => by cases e) (.inl ⟨rfl, rfl⟩) (Nat.le_refl _) (by rw [List.length_append]; exact hb)) (fun ad e => by cases e)

/-- What is open takes the text. -/
theorem MidAt.more (h : MidAt w W g m O xA xn xt v ls X a f1 c1 O1 co1) (hl : ¬ m < c1.length + xt.length) (hb : f1 + (c1.length + xt.length) ≤ 100000) (hx : xn = xt.length) (hxc : Tidy xA xc)
    (ty : TypeId) : ∃ A' c' Y, (Builtin.append_ #[22, 22] ty #[.slice O1 c1.length c1.length, .slice xA xn xc]).run Try.prog X = .ok (.slice A' (c1.length + xn) c') Y ∧ Below X.heap.size X Y ∧ Y.cell? ⟨g, 3, none⟩ = some (.slice O1 c1.length co1) ∧ MidAt w W g m O xA xn xt v ls (Y.setCell ⟨g, 3, none⟩ (.slice A' (c1.length + xn) c')) a f1 (c1 ++ xt) A' c' := by
  subst hx
  have he1 : opn m c1 = c1 := by unfold opn; rw [if_neg (by omega)]
  have he2 : opn m (c1 ++ xt) = c1 ++ xt := by unfold opn; rw [if_neg (by rw [List.length_append]; omega)]
  have hsl := h.fr.sl
  rw [he1] at hsl
  have hT1 : Tidy O1 c1.length := by
    rcases h.fr.nil with ⟨rfl, h0⟩ | hn
    · exact .inl ⟨rfl, by have := hsl.none_nil; omega⟩
    · exact .inr hn
  obtain ⟨A', c', Y, r1, r2, r3, r4, r5, r6⟩ := run_append_tight X ty O1 c1.length c1 hsl xA xt.length xc xt h.txt hT1 hxc (by omega)
  have hY := h.below r3
  have hc3 := hY.fr.cells.2.2.2.1
  rw [he1] at hc3
  have hlt := h.fr.lt
  refine ⟨A', c', Y, r1, r3, hc3, hY.put 3 _ _ hc3 (fun z e => by cases e) (hY.fr.put_open (c1 ++ xt) A' (c1.length + xt.length) c' (by rw [he2, List.length_append]) (by rw [he2]; exact r2) ?_ r5 r4 (by rw [List.length_append]; exact hb)) ?_⟩
  · intro ad e
    rcases r6 with rfl | ⟨ad2, e2, h2, h3⟩
    · exact h.fr.ne ad e
    · rw [e] at e2; cases e2; omega
  · intro ad e
    rcases r6 with rfl | ⟨ad2, e2, h2, h3⟩
    · exact hY.far ad e
    · rw [e] at e2
      cases e2
      refine ⟨fun e3 => ?_, .inr (Nat.le_trans h.sz h2), h3⟩
      have := (h.own.lt _ e3).2
      omega
end

/-- Between two pieces. -/
structure FeedAt (w : World) (g m fr : Nat) (cur : List Int) (O : Option Addr) (L : List Int) (W : World) : Prop where
  fbox : W.heap[w.heap.size]? = some (.cells #[.pointer (some ⟨g, 0, none⟩)] 36 (0, 0))
  out : ∃ v O' co', W.heap[w.heap.size + 1]? = some (.cells #[v] 26 (0, 0)) ∧ OwnL W (w.heap.size + 3) v (lin m fr cur L) ∧
    IsFr W g m ((fin fr cur L).1 + (fin fr cur L).2.length) (fin fr cur L).1 (fin fr cur L).2 false O' co' ∧
    (∀ ad, O' = some ad → v.ownBlock ≠ some ad.block ∧ (O' = O ∨ w.heap.size + 3 ≤ ad.block) ∧ ad.block < W.heap.size)
  grown : w.grownBy W (some g)
  sz : w.heap.size + 3 ≤ W.heap.size

theorem Sl.other {W Y : World} {A : Option Addr} {n : Nat} {l : List Int} {row : Option Nat} (h : Sl W A n l) (hg : W.grownBy Y row) (hr : ∀ r, row = some r → ∃ o : Obj, W.heap[r]? = some o ∧ o.isCells = false) : Sl Y A n l := by
  obtain ⟨h1, h2, h3⟩ := h
  refine ⟨h1, h2, ?_⟩
  rcases h3 with h0 | ⟨b, off, rfl, hlt, hc⟩
  · exact .inl h0
  · exact .inr ⟨b, off, rfl, Nat.lt_of_lt_of_le hlt hg.size, fun i hi => cell_kept (hc i hi) hg hr⟩

section
variable {w : World} {g m fr : Nat} {cur : List Int} {O : Option Addr} {L : List Int} {W Y : World}
theorem row_other {row : Option Nat} (hg : W.grownBy Y row) (hr : ∀ r, row = some r → ∃ o : Obj, W.heap[r]? = some o ∧ o.isCells = false) {k : Nat} {cs : Array Value} {t : TypeId} {f : Nat × Nat} (h : W.heap[k]? = some (.cells cs t f)) : Y.heap[k]? = some (.cells cs t f) := (grownBy_keeps_cells hg hr h rfl).trans h

theorem IsFr.other {at_ co : Nat} {cl : Bool} {row : Option Nat} (h : IsFr W g m at_ fr cur cl O co) (hg : W.grownBy Y row) (hr : ∀ r, row = some r → ∃ o : Obj, W.heap[r]? = some o ∧ o.isCells = false) : IsFr Y g m at_ fr cur cl O co :=
  { h with row := row_other hg hr h.row, sl := h.sl.other hg hr }

theorem OwnL.other {base : Nat} {v : Value} {ls : List LV} {row : Option Nat} (h : OwnL W base v ls) (hg : W.grownBy Y row) (hr : ∀ r, row = some r → ∃ o : Obj, W.heap[r]? = some o ∧ o.isCells = false) : OwnL Y base v ls := by
  refine ⟨h.1, ?_⟩
  rcases h.2 with hn | ⟨b, cap, cs, e, hb, hk, r⟩
  · exact .inl hn
  · exact .inr ⟨b, cap, cs, e, hb, row_other hg hr hk, r⟩

theorem FeedAt.other {row : Option Nat} (h : FeedAt w g m fr cur O L W) (hg : W.grownBy Y row) (hr : ∀ r, row = some r → w.heap.size ≤ r ∧ ∃ o : Obj, W.heap[r]? = some o ∧ o.isCells = false) : FeedAt w g m fr cur O L Y := by
  have hr2 := fun r e => (hr r e).2
  obtain ⟨v, O', co', h1, h2, h3, h4⟩ := h.out
  refine ⟨row_other hg hr2 h.fbox, ⟨v, O', co', row_other hg hr2 h1, h2.other hg hr2, h3.other hg hr2, fun ad e => ⟨(h4 ad e).1, (h4 ad e).2.1, Nat.lt_of_lt_of_le (h4 ad e).2.2 hg.size⟩⟩, ?_, Nat.le_trans h.sz hg.size⟩
  refine ⟨hg.os.trans h.grown.os, hg.tape.trans h.grown.tape, hg.output.trans h.grown.output, Nat.le_trans h.grown.size hg.size, fun k hk hn => ?_⟩
  exact (hg.block k (Nat.lt_of_lt_of_le hk h.grown.size) (fun e => by have := (hr k e.symm).1; omega)).trans (h.grown.block k hk hn)

theorem OwnL.kept {base : Nat} {v : Value} {ls : List LV} {row : Option Nat} (h : OwnL W base v ls) (hg : W.grownBy Y row) (hr : ∀ r, row = some r → v.ownBlock ≠ some r) : OwnL Y base v ls :=
  World.ownsRow.kept h hg (by
    cases hv : v.ownBlock with
    | none => exact .inl rfl
    | some b => exact .inr (fun e => hr b e.symm hv))

theorem OwnL.mono {b b' : Nat} {v : Value} {ls : List LV} (h : OwnL W b v ls) (hb : b' ≤ b) : OwnL W b' v ls := by
  refine ⟨h.1, ?_⟩
  rcases h.2 with hn | ⟨k, cap, cs, e, hbk, r⟩
  · exact .inl hn
  · exact .inr ⟨k, cap, cs, e, by omega, r⟩

/-- A store into a block that is none of the Feed's. -/
theorem FeedAt.box (h : FeedAt w g m fr cur O L W) (hgl : g < w.heap.size) (hO : ∀ ad, O = some ad → ad.block < w.heap.size) (v : Value) : FeedAt w g m fr cur O L (W.setCell ⟨w.heap.size + 2, 0, none⟩ v) := by
  obtain ⟨u, O', co', h1, h2, h3, h4⟩ := h.out
  have hg := grown_set W (w.heap.size + 2) 0 v
  refine ⟨(heap_setCell_other _ _ _ _ (by show w.heap.size ≠ w.heap.size + 2; omega)).trans h.fbox, ⟨u, O', co', (heap_setCell_other _ _ _ _ (by show w.heap.size + 1 ≠ w.heap.size + 2; omega)).trans h1, h2.kept hg ?_, h3.kept hg ?_ ?_, fun ad e => ⟨(h4 ad e).1, (h4 ad e).2.1, Nat.lt_of_lt_of_le (h4 ad e).2.2 hg.size⟩⟩, grown_step h.grown _ (.inr (by show w.heap.size ≤ w.heap.size + 2; omega)) v, Nat.le_trans h.sz hg.size⟩
  · intro r e hv
    cases e
    have := (h2.lt _ hv).1
    omega
  · intro e; cases e; omega
  · intro ad e e2
    have e3 : w.heap.size + 2 = ad.block := Option.some.inj e2
    rcases (h4 ad e).2.1 with h5 | h5
    · have := hO ad (h5 ▸ e); omega
    · omega
end

theorem MidAt.feed {w W : World} {g m fr : Nat} {cur : List Int} {O : Option Addr} {xA : Option Addr} {xn : Nat} {xt : List Int} {v : Value} {ls : List LV} {X : World} {a f1 : Nat} {c1 : List Int} {O1 : Option Addr} {co1 : Nat} {L : List Int}
    (h : MidAt w W g m O xA xn xt v ls X a f1 c1 O1 co1) (h1 : lin m fr cur L = ls) (h2 : fin fr cur L = (f1, c1)) (ha : a = f1 + c1.length) : FeedAt w g m fr cur O L X :=
  ⟨h.fbox, ⟨v, O1, co1, h.obox, by rw [h1]; exact h.own, by rw [h2]; exact ha ▸ h.fr, h.far⟩, h.grown, h.sz⟩

theorem cell_line (w : World) (x : LV) : ∀ j u, (lcells [x])[j]? = some u → (w.alloc (.cells (lvv x) 31)).cell? ((⟨w.heap.size, 0, none⟩ : Addr).add j) = some u := by
  intro j u h
  have e : (⟨w.heap.size, 0, none⟩ : Addr).add j = ⟨w.heap.size, j, none⟩ := by unfold Addr.add; split <;> simp_all
  rw [e, cell_of_row _ _ _ _ 31 (0, 0) (heap_alloc_new w _)]
  simpa [lcells] using h

/-- What the last region reads. -/
def SM (w : World) (g a : Nat) (v : Value) (W : World) : Prop := W.cell? ⟨w.heap.size, 0, none⟩ = some (.pointer (some ⟨g, 0, none⟩)) ∧ W.cell? ⟨g, 1, none⟩ = some (.int .i64 (a : Int)) ∧ W.cell? ⟨w.heap.size + 1, 0, none⟩ = some v

/-- A line is told. -/
theorem MidAt.line {w W : World} {g m : Nat} {O : Option Addr} {xA : Option Addr} {xn : Nat} {xt : List Int} {v : Value} {ls : List LV} {X Y : World} {a f1 : Nat} {c1 : List Int} {O1 : Option Addr} {co1 : Nat}
    (h : MidAt w W g m O xA xn xt v ls X a f1 c1 O1 co1) {f2 : Nat} (hf : IsFr Y g m a f2 [] false none 0) (hg : X.grownBy Y (some g)) (x : LV) (ty : TypeId) (hl : ls.length ≤ 99000) :
    ∃ q qn qc Z, ∃ v' : Value, v' = .slice (some ⟨q, 0, none⟩) qn qc ∧ (Builtin.append_ #[26, 26] ty #[v, .slice (some ⟨Y.heap.size, 0, none⟩) 1 1]).run Try.prog (Y.alloc (.cells (lvv x) 31)) = .ok v' Z ∧ (SM w g a v Y ∧ SM w g a v (Y.alloc (.cells (lvv x) 31)) ∧ SM w g a v Z) ∧ Z.frozen? ⟨w.heap.size + 1, 0, none⟩ = false ∧
      KeepsFrom (w.heap.size + 3) W (Z.setCell ⟨w.heap.size + 1, 0, none⟩ v') ∧ Kf (w.heap.size + 3) g (w.heap.size + 1) W (Z.setCell ⟨w.heap.size + 1, 0, none⟩ v') ∧
      ∀ fr cur L, lin m fr cur L = ls ++ [x] → fin fr cur L = (f2, []) → a = f2 → FeedAt w g m fr cur O L (Z.setCell ⟨w.heap.size + 1, 0, none⟩ v') := by
  have hlt := h.lt
  have hsz := h.sz
  have hb0 : X.heap.size ≤ Y.heap.size := hg.size
  -- the row, in the world behind the line
  have hown : OwnL Y (w.heap.size + 3) v ls := World.ownsRow.kept h.own hg (by
    cases hv : v.ownBlock with
    | none => exact .inl rfl
    | some b => exact .inr (fun e => by cases e; have := (h.own.lt _ hv).1; omega))
  have hob : Y.heap[w.heap.size + 1]? = some (.cells #[v] 26 (0, 0)) := (hg.block _ (by omega) (by intro e; cases e; omega)).trans h.obox
  have hfb : Y.heap[w.heap.size]? = some (.cells #[.pointer (some ⟨g, 0, none⟩)] 36 (0, 0)) := (hg.block _ (by omega) (by intro e; cases e; omega)).trans h.fbox
  have ba := (Below.refl Y.heap.size Y).alloc (Nat.le_refl _) (.cells (lvv x) 31)
  have hown2 : OwnL (Y.alloc (.cells (lvv x) 31)) (w.heap.size + 3) v ls := World.ownsRow.alloc hown _
  obtain ⟨v', Z, r1, r2, r3, r4⟩ := run_append_lines (Y.alloc (.cells (lvv x) 31)) ty (w.heap.size + 3) v ls hown2 ⟨Y.heap.size, 0, none⟩ 1 1 [x] rfl (cell_line Y x) (by omega) (by simp; omega)
  have hvb : ∀ b, v.ownBlock = some b → w.heap.size + 3 ≤ b ∧ b < Y.heap.size := fun b e => hown.lt b e
  have hz : Y.heap.size + 1 ≤ Z.heap.size := by have := r3.size; rwa [World.size_alloc] at this
  -- what lies elsewhere
  have keep : ∀ k, k < Y.heap.size → v.ownBlock ≠ some k → Z.heap[k]? = Y.heap[k]? := fun k hk hn =>
    (r3.block k (by rw [World.size_alloc]; omega) (fun e => hn e.symm)).trans (ba.block k hk)
  have kne : ∀ k, k < w.heap.size + 3 → Z.heap[k]? = Y.heap[k]? := fun k hk => keep k (by omega) (fun e => by have := (hvb k e).1; omega)
  have zob : Z.heap[w.heap.size + 1]? = some (.cells #[v] 26 (0, 0)) := (kne _ (by omega)).trans hob
  have zfb := (kne w.heap.size (by omega)).trans hfb
  have zgrow : Y.grownBy Z v.ownBlock := ⟨r3.os, r3.tape, r3.output, by omega, fun k hk hn => keep k hk (fun e => hn e.symm)⟩
  have zf : IsFr Z g m a f2 [] false none 0 := hf.kept zgrow (fun e => by have := (hvb g e.symm).1; omega) (fun ad e => by cases e)
  have hset : ∀ k, k ≠ w.heap.size + 1 → (Z.setCell ⟨w.heap.size + 1, 0, none⟩ v').heap[k]? = Z.heap[k]? := fun k hk => heap_setCell_other _ _ _ _ hk
  have hv'b : ∀ b, v'.ownBlock = some b → b ≠ w.heap.size + 1 := fun b e => by have := (r2.lt b e).1; omega
  have own' : OwnL (Z.setCell ⟨w.heap.size + 1, 0, none⟩ v') (w.heap.size + 3) v' (ls ++ [x]) := World.ownsRow.kept r2 (grown_set Z (w.heap.size + 1) 0 v') (by
    cases hv : v'.ownBlock with
    | none => exact .inl rfl
    | some b => exact .inr (fun e => hv'b b hv (Option.some.inj e)))
  have zf' : IsFr (Z.setCell ⟨w.heap.size + 1, 0, none⟩ v') g m a f2 [] false none 0 := zf.kept (grown_set Z (w.heap.size + 1) 0 v') (fun e => by cases e; omega) (fun ad e => by cases e)
  have zs : (Z.setCell ⟨w.heap.size + 1, 0, none⟩ v').heap.size = Z.heap.size := by simp [World.setCell]
  have sm : ∀ V : World, V.heap[w.heap.size]? = some (.cells #[.pointer (some ⟨g, 0, none⟩)] 36 (0, 0)) → V.heap[w.heap.size + 1]? = some (.cells #[v] 26 (0, 0)) → IsFr V g m a f2 [] false none 0 → SM w g a v V := fun V a1 a2 a3 =>
    ⟨by rw [cell_of_row _ _ _ _ 36 (0, 0) a1]; rfl, a3.cells.2.1, by rw [cell_of_row _ _ _ _ 26 (0, 0) a2]; rfl⟩
  obtain ⟨q, qc, hvq⟩ : ∃ q qc, v' = .slice (some ⟨q, 0, none⟩) (ls ++ [x]).length qc := by
    rcases r2.2 with ⟨_, h0⟩ | ⟨q, cap, cs, e, _⟩
    · simp at h0
    · exact ⟨q, cap, e⟩
  refine ⟨q, _, qc, Z, v', hvq, r1, ⟨sm Y hfb hob hf, sm _ ((ba.block _ (by omega)).trans hfb) ((ba.block _ (by omega)).trans hob) (hf.below ba), sm Z zfb zob zf⟩, frozen_of_row _ _ 0 _ 26 zob, ?_, ?_, ?_⟩
  · refine h.kf.trans ⟨by omega, fun k o hk hko ho => ?_⟩
    have hkX : k < X.heap.size := (Array.getElem?_eq_some_iff.1 hko).1
    rw [hset k (by omega), keep k (by omega) (fun e => ?_), hg.block k hkX (by intro e; cases e; omega)]
    · exact hko
    · rcases h.own.2 with ⟨rfl, _⟩ | ⟨b, cap, cs, rfl, _, hbk, _⟩
      · cases e
      · cases e; rw [hbk] at hko; cases hko; cases ho
  · refine h.kp.trans ⟨by omega, fun k hk hkg hko => ?_⟩
    rw [hset k hko, kne k hk, hg.block k (by omega) (fun e => hkg (Option.some.inj e))]
  · intro fr cur L e1 e2 e3
    refine ⟨(hset _ (by omega)).trans zfb, ⟨v', none, 0, ?_, by rw [e1]; exact own', by rw [e2]; subst e3; exact zf', fun ad e => by cases e⟩, ?_, by omega⟩
    · exact heap_setCell_same _ _ 0 _ 26 v' zob
    · refine grown_step (q := g) ⟨r3.os.trans (ba.os.trans (hg.os.trans h.grown.os)), r3.tape.trans (ba.tape.trans (hg.tape.trans h.grown.tape)), r3.output.trans (ba.output.trans (hg.output.trans h.grown.output)), by have := h.grown.size; omega, fun k hk hn => ?_⟩ _ (.inr (by show w.heap.size ≤ w.heap.size + 1; omega)) v'
      rw [kne k (by omega), hg.block k (by omega) hn, h.grown.block k hk hn]
end Go.Proofs.Ytnlnadpbbcjfdaa
