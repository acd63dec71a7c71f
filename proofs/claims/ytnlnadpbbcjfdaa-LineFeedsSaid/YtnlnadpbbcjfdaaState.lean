/-
  A Framer in memory, and what its small methods do to it.
-/
import Derived.Test.YtnlnadpbbcjfdaaPlain
namespace Go.Proofs.Ytnlnadpbbcjfdaa
open Go.RowKit

/-- What is kept of what is open. -/
def opn (m : Nat) (cur : List Int) : List Int := if m < cur.length then [] else cur

def frCells (m at_ fr : Nat) (O : Option Addr) (n co : Nat) (cl : Bool) : Array Value := #[.int .i64 m, .int .i64 at_, .int .i64 fr, .slice O n co, .bool cl]

/-- Block g is a Framer that has had so many bytes; from a place on they are open. -/
structure IsFr (w : World) (g m at_ fr : Nat) (cur : List Int) (cl : Bool) (O : Option Addr) (co : Nat) : Prop where
  row : w.heap[g]? = some (.cells (frCells m at_ fr O (opn m cur).length co cl) 55 (0, 0))
  sl : Sl w O (opn m cur).length (opn m cur)
  ne : ∀ ad, O = some ad → ad.block ≠ g
  nil : (O = none ∧ co = 0) ∨ (∃ b o, O = some ⟨b, o, none⟩)
  le : (opn m cur).length ≤ co
  big : m ≤ 8192 ∧ fr + cur.length ≤ 100000 ∧ at_ ≤ 100001

section
variable {w w' : World} {g m at_ fr : Nat} {cur : List Int} {cl : Bool} {O : Option Addr} {co : Nat}
theorem IsFr.lt (h : IsFr w g m at_ fr cur cl O co) : g < w.heap.size := (Array.getElem?_eq_some_iff.1 h.row).1
theorem IsFr.cells (h : IsFr w g m at_ fr cur cl O co) :
    w.cell? ⟨g, 0, none⟩ = some (.int .i64 m) ∧ w.cell? ⟨g, 1, none⟩ = some (.int .i64 at_) ∧ w.cell? ⟨g, 2, none⟩ = some (.int .i64 fr) ∧ w.cell? ⟨g, 3, none⟩ = some (.slice O (opn m cur).length co) ∧ w.cell? ⟨g, 4, none⟩ = some (.bool cl) := by
  refine ⟨?_, ?_, ?_, ?_, ?_⟩
  all_goals rw [cell_of_row _ g _ _ 55 (0, 0) h.row]; rfl
theorem IsFr.free (h : IsFr w g m at_ fr cur cl O co) (j : Nat) : w.frozen? ⟨g, j, none⟩ = false := frozen_of_row w g j _ 55 h.row
theorem IsFr.below (h : IsFr w g m at_ fr cur cl O co) (hb : Below w.heap.size w w') : IsFr w' g m at_ fr cur cl O co :=
  { h with row := (hb.block g h.lt).trans h.row, sl := h.sl.below hb }
theorem IsFr.kept {row : Option Nat} (h : IsFr w g m at_ fr cur cl O co) (hg : w.grownBy w' row) (h1 : some g ≠ row) (h2 : ∀ ad, O = some ad → row ≠ some ad.block) : IsFr w' g m at_ fr cur cl O co :=
  { h with row := (hg.block g h.lt h1).trans h.row, sl := h.sl.grown hg h2 }

theorem grown_below {row : Option Nat} (hb : Below w.heap.size w w') : w.grownBy w' row := ⟨hb.os, hb.tape, hb.output, hb.size, fun k hk _ => hb.block k hk⟩
theorem grown_set (w : World) (g j : Nat) (v : Value) : w.grownBy (w.setCell ⟨g, j, none⟩ v) (some g) :=
  ⟨rfl, rfl, rfl, by simp [World.setCell], fun k _ hn => heap_setCell_other _ _ _ _ (fun e => hn (by rw [e]))⟩
theorem grown_drewN {row : Option Nat} (h : w.grownBy w' row) (n : Nat) : w.grownBy (w'.drewN n) row := ⟨h.os, h.tape, h.output, h.size, h.block⟩
theorem grown_drew {row : Option Nat} (h : w.grownBy w' row) : w.grownBy w'.drew row := ⟨h.os, h.tape, h.output, h.size, h.block⟩

theorem IsFr.put_at (h : IsFr w g m at_ fr cur cl O co) (x : Nat) (hx : x ≤ 100001) : IsFr (w.setCell ⟨g, 1, none⟩ (.int .i64 (x : Int))) g m x fr cur cl O co :=
  { h with
    row := by rw [heap_setCell_same w g 1 _ 55 _ h.row]; rfl
    sl := h.sl.grown (grown_set w g 1 _) (fun ad e => fun e2 => h.ne ad e (Option.some.inj e2).symm)
    big := ⟨h.big.1, h.big.2.1, hx⟩ }
theorem IsFr.put_closed (h : IsFr w g m at_ fr cur cl O co) (x : Bool) : IsFr (w.setCell ⟨g, 4, none⟩ (.bool x)) g m at_ fr cur x O co :=
  { h with
    row := by rw [heap_setCell_same w g 4 _ 55 _ h.row]; rfl
    sl := h.sl.grown (grown_set w g 4 _) (fun ad e => fun e2 => h.ne ad e (Option.some.inj e2).symm) }
/-- What is open begins anew. -/
theorem IsFr.put_from (h : IsFr w g m at_ fr cur cl O co) (x : Nat) (hx : x ≤ 100000) : IsFr ((w.setCell ⟨g, 2, none⟩ (.int .i64 (x : Int))).setCell ⟨g, 3, none⟩ (.slice none 0 0)) g m at_ x [] cl none 0 := by
  have e0 : opn m [] = [] := by unfold opn; split <;> rfl
  have h1 : (w.setCell ⟨g, 2, none⟩ (.int .i64 (x : Int))).heap[g]? = some (.cells #[.int .i64 m, .int .i64 at_, .int .i64 x, .slice O (opn m cur).length co, .bool cl] 55 (0, 0)) := by rw [heap_setCell_same w g 2 _ 55 _ h.row]; rfl
  exact
    { row := by rw [heap_setCell_same _ g 3 _ 55 _ h1, e0]; rfl
      sl := by rw [e0]; exact sl_nil _ _
      ne := fun ad e => by cases e
      nil := .inl ⟨rfl, rfl⟩
      le := by rw [e0]; exact Nat.le_refl _
      big := ⟨h.big.1, by simpa using hx, h.big.2.2⟩ }
end

theorem new_any (k : Nat) (w : World) (h1 : 1 ≤ k) (h2 : k ≤ 8192) :
    Calls Try.prog 10 #[.int .i64 k] w fun e w' => e = .returned (.tuple #[.pointer (some ⟨w.heap.size, 0, none⟩), .int .i64 0]) ∧ IsFr w' w.heap.size k 0 0 [] false none 0 ∧ Below w.heap.size w w' := by
  have e0 : opn k [] = [] := by unfold opn; split <;> rfl
  have hk : ¬ (k : Int) < 1 := by omega
  have hk2 : ¬ (8192 : Int) < (k : Int) := by omega
  go_enter Try.func10, Try.ntmps10
  go_wp2
  go_ret2
  exact ⟨rfl, { row := by rw [e0]; exact heap_alloc_new w _, sl := by rw [e0]; exact sl_nil _ _, ne := (fun ad e => by cases e), nil := .inl ⟨rfl, rfl⟩, le := by rw [e0]; exact Nat.le_refl _, big := ⟨h2, by decide, by decide⟩ }, (Below.refl _ _).alloc (Nat.le_refl _) _⟩

theorem new_wrong (x : Int) (w : World) (h : x < 1 ∨ 8192 < x) :
    Calls Try.prog 10 #[.int .i64 x] w fun e w' => e = .returned (.tuple #[.pointer none, .int .i64 10]) ∧ w = w' := by
  rcases h with h | h
  · go_enter Try.func10, Try.ntmps10
    go_wp2
    go_ret2
    exact ⟨rfl, rfl⟩
  · have h1 : ¬ x < 1 := by omega
    go_enter Try.func10, Try.ntmps10
    go_wp2
    go_ret2
    exact ⟨rfl, rfl⟩

section
variable (w : World) (g m at_ fr : Nat) (cur : List Int) (cl : Bool) (O : Option Addr) (co : Nat)
theorem at_any (h : IsFr w g m at_ fr cur cl O co) : Calls Try.prog 15 #[.pointer (some ⟨g, 0, none⟩)] w fun e w' => e = .returned (.int .i64 at_) ∧ w = w' := by
  obtain ⟨c0, c1, c2, c3, c4⟩ := h.cells
  clear h
  go_enter Try.func15, Try.ntmps15
  go_wp2
  go_ret
  exact ⟨rfl, rfl⟩

theorem held_any (h : IsFr w g m at_ fr cur cl O co) : Calls Try.prog 16 #[.pointer (some ⟨g, 0, none⟩)] w fun e w' => e = .returned (.int .i64 ((opn m cur).length : Nat)) ∧ w = w' := by
  obtain ⟨c0, c1, c2, c3, c4⟩ := h.cells
  clear h
  go_enter Try.func16, Try.ntmps16
  go_wp2
  go_ret
  exact ⟨rfl, rfl⟩

theorem check_any (h : IsFr w g m at_ fr cur cl O co) : Calls Try.prog 21 #[.pointer (some ⟨g, 0, none⟩)] w fun e w' => e = .returned (.int .i64 (if cl then 28 else 0)) ∧ w = w' := by
  obtain ⟨c0, c1, c2, c3, c4⟩ := h.cells
  clear h
  cases cl
  all_goals (
    go_enter Try.func21, Try.ntmps21
    go_wp2
    go_ret
    exact ⟨rfl, rfl⟩)

theorem long_any (h : IsFr w g m at_ fr cur cl O co) (e : Nat) (h1 : fr ≤ e) (h2 : e ≤ 100001) : Calls Try.prog 23 #[.pointer (some ⟨g, 0, none⟩), .int .i64 e] w fun r w' => r = .returned (.bool (decide (m < e - fr))) ∧ ∃ n, w' = w.drewN n := by
  obtain ⟨c0, c1, c2, c3, c4⟩ := h.cells
  have hm := h.big
  have hw : IntKind.i64.wrap ((e : Int) - (fr : Int)) = (e : Int) - (fr : Int) := by rw [IntKind.wrap_i64]; omega
  have hd : decide ((m : Int) < (e : Int) - (fr : Int)) = decide (m < e - fr) := by
    rw [Bool.eq_iff_iff]; simp only [decide_eq_true_eq]; omega
  have HD := Lib.hid hd
  clear h hd
  go_enter Try.func23, Try.ntmps23
  go_wp2_with fail
  go_quiet (fail)
  go_wp2_with fail
  go_ret
  exact ⟨by rw [← HD.out]; rfl, _, rfl⟩

/-- A line's value. -/
def lvv (x : LV) : Array Value := #[.int .i64 x.a, .int .i64 x.b, .string (strOfNums x.t), .bool x.long]
theorem info31 : (Try.prog.info? 31).map (·.size) = some 4 := by kernel_rfl

/-- Behind the first statement of 'line': the line's box, and the result's. -/
structure LineAt (w : World) (g m at_ fr : Nat) (cur : List Int) (cl : Bool) (O : Option Addr) (co : Nat) (x y : Int) (b : Bool) (W : World) : Prop where
  fr : IsFr W g m at_ fr cur cl O co
  res : W.heap[w.heap.size]? = some (.cells #[.int .i64 0, .int .i64 0, .string ⟨#[]⟩, .bool false] 31 (0, 0))
  box : W.heap[w.heap.size + 1]? = some (.cells #[.int .i64 x, .int .i64 y, .string ⟨#[]⟩, .bool b] 31 (0, 0))
  grown : w.grownBy W (some g)

def zeroLine : Obj := .cells #[.int .i64 0, .int .i64 0, .string ⟨#[]⟩, .bool false] 31
def lw1 (w : World) (x y : Int) (b : Bool) (n : Nat) : World := ((w.alloc (.cells #[.int .i64 0, .int .i64 0, .string ⟨#[]⟩, .bool false] 31)).drewN n).alloc (.cells #[.int .i64 x, .int .i64 y, .string ⟨#[]⟩, .bool b] 31)
def lw2 (w : World) (x y : Int) (b : Bool) (n : Nat) : World :=
  ((((((w.alloc (.cells #[.int .i64 0, .int .i64 0, .string ⟨#[]⟩, .bool false] 31)).alloc (.cells #[.int .i64 0, .int .i64 0, .string ⟨#[]⟩, .bool false] 31)).drewN n).setCell ⟨w.heap.size + 1, 0, none⟩ (.int .i64 x)).setCell ⟨w.heap.size + 1, 1, none⟩ (.int .i64 y)).setCell ⟨w.heap.size + 1, 2, none⟩ (.string ⟨#[]⟩)).setCell ⟨w.heap.size + 1, 3, none⟩ (.bool b)

theorem lineAt1 (h : IsFr w g m at_ fr cur cl O co) (x y : Int) (b : Bool) (n : Nat) : LineAt w g m at_ fr cur cl O co x y b (lw1 w x y b n) := by
  have b0 := (Below.refl w.heap.size w).alloc (Nat.le_refl _) (.cells #[.int .i64 0, .int .i64 0, .string ⟨#[]⟩, .bool false] 31)
  have b1 := (below_drewN' b0 n).alloc (by simp) (.cells #[.int .i64 x, .int .i64 y, .string ⟨#[]⟩, .bool b] 31)
  have hn := heap_alloc_new ((w.alloc (.cells #[.int .i64 0, .int .i64 0, .string ⟨#[]⟩, .bool false] 31)).drewN n) (.cells #[.int .i64 x, .int .i64 y, .string ⟨#[]⟩, .bool b] 31)
  rw [show ((w.alloc (.cells #[.int .i64 0, .int .i64 0, .string ⟨#[]⟩, .bool false] 31)).drewN n).heap.size = w.heap.size + 1 from by simp] at hn
  exact ⟨h.below b1, (Below.heap_alloc _ _ _ (by simp)).trans (heap_alloc_new w _), hn, grown_below b1⟩

theorem lineAt2 (h : IsFr w g m at_ fr cur cl O co) (x y : Int) (b : Bool) (n : Nat) : LineAt w g m at_ fr cur cl O co x y b (lw2 w x y b n) := by
  have b0 := ((Below.refl w.heap.size w).alloc (Nat.le_refl _) (.cells #[.int .i64 0, .int .i64 0, .string ⟨#[]⟩, .bool false] 31)).alloc (by simp) (.cells #[.int .i64 0, .int .i64 0, .string ⟨#[]⟩, .bool false] 31)
  have b1 := ((((below_drewN' b0 n).setCell (p := ⟨w.heap.size + 1, 0, none⟩) (by simp) (.int .i64 x)).setCell (p := ⟨w.heap.size + 1, 1, none⟩) (by simp) (.int .i64 y)).setCell (p := ⟨w.heap.size + 1, 2, none⟩) (by simp) (.string ⟨#[]⟩)).setCell (p := ⟨w.heap.size + 1, 3, none⟩) (by simp) (.bool b)
  have hn := heap_alloc_new (w.alloc (.cells #[.int .i64 0, .int .i64 0, .string ⟨#[]⟩, .bool false] 31)) (.cells #[.int .i64 0, .int .i64 0, .string ⟨#[]⟩, .bool false] 31)
  rw [World.size_alloc] at hn
  refine ⟨h.below b1, ?_, ?_, grown_below b1⟩
  · unfold lw2
    rw [heap_setCell_other _ _ _ _ (by show w.heap.size ≠ w.heap.size + 1; omega), heap_setCell_other _ _ _ _ (by show w.heap.size ≠ w.heap.size + 1; omega), heap_setCell_other _ _ _ _ (by show w.heap.size ≠ w.heap.size + 1; omega), heap_setCell_other _ _ _ _ (by show w.heap.size ≠ w.heap.size + 1; omega)]
    exact (Below.heap_alloc _ _ _ (by simp)).trans (heap_alloc_new w _)
  · have h0 : (((w.alloc (.cells #[.int .i64 0, .int .i64 0, .string ⟨#[]⟩, .bool false] 31)).alloc (.cells #[.int .i64 0, .int .i64 0, .string ⟨#[]⟩, .bool false] 31)).drewN n).heap[w.heap.size + 1]? = some (.cells #[.int .i64 0, .int .i64 0, .string ⟨#[]⟩, .bool false] 31 (0, 0)) := hn
    have h1 := heap_setCell_same _ (w.heap.size + 1) 0 _ 31 (.int .i64 x) h0
    have h2 := heap_setCell_same _ (w.heap.size + 1) 1 _ 31 (.int .i64 y) h1
    have h3 := heap_setCell_same _ (w.heap.size + 1) 2 _ 31 (.string ⟨#[]⟩) h2
    exact heap_setCell_same _ (w.heap.size + 1) 3 _ 31 (.bool b) h3

/-- What the end of 'line' leaves. -/
def lwE (W : World) (g r : Nat) (x y : Int) (t : ByteArray) (b : Bool) : World :=
  (((((W.setCell ⟨g, 2, none⟩ (.int .i64 y)).setCell ⟨g, 3, none⟩ (.slice none 0 0)).setCell ⟨r, 0, none⟩ (.int .i64 x)).setCell ⟨r, 1, none⟩ (.int .i64 y)).setCell ⟨r, 2, none⟩ (.string t)).setCell ⟨r, 3, none⟩ (.bool b)

theorem grown_step {w w' : World} {q : Nat} (h : w.grownBy w' (some q)) (p : Addr) (hp : p.block = q ∨ w.heap.size ≤ p.block) (v : Value) : w.grownBy (w'.setCell p v) (some q) :=
  ⟨h.os, h.tape, h.output, by simpa [World.setCell] using h.size, fun k hk hn => (heap_setCell_other _ _ _ _ (by
    rcases hp with h1 | h1
    · exact fun e => hn (by rw [e, h1])
    · omega)).trans (h.block k hk hn)⟩

theorem line_end (W : World) (hf : IsFr W g m at_ fr cur cl O co) (hg : w.grownBy W (some g)) (hlt : g < w.heap.size)
    (hres : W.heap[w.heap.size]? = some (.cells #[.int .i64 0, .int .i64 0, .string ⟨#[]⟩, .bool false] 31 (0, 0))) (x : Int) (y : Nat) (hy : y ≤ 100000) (Y : Int) (hY : (y : Int) = Y) (t : ByteArray) (b : Bool) :
    IsFr (lwE W g w.heap.size x Y t b) g m at_ y [] cl none 0 ∧ (lwE W g w.heap.size x Y t b).heap[w.heap.size]? = some (.cells #[.int .i64 x, .int .i64 Y, .string t, .bool b] 31 (0, 0)) ∧ w.grownBy (lwE W g w.heap.size x Y t b) (some g) := by
  subst hY
  have f1 := hf.put_from y hy
  have hs : ((W.setCell ⟨g, 2, none⟩ (.int .i64 (y : Int))).setCell ⟨g, 3, none⟩ (.slice none 0 0)).heap[w.heap.size]? = some (.cells #[.int .i64 0, .int .i64 0, .string ⟨#[]⟩, .bool false] 31 (0, 0)) := by
    rw [heap_setCell_other _ _ _ _ (by show w.heap.size ≠ g; omega), heap_setCell_other _ _ _ _ (by show w.heap.size ≠ g; omega)]; exact hres
  have h0 := heap_setCell_same _ w.heap.size 0 _ 31 (.int .i64 x) hs
  have h1 := heap_setCell_same _ w.heap.size 1 _ 31 (.int .i64 (y : Int)) h0
  have h2 := heap_setCell_same _ w.heap.size 2 _ 31 (.string t) h1
  have h3 := heap_setCell_same _ w.heap.size 3 _ 31 (.bool b) h2
  have g0 := grown_step (grown_step hg ⟨g, 2, none⟩ (.inl rfl) (.int .i64 (y : Int))) ⟨g, 3, none⟩ (.inl rfl) (.slice none 0 0)
  have g4 := grown_step (grown_step (grown_step (grown_step g0 ⟨w.heap.size, 0, none⟩ (.inr (Nat.le_refl _)) (.int .i64 x)) ⟨w.heap.size, 1, none⟩ (.inr (Nat.le_refl _)) (.int .i64 (y : Int))) ⟨w.heap.size, 2, none⟩ (.inr (Nat.le_refl _)) (.string t)) ⟨w.heap.size, 3, none⟩ (.inr (Nat.le_refl _)) (.bool b)
  have hne : w.heap.size ≠ g := by omega
  have k0 := grown_step (grown_step (grown_step (grown_step (grown_below (row := some w.heap.size) (Below.refl _ ((W.setCell ⟨g, 2, none⟩ (.int .i64 (y : Int))).setCell ⟨g, 3, none⟩ (.slice none 0 0)))) ⟨w.heap.size, 0, none⟩ (.inl rfl) (.int .i64 x)) ⟨w.heap.size, 1, none⟩ (.inl rfl) (.int .i64 (y : Int))) ⟨w.heap.size, 2, none⟩ (.inl rfl) (.string t)) ⟨w.heap.size, 3, none⟩ (.inl rfl) (.bool b)
  exact ⟨f1.kept k0 (fun e => hne (Option.some.inj e).symm) (fun ad e => by cases e), h3, g4⟩

set_option maxHeartbeats 1000000 in
/-- What is open, as a line; and all begins anew. -/
theorem line_any (h : IsFr w g m at_ fr cur cl O co) (k : Nat) (hk : k ≤ 1) (hm : fr + cur.length + k ≤ 100000) :
    Calls Try.prog 24 #[.pointer (some ⟨g, 0, none⟩), .int .i64 ((fr + cur.length : Nat) : Int), .int .i64 ((fr + cur.length + k : Nat) : Int)] w fun r w' => r = .returned (.agg (lvv (mkLine m fr cur k))) ∧ IsFr w' g m at_ (fr + cur.length + k) [] cl none 0 ∧ w.grownBy w' (some g) := by
  have b0 := (Below.refl w.heap.size w).alloc (Nat.le_refl _) (.cells #[.int .i64 0, .int .i64 0, .string ⟨#[]⟩, .bool false] 31)
  have H0 := Lib.hid (h.below b0)
  have HB0 := Lib.hid b0
  have HLT := Lib.hid h.lt
  have HF := Lib.hid h
  clear h b0
  obtain ⟨c0, c1, c2, c3, c4⟩ := H0.out.cells
  go_enter Try.func24, Try.ntmps24
  go_wp2_with fail
  have hz0 : w.heap.size < (w.alloc (.cells #[.int .i64 0, .int .i64 0, .string ⟨#[]⟩, .bool false] 31)).drew.heap.size := by simp
  obtain ⟨W, hW⟩ : ∃ W, W = (w.alloc (.cells #[.int .i64 0, .int .i64 0, .string ⟨#[]⟩, .bool false] 31)).drew := ⟨_, rfl⟩
  have HA := Lib.hid (H0.out.below (Below.refl _ _).drew)
  have HB := Lib.hid (HA.out.below ((Below.refl _ _).alloc (Nat.le_refl _) (.cells #[.int .i64 0, .int .i64 0, .string ⟨#[]⟩, .bool false] 31)))
  have hd : decide (m < fr + cur.length - fr) = decide (m < cur.length) := by rw [Nat.add_sub_cancel_left]
  have HD := Lib.hid hd
  clear hd hW hz0
  have hgl := HLT.out
  have hga : g < w.heap.size + 1 := by omega
  have hgb : g ≠ w.heap.size := by omega
  have hgc : g ≠ w.heap.size + 1 := by omega
  have hgd : w.heap.size + 1 ≠ g := by omega
  have hge : w.heap.size ≠ g := by omega
  go_region_held3 (fun W => W.cell? ⟨g, 2, none⟩ = some (.int .i64 fr)) (go_keep) (first | (go_at_call 23; refine (long_any _ g m at_ fr cur cl O co HA.out (fr + cur.length) (by omega) (by omega)).mono ?_; rintro e w1 ⟨rfl, n1, rfl⟩; rw [HD.out]) | (go_at_call 23; refine (long_any _ g m at_ fr cur cl O co HB.out (fr + cur.length) (by omega) (by omega)).mono ?_; rintro e w1 ⟨rfl, n1, rfl⟩; rw [HD.out]))
  · change Exit.then _ _ _ _ (lw1 w fr ((fr : Int) + (cur.length : Int) + (k : Int)) (decide (m < cur.length)) (1 + n1))
    have F := lineAt1 w g m at_ fr cur cl O co HF.out fr ((fr : Int) + (cur.length : Int) + (k : Int)) (decide (m < cur.length)) (1 + n1)
    generalize lw1 w fr ((fr : Int) + (cur.length : Int) + (k : Int)) (decide (m < cur.length)) (1 + n1) = W at F ⊢
    have HFF := Lib.hid F
    have HG := Lib.hid F.grown
    obtain ⟨z0, z1, z2, z3, z4⟩ := F.fr.cells
    have fz2 := F.fr.free 2
    have fz3 := F.fr.free 3
    have l3 : W.cell? ⟨w.heap.size + 1, 3, none⟩ = some (.bool (decide (m < cur.length))) := by rw [cell_of_row _ _ _ _ 31 (0, 0) F.box]; rfl
    have hrow := F.res
    by_cases hl : m < cur.length
    · have hmk : mkLine m fr cur k = ⟨fr, fr + cur.length + k, [], true⟩ := by unfold mkLine; rw [if_pos hl]
      rw [show decide (m < cur.length) = true from decide_eq_true hl] at l3 HFF
      have hb := F.box
      rw [show decide (m < cur.length) = true from decide_eq_true hl] at hb
      have b0 : W.cell? ⟨w.heap.size + 1, 0, none⟩ = some (.int .i64 fr) := by rw [cell_of_row _ _ _ _ 31 (0, 0) hb]; rfl
      have b1 : W.cell? ⟨w.heap.size + 1, 1, none⟩ = some (.int .i64 ((fr : Int) + (cur.length : Int) + (k : Int))) := by rw [cell_of_row _ _ _ _ 31 (0, 0) hb]; rfl
      have b2 : W.cell? ⟨w.heap.size + 1, 2, none⟩ = some (.string ⟨#[]⟩) := by rw [cell_of_row _ _ _ _ 31 (0, 0) hb]; rfl
      have HMK := Lib.hid hmk
      have HROW := Lib.hid hrow
      have HBB := Lib.hid hb
      have r0 : W.cell? ⟨w.heap.size, 0, none⟩ = some (.int .i64 0) := by rw [cell_of_row _ _ _ _ 31 (0, 0) hrow]; rfl
      have r1 : W.cell? ⟨w.heap.size, 1, none⟩ = some (.int .i64 0) := by rw [cell_of_row _ _ _ _ 31 (0, 0) hrow]; rfl
      have r2 : W.cell? ⟨w.heap.size, 2, none⟩ = some (.string ⟨#[]⟩) := by rw [cell_of_row _ _ _ _ 31 (0, 0) hrow]; rfl
      have r3 : W.cell? ⟨w.heap.size, 3, none⟩ = some (.bool false) := by rw [cell_of_row _ _ _ _ 31 (0, 0) hrow]; rfl
      have q0 := frozen_of_row W w.heap.size 0 _ 31 hrow
      have q1 := frozen_of_row W w.heap.size 1 _ 31 hrow
      have q2 := frozen_of_row W w.heap.size 2 _ 31 hrow
      have q3 := frozen_of_row W w.heap.size 3 _ 31 hrow
      clear hb hmk hrow F
      go_wp2_with fail
      obtain ⟨e1, e2, e3⟩ := line_end w g m at_ fr cur cl O co W HFF.out.fr HG.out HLT.out HROW.out fr (fr + cur.length + k) hm ((fr : Int) + (cur.length : Int) + (k : Int)) (by push_cast; rfl) ⟨#[]⟩ true
      exact bodyPost_ret (results_cell_row rfl _ _ w.heap.size 31 #[.int .i64 fr, .int .i64 ((fr : Int) + (cur.length : Int) + (k : Int)), .string ⟨#[]⟩, .bool true] (0, 0) _ rfl e2 Try.underlying31 rfl info31) rfl ⟨by rw [HMK.out]; rfl, e1, e3⟩
    · have hmk : mkLine m fr cur k = ⟨fr, fr + cur.length + k, cur, false⟩ := by unfold mkLine; rw [if_neg hl]
      rw [show decide (m < cur.length) = false from decide_eq_false hl] at l3 HFF
      have hb := F.box
      rw [show decide (m < cur.length) = false from decide_eq_false hl] at hb
      have hop : opn m cur = cur := by unfold opn; rw [if_neg hl]
      have hconv := F.fr.sl.convert co
      rw [hop] at hconv z3
      have hb2 := heap_setCell_same _ (w.heap.size + 1) 2 _ 31 (.string (strOfNums cur)) hb
      have qb2 := frozen_of_row W (w.heap.size + 1) 2 _ 31 hb
      have b0 : W.cell? ⟨w.heap.size + 1, 0, none⟩ = some (.int .i64 fr) := by rw [cell_of_row _ _ _ _ 31 (0, 0) hb]; rfl
      have b1 : W.cell? ⟨w.heap.size + 1, 1, none⟩ = some (.int .i64 ((fr : Int) + (cur.length : Int) + (k : Int))) := by rw [cell_of_row _ _ _ _ 31 (0, 0) hb]; rfl
      have b2 : W.cell? ⟨w.heap.size + 1, 2, none⟩ = some (.string ⟨#[]⟩) := by rw [cell_of_row _ _ _ _ 31 (0, 0) hb]; rfl
      have HMK := Lib.hid hmk
      have HROW := Lib.hid hrow
      have r0 : W.cell? ⟨w.heap.size, 0, none⟩ = some (.int .i64 0) := by rw [cell_of_row _ _ _ _ 31 (0, 0) hrow]; rfl
      have r1 : W.cell? ⟨w.heap.size, 1, none⟩ = some (.int .i64 0) := by rw [cell_of_row _ _ _ _ 31 (0, 0) hrow]; rfl
      have r2 : W.cell? ⟨w.heap.size, 2, none⟩ = some (.string ⟨#[]⟩) := by rw [cell_of_row _ _ _ _ 31 (0, 0) hrow]; rfl
      have r3 : W.cell? ⟨w.heap.size, 3, none⟩ = some (.bool false) := by rw [cell_of_row _ _ _ _ 31 (0, 0) hrow]; rfl
      have q0 := frozen_of_row W w.heap.size 0 _ 31 hrow
      have q1 := frozen_of_row W w.heap.size 1 _ 31 hrow
      have q2 := frozen_of_row W w.heap.size 2 _ 31 hrow
      have q3 := frozen_of_row W w.heap.size 3 _ 31 hrow
      have HW2 := Lib.hid (show IsFr (W.setCell ⟨w.heap.size + 1, 2, none⟩ (.string (strOfNums cur))) g m at_ fr cur cl O co ∧ w.grownBy (W.setCell ⟨w.heap.size + 1, 2, none⟩ (.string (strOfNums cur))) (some g) ∧ (W.setCell ⟨w.heap.size + 1, 2, none⟩ (.string (strOfNums cur))).heap[w.heap.size]? = some (.cells #[.int .i64 0, .int .i64 0, .string ⟨#[]⟩, .bool false] 31 (0, 0)) from
        ⟨{ HFF.out.fr with row := (heap_setCell_other _ _ _ _ (by show g ≠ w.heap.size + 1; omega)).trans HFF.out.fr.row, sl := HF.out.sl.grown (grown_step HG.out ⟨w.heap.size + 1, 2, none⟩ (.inr (by show w.heap.size ≤ w.heap.size + 1; omega)) _) (fun ad e e2 => HF.out.ne ad e (Option.some.inj e2).symm) }, grown_step HG.out ⟨w.heap.size + 1, 2, none⟩ (.inr (by show w.heap.size ≤ w.heap.size + 1; omega)) _, (heap_setCell_other _ _ _ _ (by show w.heap.size ≠ w.heap.size + 1; omega)).trans hrow⟩)
      clear hb hmk hrow F hop hb2
      go_wp2_with fail
      obtain ⟨e1, e2, e3⟩ := line_end w g m at_ fr cur cl O co _ HW2.out.1 HW2.out.2.1 HLT.out HW2.out.2.2 fr (fr + cur.length + k) hm ((fr : Int) + (cur.length : Int) + (k : Int)) (by push_cast; rfl) (strOfNums cur) false
      exact bodyPost_ret (results_cell_row rfl _ _ w.heap.size 31 #[.int .i64 fr, .int .i64 ((fr : Int) + (cur.length : Int) + (k : Int)), .string (strOfNums cur), .bool false] (0, 0) _ rfl e2 Try.underlying31 rfl info31) rfl ⟨by rw [HMK.out]; rfl, e1, e3⟩
  · change Exit.then _ _ _ _ (lw2 w fr ((fr : Int) + (cur.length : Int) + (k : Int)) (decide (m < cur.length)) (1 + n1))
    have F := lineAt2 w g m at_ fr cur cl O co HF.out fr ((fr : Int) + (cur.length : Int) + (k : Int)) (decide (m < cur.length)) (1 + n1)
    generalize lw2 w fr ((fr : Int) + (cur.length : Int) + (k : Int)) (decide (m < cur.length)) (1 + n1) = W at F ⊢
    have HFF := Lib.hid F
    have HG := Lib.hid F.grown
    obtain ⟨z0, z1, z2, z3, z4⟩ := F.fr.cells
    have fz2 := F.fr.free 2
    have fz3 := F.fr.free 3
    have l3 : W.cell? ⟨w.heap.size + 1, 3, none⟩ = some (.bool (decide (m < cur.length))) := by rw [cell_of_row _ _ _ _ 31 (0, 0) F.box]; rfl
    have hrow := F.res
    by_cases hl : m < cur.length
    · have hmk : mkLine m fr cur k = ⟨fr, fr + cur.length + k, [], true⟩ := by unfold mkLine; rw [if_pos hl]
      rw [show decide (m < cur.length) = true from decide_eq_true hl] at l3 HFF
      have hb := F.box
      rw [show decide (m < cur.length) = true from decide_eq_true hl] at hb
      have b0 : W.cell? ⟨w.heap.size + 1, 0, none⟩ = some (.int .i64 fr) := by rw [cell_of_row _ _ _ _ 31 (0, 0) hb]; rfl
      have b1 : W.cell? ⟨w.heap.size + 1, 1, none⟩ = some (.int .i64 ((fr : Int) + (cur.length : Int) + (k : Int))) := by rw [cell_of_row _ _ _ _ 31 (0, 0) hb]; rfl
      have b2 : W.cell? ⟨w.heap.size + 1, 2, none⟩ = some (.string ⟨#[]⟩) := by rw [cell_of_row _ _ _ _ 31 (0, 0) hb]; rfl
      have HMK := Lib.hid hmk
      have HROW := Lib.hid hrow
      have HBB := Lib.hid hb
      have r0 : W.cell? ⟨w.heap.size, 0, none⟩ = some (.int .i64 0) := by rw [cell_of_row _ _ _ _ 31 (0, 0) hrow]; rfl
      have r1 : W.cell? ⟨w.heap.size, 1, none⟩ = some (.int .i64 0) := by rw [cell_of_row _ _ _ _ 31 (0, 0) hrow]; rfl
      have r2 : W.cell? ⟨w.heap.size, 2, none⟩ = some (.string ⟨#[]⟩) := by rw [cell_of_row _ _ _ _ 31 (0, 0) hrow]; rfl
      have r3 : W.cell? ⟨w.heap.size, 3, none⟩ = some (.bool false) := by rw [cell_of_row _ _ _ _ 31 (0, 0) hrow]; rfl
      have q0 := frozen_of_row W w.heap.size 0 _ 31 hrow
      have q1 := frozen_of_row W w.heap.size 1 _ 31 hrow
      have q2 := frozen_of_row W w.heap.size 2 _ 31 hrow
      have q3 := frozen_of_row W w.heap.size 3 _ 31 hrow
      clear hb hmk hrow F
      go_wp2_with fail
      obtain ⟨e1, e2, e3⟩ := line_end w g m at_ fr cur cl O co W HFF.out.fr HG.out HLT.out HROW.out fr (fr + cur.length + k) hm ((fr : Int) + (cur.length : Int) + (k : Int)) (by push_cast; rfl) ⟨#[]⟩ true
      exact bodyPost_ret (results_cell_row rfl _ _ w.heap.size 31 #[.int .i64 fr, .int .i64 ((fr : Int) + (cur.length : Int) + (k : Int)), .string ⟨#[]⟩, .bool true] (0, 0) _ rfl e2 Try.underlying31 rfl info31) rfl ⟨by rw [HMK.out]; rfl, e1, e3⟩
    · have hmk : mkLine m fr cur k = ⟨fr, fr + cur.length + k, cur, false⟩ := by unfold mkLine; rw [if_neg hl]
      rw [show decide (m < cur.length) = false from decide_eq_false hl] at l3 HFF
      have hb := F.box
      rw [show decide (m < cur.length) = false from decide_eq_false hl] at hb
      have hop : opn m cur = cur := by unfold opn; rw [if_neg hl]
      have hconv := F.fr.sl.convert co
      rw [hop] at hconv z3
      have hb2 := heap_setCell_same _ (w.heap.size + 1) 2 _ 31 (.string (strOfNums cur)) hb
      have qb2 := frozen_of_row W (w.heap.size + 1) 2 _ 31 hb
      have b0 : W.cell? ⟨w.heap.size + 1, 0, none⟩ = some (.int .i64 fr) := by rw [cell_of_row _ _ _ _ 31 (0, 0) hb]; rfl
      have b1 : W.cell? ⟨w.heap.size + 1, 1, none⟩ = some (.int .i64 ((fr : Int) + (cur.length : Int) + (k : Int))) := by rw [cell_of_row _ _ _ _ 31 (0, 0) hb]; rfl
      have b2 : W.cell? ⟨w.heap.size + 1, 2, none⟩ = some (.string ⟨#[]⟩) := by rw [cell_of_row _ _ _ _ 31 (0, 0) hb]; rfl
      have HMK := Lib.hid hmk
      have HROW := Lib.hid hrow
      have r0 : W.cell? ⟨w.heap.size, 0, none⟩ = some (.int .i64 0) := by rw [cell_of_row _ _ _ _ 31 (0, 0) hrow]; rfl
      have r1 : W.cell? ⟨w.heap.size, 1, none⟩ = some (.int .i64 0) := by rw [cell_of_row _ _ _ _ 31 (0, 0) hrow]; rfl
      have r2 : W.cell? ⟨w.heap.size, 2, none⟩ = some (.string ⟨#[]⟩) := by rw [cell_of_row _ _ _ _ 31 (0, 0) hrow]; rfl
      have r3 : W.cell? ⟨w.heap.size, 3, none⟩ = some (.bool false) := by rw [cell_of_row _ _ _ _ 31 (0, 0) hrow]; rfl
      have q0 := frozen_of_row W w.heap.size 0 _ 31 hrow
      have q1 := frozen_of_row W w.heap.size 1 _ 31 hrow
      have q2 := frozen_of_row W w.heap.size 2 _ 31 hrow
      have q3 := frozen_of_row W w.heap.size 3 _ 31 hrow
      have HW2 := Lib.hid (show IsFr (W.setCell ⟨w.heap.size + 1, 2, none⟩ (.string (strOfNums cur))) g m at_ fr cur cl O co ∧ w.grownBy (W.setCell ⟨w.heap.size + 1, 2, none⟩ (.string (strOfNums cur))) (some g) ∧ (W.setCell ⟨w.heap.size + 1, 2, none⟩ (.string (strOfNums cur))).heap[w.heap.size]? = some (.cells #[.int .i64 0, .int .i64 0, .string ⟨#[]⟩, .bool false] 31 (0, 0)) from
        ⟨{ HFF.out.fr with row := (heap_setCell_other _ _ _ _ (by show g ≠ w.heap.size + 1; omega)).trans HFF.out.fr.row, sl := HF.out.sl.grown (grown_step HG.out ⟨w.heap.size + 1, 2, none⟩ (.inr (by show w.heap.size ≤ w.heap.size + 1; omega)) _) (fun ad e e2 => HF.out.ne ad e (Option.some.inj e2).symm) }, grown_step HG.out ⟨w.heap.size + 1, 2, none⟩ (.inr (by show w.heap.size ≤ w.heap.size + 1; omega)) _, (heap_setCell_other _ _ _ _ (by show w.heap.size ≠ w.heap.size + 1; omega)).trans hrow⟩)
      clear hb hmk hrow F hop hb2
      go_wp2_with fail
      obtain ⟨e1, e2, e3⟩ := line_end w g m at_ fr cur cl O co _ HW2.out.1 HW2.out.2.1 HLT.out HW2.out.2.2 fr (fr + cur.length + k) hm ((fr : Int) + (cur.length : Int) + (k : Int)) (by push_cast; rfl) (strOfNums cur) false
      exact bodyPost_ret (results_cell_row rfl _ _ w.heap.size 31 #[.int .i64 fr, .int .i64 ((fr : Int) + (cur.length : Int) + (k : Int)), .string (strOfNums cur), .bool false] (0, 0) _ rfl e2 Try.underlying31 rfl info31) rfl ⟨by rw [HMK.out]; rfl, e1, e3⟩
end
end Go.Proofs.Ytnlnadpbbcjfdaa
