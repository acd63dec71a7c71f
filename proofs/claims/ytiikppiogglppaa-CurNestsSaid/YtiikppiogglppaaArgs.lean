/-
  What the arguments' readings give: bytes, numbers, bools, and calls of three numbers each.
-/
import Derived.Test.YtiikppiogglppaaBase
import Derived.ProofKit
import Derived.OpenShut
import Derived.Deep.Slices
import Derived.Deep.Fields
import Derived.Deep.Strs
import Derived.ChangeSame
namespace Go.Proofs.Ytiikppiogglppaa
open Go.RowKit Go.ChangeShapes Go.WideShapes Go.Deep

/-- A slice of calls, of three numbers each, that reads as l. -/
def Acts (w : World) (A : Option Addr) (n : Nat) (l : List (Int × Int × Int)) : Prop :=
  l.length = n ∧ (n = 0 ∨ ∃ b off, A = some ⟨b, off, none⟩ ∧ b < w.heap.size ∧ ∀ i, i < n →
    w.cell? ⟨b, off + i * 3, none⟩ = some (.int .i64 (l.getD i (0, 0, 0)).1) ∧ w.cell? ⟨b, off + i * 3 + 1, none⟩ = some (.int .i64 (l.getD i (0, 0, 0)).2.1) ∧ w.cell? ⟨b, off + i * 3 + 2, none⟩ = some (.int .i64 (l.getD i (0, 0, 0)).2.2))

theorem Acts.below {w w' : World} {A : Option Addr} {n : Nat} {l : List (Int × Int × Int)} (h : Acts w A n l) (hb : Below w.heap.size w w') : Acts w' A n l := by
  obtain ⟨h1, h2⟩ := h
  refine ⟨h1, ?_⟩
  rcases h2 with h0 | ⟨b, off, rfl, hlt, hc⟩
  · exact .inl h0
  · refine .inr ⟨b, off, rfl, Nat.lt_of_lt_of_le hlt hb.size, fun i hi => ?_⟩
    obtain ⟨a1, a2, a3⟩ := hc i hi
    exact ⟨(hb.cell (p := ⟨b, off + i * 3, none⟩) hlt).trans a1, (hb.cell (p := ⟨b, off + i * 3 + 1, none⟩) hlt).trans a2, (hb.cell (p := ⟨b, off + i * 3 + 2, none⟩) hlt).trans a3⟩

theorem Acts.at {w : World} {A : Option Addr} {n : Nat} {l : List (Int × Int × Int)} (h : Acts w A n l) (i : Nat) (hi : i < n) : ∃ b off, A = some ⟨b, off, none⟩ ∧ b < w.heap.size ∧
    w.cell? ⟨b, off + i * 3, none⟩ = some (.int .i64 (l.getD i (0, 0, 0)).1) ∧ w.cell? ⟨b, off + i * 3 + 1, none⟩ = some (.int .i64 (l.getD i (0, 0, 0)).2.1) ∧ w.cell? ⟨b, off + i * 3 + 2, none⟩ = some (.int .i64 (l.getD i (0, 0, 0)).2.2) := by
  rcases h.2 with h0 | ⟨b, off, rfl, hlt, hc⟩
  · omega
  · exact ⟨b, off, rfl, hlt, hc i hi⟩

section
variable (H : Type) (enc : TypeId × Value → H) (w : World) (base : Nat) (spare : Nat → Bool) (held : Bool) (fuel : Nat) (cs : List Value) (x : DataW H × List MemPlace)

theorem add_off {b off i : Nat} : (⟨b, off, none⟩ : Addr).add i = ⟨b, off + i, none⟩ := by
  unfold Addr.add
  by_cases h : i = 0
  · subst h; simp
  · simp [h]

theorem openBytes (h : DataW.trod enc Try.prog w base spare held fuel 22 cs = some x) : ∃ (l : List Int) (A : Option Addr) (C : Nat), cs = [.slice A l.length C] ∧ (l.length ≤ C ∧ (A = none → C = 0)) ∧ Sl w A l.length l := by
  rcases open_ints Try.underlying22 Try.underlying5 (by kernel_rfl) h with ⟨rfl, _⟩ | ⟨a, len, c, zs, rfl, _, hl, hm, hz, _, hcell, hwz⟩
  · exact ⟨[], none, 0, rfl, ⟨Nat.le_refl _, fun _ => rfl⟩, sl_nil _ _⟩
  · have hlen : len ≤ zs.length := by rw [hz]; split <;> omega
    have e : (zs.take len).length = len := by rw [List.length_take]; omega
    refine ⟨zs.take len, some a, c, by rw [e], ⟨by rw [e]; exact hl, fun h => by cases h⟩, rfl, fun z hz => wf_u8 (hwz z (List.mem_of_mem_take hz)), ?_⟩
    rw [e]
    by_cases h0 : len = 0
    · exact .inl h0
    · right
      obtain ⟨b, off, spot⟩ := a
      have hc := hcell 0 (by omega)
      have hspot : spot = none := by simpa [Addr.add] using World.cell?_spot hc
      subst hspot
      refine ⟨b, off, rfl, block_lt_of_cell hc, fun i hi => ?_⟩
      rw [getD_take zs len i hi, ← add_off]
      exact hcell i (by omega)

/-- A slice of whole numbers that reads as l. -/
def Nums (w : World) (A : Option Addr) (n : Nat) (l : List Int) : Prop :=
  l.length = n ∧ (∀ z ∈ l, -9223372036854775808 ≤ z ∧ z < 9223372036854775808) ∧ (n = 0 ∨ ∃ b off, A = some ⟨b, off, none⟩ ∧ b < w.heap.size ∧ ∀ i, i < n → w.cell? ⟨b, off + i, none⟩ = some (.int .i64 (l.getD i 0)))

theorem openNums (h : DataW.trod enc Try.prog w base spare held fuel 47 cs = some x) : ∃ (l : List Int) (A : Option Addr) (C : Nat), cs = [.slice A l.length C] ∧ l.length ≤ C ∧ Nums w A l.length l := by
  rcases open_ints Try.underlying47 Try.underlying3 (by kernel_rfl) h with ⟨rfl, _⟩ | ⟨a, len, c, zs, rfl, _, hl, hm, hz, _, hcell, hwz⟩
  · exact ⟨[], none, 0, rfl, Nat.le_refl _, rfl, (by intro z hz; cases hz), .inl rfl⟩
  · have hlen : len ≤ zs.length := by rw [hz]; split <;> omega
    have e : (zs.take len).length = len := by rw [List.length_take]; omega
    refine ⟨zs.take len, some a, c, by rw [e], by rw [e]; exact hl, rfl, fun z hz => wf_i64 (hwz z (List.mem_of_mem_take hz)), ?_⟩
    rw [e]
    by_cases h0 : len = 0
    · exact .inl h0
    · right
      obtain ⟨b, off, spot⟩ := a
      have hc := hcell 0 (by omega)
      have hspot : spot = none := by simpa [Addr.add] using World.cell?_spot hc
      subst hspot
      refine ⟨b, off, rfl, block_lt_of_cell hc, fun i hi => ?_⟩
      rw [getD_take zs len i hi, ← add_off]
      exact hcell i (by omega)

theorem exists_list {α : Type} {Q : Nat → α → Prop} : ∀ n : Nat, (∀ i, i < n → ∃ a, Q i a) → ∃ xs : List α, xs.length = n ∧ ∀ j p, xs[j]? = some p → Q j p
  | 0, _ => ⟨[], rfl, by intro j p h; simp at h⟩
  | n + 1, h => by
    obtain ⟨xs, hl, hq⟩ := exists_list n (fun i hi => h i (by omega))
    obtain ⟨a, ha⟩ := h n (by omega)
    refine ⟨xs ++ [a], by simp [hl], fun j p hj => ?_⟩
    by_cases e : j < n
    · rw [List.getElem?_append_left (by omega)] at hj
      exact hq j p hj
    · rw [List.getElem?_append_right (by omega)] at hj
      by_cases e2 : j = n
      · subst e2
        rw [hl, Nat.sub_self] at hj
        have : a = p := by simpa using hj
        exact this ▸ ha
      · rw [List.getElem?_eq_none (by simp; omega)] at hj
        cases hj

theorem getD_of {α : Type} {l : List α} {i : Nat} (d : α) (h : i < l.length) : l[i]? = some (l.getD i d) := by
  rw [List.getD_eq_getElem?_getD, List.getElem?_eq_getElem h]; rfl

/-- A slice of bools that reads as l. -/
def Bools (w : World) (A : Option Addr) (n : Nat) (l : List Bool) : Prop :=
  l.length = n ∧ (n = 0 ∨ ∃ b off, A = some ⟨b, off, none⟩ ∧ b < w.heap.size ∧ ∀ i, i < n → w.cell? ⟨b, off + i, none⟩ = some (.bool (l.getD i false)))

theorem one_cell {w : World} {base : Nat} {a : Addr} {v : List Value} (h : w.cells? base a 1 = some v) : w.cell? a = v[0]? := by
  obtain ⟨_, hcl, hat⟩ := World.cells?_some h
  have := hat 0 (by omega)
  simpa [Addr.add] using this

theorem openBools (h : DataW.trod enc Try.prog w base spare held fuel 37 cs = some x) : ∃ (l : List Bool) (A : Option Addr) (C : Nat), cs = [.slice A l.length C] ∧ l.length ≤ C ∧ Bools w A l.length l := by
  have hC : Try.prog.cellsOf 4 = 1 := by kernel_rfl
  rcases open_slice Try.underlying37 h with ⟨rfl, _⟩ | ⟨a, len, cap, m, n, D, Pl, rfl, hb, hl, hm, hmm, _, hi⟩
  · exact ⟨[], none, 0, rfl, Nat.le_refl _, rfl, .inl rfl⟩
  · have hlm : len ≤ m := by rw [hmm]; split <;> omega
    obtain ⟨xs, hxl, hq⟩ := exists_list (Q := fun i (p : Bool) => w.cell? (a.add i) = some (.bool p)) len (fun i hil => by
      obtain ⟨cs', hc, ht'⟩ := hi i (by omega)
      obtain ⟨p, rfl, _⟩ := DataW.trod_bool Try.underlying4 ht'
      rw [hC, Nat.mul_one] at hc
      exact ⟨p, one_cell hc⟩)
    refine ⟨xs, some a, cap, by rw [hxl], by rw [hxl]; exact hl, rfl, ?_⟩
    rw [hxl]
    by_cases h0 : len = 0
    · exact .inl h0
    · right
      obtain ⟨b, off, spot⟩ := a
      have hc := hq 0 _ (getD_of false (by omega))
      have hspot : spot = none := by simpa [Addr.add] using World.cell?_spot hc
      subst hspot
      refine ⟨b, off, rfl, block_lt_of_cell hc, fun i hi => ?_⟩
      rw [← add_off]
      exact hq i _ (getD_of false (by omega))

theorem openAct (h : DataW.trod enc Try.prog w base spare held fuel 41 cs = some x) : ∃ p : Int × Int × Int, cs = [.int .i64 p.1, .int .i64 p.2.1, .int .i64 p.2.2] := by
  have hC : Try.prog.cellsOf 41 = 3 := by kernel_rfl
  have h3 : Try.prog.cellsOf 3 = 1 := by kernel_rfl
  have h29 : Try.prog.cellsOf 29 = 1 := by kernel_rfl
  obtain ⟨y0, y1, y2, n, _, hlen, t0, t1, t2⟩ := trod_struct3 Try.underlying41 h
  match cs, hlen.trans hC with
  | [v0, v1, v2], _ =>
    have t0' : DataW.trod enc Try.prog w base spare held n 3 [v0] = some y0 := by simpa [h3] using t0
    have t1' : DataW.trod enc Try.prog w base spare held n 3 [v1] = some y1 := by simpa [h3] using t1
    have t2' : DataW.trod enc Try.prog w base spare held n 29 [v2] = some y2 := by simpa [h29] using t2
    obtain ⟨a, e0, _⟩ := DataW.trod_int Try.underlying3 t0'
    obtain ⟨b, e1, _⟩ := DataW.trod_int Try.underlying3 t1'
    obtain ⟨c, e2, _⟩ := DataW.trod_int Try.underlying29 t2'
    cases e0; cases e1; cases e2
    exact ⟨(a, b, c), rfl⟩

theorem openNoted (h : DataW.trod enc Try.prog w base spare held fuel 58 cs = some x) : ∃ p : Int × Int × Int, cs = [.int .i64 p.1, .int .i64 p.2.1, .int .i64 p.2.2] := by
  have hC : Try.prog.cellsOf 58 = 3 := by kernel_rfl
  have h3 : Try.prog.cellsOf 3 = 1 := by kernel_rfl
  have h29 : Try.prog.cellsOf 29 = 1 := by kernel_rfl
  obtain ⟨y0, y1, y2, n, _, hlen, t0, t1, t2⟩ := trod_struct3 Try.underlying58 h
  match cs, hlen.trans hC with
  | [v0, v1, v2], _ =>
    have t0' : DataW.trod enc Try.prog w base spare held n 29 [v0] = some y0 := by simpa [h29] using t0
    have t1' : DataW.trod enc Try.prog w base spare held n 3 [v1] = some y1 := by simpa [h3] using t1
    have t2' : DataW.trod enc Try.prog w base spare held n 3 [v2] = some y2 := by simpa [h3] using t2
    obtain ⟨a, e0, _⟩ := DataW.trod_int Try.underlying29 t0'
    obtain ⟨b, e1, _⟩ := DataW.trod_int Try.underlying3 t1'
    obtain ⟨c, e2, _⟩ := DataW.trod_int Try.underlying3 t2'
    cases e0; cases e1; cases e2
    exact ⟨(a, b, c), rfl⟩

theorem openActs (h : DataW.trod enc Try.prog w base spare held fuel 36 cs = some x) : ∃ (l : List (Int × Int × Int)) (A : Option Addr) (C : Nat), cs = [.slice A l.length C] ∧ l.length ≤ C ∧ Acts w A l.length l := by
  have hC : Try.prog.cellsOf 41 = 3 := by kernel_rfl
  rcases open_slice Try.underlying36 h with ⟨rfl, _⟩ | ⟨a, len, cap, m, n, D, Pl, rfl, hb, hl, hm, hmm, _, hi⟩
  · exact ⟨[], none, 0, rfl, Nat.le_refl _, rfl, .inl rfl⟩
  · have hlm : len ≤ m := by rw [hmm]; split <;> omega
    obtain ⟨xs, hxl, hq⟩ := exists_list (Q := fun i (p : Int × Int × Int) => w.cell? (a.add (i * 3)) = some (.int .i64 p.1) ∧ w.cell? ((a.add (i * 3)).add 1) = some (.int .i64 p.2.1) ∧ w.cell? ((a.add (i * 3)).add 2) = some (.int .i64 p.2.2)) len (fun i hil => by
      obtain ⟨cs', hc, ht'⟩ := hi i (by omega)
      obtain ⟨p, rfl⟩ := openAct H enc w base spare held n _ _ ht'
      rw [hC] at hc
      obtain ⟨_, hcl, hat⟩ := World.cells?_some hc
      exact ⟨p, by simpa [Addr.add] using hat 0 (by omega), by simpa using hat 1 (by omega), by simpa using hat 2 (by omega)⟩)
    refine ⟨xs, some a, cap, by rw [hxl], by rw [hxl]; exact hl, rfl, ?_⟩
    rw [hxl]
    by_cases h0 : len = 0
    · exact .inl h0
    · right
      obtain ⟨b, off, spot⟩ := a
      have hc := (hq 0 _ (getD_of (0, 0, 0) (by omega))).1
      have hspot : spot = none := by simpa [Addr.add] using World.cell?_spot hc
      subst hspot
      refine ⟨b, off, rfl, block_lt_of_cell hc, fun i hi => ?_⟩
      have := hq i _ (getD_of (0, 0, 0) (by omega))
      rw [add_off, add_off, add_off] at this
      exact this
end
theorem agg3 {cs : Array Value} {a b c : Value} (h : (Value.agg cs).cells.toList = [a, b, c]) : cs = #[a, b, c] := by
  have e' : cs.toList = [a, b, c] := h
  exact Array.toList_inj.1 e'
end Go.Proofs.Ytiikppiogglppaa
