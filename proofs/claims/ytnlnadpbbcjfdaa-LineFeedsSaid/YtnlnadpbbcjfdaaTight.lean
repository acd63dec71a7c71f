/-
  An append to bytes without room: into a new block, or nothing at all; and an append of a line.
-/
import Derived.Test.YtnlnadpbbcjfdaaAppend
import Derived.Test.YtnlnadpbbcjfdaaState
namespace Go.Proofs.Ytnlnadpbbcjfdaa
open Go.RowKit

theorem sl_bytes {w : World} {ad : Addr} {m : Nat} {l : List Int} (h : Sl w (some ad) m l) : ∀ j u, (l.map (Value.int .u8))[j]? = some u → w.cell? (ad.add j) = some u := by
  intro j u hj
  rw [List.getElem?_map] at hj
  have hjl : j < l.length := by
    rcases Nat.lt_or_ge j l.length with h | h
    · exact h
    · rw [List.getElem?_eq_none h] at hj; cases hj
  obtain ⟨b, off, e, _, hcell⟩ := h.at j (by rw [← h.1]; exact hjl)
  cases e
  rw [List.getElem?_eq_getElem hjl] at hj
  have hu : Value.int .u8 l[j] = u := by simpa using hj
  rw [← hu, ← getD_lt hjl, ← hcell]
  congr 1
  unfold Addr.add
  by_cases h0 : j = 0
  · subst h0; simp
  · simp [h0]

/-- What lies in a new block. -/
theorem sl_new (w : World) (l : List Int) (hl : ∀ z ∈ l, 0 ≤ z ∧ z < 256) (more : Array Value) : Sl (w.alloc (.cells ((l.map (Value.int .u8)).toArray ++ more) 5)) (some ⟨w.heap.size, 0, none⟩) l.length l := by
  refine ⟨rfl, hl, .inr ⟨w.heap.size, 0, rfl, by simp, fun i hi => ?_⟩⟩
  rw [cell_of_row _ _ _ _ 5 (0, 0) (heap_alloc_new w _), Nat.zero_add, Array.getElem?_append_left (by simpa using hi)]
  simp [hi]

/-- A slice cut to what it holds. -/
theorem run_tight (w : World) (A : Option Addr) (n c : Nat) (hc : n ≤ c) (hT : Tidy A c) :
    (Instr.slice 22 (.slice A n c) none (some (.int .i64 n)) (some (.int .i64 n))).run Try.prog w = .ok (.slice A n n) w := by
  rw [run_slice_hm (P := Try.prog) w 22 A n c (by rw [elem22]; exact Try.underlying22) .i64 .i64 (n : Int) (n : Int) (by omega) (by omega) (by omega)]
  rw [elem22, size5]
  simp only [Result.andThen, sliced, Int.toNat_natCast, Nat.zero_mul, Nat.sub_zero]
  split
  · rfl
  · rcases hT with ⟨rfl, rfl⟩ | ⟨b, o, rfl⟩
    · rfl
    · simp [Addr.add]

theorem run_append_tight (w : World) (ty : TypeId) (A : Option Addr) (n : Nat) (l : List Int) (hs : Sl w A n l) (A2 : Option Addr) (m c2 : Nat) (l2 : List Int) (h2 : Sl w A2 m l2) (hT : Tidy A n) (hT2 : Tidy A2 c2) (hb : n + m ≤ 100000) :
    ∃ A' c' w', (Builtin.append_ #[22, 22] ty #[.slice A n n, .slice A2 m c2]).run Try.prog w = .ok (.slice A' (n + m) c') w' ∧ Sl w' A' (n + m) (l ++ l2) ∧ Below w.heap.size w w' ∧ n + m ≤ c' ∧ Tidy A' c' ∧ (A' = A ∨ ∃ ad, A' = some ad ∧ w.heap.size ≤ ad.block ∧ ad.block < w'.heap.size) := by
  obtain ⟨i0, hi, hz0, hz1, hz2⟩ := info_parts info5
  by_cases hm : m = 0
  · subst hm
    have hl2 : l2 = [] := List.length_eq_zero_iff.1 h2.1
    subst hl2
    refine ⟨A, n, w, ?_, by simpa using hs, Below.refl _ _, Nat.le_refl _, hT, .inl rfl⟩
    rcases hT with ⟨rfl, rfl⟩ | ⟨b, o, rfl⟩ <;> rcases hT2 with ⟨rfl, rfl⟩ | ⟨b2, o2, rfl⟩ <;>
      simp [Builtin.append_, run_underlying Try.underlying22, sizeOf, typeInfo, hi, Builtin.lenOf, Builtin.firstCells, loadCells, loadCellsFrom, storeCells]
  · have hall : ∀ z ∈ l ++ l2, 0 ≤ z ∧ z < 256 := fun z hz => (List.mem_append.1 hz).elim (hs.2.1 z) (h2.2.1 z)
    have hlen : (l ++ l2).length = n + m := by rw [List.length_append, hs.1, h2.1]
    obtain ⟨ad2, rfl⟩ : ∃ ad2, A2 = some ad2 := by
      obtain ⟨b, o, e, _⟩ := h2.at 0 (by omega)
      exact ⟨_, e⟩
    have hw1 : Below w.heap.size w w.drew := (Below.refl _ _).drew
    cases A with
    | none =>
      have hn : n = 0 := hs.none_nil
      subst hn
      have hl : l = [] := List.length_eq_zero_iff.1 hs.1
      subst hl
      have hr := run_append_nil (P := Try.prog) w 22 ty 5 i0 (.int .u8 0) Try.underlying22 hi hz0 ad2 m c2 (l2.map (Value.int .u8)) (by rw [List.length_map, h2.1, hz1, Nat.mul_one]) (sl_bytes h2) (by omega) (by omega) (by rw [hz2]; omega)
      refine ⟨_, _, _, by rw [Nat.zero_add]; exact hr, ?_, hw1.alloc (Nat.le_refl _) _, by rw [Nat.zero_add]; exact grownCap_ge w m 0 5, .inr ⟨_, _, rfl⟩, .inr ⟨_, rfl, Nat.le_refl _, by simp⟩⟩
      have := sl_new w.drew l2 h2.2.1 (Builtin.zeroCells (Value.int .u8 0).cells (grownCap w m 0 5 - m))
      rw [h2.1] at this
      rw [Nat.zero_add, List.nil_append]
      exact this
    | some ad =>
      have hr := run_append_grow (P := Try.prog) w 22 ty 5 i0 (.int .u8 0) Try.underlying22 hi hz0 ad n n (l.map (Value.int .u8)) (by rw [List.length_map, hs.1, hz1, Nat.mul_one]) (sl_bytes hs) ad2 m c2 (l2.map (Value.int .u8)) (by rw [List.length_map, h2.1, hz1, Nat.mul_one]) (sl_bytes h2) (by omega) (by omega) (growslice_fits (by omega) (by rw [hz2]; omega))
      refine ⟨_, _, _, hr, ?_, hw1.alloc (Nat.le_refl _) _, grownCap_ge w (n + m) n 5, .inr ⟨_, _, rfl⟩, .inr ⟨_, rfl, Nat.le_refl _, by simp⟩⟩
      have := sl_new w.drew (l ++ l2) hall (Builtin.zeroCells (Value.int .u8 0).cells (grownCap w (n + m) n 5 - (n + m)))
      rw [hlen, List.map_append] at this
      simpa using this

theorem info31b : (Try.prog.info? 31).map (fun i => (i.zero, i.size, i.bytes)) = some (some (.agg #[.int .i64 0, .int .i64 0, .string ⟨#[]⟩, .bool false]), 4, 40) := by kernel_rfl

/-- The cells of lines. -/
def lcells (ls : List LV) : List Value := ls.flatMap fun x => (lvv x).toList
theorem lcells_length (ls : List LV) : (lcells ls).length = ls.length * 4 := by
  induction ls with
  | nil => rfl
  | cons x ls ih => unfold lcells at *; rw [List.flatMap_cons, List.length_append, ih, List.length_cons]; show 4 + _ = _; omega
theorem lcells_append (a b : List LV) : lcells (a ++ b) = lcells a ++ lcells b := by unfold lcells; rw [List.flatMap_append]
theorem lcells_one (ls : List LV) : ∀ u ∈ lcells ls, u.oneCell' = true := by
  intro u hu
  obtain ⟨x, _, hx⟩ := List.mem_flatMap.1 hu
  simp only [lvv, List.mem_cons, List.not_mem_nil, or_false] at hx
  rcases hx with rfl | rfl | rfl | rfl <;> rfl

/-- The slice value v is the call's own row of lines. -/
def OwnL (w : World) (base : Nat) (v : Value) (ls : List LV) : Prop := w.ownsRow base 31 4 v ls.length (lcells ls)

theorem ownL_nil (w : World) (base : Nat) : OwnL w base (.slice none 0 0) [] := World.ownsRow_nil w base 31 4

theorem run_append_lines (w : World) (ty : TypeId) (base : Nat) (v : Value) (ls : List LV) (hown : OwnL w base v ls) (ad : Addr) (m c : Nat) (l2 : List LV) (hm : l2.length = m)
    (hnews : ∀ j u, (lcells l2)[j]? = some u → w.cell? (ad.add j) = some u) (hb : ls.length + m ≤ 100000) (hbase : base ≤ w.heap.size) :
    ∃ v' w', (Builtin.append_ #[26, 26] ty #[v, .slice (some ad) m c]).run Try.prog w = .ok v' w' ∧ OwnL w' base v' (ls ++ l2) ∧ w.grownBy w' v.ownBlock ∧ (v'.ownBlock = v.ownBlock ∨ v'.ownBlock = some w.heap.size) := by
  obtain ⟨i0, hi, hz0, hz1, hz2⟩ := info_parts info31b
  obtain ⟨v', w', h1, h2, h3, _, h5⟩ := run_append_own_at (P := Try.prog) w base 26 ty 31 i0 _ 4 40 Try.underlying26 hi hz0 hz1 hz2 rfl (by decide) v ls.length _ hown ad m c (lcells l2) (by rw [lcells_length, hm]) hnews (lcells_one l2) (by unfold maxLen; omega) (by omega) hbase
  exact ⟨v', w', h1, by unfold OwnL; rw [List.length_append, hm, lcells_append]; exact h2, h3, h5⟩
end Go.Proofs.Ytnlnadpbbcjfdaa
