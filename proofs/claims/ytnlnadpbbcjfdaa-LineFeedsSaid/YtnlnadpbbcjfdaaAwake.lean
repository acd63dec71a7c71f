/-
  The chapter's example.
-/
import Derived.Test.YtnlnadpbbcjfdaaClose
import Derived.Lib.SlBytesConst
namespace Go.Proofs.Ytnlnadpbbcjfdaa
open Go.RowKit Go.Shelf

/-- A literal's row, marked or not. -/
theorem sl_made' (w : World) (l : List Int) (hb : ∀ z ∈ l, 0 ≤ z ∧ z < 256) (cs : Array Value) (hc : cs = (l.map (Value.int .u8)).toArray) (fr : Nat × Nat) : Sl (w.alloc (.cells cs 5 fr)) (some ⟨w.heap.size, 0, none⟩) l.length l := by
  subst hc
  refine ⟨rfl, hb, .inr ⟨w.heap.size, 0, rfl, by simp, fun i hi => ?_⟩⟩
  rw [cell_of_row _ _ _ _ 5 fr (heap_alloc_new w _), Nat.zero_add]
  simp [hi]

/-- A row of lines, in its shape. -/
theorem OwnL.form {w : World} {base : Nat} {v : Value} {ls : List LV} (h : OwnL w base v ls) : ∃ O cap, v = .slice O ls.length cap ∧ ls.length ≤ cap ∧ (∀ ad, O = some ad → base ≤ ad.block ∧ ad.block < w.heap.size) ∧
    (ls ≠ [] → ∃ q, O = some ⟨q, 0, none⟩ ∧ ∀ i x, ls[i]? = some x → ∀ j u, (lvv x)[j]? = some u → w.cell? ⟨q, i * 4 + j, none⟩ = some u) := by
  have hl := h.lt
  have hcs := fun q e => World.ownsRow.cells h (g := q) e
  rcases h.2 with ⟨rfl, h0⟩ | ⟨q, cap, cs, rfl, hb, hg, hc, hR⟩
  · exact ⟨none, 0, by rw [h0], by omega, fun ad e => (by cases e), fun hn => absurd (List.length_eq_zero_iff.1 h0) hn⟩
  · refine ⟨some ⟨q, 0, none⟩, cap, rfl, hc, fun ad e => (by cases e; exact hl q rfl), fun hne => ⟨q, rfl, fun i x hx j u hj => ?_⟩⟩
    have e : (⟨q, 0, none⟩ : Addr).add (i * 4 + j) = ⟨q, i * 4 + j, none⟩ := by unfold Addr.add; split <;> simp_all
    rw [← e]
    refine hcs q rfl _ _ ?_
    have hj4 : j < 4 := by
      have := (Array.getElem?_eq_some_iff.1 hj).1
      exact this
    clear hne hR hcs hl h hg hc e
    induction ls generalizing i with
    | nil => cases hx
    | cons y ls ih =>
      unfold lcells
      rw [List.flatMap_cons]
      cases i with
      | zero =>
        cases hx
        rw [List.getElem?_append_left (by show 0 * 4 + j < 4; omega), Nat.zero_mul, Nat.zero_add, Array.getElem?_toList]
        exact hj
      | succ i =>
        rw [List.getElem?_append_right (by show 4 ≤ (i + 1) * 4 + j; omega)]
        rw [show (i + 1) * 4 + j - (lvv y).toList.length = i * 4 + j from by show (i + 1) * 4 + j - 4 = _; omega]
        exact ih i hx

theorem OwnL.cell {w : World} {base q n cap : Nat} {ls : List LV} (h : OwnL w base (.slice (some ⟨q, 0, none⟩) n cap) ls) {i : Nat} {x : LV} (hx : ls[i]? = some x) :
    w.cell? ⟨q, i * 4 + 0, none⟩ = some (.int .i64 x.a) ∧ w.cell? ⟨q, i * 4 + 1, none⟩ = some (.int .i64 x.b) ∧ w.cell? ⟨q, i * 4 + 2, none⟩ = some (.string (strOfNums x.t)) ∧ w.cell? ⟨q, i * 4 + 3, none⟩ = some (.bool x.long) := by
  obtain ⟨O, c, e, _, _, hc⟩ := h.form
  obtain ⟨q', e2, hc⟩ := hc (by rintro rfl; simp at hx)
  cases e
  cases e2
  exact ⟨hc i x hx 0 _ rfl, hc i x hx 1 _ rfl, hc i x hx 2 _ rfl, hc i x hx 3 _ rfl⟩

set_option maxRecDepth 100000 in
set_option maxHeartbeats 2000000 in
theorem awake_any (w : World) : Calls Try.prog 8 #[] w fun e w' => e = .returned (.bool true) ∧ Below w.heap.size w w' := by
  go_enter Try.func8, Try.ntmps8
  go_wp2_with fail
  refine (new_any 3 w (by decide) (by decide)).mono ?_
  rintro e w1 ⟨rfl, h1, b1⟩
  have hz1 : w.heap.size < w1.heap.size := h1.lt
  have S1 := Lib.hid (sl_made' w1 [97, 98] (by decide) #[.int .u8 97, .int .u8 98] rfl (2, 3))
  have b1a := (Below.refl _ w1).alloc (Nat.le_refl _) (.cells #[.int .u8 97, .int .u8 98] 5 (2, 3))
  have H1 := Lib.hid (h1.below b1a)
  have B1 := Lib.hid (b1.trans (b1a.mono (Nat.le_of_lt hz1)))
  have HZ := Lib.hid hz1
  have kc := fun (w : World) (C : Array Value) (n c : Nat) => Lib.run_convert_bytes_const (P := Try.prog) w 22 5 C n c Try.underlying22 Try.underlying5
  clear h1 b1 hz1 b1a
  go_wp2_with fail
  refine (feed_any (w1.alloc (.cells #[.int .u8 97, .int .u8 98] 5 (2, 3))) w.heap.size 3 0 [] none 0 (some ⟨w1.heap.size, 0, none⟩) 2 2 [97, 98] H1.out S1.out (.inr ⟨_, _, rfl⟩) (Nat.le_refl _)
    (fun ad e => by cases e; have := HZ.out; show w1.heap.size ≠ w.heap.size; omega) (fun ad e => by cases e; simp) (fun ad e => by cases e) (by decide)).mono ?_
  rintro e w2 ⟨v, O2, co2, rfl, own2, f2, far2, g2⟩
  obtain ⟨Oa, ca, rfl, _⟩ := own2.form
  have hB2 := B1.out.grown g2 B1.out.size (fun k e => by cases e; exact Nat.le_refl _)
  have hz2 := f2.lt
  have S2 := Lib.hid (sl_made' w2 [99, 10, 97, 98, 99, 100, 10, 120] (by decide) #[.int .u8 99, .int .u8 10, .int .u8 97, .int .u8 98, .int .u8 99, .int .u8 100, .int .u8 10, .int .u8 120] rfl (8, 9))
  have b2a := (Below.refl _ w2).alloc (Nat.le_refl _) (.cells #[.int .u8 99, .int .u8 10, .int .u8 97, .int .u8 98, .int .u8 99, .int .u8 100, .int .u8 10, .int .u8 120] 5 (8, 9))
  have H2 := Lib.hid f2
  have H2b := Lib.hid (f2.below b2a)
  have B2 := Lib.hid (hB2.trans (b2a.mono (Nat.le_of_lt hz2)))
  have F2 := Lib.hid (fun ad e => (far2 ad e).2.2)
  have HZ2 := Lib.hid hz2
  rw [show (lin 3 0 [] [97, 98]).length = 0 from by simp [lin]]
  clear own2 f2 far2 g2 hB2 hz2 b2a
  go_wp2_with fail
  refine (held_any w2 w.heap.size 3 _ _ _ false O2 co2 H2.out).mono ?_
  rintro e w2' ⟨rfl, rfl⟩
  rw [show ((opn 3 (fin 0 [] [97, 98]).2).length : Nat) = 2 from by simp [fin, opn]]
  go_wp2_with fail
  refine (feed_any (w2.alloc (.cells #[.int .u8 99, .int .u8 10, .int .u8 97, .int .u8 98, .int .u8 99, .int .u8 100, .int .u8 10, .int .u8 120] 5 (8, 9))) w.heap.size 3 _ _ O2 co2 (some ⟨w2.heap.size, 0, none⟩) 8 8 [99, 10, 97, 98, 99, 100, 10, 120] H2b.out S2.out (.inr ⟨_, _, rfl⟩) (Nat.le_refl _)
    (fun ad e => by cases e; have := HZ2.out; show w2.heap.size ≠ w.heap.size; omega) (fun ad e => by cases e; simp) (fun ad e => Nat.lt_of_lt_of_le (F2.out ad e) (by simp)) (by decide)).mono ?_
  rintro e w3 ⟨v, O3, co3, rfl, own3, f3, far3, g3⟩
  rw [show lin 3 (fin 0 [] [97, 98]).1 (fin 0 [] [97, 98]).2 [99, 10, 97, 98, 99, 100, 10, 120] = [⟨0, 4, [97, 98, 99], false⟩, ⟨4, 9, [], true⟩] from by simp [lin, fin, mkLine]] at own3
  rw [show fin (fin 0 [] [97, 98]).1 (fin 0 [] [97, 98]).2 [99, 10, 97, 98, 99, 100, 10, 120] = (9, [120]) from by simp [fin]] at f3
  obtain ⟨Ob, cb, rfl, hcb, hob, hcells⟩ := own3.form
  obtain ⟨qb, rfl, _⟩ := hcells (by simp)
  have B3 := Lib.hid (B2.out.grown g3 B2.out.size (fun k e => by cases e; exact Nat.le_refl _))
  have HO3 := Lib.hid own3
  have H3 := Lib.hid f3
  have HQ := Lib.hid (hob _ rfl)
  have HZ3 := Lib.hid f3.lt
  clear own3 f3 far3 g3 hob hcells
  dsimp only [List.length_cons, List.length_nil, Nat.reduceAdd] at hcb ⊢
  go_wp2_with fail
  refine (close_any w3 w.heap.size 3 _ 9 [120] O3 co3 H3.out rfl (by decide)).mono ?_
  rintro e w4 ⟨O4, co4, rfl, f4, g4⟩
  have B4 := Lib.hid (B3.out.grown g4 (Nat.le_of_lt HZ3.out) (fun k e => by cases e; exact Nat.le_refl _))
  have own4 : OwnL w4 (w2.heap.size + 1) (.slice (some ⟨qb, 0, none⟩) 2 cb) [⟨0, 4, [97, 98, 99], false⟩, ⟨4, 9, [], true⟩] := by
    refine World.ownsRow.kept (base := w2.heap.size + 1) ?_ g4 (.inr (fun e => ?_))
    · have := HO3.out
      unfold OwnL at this
      rwa [World.size_alloc] at this
    · have := (HQ.out).1
      rw [World.size_alloc] at this
      have h2 := HZ2.out
      have h3 : qb = w.heap.size := Option.some.inj e
      have h4 : w2.heap.size + 1 ≤ qb := this
      omega
  have own5 := World.ownsRow.alloc own4 (.cells #[.int .i64 9, .int .i64 10, .string ⟨#[120]⟩, .bool false] 31)
  obtain ⟨c0, c1, c2, c3⟩ := OwnL.cell (i := 0) own5 rfl
  obtain ⟨c4, c5, c6, c7⟩ := OwnL.cell (i := 1) own5 rfl
  have hr := heap_alloc_new w4 (.cells #[.int .i64 9, .int .i64 10, .string ⟨#[120]⟩, .bool false] 31)
  have hs1 : strOfNums [97, 98, 99] = ⟨#[97, 98, 99]⟩ := rfl
  have hs2 : strOfNums [] = ⟨#[]⟩ := rfl
  have hs3 : lvv (if [(120 : Int)] = [] then noLine else mkLine 3 9 [120] 0) = #[.int .i64 9, .int .i64 10, .string ⟨#[120]⟩, .bool false] := rfl
  rw [hs3]
  rw [hs1] at c2
  rw [hs2] at c6
  dsimp only [Nat.reduceMul, Nat.reduceAdd] at c0 c1 c2 c3 c4 c5 c6 c7
  have B5 := Lib.hid (B4.out.trans (((Below.refl _ w4).alloc (Nat.le_refl _) (.cells #[.int .i64 9, .int .i64 10, .string ⟨#[120]⟩, .bool false] 31)).mono (Nat.le_of_lt f4.lt)))
  clear own4 own5 f4 g4 hs1 hs2 hs3
  go_wp2_with fail
  go_ret
  exact ⟨rfl, B5.out⟩
end Go.Proofs.Ytnlnadpbbcjfdaa
