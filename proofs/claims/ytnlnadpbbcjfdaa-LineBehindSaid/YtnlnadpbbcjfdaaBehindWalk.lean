/-
  The walk of LineBehind.
-/
import Derived.Test.YtnlnadpbbcjfdaaCutsWalk
import Derived.Test.YtnlnadpbbcjfdaaBehindPlain
import Derived.Test.YtnlnadpbbcjfdaaBounds
namespace Go.Proofs.Ytnlnadpbbcjfdaa
open Go.RowKit

set_option maxRecDepth 100000 in
set_option maxHeartbeats 4000000 in
theorem lineBehind_out (A1 : Option Addr) (n1 c1 : Nat) (A2 : Option Addr) (n2 c2 : Nat) (A3 : Option Addr) (n3 c3 : Nat) (x : Int) (w : World) (h : 300 < n1 ∨ 300 < n2 ∨ 100 < n3) :
    Calls Try.prog 5 #[.agg #[.slice A1 n1 c1, .slice A2 n2 c2], .slice A3 n3 c3, .int .i64 x] w fun e w' => e = .returned (.bool true) ∧ Below w.heap.size w w' := by
  have b0 := (Below.refl w.heap.size w).alloc (Nat.le_refl _) (.cells #[.slice A1 n1 c1, .slice A2 n2 c2] 34)
  have HB := Lib.hid b0
  clear b0
  by_cases h1 : (300 : Int) < (n1 : Int)
  · clear h
    go_enter Try.func5, Try.ntmps5
    go_wp2_with fail
    refine (awake_any _).mono ?_
    rintro e w1 ⟨rfl, b1⟩
    go_wp2_with fail
    go_ret
    exact ⟨rfl, HB.out.trans (b1.mono HB.out.size)⟩
  · by_cases h2 : (300 : Int) < (n2 : Int)
    · clear h
      go_enter Try.func5, Try.ntmps5
      go_wp2_with fail
      refine (awake_any _).mono ?_
      rintro e w1 ⟨rfl, b1⟩
      go_wp2_with fail
      go_ret
      exact ⟨rfl, HB.out.trans (b1.mono HB.out.size)⟩
    · have h3 : (100 : Int) < (n3 : Int) := by omega
      clear h
      go_enter Try.func5, Try.ntmps5
      go_wp2_with fail
      refine (awake_any _).mono ?_
      rintro e w1 ⟨rfl, b1⟩
      go_wp2_with fail
      go_ret
      exact ⟨rfl, HB.out.trans (b1.mono HB.out.size)⟩

theorem OwnB.shape {w : World} {base : Nat} {v : Value} {n : Nat} {l : List Int} (h : OwnB w base v n l) : ∃ A c, v = .slice A n c ∧ Sl w A n l ∧ Tidy A c ∧ n ≤ c ∧ (∀ ad, A = some ad → base ≤ ad.block ∧ ad.block < w.heap.size) := by
  rcases h.2.2.2 with ⟨rfl, h0⟩ | ⟨g, cap, cur, rfl, hb, hg, hnc, _⟩
  · refine ⟨none, 0, by rw [h0], ⟨h.1, h.2.1, .inl h0⟩, .inl ⟨rfl, rfl⟩, by omega, fun ad e => by cases e⟩
  · exact ⟨_, cap, rfl, OwnB.slice h, .inr ⟨_, _, rfl⟩, hnc, fun ad e => by cases e; exact ⟨hb, (Array.getElem?_eq_some_iff.1 hg).1⟩⟩

theorem nums_nil (w : World) : Nums w none ([] : List Int).length [] := ⟨rfl, (by intro z hz; cases hz), .inl rfl⟩

set_option maxRecDepth 100000 in
set_option maxHeartbeats 1000000 in
theorem lineBehind_in (A1 : Option Addr) (n1 c1 : Nat) (l1 : List Int) (A2 : Option Addr) (n2 c2 : Nat) (l2 : List Int) (A3 : Option Addr) (c3 : Nat) (ks : List Int) (m : Nat) (w : World) (hs1 : Sl w A1 n1 l1) (ht1 : Tidy A1 c1) (hs2 : Sl w A2 n2 l2) (ht2 : Tidy A2 c2) (hc2 : n2 ≤ c2)
    (hA2 : ∀ ad, A2 = some ad → ad.block < w.heap.size) (hk : Nums w A3 ks.length ks) (hn1 : n1 ≤ 300) (hn2 : n2 ≤ 300) (hn3 : ks.length ≤ 100) (h1 : 1 ≤ m) (h2 : m ≤ 8192) :
    Calls Try.prog 5 #[.agg #[.slice A1 n1 c1, .slice A2 n2 c2], .slice A3 ks.length c3, .int .i64 (m : Int)] w fun e w' => e = .returned (.bool true) ∧ Below w.heap.size w w' := by
  have hi1 : ¬ (300 : Int) < (n1 : Int) := by omega
  have hi2 : ¬ (300 : Int) < (n2 : Int) := by omega
  have hi3 : ¬ (100 : Int) < (ks.length : Int) := by omega
  have b0 := (Below.refl w.heap.size w).alloc (Nat.le_refl _) (.cells #[.slice A1 n1 c1, .slice A2 n2 c2] 34)
  have b1 := b0.alloc (by simp) (.cells #[] 5)
  have HB1 := Lib.hid b1
  have HS1 := Lib.hid (hs1.below b1)
  have HS2 := Lib.hid hs2
  have HK := Lib.hid hk
  have HO := Lib.hid (ownB_made (w.alloc (.cells #[.slice A1 n1 c1, .slice A2 n2 c2] 34)) (w.heap.size + 1) (by simp))
  clear hs1 hs2 hk b0 b1
  have hlt1 : 0 + n1 ≤ 100000 := by omega
  have hbs1 : w.heap.size + 1 ≤ ((w.alloc (.cells #[.slice A1 n1 c1, .slice A2 n2 c2] 34)).alloc (.cells #[] 5)).heap.size := by simp
  have htn1 := ht1.nil
  rw [World.size_alloc] at HO
  go_enter Try.func5, Try.ntmps5
  go_wp2_with (first | (at_builtin; refine append_bytes _ rfl _ _ rfl (w.heap.size + 1) (.slice (some ⟨w.heap.size + 1, 0, none⟩) 0 0) 0 [] rfl HO.out A1 n1 c1 l1 rfl HS1.out htn1 hlt1 hbs1 ?_; intro v5 w5 hown hg hat) | (at_builtin; refine append_bytes _ rfl _ _ rfl (w.heap.size + 1) v5 (0 + n1) ([] ++ l1) rfl (hown.kept ((Below.refl _ w5).alloc (Nat.le_refl _) (.cells #[.int .u8 10] 5))) (some ⟨w5.heap.size, 0, none⟩) 1 1 [10] rfl (sl_made' w5 [10] (by decide) _ rfl (0, 0)) (fun e => by cases e) (by omega) (by have := hg.size; simp at this ⊢; omega) ?_; intro v6 w6 hown6 hg6 hat6))
  rw [Nat.zero_add, List.nil_append] at hown6
  have hv5 : ∀ k, v5.ownBlock = some k → w.heap.size + 1 ≤ k := fun k e => (World.ownsRow.lt hown.2.2 k e).1
  have g5 : ((w.alloc (.cells #[.slice A1 n1 c1, .slice A2 n2 c2] 34)).alloc (.cells #[] 5)).grownBy w5 (some (w.heap.size + 1)) := hg
  have b5 := HB1.out.grown g5 HB1.out.size (fun k e => by cases e; omega)
  have b5a := b5.alloc b5.size (.cells #[.int .u8 10] 5)
  have b6 := b5a.grown hg6 b5a.size (fun k e => by have := hv5 k e; omega)
  have hz5 := g5.size
  have hz6 := hg6.size
  rw [World.size_alloc] at hz6
  rw [World.size_alloc, World.size_alloc] at hz5
  have r6 := (hg6.block w.heap.size (by simp; omega) (by intro e; have := hv5 _ e.symm; omega)).trans ((((Below.refl _ w5).alloc (Nat.le_refl _) (.cells #[.int .u8 10] 5)).block w.heap.size (by omega)).trans ((g5.block w.heap.size (by simp; omega) (by intro e; have := Option.some.inj e; omega)).trans ((((Below.refl _ (w.alloc (.cells #[.slice A1 n1 c1, .slice A2 n2 c2] 34))).alloc (Nat.le_refl _) (.cells #[] 5)).block w.heap.size (by simp)).trans (heap_alloc_new w (.cells #[.slice A1 n1 c1, .slice A2 n2 c2] 34)))))
  obtain ⟨A6, c6, rfl, S6, t6, l6, hA6⟩ := hown6.shape
  have hz6b : w.heap.size + 2 ≤ w6.heap.size := by omega
  have hla : (l1 ++ [10]).length = n1 + 1 := hown6.1
  have HB6 := Lib.hid b6
  have HR6 := Lib.hid r6
  have HS6 := Lib.hid S6
  have HA6 := Lib.hid hA6
  have HW6 := Lib.hid (whole_any A6 (n1 + 1) c6 (l1 ++ [10]) none 0 [] m w6 S6 t6 l6 (by omega) (fun ad e => (hA6 ad e).2) (nums_nil w6) (by decide) h1 h2)
  clear b5 b5a b6 r6 hown hown6 hg hg6 hat hat6 g5 hv5 HB1 HS1 HO S6 hA6 hlt1 hbs1 hz5 hz6
  refine HW6.out.mono ?_
  rintro e w7 ⟨vx, rfl, ox, b7⟩
  have HB7 := Lib.hid (HB6.out.trans (b7.mono HB6.out.size))
  have r7 := (b7.block _ (by omega)).trans HR6.out
  have HR7 := Lib.hid r7
  have HX7 := Lib.hid ox
  have HS7 := Lib.hid (HS6.out.below b7)
  have hz7 := b7.size
  have HW7 := Lib.hid (whole_any A2 n2 c2 l2 none 0 [] m w7 (HS2.out.below HB7.out) ht2 hc2 (by omega) (fun ad e => Nat.lt_of_lt_of_le (hA2 ad e) HB7.out.size) (nums_nil w7) (by decide) h1 h2)
  have d1 : w7.cell? ⟨w.heap.size, 1, none⟩ = some (.slice A2 n2 c2) := by rw [cell_of_row _ _ _ _ 34 (0, 0) r7]; rfl
  clear ox b7 r7 HB6 HR6 HS6 HW6
  go_wp2_with fail
  refine HW7.out.mono ?_
  rintro e w8 ⟨vy, rfl, oy, b8⟩
  have HB8 := Lib.hid (HB7.out.trans (b8.mono HB7.out.size))
  have r8 := (b8.block _ (by omega)).trans HR7.out
  have hz8 := b8.size
  have HX8 := Lib.hid (HX7.out.below b8)
  have HY8 := Lib.hid oy
  have HS8 := Lib.hid (HS7.out.below b8)
  have d1 : w8.cell? ⟨w.heap.size, 1, none⟩ = some (.slice A2 n2 c2) := by rw [cell_of_row _ _ _ _ 34 (0, 0) r8]; rfl
  have HR8 := Lib.hid r8
  clear oy b8 r8 HB7 HR7 HX7 HS7 HW7
  go_wp2_with fail
  refine region_plain (fun W => W.cell? ⟨w.heap.size, 1, none⟩ = some (.slice A2 n2 c2)) 99 (by kernel_rfl) ?_
  have hS : w8.drew.cell? ⟨w.heap.size, 1, none⟩ = some (.slice A2 n2 c2) := d1
  refine z_take (i := 1) (v := ?_) rfl (by kernel_rfl) (by kernel_rfl) (by kernel_rfl) (by kernel_rfl) (fun _ _ _ h => h) (Or.inl ⟨by rfl, ?_⟩) hS ?_
  rotate_left
  · (rintro wS s0; (try simp only [List.getElem_toArray, List.getElem_cons_zero, List.getElem_cons_succ]); go_simp <;> with_reducible rfl)
  simp only [Act.put, List.getElem_toArray, List.getElem_cons_zero, List.getElem_cons_succ, List.setIfInBounds_toArray, List.set_cons_zero, List.set_cons_succ]
  refine z_take (i := 3) (v := ?_) rfl (by kernel_rfl) (by kernel_rfl) (by kernel_rfl) (by kernel_rfl) (fun _ _ _ h => h) (Or.inl ⟨by rfl, ?_⟩) hS ?_
  rotate_left
  · (rintro wS s0; (try simp only [List.getElem_toArray, List.getElem_cons_zero, List.getElem_cons_succ]); go_simp <;> with_reducible rfl)
  simp only [Act.put, List.getElem_toArray, List.getElem_cons_zero, List.getElem_cons_succ, List.setIfInBounds_toArray, List.set_cons_zero, List.set_cons_succ]
  refine z_take (i := 4) (v := ?_) rfl (by kernel_rfl) (by kernel_rfl) (by kernel_rfl) (by kernel_rfl) (fun _ _ _ h => h) (Or.inl ⟨by rfl, ?_⟩) hS ?_
  rotate_left
  · (rintro wS s0; (try simp only [List.getElem_toArray, List.getElem_cons_zero, List.getElem_cons_succ]); go_simp <;> with_reducible rfl)
  simp only [Act.put, List.getElem_toArray, List.getElem_cons_zero, List.getElem_cons_succ, List.setIfInBounds_toArray, List.set_cons_zero, List.set_cons_succ]
  refine z_take (i := 6) (v := ?_) rfl (by kernel_rfl) (by kernel_rfl) (by kernel_rfl) (by kernel_rfl) (fun _ _ _ h => h) (Or.inl ⟨by rfl, ?_⟩) hS ?_
  rotate_left
  · (rintro wS s0; (try simp only [List.getElem_toArray, List.getElem_cons_zero, List.getElem_cons_succ]); go_simp <;> with_reducible rfl)
  simp only [Act.put, List.getElem_toArray, List.getElem_cons_zero, List.getElem_cons_succ, List.setIfInBounds_toArray, List.set_cons_zero, List.set_cons_succ]
  refine z_take (i := 7) (v := ?_) rfl (by kernel_rfl) (by kernel_rfl) (by kernel_rfl) (by kernel_rfl) (fun _ _ _ h => h) (Or.inl ⟨by rfl, ?_⟩) hS ?_
  rotate_left
  · (rintro wS s0; (try simp only [List.getElem_toArray, List.getElem_cons_zero, List.getElem_cons_succ]); go_simp <;> with_reducible rfl)
  simp only [Act.put, List.getElem_toArray, List.getElem_cons_zero, List.getElem_cons_succ, List.setIfInBounds_toArray, List.set_cons_zero, List.set_cons_succ]
  have ba := (Below.refl w8.heap.size w8.drew).alloc (Nat.le_refl _) (.cells #[] 5)
  have hS := (ba.cell (p := ⟨w.heap.size, 1, none⟩) (by show w.heap.size < w8.heap.size; omega)).trans hS
  refine z_one (i := 0) (by kernel_rfl) rfl rfl ?_
  go_simp
  refine ⟨hS, ?_⟩
  have hS8 := (HS8.out.below (below_drewN' (Below.refl _ w8) 1)).below ba
  obtain ⟨v9, w9, run9, own9, g9, at9⟩ := run_append_bytes (w8.drew.alloc (.cells #[] 5)) 22 w8.heap.size _ 0 [] (ownB_made w8.drew w8.heap.size (Nat.le_refl _)) A6 (n1 + 1) c6 (l1 ++ [10]) hS8 t6.nil (by omega) (by simp)
  rw [Nat.zero_add, List.nil_append] at own9
  have g9 : (w8.drew.alloc (.cells #[] 5)).grownBy w9 (some w8.heap.size) := g9
  have hz9 := g9.size
  rw [World.size_alloc] at hz9
  have hz9 : w8.heap.size + 1 ≤ w9.heap.size := hz9
  have r9 := (g9.block w.heap.size (by simp; omega) (by intro e; have := Option.some.inj e; omega)).trans ((ba.block w.heap.size (by omega)).trans HR8.out)
  have hS : w9.cell? ⟨w.heap.size, 1, none⟩ = some (.slice A2 n2 c2) := by rw [cell_of_row _ _ _ _ 34 (0, 0) r9]; rfl
  have b9 := (((below_drewN' HB8.out 1).trans (ba.mono HB8.out.size))).grown g9 (Nat.le_trans HB8.out.size (by simp)) (fun k e => by have := Option.some.inj e; omega)
  refine z_one (i := 2) (by kernel_rfl) rfl rfl ?_
  refine wp_append_run rfl rfl rfl run9 ⟨.inr hS, ?_⟩
  simp only [Act.put, List.getElem_toArray, List.getElem_cons_zero, List.getElem_cons_succ, List.setIfInBounds_toArray, List.set_cons_zero, List.set_cons_succ]
  have hv9 : ∀ k, v9.ownBlock = some k → w8.heap.size ≤ k := fun k e => (World.ownsRow.lt own9.2.2 k e).1
  obtain ⟨v10, w10, run10, own10, g10, at10⟩ := run_append_bytes w9 22 w8.heap.size v9 (n1 + 1) _ own9 A2 n2 c2 l2 (HS2.out.below b9) ht2.nil (by omega) (by omega)
  have hz10 := g10.size
  have r10 := (g10.block w.heap.size (by omega) (by intro e; have := hv9 _ e.symm; omega)).trans r9
  have hS : w10.cell? ⟨w.heap.size, 1, none⟩ = some (.slice A2 n2 c2) := by rw [cell_of_row _ _ _ _ 34 (0, 0) r10]; rfl
  have b10 := b9.grown g10 (by omega) (fun k e => by have := hv9 k e; omega)
  refine z_one (i := 5) (by kernel_rfl) rfl rfl ?_
  refine wp_append_run rfl rfl rfl run10 ⟨.inr hS, ?_⟩
  simp only [Act.put, List.getElem_toArray, List.getElem_cons_zero, List.getElem_cons_succ, List.setIfInBounds_toArray, List.set_cons_zero, List.set_cons_succ]
  obtain ⟨A10, c10, rfl, S10, t10, l10, hA10⟩ := own10.shape
  have HW10 := Lib.hid (whole_any A10 (n1 + 1 + n2) c10 _ A3 c3 ks m w10 S10 t10 l10 (by omega) (fun ad e => (hA10 ad e).2) (HK.out.below b10) (by omega) h1 h2)
  have bx10 : Below w8.heap.size w8 w10 := ((below_drewN' (Below.refl _ w8) 1).trans ba).grown g9 (by simp) (fun k e => by have := Option.some.inj e; omega) |>.grown g10 (by omega) (fun k e => hv9 k e)
  have HX10 := Lib.hid (HX8.out.below bx10)
  have HY10 := Lib.hid (HY8.out.below bx10)
  have HB10 := Lib.hid b10
  have HR10 := Lib.hid r10
  clear own9 own10 g9 g10 at9 at10 r9 r10 b9 b10 hv9 run9 run10 ba S10 hA10 bx10 HX8 HY8 HB8 HR8 HS8 hS8
  refine z_one (i := 8) (by kernel_rfl) rfl rfl ?_
  go_simp
  refine HW10.out.mono ?_
  rintro e w11 ⟨vz, rfl, oz, b11⟩
  have hS := (b11.cell (p := ⟨w.heap.size, 1, none⟩) (by show w.heap.size < w10.heap.size; omega)).trans hS
  refine ⟨hS, ?_⟩
  have hz11 := b11.size
  have HX11 := Lib.hid (HX10.out.below b11)
  have HY11 := Lib.hid (HY10.out.below b11)
  have HB11 := Lib.hid (HB10.out.trans (b11.mono HB10.out.size))
  clear b11 HX10 HY10 HB10 HR10 HW10 d1
  refine z_take (i := 9) (v := ?_) rfl (by kernel_rfl) (by kernel_rfl) (by kernel_rfl) (by kernel_rfl) (fun _ _ _ h => h) (Or.inl ⟨by rfl, ?_⟩) hS ?_
  rotate_left
  · (rintro wS s0; (try simp only [List.getElem_toArray, List.getElem_cons_zero, List.getElem_cons_succ]); go_simp <;> with_reducible rfl)
  simp only [Act.put, List.getElem_toArray, List.getElem_cons_zero, List.getElem_cons_succ, List.setIfInBounds_toArray, List.set_cons_zero, List.set_cons_succ]
  refine z_take (i := 10) (v := ?_) rfl (by kernel_rfl) (by kernel_rfl) (by kernel_rfl) (by kernel_rfl) (fun _ _ _ h => h) (Or.inl ⟨by rfl, ?_⟩) hS ?_
  rotate_left
  · (rintro wS s0; (try simp only [List.getElem_toArray, List.getElem_cons_zero, List.getElem_cons_succ]); go_simp <;> with_reducible rfl)
  simp only [Act.put, List.getElem_toArray, List.getElem_cons_zero, List.getElem_cons_succ, List.setIfInBounds_toArray, List.set_cons_zero, List.set_cons_succ]
  refine z_take (i := 11) (v := ?_) rfl (by kernel_rfl) (by kernel_rfl) (by kernel_rfl) (by kernel_rfl) (fun _ _ _ h => h) (Or.inl ⟨by rfl, ?_⟩) hS ?_
  rotate_left
  · (rintro wS s0; (try simp only [List.getElem_toArray, List.getElem_cons_zero, List.getElem_cons_succ]); go_simp <;> with_reducible rfl)
  simp only [Act.put, List.getElem_toArray, List.getElem_cons_zero, List.getElem_cons_succ, List.setIfInBounds_toArray, List.set_cons_zero, List.set_cons_succ]
  refine z_take (i := 12) (v := ?_) rfl (by kernel_rfl) (by kernel_rfl) (by kernel_rfl) (by kernel_rfl) (fun _ _ _ h => h) (Or.inl ⟨by rfl, ?_⟩) hS ?_
  rotate_left
  · (rintro wS s0; (try simp only [List.getElem_toArray, List.getElem_cons_zero, List.getElem_cons_succ]); go_simp <;> with_reducible rfl)
  simp only [Act.put, List.getElem_toArray, List.getElem_cons_zero, List.getElem_cons_succ, List.setIfInBounds_toArray, List.set_cons_zero, List.set_cons_succ]
  refine z_take (i := 13) (v := ?_) rfl (by kernel_rfl) (by kernel_rfl) (by kernel_rfl) (by kernel_rfl) (fun _ _ _ h => h) (Or.inl ⟨by rfl, ?_⟩) hS ?_
  rotate_left
  · (rintro wS s0; (try simp only [List.getElem_toArray, List.getElem_cons_zero, List.getElem_cons_succ]); go_simp <;> with_reducible rfl)
  simp only [Act.put, List.getElem_toArray, List.getElem_cons_zero, List.getElem_cons_succ, List.setIfInBounds_toArray, List.set_cons_zero, List.set_cons_succ]
  refine z_take (i := 14) (v := ?_) rfl (by kernel_rfl) (by kernel_rfl) (by kernel_rfl) (by kernel_rfl) (fun _ _ _ h => h) (Or.inl ⟨by rfl, ?_⟩) hS ?_
  rotate_left
  · (rintro wS s0; (try simp only [List.getElem_toArray, List.getElem_cons_zero, List.getElem_cons_succ]); go_simp <;> with_reducible rfl)
  simp only [Act.put, List.getElem_toArray, List.getElem_cons_zero, List.getElem_cons_succ, List.setIfInBounds_toArray, List.set_cons_zero, List.set_cons_succ]
  refine z_take (i := 15) (v := ?_) rfl (by kernel_rfl) (by kernel_rfl) (by kernel_rfl) (by kernel_rfl) (fun _ _ _ h => h) (Or.inl ⟨by rfl, ?_⟩) hS ?_
  rotate_left
  · (rintro wS s0; (try simp only [List.getElem_toArray, List.getElem_cons_zero, List.getElem_cons_succ]); go_simp <;> with_reducible rfl)
  simp only [Act.put, List.getElem_toArray, List.getElem_cons_zero, List.getElem_cons_succ, List.setIfInBounds_toArray, List.set_cons_zero, List.set_cons_succ]
  refine z_done (by kernel_rfl) ?_ _
  rw [allLines_behind m l1 l2] at oz
  have hpx := lin_feed_pos m l1 0 []
  rw [← allLines_feed] at hpx
  have hax := allLines_length m (l1 ++ [10])
  have hay := allLines_length m l2
  have hl2 := HS2.out.1
  have hl1 : l1.length = n1 := by have := hla; simp at this; omega
  rw [hl1] at oz
  have ox := HX11.out
  have oy := HY11.out
  generalize allLines m (l1 ++ [10]) = lsx at ox oz hpx hax
  have hby : ∀ x ∈ allLines m l2, x.a ≤ 300 ∧ x.b ≤ 300 := fun x hx => by have := all_bound hx; omega
  generalize allLines m l2 = lsy at oy oz hay hby
  have HBY := Lib.hid hby
  clear hby
  obtain ⟨Ox, cx, rfl, hcx, _, hqx⟩ := OwnL.form ox
  obtain ⟨Oy, cy, rfl, hcy, _, hqy⟩ := OwnL.form oy
  obtain ⟨Oz, cz, rfl, hcz, hbz, hqz⟩ := OwnL.form oz
  have hlz : (lsx ++ lsy.map (LV.later (n1 + 1))).length = lsx.length + lsy.length := by simp
  rw [hlz] at hcz ⊢
  have HX := Lib.hid ox
  have HY := Lib.hid oy
  have HZ := Lib.hid oz
  clear ox oy oz hqx hqy hqz hS HX11 HY11 HS2 HK
  generalize hnx : lsx.length = NX at hcx hcz hpx hax hlz ⊢
  generalize hny : lsy.length = NY at hcy hcz hay hlz ⊢
  have HNX := Lib.hid hnx
  have HNY := Lib.hid hny
  clear hnx hny
  have hax' : NX ≤ 1000 := by omega
  have hay' : NY ≤ 1000 := by omega
  clear hax hay hl1 hl2 hla
  go_wp2_with fail
  go_loopw [17] (fun vi wr => ∃ k : Nat, vi = .int .i64 k ∧ k ≤ NX + NY ∧ Hid (Below w.heap.size w wr ∧ OwnL wr w6.heap.size (.slice Ox NX cx) lsx ∧ OwnL wr w7.heap.size (.slice Oy NY cy) lsy ∧ OwnL wr w10.heap.size (.slice Oz (NX + NY) cz) (lsx ++ lsy.map (LV.later (n1 + 1))))) (fun vi _ => NX + NY - (intOf vi).toNat)
  case atStart => exact ⟨0, rfl, Nat.zero_le _, Lib.hid ⟨HB11.out, HNX.out ▸ HX.out, HNY.out ▸ HY.out, hlz ▸ HZ.out⟩⟩
  case round =>
    obtain ⟨k, rfl, hk, HI⟩ := hrel
    clear HX HY HZ
    by_cases hkn : k < NX + NY
    · have hkz : (k : Int) < (NX : Int) + (NY : Int) := by omega
      have B0 := (Below.refl wr.heap.size wr).alloc (Nat.le_refl _) (.cells #[.int .i64 0, .int .i64 0, .string ⟨#[]⟩, .bool false] 31)
      obtain ⟨hbI, hxI, hyI, hzI⟩ := HI.out
      have x1 := hxI.below B0
      have y1 := hyI.below B0
      have hL : (lsx ++ lsy.map (LV.later (n1 + 1))).length = NX + NY := hlz
      obtain ⟨lv, hlv⟩ : ∃ lv, (lsx ++ lsy.map (LV.later (n1 + 1)))[k]? = some lv := ⟨_, List.getElem?_eq_getElem (by omega)⟩
      have hlv2 := hlv
      by_cases hkx : k < NX
      · have hki : (k : Int) < (NX : Int) := by omega
        rw [List.getElem?_append_left (by have := HNX.out; omega)] at hlv2
        obtain ⟨qx, e2⟩ : ∃ q, Ox = some ⟨q, 0, none⟩ := by
          obtain ⟨_, _, e, _, _, hq⟩ := OwnL.form hxI
          obtain ⟨q, e2, _⟩ := hq (by rintro h; rw [h] at hlv2; simp at hlv2)
          exact ⟨q, (Value.slice.inj e).1.trans e2⟩
        subst e2
        obtain ⟨qz, e2⟩ : ∃ q, Oz = some ⟨q, 0, none⟩ := by
          obtain ⟨_, _, e, _, _, hq⟩ := OwnL.form hzI
          obtain ⟨q, e2, _⟩ := hq (by intro h; rw [h] at hlv; cases hlv)
          exact ⟨q, (Value.slice.inj e).1.trans e2⟩
        subst e2
        obtain ⟨c0, c1, c2, c3⟩ := OwnL.cell (i := k) x1 hlv2
        rw [Nat.add_zero] at c0
        clear x1 y1 B0 hbI hxI hyI hzI
        go_wp2_with fail
        clear c0 c1 c2 c3
        have B2 := (Below.refl wr.heap.size wr).alloc (Nat.le_refl _) (.cells #[.int .i64 lv.a, .int .i64 lv.b, .string (strOfNums lv.t), .bool lv.long] 31)
        have R2 := heap_alloc_new wr (.cells #[.int .i64 lv.a, .int .i64 lv.b, .string (strOfNums lv.t), .bool lv.long] 31)
        obtain ⟨hbI, hxI, hyI, hzI⟩ := HI.out
        obtain ⟨s0, s1, s2, s3⟩ := OwnL.cell (i := k) (hzI.below B2) hlv
        rw [Nat.add_zero] at s0
        have t0 : (wr.alloc (.cells #[.int .i64 lv.a, .int .i64 lv.b, .string (strOfNums lv.t), .bool lv.long] 31)).cell? ⟨wr.heap.size, 0, none⟩ = _ := (cell_of_row _ wr.heap.size 0 _ 31 (0, 0) R2).trans rfl
        have t1 : (wr.alloc (.cells #[.int .i64 lv.a, .int .i64 lv.b, .string (strOfNums lv.t), .bool lv.long] 31)).cell? ⟨wr.heap.size, 1, none⟩ = _ := (cell_of_row _ wr.heap.size 1 _ 31 (0, 0) R2).trans rfl
        have t2 : (wr.alloc (.cells #[.int .i64 lv.a, .int .i64 lv.b, .string (strOfNums lv.t), .bool lv.long] 31)).cell? ⟨wr.heap.size, 2, none⟩ = _ := (cell_of_row _ wr.heap.size 2 _ 31 (0, 0) R2).trans rfl
        have t3 : (wr.alloc (.cells #[.int .i64 lv.a, .int .i64 lv.b, .string (strOfNums lv.t), .bool lv.long] 31)).cell? ⟨wr.heap.size, 3, none⟩ = _ := (cell_of_row _ wr.heap.size 3 _ 31 (0, 0) R2).trans rfl
        simp only [List.getElem?_toArray, List.getElem?_cons_zero, List.getElem?_cons_succ] at t0 t1 t2 t3
        have HE := Lib.hid (show Below w.heap.size w (wr.alloc (.cells #[.int .i64 lv.a, .int .i64 lv.b, .string (strOfNums lv.t), .bool lv.long] 31)).drew ∧ OwnL (wr.alloc (.cells #[.int .i64 lv.a, .int .i64 lv.b, .string (strOfNums lv.t), .bool lv.long] 31)).drew w6.heap.size (.slice (some ⟨qx, 0, none⟩) NX cx) lsx ∧ OwnL (wr.alloc (.cells #[.int .i64 lv.a, .int .i64 lv.b, .string (strOfNums lv.t), .bool lv.long] 31)).drew w7.heap.size (.slice Oy NY cy) lsy ∧ OwnL (wr.alloc (.cells #[.int .i64 lv.a, .int .i64 lv.b, .string (strOfNums lv.t), .bool lv.long] 31)).drew w10.heap.size (.slice (some ⟨qz, 0, none⟩) (NX + NY) cz) (lsx ++ lsy.map (LV.later (n1 + 1))) from
          ⟨below_drewN' (hbI.trans (B2.mono hbI.size)) 1, (hxI.below B2).below (below_drewN' (Below.refl _ _) 1), (hyI.below B2).below (below_drewN' (Below.refl _ _) 1), (hzI.below B2).below (below_drewN' (Below.refl _ _) 1)⟩)
        clear B2 R2 hbI hxI hyI hzI HI
        refine region_plain (fun W => (W.cell? ⟨qz, k * 4, none⟩ = some (.int .i64 lv.a) ∧ W.cell? ⟨qz, k * 4 + 1, none⟩ = some (.int .i64 lv.b) ∧ W.cell? ⟨qz, k * 4 + 2, none⟩ = some (.string (strOfNums lv.t)) ∧ W.cell? ⟨qz, k * 4 + 3, none⟩ = some (.bool lv.long)) ∧ W.cell? ⟨wr.heap.size, 0, none⟩ = some (.int .i64 lv.a) ∧ W.cell? ⟨wr.heap.size, 1, none⟩ = some (.int .i64 lv.b) ∧ W.cell? ⟨wr.heap.size, 2, none⟩ = some (.string (strOfNums lv.t)) ∧ W.cell? ⟨wr.heap.size, 3, none⟩ = some (.bool lv.long)) 99 (by kernel_rfl) ?_
        have hS : ((wr.alloc (.cells #[.int .i64 lv.a, .int .i64 lv.b, .string (strOfNums lv.t), .bool lv.long] 31)).drew.cell? ⟨qz, k * 4, none⟩ = some (.int .i64 lv.a) ∧ (wr.alloc (.cells #[.int .i64 lv.a, .int .i64 lv.b, .string (strOfNums lv.t), .bool lv.long] 31)).drew.cell? ⟨qz, k * 4 + 1, none⟩ = some (.int .i64 lv.b) ∧ (wr.alloc (.cells #[.int .i64 lv.a, .int .i64 lv.b, .string (strOfNums lv.t), .bool lv.long] 31)).drew.cell? ⟨qz, k * 4 + 2, none⟩ = some (.string (strOfNums lv.t)) ∧ (wr.alloc (.cells #[.int .i64 lv.a, .int .i64 lv.b, .string (strOfNums lv.t), .bool lv.long] 31)).drew.cell? ⟨qz, k * 4 + 3, none⟩ = some (.bool lv.long)) ∧ (wr.alloc (.cells #[.int .i64 lv.a, .int .i64 lv.b, .string (strOfNums lv.t), .bool lv.long] 31)).drew.cell? ⟨wr.heap.size, 0, none⟩ = some (.int .i64 lv.a) ∧ (wr.alloc (.cells #[.int .i64 lv.a, .int .i64 lv.b, .string (strOfNums lv.t), .bool lv.long] 31)).drew.cell? ⟨wr.heap.size, 1, none⟩ = some (.int .i64 lv.b) ∧ (wr.alloc (.cells #[.int .i64 lv.a, .int .i64 lv.b, .string (strOfNums lv.t), .bool lv.long] 31)).drew.cell? ⟨wr.heap.size, 2, none⟩ = some (.string (strOfNums lv.t)) ∧ (wr.alloc (.cells #[.int .i64 lv.a, .int .i64 lv.b, .string (strOfNums lv.t), .bool lv.long] 31)).drew.cell? ⟨wr.heap.size, 3, none⟩ = some (.bool lv.long) := ⟨⟨s0, s1, s2, s3⟩, t0, t1, t2, t3⟩
        refine z_take (i := 0) (v := ?_) rfl (by kernel_rfl) (by kernel_rfl) (by kernel_rfl) (by kernel_rfl) (fun _ _ _ h => h) (Or.inl ⟨by rfl, ?_⟩) hS ?_
        rotate_left
        · (rintro wS ⟨⟨s0, s1, s2, s3⟩, t0, t1, t2, t3⟩; (try simp only [List.getElem_toArray, List.getElem_cons_zero]); go_simp <;> with_reducible rfl)
        simp only [Act.put, List.getElem_toArray, List.getElem_cons_zero, List.setIfInBounds_toArray, List.set_cons_zero, List.set_cons_succ]
        refine z_take (i := 1) (v := ?_) rfl (by kernel_rfl) (by kernel_rfl) (by kernel_rfl) (by kernel_rfl) (fun _ _ _ h => h) (Or.inl ⟨by rfl, ?_⟩) hS ?_
        rotate_left
        · (rintro wS ⟨⟨s0, s1, s2, s3⟩, t0, t1, t2, t3⟩; (try simp only [List.getElem_toArray, List.getElem_cons_zero, List.getElem_cons_succ]); go_simp <;> with_reducible rfl)
        simp only [Act.put, List.getElem_toArray, List.getElem_cons_zero, List.getElem_cons_succ, List.setIfInBounds_toArray, List.set_cons_zero, List.set_cons_succ]
        refine z_take (i := 2) (v := ?_) rfl (by kernel_rfl) (by kernel_rfl) (by kernel_rfl) (by kernel_rfl) (fun _ _ _ h => h) (Or.inl ⟨by rfl, ?_⟩) hS ?_
        rotate_left
        · (rintro wS ⟨⟨s0, s1, s2, s3⟩, t0, t1, t2, t3⟩; (try simp only [List.getElem_toArray, List.getElem_cons_zero, List.getElem_cons_succ]); go_simp <;> with_reducible rfl)
        simp only [Act.put, List.getElem_toArray, List.getElem_cons_zero, List.getElem_cons_succ, List.setIfInBounds_toArray, List.set_cons_zero, List.set_cons_succ]
        refine z_take (i := 3) (v := ?_) rfl (by kernel_rfl) (by kernel_rfl) (by kernel_rfl) (by kernel_rfl) (fun _ _ _ h => h) (Or.inl ⟨by rfl, ?_⟩) hS ?_
        rotate_left
        · (rintro wS ⟨⟨s0, s1, s2, s3⟩, t0, t1, t2, t3⟩; (try simp only [List.getElem_toArray, List.getElem_cons_zero, List.getElem_cons_succ]); go_simp <;> with_reducible rfl)
        simp only [Act.put, List.getElem_toArray, List.getElem_cons_zero, List.getElem_cons_succ, List.setIfInBounds_toArray, List.set_cons_zero, List.set_cons_succ]
        refine z_take (i := 4) (v := ?_) rfl (by kernel_rfl) (by kernel_rfl) (by kernel_rfl) (by kernel_rfl) (fun _ _ _ h => h) (Or.inl ⟨by rfl, ?_⟩) hS ?_
        rotate_left
        · (rintro wS ⟨⟨s0, s1, s2, s3⟩, t0, t1, t2, t3⟩; (try simp only [List.getElem_toArray, List.getElem_cons_zero, List.getElem_cons_succ]); go_simp <;> with_reducible rfl)
        simp only [Act.put, List.getElem_toArray, List.getElem_cons_zero, List.getElem_cons_succ, List.setIfInBounds_toArray, List.set_cons_zero, List.set_cons_succ]
        refine z_take (i := 5) (v := ?_) rfl (by kernel_rfl) (by kernel_rfl) (by kernel_rfl) (by kernel_rfl) (fun _ _ _ h => h) (Or.inl ⟨by rfl, ?_⟩) hS ?_
        rotate_left
        · (rintro wS ⟨⟨s0, s1, s2, s3⟩, t0, t1, t2, t3⟩; (try simp only [List.getElem_toArray, List.getElem_cons_zero, List.getElem_cons_succ]); go_simp <;> with_reducible rfl)
        simp only [Act.put, List.getElem_toArray, List.getElem_cons_zero, List.getElem_cons_succ, List.setIfInBounds_toArray, List.set_cons_zero, List.set_cons_succ]
        refine z_done (by kernel_rfl) ?_ _
        go_wp2_with fail
        go_roundw
        case rel => exact ⟨k + 1, by go_num, by omega, HE⟩
        case measure => simp [intOf]; omega
      · have hki : ¬ (k : Int) < (NX : Int) := by omega
        rw [List.getElem?_append_right (by have := HNX.out; omega), HNX.out, List.getElem?_map] at hlv2
        obtain ⟨z, hz⟩ : ∃ z, lsy[k - NX]? = some z := ⟨_, List.getElem?_eq_getElem (by have := HNY.out; omega)⟩
        rw [hz] at hlv2
        have hlz2 : LV.later (n1 + 1) z = lv := by simpa using hlv2
        have ea : (z.a : Int) + ((n1 : Int) + 1) = (lv.a : Int) := by rw [← hlz2]; simp [LV.later]
        have eb : (z.b : Int) + ((n1 : Int) + 1) = (lv.b : Int) := by rw [← hlz2]; simp [LV.later]
        have et : z.t = lv.t := by rw [← hlz2]; rfl
        have el : z.long = lv.long := by rw [← hlz2]; rfl
        clear hlz2 hlv2
        have HEQ := Lib.hid (And.intro ea (And.intro eb (And.intro et el)))
        clear ea eb et el
        obtain ⟨qy, e2⟩ : ∃ q, Oy = some ⟨q, 0, none⟩ := by
          obtain ⟨_, _, e, _, _, hq⟩ := OwnL.form hyI
          obtain ⟨q, e2, _⟩ := hq (by rintro h; rw [h] at hz; simp at hz)
          exact ⟨q, (Value.slice.inj e).1.trans e2⟩
        subst e2
        obtain ⟨qz, e2⟩ : ∃ q, Oz = some ⟨q, 0, none⟩ := by
          obtain ⟨_, _, e, _, _, hq⟩ := OwnL.form hzI
          obtain ⟨q, e2, _⟩ := hq (by intro h; rw [h] at hlv; cases hlv)
          exact ⟨q, (Value.slice.inj e).1.trans e2⟩
        subst e2
        obtain ⟨c0, c1, c2, c3⟩ := OwnL.cell (i := k - NX) y1 hz
        rw [Nat.add_zero] at c0
        obtain ⟨hza, hzb⟩ := HBY.out z (List.mem_of_getElem? hz)
        clear x1 y1 B0 hbI hxI hyI hzI
        go_wp2_with fail
        rw [HEQ.out.1, HEQ.out.2.1, HEQ.out.2.2.1, HEQ.out.2.2.2]
        clear c0 c1 c2 c3 HEQ
        have B2 := (Below.refl wr.heap.size wr).alloc (Nat.le_refl _) (.cells #[.int .i64 lv.a, .int .i64 lv.b, .string (strOfNums lv.t), .bool lv.long] 31)
        have R2 := heap_alloc_new wr (.cells #[.int .i64 lv.a, .int .i64 lv.b, .string (strOfNums lv.t), .bool lv.long] 31)
        obtain ⟨hbI, hxI, hyI, hzI⟩ := HI.out
        obtain ⟨s0, s1, s2, s3⟩ := OwnL.cell (i := k) (hzI.below B2) hlv
        rw [Nat.add_zero] at s0
        have t0 : (wr.alloc (.cells #[.int .i64 lv.a, .int .i64 lv.b, .string (strOfNums lv.t), .bool lv.long] 31)).cell? ⟨wr.heap.size, 0, none⟩ = _ := (cell_of_row _ wr.heap.size 0 _ 31 (0, 0) R2).trans rfl
        have t1 : (wr.alloc (.cells #[.int .i64 lv.a, .int .i64 lv.b, .string (strOfNums lv.t), .bool lv.long] 31)).cell? ⟨wr.heap.size, 1, none⟩ = _ := (cell_of_row _ wr.heap.size 1 _ 31 (0, 0) R2).trans rfl
        have t2 : (wr.alloc (.cells #[.int .i64 lv.a, .int .i64 lv.b, .string (strOfNums lv.t), .bool lv.long] 31)).cell? ⟨wr.heap.size, 2, none⟩ = _ := (cell_of_row _ wr.heap.size 2 _ 31 (0, 0) R2).trans rfl
        have t3 : (wr.alloc (.cells #[.int .i64 lv.a, .int .i64 lv.b, .string (strOfNums lv.t), .bool lv.long] 31)).cell? ⟨wr.heap.size, 3, none⟩ = _ := (cell_of_row _ wr.heap.size 3 _ 31 (0, 0) R2).trans rfl
        simp only [List.getElem?_toArray, List.getElem?_cons_zero, List.getElem?_cons_succ] at t0 t1 t2 t3
        have HE := Lib.hid (show Below w.heap.size w (wr.alloc (.cells #[.int .i64 lv.a, .int .i64 lv.b, .string (strOfNums lv.t), .bool lv.long] 31)).drew ∧ OwnL (wr.alloc (.cells #[.int .i64 lv.a, .int .i64 lv.b, .string (strOfNums lv.t), .bool lv.long] 31)).drew w6.heap.size (.slice Ox NX cx) lsx ∧ OwnL (wr.alloc (.cells #[.int .i64 lv.a, .int .i64 lv.b, .string (strOfNums lv.t), .bool lv.long] 31)).drew w7.heap.size (.slice (some ⟨qy, 0, none⟩) NY cy) lsy ∧ OwnL (wr.alloc (.cells #[.int .i64 lv.a, .int .i64 lv.b, .string (strOfNums lv.t), .bool lv.long] 31)).drew w10.heap.size (.slice (some ⟨qz, 0, none⟩) (NX + NY) cz) (lsx ++ lsy.map (LV.later (n1 + 1))) from
          ⟨below_drewN' (hbI.trans (B2.mono hbI.size)) 1, (hxI.below B2).below (below_drewN' (Below.refl _ _) 1), (hyI.below B2).below (below_drewN' (Below.refl _ _) 1), (hzI.below B2).below (below_drewN' (Below.refl _ _) 1)⟩)
        clear B2 R2 hbI hxI hyI hzI HI
        refine region_plain (fun W => (W.cell? ⟨qz, k * 4, none⟩ = some (.int .i64 lv.a) ∧ W.cell? ⟨qz, k * 4 + 1, none⟩ = some (.int .i64 lv.b) ∧ W.cell? ⟨qz, k * 4 + 2, none⟩ = some (.string (strOfNums lv.t)) ∧ W.cell? ⟨qz, k * 4 + 3, none⟩ = some (.bool lv.long)) ∧ W.cell? ⟨wr.heap.size, 0, none⟩ = some (.int .i64 lv.a) ∧ W.cell? ⟨wr.heap.size, 1, none⟩ = some (.int .i64 lv.b) ∧ W.cell? ⟨wr.heap.size, 2, none⟩ = some (.string (strOfNums lv.t)) ∧ W.cell? ⟨wr.heap.size, 3, none⟩ = some (.bool lv.long)) 99 (by kernel_rfl) ?_
        have hS : ((wr.alloc (.cells #[.int .i64 lv.a, .int .i64 lv.b, .string (strOfNums lv.t), .bool lv.long] 31)).drew.cell? ⟨qz, k * 4, none⟩ = some (.int .i64 lv.a) ∧ (wr.alloc (.cells #[.int .i64 lv.a, .int .i64 lv.b, .string (strOfNums lv.t), .bool lv.long] 31)).drew.cell? ⟨qz, k * 4 + 1, none⟩ = some (.int .i64 lv.b) ∧ (wr.alloc (.cells #[.int .i64 lv.a, .int .i64 lv.b, .string (strOfNums lv.t), .bool lv.long] 31)).drew.cell? ⟨qz, k * 4 + 2, none⟩ = some (.string (strOfNums lv.t)) ∧ (wr.alloc (.cells #[.int .i64 lv.a, .int .i64 lv.b, .string (strOfNums lv.t), .bool lv.long] 31)).drew.cell? ⟨qz, k * 4 + 3, none⟩ = some (.bool lv.long)) ∧ (wr.alloc (.cells #[.int .i64 lv.a, .int .i64 lv.b, .string (strOfNums lv.t), .bool lv.long] 31)).drew.cell? ⟨wr.heap.size, 0, none⟩ = some (.int .i64 lv.a) ∧ (wr.alloc (.cells #[.int .i64 lv.a, .int .i64 lv.b, .string (strOfNums lv.t), .bool lv.long] 31)).drew.cell? ⟨wr.heap.size, 1, none⟩ = some (.int .i64 lv.b) ∧ (wr.alloc (.cells #[.int .i64 lv.a, .int .i64 lv.b, .string (strOfNums lv.t), .bool lv.long] 31)).drew.cell? ⟨wr.heap.size, 2, none⟩ = some (.string (strOfNums lv.t)) ∧ (wr.alloc (.cells #[.int .i64 lv.a, .int .i64 lv.b, .string (strOfNums lv.t), .bool lv.long] 31)).drew.cell? ⟨wr.heap.size, 3, none⟩ = some (.bool lv.long) := ⟨⟨s0, s1, s2, s3⟩, t0, t1, t2, t3⟩
        refine z_take (i := 0) (v := ?_) rfl (by kernel_rfl) (by kernel_rfl) (by kernel_rfl) (by kernel_rfl) (fun _ _ _ h => h) (Or.inl ⟨by rfl, ?_⟩) hS ?_
        rotate_left
        · (rintro wS ⟨⟨s0, s1, s2, s3⟩, t0, t1, t2, t3⟩; (try simp only [List.getElem_toArray, List.getElem_cons_zero]); go_simp <;> with_reducible rfl)
        simp only [Act.put, List.getElem_toArray, List.getElem_cons_zero, List.setIfInBounds_toArray, List.set_cons_zero, List.set_cons_succ]
        refine z_take (i := 1) (v := ?_) rfl (by kernel_rfl) (by kernel_rfl) (by kernel_rfl) (by kernel_rfl) (fun _ _ _ h => h) (Or.inl ⟨by rfl, ?_⟩) hS ?_
        rotate_left
        · (rintro wS ⟨⟨s0, s1, s2, s3⟩, t0, t1, t2, t3⟩; (try simp only [List.getElem_toArray, List.getElem_cons_zero, List.getElem_cons_succ]); go_simp <;> with_reducible rfl)
        simp only [Act.put, List.getElem_toArray, List.getElem_cons_zero, List.getElem_cons_succ, List.setIfInBounds_toArray, List.set_cons_zero, List.set_cons_succ]
        refine z_take (i := 2) (v := ?_) rfl (by kernel_rfl) (by kernel_rfl) (by kernel_rfl) (by kernel_rfl) (fun _ _ _ h => h) (Or.inl ⟨by rfl, ?_⟩) hS ?_
        rotate_left
        · (rintro wS ⟨⟨s0, s1, s2, s3⟩, t0, t1, t2, t3⟩; (try simp only [List.getElem_toArray, List.getElem_cons_zero, List.getElem_cons_succ]); go_simp <;> with_reducible rfl)
        simp only [Act.put, List.getElem_toArray, List.getElem_cons_zero, List.getElem_cons_succ, List.setIfInBounds_toArray, List.set_cons_zero, List.set_cons_succ]
        refine z_take (i := 3) (v := ?_) rfl (by kernel_rfl) (by kernel_rfl) (by kernel_rfl) (by kernel_rfl) (fun _ _ _ h => h) (Or.inl ⟨by rfl, ?_⟩) hS ?_
        rotate_left
        · (rintro wS ⟨⟨s0, s1, s2, s3⟩, t0, t1, t2, t3⟩; (try simp only [List.getElem_toArray, List.getElem_cons_zero, List.getElem_cons_succ]); go_simp <;> with_reducible rfl)
        simp only [Act.put, List.getElem_toArray, List.getElem_cons_zero, List.getElem_cons_succ, List.setIfInBounds_toArray, List.set_cons_zero, List.set_cons_succ]
        refine z_take (i := 4) (v := ?_) rfl (by kernel_rfl) (by kernel_rfl) (by kernel_rfl) (by kernel_rfl) (fun _ _ _ h => h) (Or.inl ⟨by rfl, ?_⟩) hS ?_
        rotate_left
        · (rintro wS ⟨⟨s0, s1, s2, s3⟩, t0, t1, t2, t3⟩; (try simp only [List.getElem_toArray, List.getElem_cons_zero, List.getElem_cons_succ]); go_simp <;> with_reducible rfl)
        simp only [Act.put, List.getElem_toArray, List.getElem_cons_zero, List.getElem_cons_succ, List.setIfInBounds_toArray, List.set_cons_zero, List.set_cons_succ]
        refine z_take (i := 5) (v := ?_) rfl (by kernel_rfl) (by kernel_rfl) (by kernel_rfl) (by kernel_rfl) (fun _ _ _ h => h) (Or.inl ⟨by rfl, ?_⟩) hS ?_
        rotate_left
        · (rintro wS ⟨⟨s0, s1, s2, s3⟩, t0, t1, t2, t3⟩; (try simp only [List.getElem_toArray, List.getElem_cons_zero, List.getElem_cons_succ]); go_simp <;> with_reducible rfl)
        simp only [Act.put, List.getElem_toArray, List.getElem_cons_zero, List.getElem_cons_succ, List.setIfInBounds_toArray, List.set_cons_zero, List.set_cons_succ]
        refine z_done (by kernel_rfl) ?_ _
        go_wp2_with fail
        go_roundw
        case rel => exact ⟨k + 1, by go_num, by omega, HE⟩
        case measure => simp [intOf]; omega
    · obtain rfl : k = NX + NY := by omega
      have hnk : ¬ (((NX + NY : Nat) : Int) < (NX : Int) + (NY : Int)) := by omega
      have hpx2 : (0 : Int) < (NX : Int) := by omega
      go_wp2_with fail
      refine (awake_any _).mono ?_
      rintro e w12 ⟨rfl, b12⟩
      go_wp2_with fail
      go_ret
      exact ⟨rfl, HI.out.1.trans (b12.mono HI.out.1.size)⟩

set_option maxRecDepth 100000 in
set_option maxHeartbeats 1000000 in
theorem lineBehind_bad (A1 : Option Addr) (n1 c1 : Nat) (l1 : List Int) (A2 : Option Addr) (n2 c2 : Nat) (l2 : List Int) (A3 : Option Addr) (c3 : Nat) (ks : List Int) (x : Int) (w : World) (hs1 : Sl w A1 n1 l1) (ht1 : Tidy A1 c1) (hs2 : Sl w A2 n2 l2) (ht2 : Tidy A2 c2) (hk : Nums w A3 ks.length ks) (hn1 : n1 ≤ 300) (hn2 : n2 ≤ 300) (hn3 : ks.length ≤ 100) (hx : x < 1 ∨ 8192 < x) :
    Calls Try.prog 5 #[.agg #[.slice A1 n1 c1, .slice A2 n2 c2], .slice A3 ks.length c3, .int .i64 x] w fun e w' => e = .returned (.bool true) ∧ Below w.heap.size w w' := by
  have hi1 : ¬ (300 : Int) < (n1 : Int) := by omega
  have hi2 : ¬ (300 : Int) < (n2 : Int) := by omega
  have hi3 : ¬ (100 : Int) < (ks.length : Int) := by omega
  have b0 := (Below.refl w.heap.size w).alloc (Nat.le_refl _) (.cells #[.slice A1 n1 c1, .slice A2 n2 c2] 34)
  have b1 := b0.alloc (by simp) (.cells #[] 5)
  have HXX := Lib.hid hx
  clear hx
  have HB1 := Lib.hid b1
  have HS1 := Lib.hid (hs1.below b1)
  have HS2 := Lib.hid hs2
  have HK := Lib.hid hk
  have HO := Lib.hid (ownB_made (w.alloc (.cells #[.slice A1 n1 c1, .slice A2 n2 c2] 34)) (w.heap.size + 1) (by simp))
  clear hs1 hs2 hk b0 b1
  have hlt1 : 0 + n1 ≤ 100000 := by omega
  have hbs1 : w.heap.size + 1 ≤ ((w.alloc (.cells #[.slice A1 n1 c1, .slice A2 n2 c2] 34)).alloc (.cells #[] 5)).heap.size := by simp
  have htn1 := ht1.nil
  rw [World.size_alloc] at HO
  go_enter Try.func5, Try.ntmps5
  go_wp2_with (first | (at_builtin; refine append_bytes _ rfl _ _ rfl (w.heap.size + 1) (.slice (some ⟨w.heap.size + 1, 0, none⟩) 0 0) 0 [] rfl HO.out A1 n1 c1 l1 rfl HS1.out htn1 hlt1 hbs1 ?_; intro v5 w5 hown hg hat) | (at_builtin; refine append_bytes _ rfl _ _ rfl (w.heap.size + 1) v5 (0 + n1) ([] ++ l1) rfl (hown.kept ((Below.refl _ w5).alloc (Nat.le_refl _) (.cells #[.int .u8 10] 5))) (some ⟨w5.heap.size, 0, none⟩) 1 1 [10] rfl (sl_made' w5 [10] (by decide) _ rfl (0, 0)) (fun e => by cases e) (by omega) (by have := hg.size; simp at this ⊢; omega) ?_; intro v6 w6 hown6 hg6 hat6))
  rw [Nat.zero_add, List.nil_append] at hown6
  have hv5 : ∀ k, v5.ownBlock = some k → w.heap.size + 1 ≤ k := fun k e => (World.ownsRow.lt hown.2.2 k e).1
  have g5 : ((w.alloc (.cells #[.slice A1 n1 c1, .slice A2 n2 c2] 34)).alloc (.cells #[] 5)).grownBy w5 (some (w.heap.size + 1)) := hg
  have b5 := HB1.out.grown g5 HB1.out.size (fun k e => by cases e; omega)
  have b5a := b5.alloc b5.size (.cells #[.int .u8 10] 5)
  have b6 := b5a.grown hg6 b5a.size (fun k e => by have := hv5 k e; omega)
  have hz5 := g5.size
  have hz6 := hg6.size
  rw [World.size_alloc] at hz6
  rw [World.size_alloc, World.size_alloc] at hz5
  have r6 := (hg6.block w.heap.size (by simp; omega) (by intro e; have := hv5 _ e.symm; omega)).trans ((((Below.refl _ w5).alloc (Nat.le_refl _) (.cells #[.int .u8 10] 5)).block w.heap.size (by omega)).trans ((g5.block w.heap.size (by simp; omega) (by intro e; have := Option.some.inj e; omega)).trans ((((Below.refl _ (w.alloc (.cells #[.slice A1 n1 c1, .slice A2 n2 c2] 34))).alloc (Nat.le_refl _) (.cells #[] 5)).block w.heap.size (by simp)).trans (heap_alloc_new w (.cells #[.slice A1 n1 c1, .slice A2 n2 c2] 34)))))
  obtain ⟨A6, c6, rfl, S6, t6, l6, hA6⟩ := hown6.shape
  have hz6b : w.heap.size + 2 ≤ w6.heap.size := by omega
  have hla : (l1 ++ [10]).length = n1 + 1 := hown6.1
  have HB6 := Lib.hid b6
  have HR6 := Lib.hid r6
  have HS6 := Lib.hid S6
  have HA6 := Lib.hid hA6
  have HW6 := Lib.hid (whole_wrong A6 (n1 + 1) c6 none 0 0 x w6 HXX.out)
  clear b5 b5a b6 r6 hown hown6 hg hg6 hat hat6 g5 hv5 HB1 HS1 HO S6 hA6 hlt1 hbs1 hz5 hz6
  refine HW6.out.mono ?_
  rintro e w7 ⟨rfl, b7⟩
  have HB7 := Lib.hid (HB6.out.trans (b7.mono HB6.out.size))
  have r7 := (b7.block _ (by omega)).trans HR6.out
  have HR7 := Lib.hid r7
  have HS7 := Lib.hid (HS6.out.below b7)
  have hz7 := b7.size
  have HW7 := Lib.hid (whole_wrong A2 n2 c2 none 0 0 x w7 HXX.out)
  have d1 : w7.cell? ⟨w.heap.size, 1, none⟩ = some (.slice A2 n2 c2) := by rw [cell_of_row _ _ _ _ 34 (0, 0) r7]; rfl
  clear b7 r7 HB6 HR6 HS6 HW6
  go_wp2_with fail
  refine HW7.out.mono ?_
  rintro e w8 ⟨rfl, b8⟩
  have HB8 := Lib.hid (HB7.out.trans (b8.mono HB7.out.size))
  have r8 := (b8.block _ (by omega)).trans HR7.out
  have hz8 := b8.size
  have HS8 := Lib.hid (HS7.out.below b8)
  have d1 : w8.cell? ⟨w.heap.size, 1, none⟩ = some (.slice A2 n2 c2) := by rw [cell_of_row _ _ _ _ 34 (0, 0) r8]; rfl
  have HR8 := Lib.hid r8
  clear b8 r8 HB7 HR7 HS7 HW7
  go_wp2_with fail
  refine region_plain (fun W => W.cell? ⟨w.heap.size, 1, none⟩ = some (.slice A2 n2 c2)) 99 (by kernel_rfl) ?_
  have hS : w8.drew.cell? ⟨w.heap.size, 1, none⟩ = some (.slice A2 n2 c2) := d1
  refine z_take (i := 1) (v := ?_) rfl (by kernel_rfl) (by kernel_rfl) (by kernel_rfl) (by kernel_rfl) (fun _ _ _ h => h) (Or.inl ⟨by rfl, ?_⟩) hS ?_
  rotate_left
  · (rintro wS s0; (try simp only [List.getElem_toArray, List.getElem_cons_zero, List.getElem_cons_succ]); go_simp <;> with_reducible rfl)
  simp only [Act.put, List.getElem_toArray, List.getElem_cons_zero, List.getElem_cons_succ, List.setIfInBounds_toArray, List.set_cons_zero, List.set_cons_succ]
  refine z_take (i := 3) (v := ?_) rfl (by kernel_rfl) (by kernel_rfl) (by kernel_rfl) (by kernel_rfl) (fun _ _ _ h => h) (Or.inl ⟨by rfl, ?_⟩) hS ?_
  rotate_left
  · (rintro wS s0; (try simp only [List.getElem_toArray, List.getElem_cons_zero, List.getElem_cons_succ]); go_simp <;> with_reducible rfl)
  simp only [Act.put, List.getElem_toArray, List.getElem_cons_zero, List.getElem_cons_succ, List.setIfInBounds_toArray, List.set_cons_zero, List.set_cons_succ]
  refine z_take (i := 4) (v := ?_) rfl (by kernel_rfl) (by kernel_rfl) (by kernel_rfl) (by kernel_rfl) (fun _ _ _ h => h) (Or.inl ⟨by rfl, ?_⟩) hS ?_
  rotate_left
  · (rintro wS s0; (try simp only [List.getElem_toArray, List.getElem_cons_zero, List.getElem_cons_succ]); go_simp <;> with_reducible rfl)
  simp only [Act.put, List.getElem_toArray, List.getElem_cons_zero, List.getElem_cons_succ, List.setIfInBounds_toArray, List.set_cons_zero, List.set_cons_succ]
  refine z_take (i := 6) (v := ?_) rfl (by kernel_rfl) (by kernel_rfl) (by kernel_rfl) (by kernel_rfl) (fun _ _ _ h => h) (Or.inl ⟨by rfl, ?_⟩) hS ?_
  rotate_left
  · (rintro wS s0; (try simp only [List.getElem_toArray, List.getElem_cons_zero, List.getElem_cons_succ]); go_simp <;> with_reducible rfl)
  simp only [Act.put, List.getElem_toArray, List.getElem_cons_zero, List.getElem_cons_succ, List.setIfInBounds_toArray, List.set_cons_zero, List.set_cons_succ]
  refine z_take (i := 7) (v := ?_) rfl (by kernel_rfl) (by kernel_rfl) (by kernel_rfl) (by kernel_rfl) (fun _ _ _ h => h) (Or.inl ⟨by rfl, ?_⟩) hS ?_
  rotate_left
  · (rintro wS s0; (try simp only [List.getElem_toArray, List.getElem_cons_zero, List.getElem_cons_succ]); go_simp <;> with_reducible rfl)
  simp only [Act.put, List.getElem_toArray, List.getElem_cons_zero, List.getElem_cons_succ, List.setIfInBounds_toArray, List.set_cons_zero, List.set_cons_succ]
  have ba := (Below.refl w8.heap.size w8.drew).alloc (Nat.le_refl _) (.cells #[] 5)
  have hS := (ba.cell (p := ⟨w.heap.size, 1, none⟩) (by show w.heap.size < w8.heap.size; omega)).trans hS
  refine z_one (i := 0) (by kernel_rfl) rfl rfl ?_
  go_simp
  refine ⟨hS, ?_⟩
  have hS8 := (HS8.out.below (below_drewN' (Below.refl _ w8) 1)).below ba
  obtain ⟨v9, w9, run9, own9, g9, at9⟩ := run_append_bytes (w8.drew.alloc (.cells #[] 5)) 22 w8.heap.size _ 0 [] (ownB_made w8.drew w8.heap.size (Nat.le_refl _)) A6 (n1 + 1) c6 (l1 ++ [10]) hS8 t6.nil (by omega) (by simp)
  rw [Nat.zero_add, List.nil_append] at own9
  have g9 : (w8.drew.alloc (.cells #[] 5)).grownBy w9 (some w8.heap.size) := g9
  have hz9 := g9.size
  rw [World.size_alloc] at hz9
  have hz9 : w8.heap.size + 1 ≤ w9.heap.size := hz9
  have r9 := (g9.block w.heap.size (by simp; omega) (by intro e; have := Option.some.inj e; omega)).trans ((ba.block w.heap.size (by omega)).trans HR8.out)
  have hS : w9.cell? ⟨w.heap.size, 1, none⟩ = some (.slice A2 n2 c2) := by rw [cell_of_row _ _ _ _ 34 (0, 0) r9]; rfl
  have b9 := (((below_drewN' HB8.out 1).trans (ba.mono HB8.out.size))).grown g9 (Nat.le_trans HB8.out.size (by simp)) (fun k e => by have := Option.some.inj e; omega)
  refine z_one (i := 2) (by kernel_rfl) rfl rfl ?_
  refine wp_append_run rfl rfl rfl run9 ⟨.inr hS, ?_⟩
  simp only [Act.put, List.getElem_toArray, List.getElem_cons_zero, List.getElem_cons_succ, List.setIfInBounds_toArray, List.set_cons_zero, List.set_cons_succ]
  have hv9 : ∀ k, v9.ownBlock = some k → w8.heap.size ≤ k := fun k e => (World.ownsRow.lt own9.2.2 k e).1
  obtain ⟨v10, w10, run10, own10, g10, at10⟩ := run_append_bytes w9 22 w8.heap.size v9 (n1 + 1) _ own9 A2 n2 c2 l2 (HS2.out.below b9) ht2.nil (by omega) (by omega)
  have hz10 := g10.size
  have r10 := (g10.block w.heap.size (by omega) (by intro e; have := hv9 _ e.symm; omega)).trans r9
  have hS : w10.cell? ⟨w.heap.size, 1, none⟩ = some (.slice A2 n2 c2) := by rw [cell_of_row _ _ _ _ 34 (0, 0) r10]; rfl
  have b10 := b9.grown g10 (by omega) (fun k e => by have := hv9 k e; omega)
  refine z_one (i := 5) (by kernel_rfl) rfl rfl ?_
  refine wp_append_run rfl rfl rfl run10 ⟨.inr hS, ?_⟩
  simp only [Act.put, List.getElem_toArray, List.getElem_cons_zero, List.getElem_cons_succ, List.setIfInBounds_toArray, List.set_cons_zero, List.set_cons_succ]
  obtain ⟨A10, c10, rfl, S10, t10, l10, hA10⟩ := own10.shape
  have HW10 := Lib.hid (whole_wrong A10 (n1 + 1 + n2) c10 A3 ks.length c3 x w10 HXX.out)
  have HB10 := Lib.hid b10
  have HR10 := Lib.hid r10
  clear own9 own10 g9 g10 at9 at10 r9 r10 b9 b10 hv9 run9 run10 ba S10 hA10  HB8 HR8 HS8 hS8
  refine z_one (i := 8) (by kernel_rfl) rfl rfl ?_
  go_simp
  refine HW10.out.mono ?_
  rintro e w11 ⟨rfl, b11⟩
  have hS := (b11.cell (p := ⟨w.heap.size, 1, none⟩) (by show w.heap.size < w10.heap.size; omega)).trans hS
  refine ⟨hS, ?_⟩
  have hz11 := b11.size
  have HB11 := Lib.hid (HB10.out.trans (b11.mono HB10.out.size))
  clear b11 HB10 HR10 HW10 d1
  refine z_take (i := 9) (v := ?_) rfl (by kernel_rfl) (by kernel_rfl) (by kernel_rfl) (by kernel_rfl) (fun _ _ _ h => h) (Or.inl ⟨by rfl, ?_⟩) hS ?_
  rotate_left
  · (rintro wS s0; (try simp only [List.getElem_toArray, List.getElem_cons_zero, List.getElem_cons_succ]); go_simp <;> with_reducible rfl)
  simp only [Act.put, List.getElem_toArray, List.getElem_cons_zero, List.getElem_cons_succ, List.setIfInBounds_toArray, List.set_cons_zero, List.set_cons_succ]
  refine z_take (i := 10) (v := ?_) rfl (by kernel_rfl) (by kernel_rfl) (by kernel_rfl) (by kernel_rfl) (fun _ _ _ h => h) (Or.inl ⟨by rfl, ?_⟩) hS ?_
  rotate_left
  · (rintro wS s0; (try simp only [List.getElem_toArray, List.getElem_cons_zero, List.getElem_cons_succ]); go_simp <;> with_reducible rfl)
  simp only [Act.put, List.getElem_toArray, List.getElem_cons_zero, List.getElem_cons_succ, List.setIfInBounds_toArray, List.set_cons_zero, List.set_cons_succ]
  refine z_take (i := 11) (v := ?_) rfl (by kernel_rfl) (by kernel_rfl) (by kernel_rfl) (by kernel_rfl) (fun _ _ _ h => h) (Or.inl ⟨by rfl, ?_⟩) hS ?_
  rotate_left
  · (rintro wS s0; (try simp only [List.getElem_toArray, List.getElem_cons_zero, List.getElem_cons_succ]); go_simp <;> with_reducible rfl)
  simp only [Act.put, List.getElem_toArray, List.getElem_cons_zero, List.getElem_cons_succ, List.setIfInBounds_toArray, List.set_cons_zero, List.set_cons_succ]
  refine z_take (i := 12) (v := ?_) rfl (by kernel_rfl) (by kernel_rfl) (by kernel_rfl) (by kernel_rfl) (fun _ _ _ h => h) (Or.inl ⟨by rfl, ?_⟩) hS ?_
  rotate_left
  · (rintro wS s0; (try simp only [List.getElem_toArray, List.getElem_cons_zero, List.getElem_cons_succ]); go_simp <;> with_reducible rfl)
  simp only [Act.put, List.getElem_toArray, List.getElem_cons_zero, List.getElem_cons_succ, List.setIfInBounds_toArray, List.set_cons_zero, List.set_cons_succ]
  refine z_take (i := 13) (v := ?_) rfl (by kernel_rfl) (by kernel_rfl) (by kernel_rfl) (by kernel_rfl) (fun _ _ _ h => h) (Or.inl ⟨by rfl, ?_⟩) hS ?_
  rotate_left
  · (rintro wS s0; (try simp only [List.getElem_toArray, List.getElem_cons_zero, List.getElem_cons_succ]); go_simp <;> with_reducible rfl)
  simp only [Act.put, List.getElem_toArray, List.getElem_cons_zero, List.getElem_cons_succ, List.setIfInBounds_toArray, List.set_cons_zero, List.set_cons_succ]
  refine z_take (i := 14) (v := ?_) rfl (by kernel_rfl) (by kernel_rfl) (by kernel_rfl) (by kernel_rfl) (fun _ _ _ h => h) (Or.inl ⟨by rfl, ?_⟩) hS ?_
  rotate_left
  · (rintro wS s0; (try simp only [List.getElem_toArray, List.getElem_cons_zero, List.getElem_cons_succ]); go_simp <;> with_reducible rfl)
  simp only [Act.put, List.getElem_toArray, List.getElem_cons_zero, List.getElem_cons_succ, List.setIfInBounds_toArray, List.set_cons_zero, List.set_cons_succ]
  refine z_take (i := 15) (v := ?_) rfl (by kernel_rfl) (by kernel_rfl) (by kernel_rfl) (by kernel_rfl) (fun _ _ _ h => h) (Or.inl ⟨by rfl, ?_⟩) hS ?_
  rotate_left
  · (rintro wS s0; (try simp only [List.getElem_toArray, List.getElem_cons_zero, List.getElem_cons_succ]); go_simp <;> with_reducible rfl)
  simp only [Act.put, List.getElem_toArray, List.getElem_cons_zero, List.getElem_cons_succ, List.setIfInBounds_toArray, List.set_cons_zero, List.set_cons_succ]
  refine z_done (by kernel_rfl) ?_ _
  clear hS HS2 HK HXX
  go_wp2_with fail
  go_loopw [17] (fun vi wr => vi = .int .i64 0 ∧ wr = w11) (fun _ _ => 0)
  case atStart => exact ⟨rfl, rfl⟩
  case round =>
    obtain ⟨rfl, rfl⟩ := hrel
    go_wp2_with fail
    refine (awake_any _).mono ?_
    rintro e w12 ⟨rfl, b12⟩
    go_wp2_with fail
    go_ret
    exact ⟨rfl, HB11.out.trans (b12.mono HB11.out.size)⟩

theorem lineBehind_walk (A1 : Option Addr) (c1 : Nat) (l1 : List Int) (A2 : Option Addr) (c2 : Nat) (l2 : List Int) (A3 : Option Addr) (c3 : Nat) (ks : List Int) (x : Int) (w : World) (hs1 : Sl w A1 l1.length l1) (hs2 : Sl w A2 l2.length l2) (hc2 : l2.length ≤ c2)
    (ht : (Tidy A1 c1 ∧ ∀ ad, A1 = some ad → ad.block < w.heap.size) ∧ (Tidy A2 c2 ∧ ∀ ad, A2 = some ad → ad.block < w.heap.size)) (hk : Nums w A3 ks.length ks) :
    Calls Try.prog 5 #[.agg #[.slice A1 l1.length c1, .slice A2 l2.length c2], .slice A3 ks.length c3, .int .i64 x] w fun e w' => e = .returned (.bool true) ∧ Below w.heap.size w w' := by
  by_cases h : 300 < l1.length ∨ 300 < l2.length ∨ 100 < ks.length
  · exact lineBehind_out A1 _ c1 A2 _ c2 A3 _ c3 x w h
  · by_cases hx : x < 1 ∨ 8192 < x
    · exact lineBehind_bad A1 _ c1 l1 A2 _ c2 l2 A3 c3 ks x w hs1 ht.1.1 hs2 ht.2.1 hk (by omega) (by omega) (by omega) hx
    · obtain ⟨m, rfl⟩ : ∃ m : Nat, x = (m : Int) := ⟨x.toNat, by omega⟩
      exact lineBehind_in A1 _ c1 l1 A2 _ c2 l2 A3 c3 ks m w hs1 ht.1.1 hs2 ht.2.1 hc2 ht.2.2 hk (by omega) (by omega) (by omega) (by omega) (by omega)
end Go.Proofs.Ytnlnadpbbcjfdaa
