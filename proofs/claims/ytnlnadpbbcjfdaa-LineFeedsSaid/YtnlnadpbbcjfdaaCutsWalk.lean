/-
  The walk of LineCuts.
-/
import Derived.Test.YtnlnadpbbcjfdaaWholeWalk
namespace Go.Proofs.Ytnlnadpbbcjfdaa
open Go.RowKit

theorem OwnL.below {w w' : World} {base : Nat} {v : Value} {ls : List LV} (h : OwnL w base v ls) (hb : Below w.heap.size w w') : OwnL w' base v ls := World.ownsRow.kept h (grown_below (row := none) hb) (by cases v.ownBlock <;> simp)

theorem allLines_length (m : Nat) (l : List Int) : (allLines m l).length ≤ l.length + 1 := by
  have := lin_length m l 0 []
  unfold allLines
  rw [List.length_append]
  split <;> simp only [List.length_nil, List.length_cons] <;> omega

set_option maxRecDepth 100000 in
set_option maxHeartbeats 4000000 in
theorem lineCuts_in (A : Option Addr) (n c : Nat) (l : List Int) (A1 : Option Addr) (c1 : Nat) (k1 : List Int) (A2 : Option Addr) (c2 : Nat) (k2 : List Int) (m : Nat) (w : World) (hs : Sl w A n l) (ht : Tidy A c) (hc : n ≤ c) (hA : ∀ ad, A = some ad → ad.block < w.heap.size) (hk1 : Nums w A1 k1.length k1) (hk2 : Nums w A2 k2.length k2)
    (hn : n ≤ 600) (hl1 : k1.length ≤ 100) (hl2 : k2.length ≤ 100) (h1 : 1 ≤ m) (h2 : m ≤ 8192) :
    Calls Try.prog 3 #[.slice A n c, .agg #[.slice A1 k1.length c1, .slice A2 k2.length c2], .int .i64 (m : Int)] w fun e w' => e = .returned (.bool true) ∧ Below w.heap.size w w' := by
  have hni : ¬ (600 : Int) < (n : Int) := by omega
  have hl1i : ¬ (100 : Int) < (k1.length : Int) := by omega
  have hl2i : ¬ (100 : Int) < (k2.length : Int) := by omega
  have b0 := (Below.refl w.heap.size w).alloc (Nat.le_refl _) (.cells #[.slice A1 k1.length c1, .slice A2 k2.length c2] 24)
  have HB0 := Lib.hid b0
  have HW1 := Lib.hid (whole_any A n c l A1 c1 k1 m (w.alloc (.cells #[.slice A1 k1.length c1, .slice A2 k2.length c2] 24)) (hs.below b0) ht hc (by omega) (fun ad e => Nat.lt_of_lt_of_le (hA ad e) b0.size) (hk1.below b0) (by omega) h1 h2)
  have HS := Lib.hid hs
  have HK2 := Lib.hid hk2
  have hr0 := heap_alloc_new w (.cells #[.slice A1 k1.length c1, .slice A2 k2.length c2] 24)
  have HR := Lib.hid hr0
  clear hs hk1 hk2 b0 hr0
  go_enter Try.func3, Try.ntmps3
  go_wp2_with fail
  refine HW1.out.mono ?_
  rintro e w1 ⟨x, rfl, o1, b1⟩
  have hb1 := HB0.out.trans (b1.mono HB0.out.size)
  have hr1 : w1.heap[w.heap.size]? = some (.cells #[.slice A1 k1.length c1, .slice A2 k2.length c2] 24 (0, 0)) := (b1.block _ (by simp)).trans HR.out
  have d0 : w1.cell? ⟨w.heap.size, 0, none⟩ = some (.slice A1 k1.length c1) := by rw [cell_of_row _ _ _ _ 24 (0, 0) hr1]; rfl
  have d1 : w1.cell? ⟨w.heap.size, 1, none⟩ = some (.slice A2 k2.length c2) := by rw [cell_of_row _ _ _ _ 24 (0, 0) hr1]; rfl
  have HW2 := Lib.hid (whole_any A n c l A2 c2 k2 m w1 (HS.out.below hb1) ht hc (by omega) (fun ad e => Nat.lt_of_lt_of_le (hA ad e) hb1.size) (HK2.out.below hb1) (by omega) h1 h2)
  have HB1 := Lib.hid hb1
  have HO1 := Lib.hid o1
  clear o1 b1 hb1 hr1 HW1
  go_wp2_with fail
  refine HW2.out.mono ?_
  rintro e w2 ⟨y, rfl, o2, b2⟩
  have o1 := HO1.out.below b2
  have HB2 := Lib.hid (HB1.out.trans (b2.mono HB1.out.size))
  clear HO1 HW2 b2 d0 d1
  have hall := allLines_length m l
  rw [HS.out.1] at hall
  generalize allLines m l = ls at o1 o2 hall
  obtain ⟨Ox, cx, rfl, hcx, _, hqx⟩ := OwnL.form o1
  obtain ⟨Oy, cy, rfl, hcy, _, hqy⟩ := OwnL.form o2
  have HX := Lib.hid hqx
  have HY := Lib.hid hqy
  clear o1 o2 hqx hqy
  generalize hlen : ls.length = N at hcx hcy hall ⊢
  have HLN := Lib.hid hlen
  clear hlen
  go_wp2_with fail
  go_loopw [13] (fun vi wr => ∃ k n : Nat, vi = .int .i64 k ∧ k ≤ N ∧ wr = w2.drewN n) (fun vi _ => N - (intOf vi).toNat)
  case atStart => exact ⟨0, 0, rfl, Nat.zero_le _, (World.drewN_zero _).symm⟩
  case round =>
    obtain ⟨k, j, rfl, hk, rfl⟩ := hrel
    by_cases hkn : k < N
    · have hki : (k : Int) < (N : Int) := by omega
      have hne : ls ≠ [] := by intro e; have := HLN.out; rw [e] at this; simp at this; omega
      obtain ⟨qx, rfl, hx⟩ := HX.out hne
      obtain ⟨qy, rfl, hy⟩ := HY.out hne
      obtain ⟨z, hz⟩ : ∃ z, ls[k]? = some z := ⟨_, List.getElem?_eq_getElem (by have := HLN.out; omega)⟩
      have hx' := hx k z hz
      have hy' := hy k z hz
      have x0 := hx' 0 _ rfl
      have x1 := hx' 1 _ rfl
      have x2 := hx' 2 _ rfl
      have x3 := hx' 3 _ rfl
      have y0 := hy' 0 _ rfl
      have y1 := hy' 1 _ rfl
      have y2 := hy' 2 _ rfl
      have y3 := hy' 3 _ rfl
      rw [Nat.add_zero] at x0 y0
      clear hx hy hx' hy' hz HX HY
      go_wp2_with fail
      refine region_plain (fun W => (W.cell? ⟨qx, k * 4, none⟩ = some (.int .i64 z.a) ∧ W.cell? ⟨qx, k * 4 + 1, none⟩ = some (.int .i64 z.b) ∧ W.cell? ⟨qx, k * 4 + 2, none⟩ = some (.string (strOfNums z.t)) ∧ W.cell? ⟨qx, k * 4 + 3, none⟩ = some (.bool z.long)) ∧
        W.cell? ⟨qy, k * 4, none⟩ = some (.int .i64 z.a) ∧ W.cell? ⟨qy, k * 4 + 1, none⟩ = some (.int .i64 z.b) ∧ W.cell? ⟨qy, k * 4 + 2, none⟩ = some (.string (strOfNums z.t)) ∧ W.cell? ⟨qy, k * 4 + 3, none⟩ = some (.bool z.long)) 99 (by kernel_rfl) ?_
      have hS : ((w2.drewN j).drew.cell? ⟨qx, k * 4, none⟩ = some (.int .i64 z.a) ∧ (w2.drewN j).drew.cell? ⟨qx, k * 4 + 1, none⟩ = some (.int .i64 z.b) ∧ (w2.drewN j).drew.cell? ⟨qx, k * 4 + 2, none⟩ = some (.string (strOfNums z.t)) ∧ (w2.drewN j).drew.cell? ⟨qx, k * 4 + 3, none⟩ = some (.bool z.long)) ∧
        (w2.drewN j).drew.cell? ⟨qy, k * 4, none⟩ = some (.int .i64 z.a) ∧ (w2.drewN j).drew.cell? ⟨qy, k * 4 + 1, none⟩ = some (.int .i64 z.b) ∧ (w2.drewN j).drew.cell? ⟨qy, k * 4 + 2, none⟩ = some (.string (strOfNums z.t)) ∧ (w2.drewN j).drew.cell? ⟨qy, k * 4 + 3, none⟩ = some (.bool z.long) := ⟨⟨x0, x1, x2, x3⟩, y0, y1, y2, y3⟩
      refine z_take (i := 0) (v := ?_) rfl (by kernel_rfl) (by kernel_rfl) (by kernel_rfl) (by kernel_rfl) (fun _ _ _ h => h) (Or.inl ⟨by rfl, ?_⟩) hS ?_
      rotate_left
      · (rintro wS ⟨⟨s0, s1, s2, s3⟩, t0, t1, t2, t3⟩; (try simp only [List.getElem_toArray, List.getElem_cons_zero]); go_simp <;> with_reducible rfl)
      simp only [Act.put, List.getElem_toArray, List.getElem_cons_zero, List.setIfInBounds_toArray, List.set_cons_zero, List.set_cons_succ]
      refine z_take (i := 1) (v := ?_) rfl (by kernel_rfl) (by kernel_rfl) (by kernel_rfl) (by kernel_rfl) (fun _ _ _ h => h) (Or.inl ⟨by rfl, ?_⟩) hS ?_
      rotate_left
      · (rintro wS ⟨⟨s0, s1, s2, s3⟩, t0, t1, t2, t3⟩; (try simp only [List.getElem_toArray, List.getElem_cons_zero, List.getElem_cons_succ]); go_simp <;> with_reducible rfl)
      simp only [Act.put, List.getElem_toArray, List.getElem_cons_zero, List.getElem_cons_succ, List.setIfInBounds_toArray, List.set_cons_zero, List.set_cons_succ]
      refine z_take (i := 2) (v := ?_) rfl (by kernel_rfl) (by kernel_rfl) (by kernel_rfl) (by kernel_rfl) (fun _ _ _ h => h) (Or.inl ⟨by rfl, ?_⟩) hS ?_
      rotate_left
      · (rintro wS ⟨⟨s0, s1, s2, s3⟩, t0, t1, t2, t3⟩; (try simp only [List.getElem_toArray, List.getElem_cons_zero, List.getElem_cons_succ]); go_simp <;> with_reducible rfl)
      simp only [Act.put, List.getElem_toArray, List.getElem_cons_zero, List.getElem_cons_succ, List.setIfInBounds_toArray, List.set_cons_zero, List.set_cons_succ]
      refine z_take (i := 3) (v := ?_) rfl (by kernel_rfl) (by kernel_rfl) (by kernel_rfl) (by kernel_rfl) (fun _ _ _ h => h) (Or.inl ⟨by rfl, ?_⟩) hS ?_
      rotate_left
      · (rintro wS ⟨⟨s0, s1, s2, s3⟩, t0, t1, t2, t3⟩; (try simp only [List.getElem_toArray, List.getElem_cons_zero, List.getElem_cons_succ]); go_simp <;> with_reducible rfl)
      simp only [Act.put, List.getElem_toArray, List.getElem_cons_zero, List.getElem_cons_succ, List.setIfInBounds_toArray, List.set_cons_zero, List.set_cons_succ]
      refine z_take (i := 4) (v := ?_) rfl (by kernel_rfl) (by kernel_rfl) (by kernel_rfl) (by kernel_rfl) (fun _ _ _ h => h) (Or.inl ⟨by rfl, ?_⟩) hS ?_
      rotate_left
      · (rintro wS ⟨⟨s0, s1, s2, s3⟩, t0, t1, t2, t3⟩; (try simp only [List.getElem_toArray, List.getElem_cons_zero, List.getElem_cons_succ]); go_simp <;> with_reducible rfl)
      simp only [Act.put, List.getElem_toArray, List.getElem_cons_zero, List.getElem_cons_succ, List.setIfInBounds_toArray, List.set_cons_zero, List.set_cons_succ]
      refine z_take (i := 5) (v := ?_) rfl (by kernel_rfl) (by kernel_rfl) (by kernel_rfl) (by kernel_rfl) (fun _ _ _ h => h) (Or.inl ⟨by rfl, ?_⟩) hS ?_
      rotate_left
      · (rintro wS ⟨⟨s0, s1, s2, s3⟩, t0, t1, t2, t3⟩; (try simp only [List.getElem_toArray, List.getElem_cons_zero, List.getElem_cons_succ]); go_simp <;> with_reducible rfl)
      simp only [Act.put, List.getElem_toArray, List.getElem_cons_zero, List.getElem_cons_succ, List.setIfInBounds_toArray, List.set_cons_zero, List.set_cons_succ]
      refine z_take (i := 6) (v := ?_) rfl (by kernel_rfl) (by kernel_rfl) (by kernel_rfl) (by kernel_rfl) (fun _ _ _ h => h) (Or.inl ⟨by rfl, ?_⟩) hS ?_
      rotate_left
      · (rintro wS ⟨⟨s0, s1, s2, s3⟩, t0, t1, t2, t3⟩; (try simp only [List.getElem_toArray, List.getElem_cons_zero, List.getElem_cons_succ]); go_simp <;> with_reducible rfl)
      simp only [Act.put, List.getElem_toArray, List.getElem_cons_zero, List.getElem_cons_succ, List.setIfInBounds_toArray, List.set_cons_zero, List.set_cons_succ]
      refine z_take (i := 7) (v := ?_) rfl (by kernel_rfl) (by kernel_rfl) (by kernel_rfl) (by kernel_rfl) (fun _ _ _ h => h) (Or.inl ⟨by rfl, ?_⟩) hS ?_
      rotate_left
      · (rintro wS ⟨⟨s0, s1, s2, s3⟩, t0, t1, t2, t3⟩; (try simp only [List.getElem_toArray, List.getElem_cons_zero, List.getElem_cons_succ]); go_simp <;> with_reducible rfl)
      simp only [Act.put, List.getElem_toArray, List.getElem_cons_zero, List.getElem_cons_succ, List.setIfInBounds_toArray, List.set_cons_zero, List.set_cons_succ]
      refine z_take (i := 8) (v := ?_) rfl (by kernel_rfl) (by kernel_rfl) (by kernel_rfl) (by kernel_rfl) (fun _ _ _ h => h) (Or.inl ⟨by rfl, ?_⟩) hS ?_
      rotate_left
      · (rintro wS ⟨⟨s0, s1, s2, s3⟩, t0, t1, t2, t3⟩; (try simp only [List.getElem_toArray, List.getElem_cons_zero, List.getElem_cons_succ]); go_simp <;> with_reducible rfl)
      simp only [Act.put, List.getElem_toArray, List.getElem_cons_zero, List.getElem_cons_succ, List.setIfInBounds_toArray, List.set_cons_zero, List.set_cons_succ]
      refine z_done (by kernel_rfl) ?_ _
      go_wp2_with fail
      go_roundw
      case rel => exact ⟨k + 1, j + 1, by go_num, by omega, rfl⟩
      case measure => simp [intOf]; omega
    · obtain rfl : k = N := by omega
      clear HX HY
      go_wp2_with fail
      refine (awake_any _).mono ?_
      rintro e w4 ⟨rfl, b4⟩
      go_wp2_with fail
      go_ret
      exact ⟨rfl, HB2.out.trans ((below_drewN' (Below.refl _ _) j).trans b4 |>.mono HB2.out.size)⟩

set_option maxRecDepth 100000 in
set_option maxHeartbeats 4000000 in
theorem lineCuts_out (A : Option Addr) (n c : Nat) (A1 : Option Addr) (n1 c1 : Nat) (A2 : Option Addr) (n2 c2 : Nat) (x : Int) (w : World) (h : 600 < n ∨ 100 < n1 ∨ 100 < n2) :
    Calls Try.prog 3 #[.slice A n c, .agg #[.slice A1 n1 c1, .slice A2 n2 c2], .int .i64 x] w fun e w' => e = .returned (.bool true) ∧ Below w.heap.size w w' := by
  have b0 := (Below.refl w.heap.size w).alloc (Nat.le_refl _) (.cells #[.slice A1 n1 c1, .slice A2 n2 c2] 24)
  have HB := Lib.hid b0
  clear b0
  by_cases h1 : (600 : Int) < (n : Int)
  · clear h
    go_enter Try.func3, Try.ntmps3
    go_wp2_with fail
    refine (awake_any _).mono ?_
    rintro e w1 ⟨rfl, b1⟩
    go_wp2_with fail
    go_ret
    exact ⟨rfl, HB.out.trans (b1.mono HB.out.size)⟩
  · by_cases h2 : (100 : Int) < (n1 : Int)
    · clear h
      go_enter Try.func3, Try.ntmps3
      go_wp2_with fail
      refine (awake_any _).mono ?_
      rintro e w1 ⟨rfl, b1⟩
      go_wp2_with fail
      go_ret
      exact ⟨rfl, HB.out.trans (b1.mono HB.out.size)⟩
    · have h3 : (100 : Int) < (n2 : Int) := by omega
      clear h
      go_enter Try.func3, Try.ntmps3
      go_wp2_with fail
      refine (awake_any _).mono ?_
      rintro e w1 ⟨rfl, b1⟩
      go_wp2_with fail
      go_ret
      exact ⟨rfl, HB.out.trans (b1.mono HB.out.size)⟩

set_option maxRecDepth 100000 in
set_option maxHeartbeats 4000000 in
theorem lineCuts_bad (A : Option Addr) (n c : Nat) (A1 : Option Addr) (n1 c1 : Nat) (A2 : Option Addr) (n2 c2 : Nat) (x : Int) (w : World) (hn : n ≤ 600) (hl1 : n1 ≤ 100) (hl2 : n2 ≤ 100) (h : x < 1 ∨ 8192 < x) :
    Calls Try.prog 3 #[.slice A n c, .agg #[.slice A1 n1 c1, .slice A2 n2 c2], .int .i64 x] w fun e w' => e = .returned (.bool true) ∧ Below w.heap.size w w' := by
  have hni : ¬ (600 : Int) < (n : Int) := by omega
  have hl1i : ¬ (100 : Int) < (n1 : Int) := by omega
  have hl2i : ¬ (100 : Int) < (n2 : Int) := by omega
  have b0 := (Below.refl w.heap.size w).alloc (Nat.le_refl _) (.cells #[.slice A1 n1 c1, .slice A2 n2 c2] 24)
  have HB := Lib.hid b0
  have HX := Lib.hid h
  have hr0 := heap_alloc_new w (.cells #[.slice A1 n1 c1, .slice A2 n2 c2] 24)
  have HR := Lib.hid hr0
  clear b0 h hr0
  go_enter Try.func3, Try.ntmps3
  go_wp2_with fail
  refine (whole_wrong A n c A1 n1 c1 x _ HX.out).mono ?_
  rintro e w1 ⟨rfl, b1⟩
  have hr1 : w1.heap[w.heap.size]? = some (.cells #[.slice A1 n1 c1, .slice A2 n2 c2] 24 (0, 0)) := (b1.block _ (by simp)).trans HR.out
  have d0 : w1.cell? ⟨w.heap.size, 0, none⟩ = some (.slice A1 n1 c1) := by rw [cell_of_row _ _ _ _ 24 (0, 0) hr1]; rfl
  have d1 : w1.cell? ⟨w.heap.size, 1, none⟩ = some (.slice A2 n2 c2) := by rw [cell_of_row _ _ _ _ 24 (0, 0) hr1]; rfl
  have HB1 := Lib.hid (HB.out.trans (b1.mono HB.out.size))
  clear b1 hr1
  go_wp2_with fail
  refine (whole_wrong A n c A2 n2 c2 x _ HX.out).mono ?_
  rintro e w2 ⟨rfl, b2⟩
  have HB2 := Lib.hid (HB1.out.trans (b2.mono HB1.out.size))
  clear b2 d0 d1
  go_wp2_with fail
  go_loopw [13] (fun vi wr => vi = .int .i64 0 ∧ wr = w2) (fun _ _ => 0)
  case atStart => exact ⟨rfl, rfl⟩
  case round =>
    obtain ⟨rfl, rfl⟩ := hrel
    go_wp2_with fail
    refine (awake_any _).mono ?_
    rintro e w4 ⟨rfl, b4⟩
    go_wp2_with fail
    go_ret
    exact ⟨rfl, HB2.out.trans (b4.mono HB2.out.size)⟩

theorem lineCuts_walk (A : Option Addr) (c : Nat) (l : List Int) (A1 : Option Addr) (c1 : Nat) (k1 : List Int) (A2 : Option Addr) (c2 : Nat) (k2 : List Int) (x : Int) (w : World) (hs : Sl w A l.length l) (ht : Tidy A c ∧ ∀ ad, A = some ad → ad.block < w.heap.size) (hc : l.length ≤ c) (hk1 : Nums w A1 k1.length k1) (hk2 : Nums w A2 k2.length k2) :
    Calls Try.prog 3 #[.slice A l.length c, .agg #[.slice A1 k1.length c1, .slice A2 k2.length c2], .int .i64 x] w fun e w' => e = .returned (.bool true) ∧ Below w.heap.size w w' := by
  by_cases h : 600 < l.length ∨ 100 < k1.length ∨ 100 < k2.length
  · exact lineCuts_out A _ c A1 _ c1 A2 _ c2 x w h
  · by_cases hx : x < 1 ∨ 8192 < x
    · exact lineCuts_bad A _ c A1 _ c1 A2 _ c2 x w (by omega) (by omega) (by omega) hx
    · obtain ⟨m, rfl⟩ : ∃ m : Nat, x = (m : Int) := ⟨x.toNat, by omega⟩
      exact lineCuts_in A _ c l A1 c1 k1 A2 c2 k2 m w hs ht.1 hc ht.2 hk1 hk2 (by omega) (by omega) (by omega) (by omega) (by omega)
end Go.Proofs.Ytnlnadpbbcjfdaa
