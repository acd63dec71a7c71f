/-
 TopLines' own code: true, whatever came in.
-/
import Derived.Test.YtngmgpmkjdacaaaGreatDoorMTopA
import Derived.Test.YtngmgpmkjdacaaaGreatDoorMAlive
set_option linter.unusedSimpArgs false
set_option linter.unusedVariables false
namespace Go.Eng
set_option maxRecDepth 100000
open Go Go.Proofs Go.RowKit Go.Shelf Go.Proofs.YtngmgpmkjdacaaaGreatDoor

/-- what TopLines asks of a world: the two errors and the powers of ten stand -/
def WT (w : World) : Prop := W w ∧ ∃ fz, w.heap[1]? = some (.cells powRow 361 fz)
theorem WT.below {w w' : World} (h : WT w) (hb : RowKit.Below w.heap.size w w') : WT w' := by
 obtain ⟨h1, fz, h2⟩ := h
 exact ⟨h1.below hb, fz, (hb.block 1 (Array.getElem?_eq_some_iff.1 h2).1).trans h2⟩
theorem alive_T {w : World} (h : WT w) : Calls Tryz.prog 4 #[] w fun e w' => e = .returned (.bool true) ∧ RowKit.Below w.heap.size w w' := by
 obtain ⟨h1, fz, h2⟩ := h
 exact (alive_any w fz h2).mono fun e w' h => ⟨h.1, belowK h.2⟩

theorem belowGrown {B : Nat} {a w w' : World} {row : Option Nat} (h : RowKit.Below B a w) (hg : w.grownBy w' row) (hr : ∀ k, row = some k → B ≤ k) (hB : B ≤ a.heap.size := by exact Nat.le_refl _) : RowKit.Below B a w' :=
 ⟨hg.os.trans h.os, hg.tape.trans h.tape, hg.output.trans h.output, Nat.le_trans h.size hg.size, fun k hk => (hg.block k (Nat.lt_of_lt_of_le hk (Nat.le_trans hB h.size)) (fun e => by have := hr k e.symm; omega)).trans (h.block k hk)⟩
set_option maxHeartbeats 4000000 in
/-- too long, or another format: alive at once -/
theorem top_out {w : World} (hT : WT w) {A0 A1 B : Option Addr} {n0 c0 n1 c1 nb cb : Nat} {fmt : Int} (hout : 1500 < n0 ∨ 1500 < n1 ∨ 300 < nb ∨ fmt = 4) :
  Calls Tryz.prog 3 #[.agg #[.slice A0 n0 c0, .slice A1 n1 c1], .slice B nb cb, .int .i64 fmt] w fun e w' => e = .returned (.bool true) ∧ RowKit.Below w.heap.size w w' := by
 have hb1 : RowKit.Below w.heap.size w (w.alloc (.cells #[.slice A0 n0 c0, .slice A1 n1 c1] 23)) := (Below.refl _ w).alloc (Nat.le_refl _) _
 have ha := alive_T (hT.below hb1)
 have HA := hidQ ha
 have HB := hidQ hb1
 clear ha hb1 hT
 by_cases h0 : 1500 < n0
 ·have h0z : (1500 : Int) < (n0 : Int) := by omega
  clear hout
  go_enter Tryz.func3, Tryz.ntmps3
  go_wp2_with (go_at_call 4; refine HA.out.mono ?_; rintro e w2 ⟨rfl, hb2⟩; have HB2 := hidQ (HB.out.trans (hb2.mono HB.out.size)); clear hb2)
  go_ret
  exact ⟨rfl, HB2.out⟩
 ·have h0z : ¬ (1500 : Int) < (n0 : Int) := by omega
  by_cases h1 : 1500 < n1
  ·have h1z : (1500 : Int) < (n1 : Int) := by omega
   clear hout
   go_enter Tryz.func3, Tryz.ntmps3
   go_wp2_with (go_at_call 4; refine HA.out.mono ?_; rintro e w2 ⟨rfl, hb2⟩; have HB2 := hidQ (HB.out.trans (hb2.mono HB.out.size)); clear hb2)
   go_ret
   exact ⟨rfl, HB2.out⟩
  ·have h1z : ¬ (1500 : Int) < (n1 : Int) := by omega
   by_cases h2 : 300 < nb
   ·have h2z : (300 : Int) < (nb : Int) := by omega
    clear hout
    go_enter Tryz.func3, Tryz.ntmps3
    go_wp2_with (go_at_call 4; refine HA.out.mono ?_; rintro e w2 ⟨rfl, hb2⟩; have HB2 := hidQ (HB.out.trans (hb2.mono HB.out.size)); clear hb2)
    go_ret
    exact ⟨rfl, HB2.out⟩
   ·have h2z : ¬ (300 : Int) < (nb : Int) := by omega
    obtain rfl : fmt = 4 := by rcases hout with h | h | h | h <;> omega
    clear hout
    go_enter Tryz.func3, Tryz.ntmps3
    go_wp2_with (go_at_call 4; refine HA.out.mono ?_; rintro e w2 ⟨rfl, hb2⟩; have HB2 := hidQ (HB.out.trans (hb2.mono HB.out.size)); clear hb2)
    go_ret
    exact ⟨rfl, HB2.out⟩

set_option maxHeartbeats 4000000 in
theorem top_in {w : World} (hT : WT w) {A0 A1 B : Option Addr} {n0 c0 n1 c1 nb cb : Nat} {fmt : Int} {t u b : List Int} (h0 : Sl w A0 n0 t) (t0 : Tidy A0 c0) (k0 : n0 ≤ c0) (h1 : Sl w A1 n1 u) (t1 : Tidy A1 c1) (k1 : n1 ≤ c1) (hA1 : ∀ ad, A1 = some ad → ad.block < w.heap.size) (h2 : Sl w B nb b) (t2 : Tidy B cb) (k2 : nb ≤ cb)
  (hn0 : n0 ≤ 1500) (hn1 : n1 ≤ 1500) (hnb : nb ≤ 300) (hf : fmt ≠ 4) :
  Calls Tryz.prog 3 #[.agg #[.slice A0 n0 c0, .slice A1 n1 c1], .slice B nb cb, .int .i64 fmt] w fun e w' => e = .returned (.bool true) ∧ RowKit.Below w.heap.size w w' := by
 have hb1 : RowKit.Below w.heap.size w (w.alloc (.cells #[.slice A0 n0 c0, .slice A1 n1 c1] 23)) := (Below.refl _ w).alloc (Nat.le_refl _) _
 have g0 := h0.below hb1
 have g1 := h1.below hb1
 have g2 := h2.below hb1
 have hr := heap_alloc_new w (.cells #[.slice A0 n0 c0, .slice A1 n1 c1] 23)
 have hT1 := hT.below hb1
 have hn0z : ¬ (1500 : Int) < (n0 : Int) := by omega
 have hn1z : ¬ (1500 : Int) < (n1 : Int) := by omega
 have hnbz : ¬ (300 : Int) < (nb : Int) := by omega
 have hfz : (fmt == 4) = false := beq_eq_false_iff_ne.2 hf
 have H0 := hidQ g0
 have H1 := hidQ g1
 have H2 := hidQ g2
 have HR := hidQ hr
 have HB := hidQ hb1
 have HT := hidQ hT1
 clear h0 h1 h2 g0 g1 g2 hr hb1 hT hT1 hf
 go_enter Tryz.func3, Tryz.ntmps3
 go_wp2
 generalize hw1 : w.alloc (.cells #[.slice A0 n0 c0, .slice A1 n1 c1] 23) = w1 at H0 H1 H2 HR HB HT ⊢
 clear hw1
 go_loopg [7] nb (fun kk s7 wr => ∃ i : Nat, s7 = .int .i64 i ∧ i ≤ nb ∧ kk = nb - i ∧ wr = w1 ∧ Hid (∀ j, j < i → b.getD j 0 ≠ 10))
 case atStart => exact ⟨0, rfl, Nat.zero_le _, rfl, rfl, hidQ (fun j hj => absurd hj (Nat.not_lt_zero _))⟩
 case round =>
  obtain ⟨i, rfl, hi, rfl, rfl, HF⟩ := hrel
  by_cases hlt : i < nb
  ·have hltz : (i : Int) < (nb : Int) := by omega
   obtain ⟨q, off, rfl, _, hcell⟩ := H2.out.2.2.resolve_left (by omega)
   have hc := hcell i hlt
   obtain ⟨z, hz⟩ : ∃ z, z = b.getD i 0 := ⟨_, rfl⟩
   rw [← hz] at hc
   have HZ := hidQ hz
   clear hcell hz
   by_cases h10 : z = 10
   ·have hz : (z == 10) = true := by rw [h10]; rfl
    have HA := hidQ (alive_T HT.out)
    clear h10
    go_wp2_with (go_at_call 4; refine HA.out.mono ?_; rintro e w2 ⟨rfl, hb2⟩; have HB2 := hidQ (HB.out.trans (hb2.mono HB.out.size)); clear hb2)
    go_ret
    exact ⟨rfl, HB2.out⟩
   ·have hz : (z == 10) = false := beq_eq_false_iff_ne.2 h10
    have HF2 := hidQ (fun (j : Nat) (hj : j < i + 1) => (show b.getD j 0 ≠ 10 from by
     rcases Nat.lt_or_ge j i with h | h
     ·exact HF.out j h
     ·obtain rfl : j = i := by omega
      rw [← HZ.out]; exact h10))
    clear h10
    go_wp2
    go_roundg (nb - (i + 1))
    ·exact ⟨i + 1, by rw [Int.natCast_add]; rfl, by omega, rfl, rfl, HF2⟩
    all_goals omega
  ·have hge : ¬ (i : Int) < (nb : Int) := by omega
   obtain rfl : i = nb := by omega
   have hfree : ∀ z ∈ b, z ≠ 10 := fun z hz => by
    obtain ⟨j, hj, rfl⟩ := List.getElem_of_mem hz
    have hjn : j < i := by rw [← H2.out.1]; exact hj
    have := HF.out j hjn
    rwa [getD_lt hj] at this
   have HFree := hidQ hfree
   clear hfree HF
   have hbE : RowKit.Below wr.heap.size wr (wr.alloc (.cells #[] 5)) := (Below.refl _ wr).alloc (Nat.le_refl _) _
   have rE := (hbE.block w.heap.size (Array.getElem?_eq_some_iff.1 HR.out).1).trans HR.out
   have e0 : (wr.alloc (.cells #[] 5)).cell? ⟨w.heap.size, 0, none⟩ = some (.slice A0 n0 c0) := by rw [cell_of_row _ _ _ _ _ _ rE]; rfl
   have HBE := hidQ hbE
   clear hbE rE
   go_wp2_with (first
    | (at_builtin; refine append_bytes _ rfl _ _ rfl wr.heap.size (.slice (some ⟨wr.heap.size, 0, none⟩) 0 0) 0 [] rfl (ownB_made wr wr.heap.size (Nat.le_refl _)) A0 n0 c0 t rfl (H0.out.below HBE.out) t0.nil (by omega) (by simp) ?_; intro v1 w2 hown1 hg1 hat1; rw [Nat.zero_add, List.nil_append] at hown1; have B1 := hidQ (belowGrown HBE.out hg1 (fun k hk => by simp [Value.ownBlock] at hk; omega)); have G1 := hidQ (And.intro hown1 (And.intro hg1 hat1)); clear hown1 hg1 hat1 e0)
    | (at_builtin; refine append_bytes _ rfl _ _ rfl wr.heap.size v1 n0 t rfl (G1.out.1.kept ((Below.refl _ _).alloc (Nat.le_refl _) _)) (some ⟨w2.heap.size, 0, none⟩) 1 1 [10] rfl (sl_made' w2 [10] (by intro z hz; simp at hz; omega) _ rfl (0, 0)) (fun e => by cases e) (by omega) (by have := G1.out.2.1.size; simp at this ⊢; omega) ?_; intro v2 w3 hown2 hg2 hat2; have B2 := hidQ (belowGrown (B1.out.alloc B1.out.size _) hg2 (fun k hk => (World.ownsRow.lt G1.out.1.2.2 k hk).1)); obtain ⟨q2, cap2, rfl, m1, m2, m3, m4⟩ := hown2.form (by omega); have G2 := hidQ (And.intro hown2 (And.intro hg2 (And.intro hat2 (And.intro m1 (And.intro m2 m4))))); clear hown2 hg2 hat2 m1 m2 m4)
    | (at_builtin; refine append_bytes _ rfl _ _ rfl w3.heap.size (.slice (some ⟨w3.heap.size, 0, none⟩) 0 0) 0 [] rfl (ownB_made w3 w3.heap.size (Nat.le_refl _)) (some ⟨q2, 0, none⟩) (n0 + 1) cap2 (t ++ [10]) rfl (G2.out.2.2.2.2.2.below ((Below.refl _ _).alloc (Nat.le_refl _) _)) (fun e => by cases e) (by omega) (by simp) ?_; intro v3 w4 hown3 hg3 hat3; rw [Nat.zero_add, List.nil_append] at hown3; have B3 := hidQ (belowGrown (B2.out.alloc B2.out.size _) hg3 (fun k hk => by have := B2.out.size; simp [Value.ownBlock] at hk; omega)); have C3 := hidQ (belowGrown (B := w3.heap.size) ((Below.refl _ w3).alloc (Nat.le_refl _) _) hg3 (fun k hk => by simp [Value.ownBlock] at hk; omega)); obtain ⟨q3, cap3, rfl, m1, m2, m5, m4⟩ := hown3.form (by omega); have G3 := hidQ (And.intro hown3 (And.intro hg3 (And.intro hat3 (And.intro m1 (And.intro m2 m4))))); clear hown3 hg3 hat3 m1 m2 m4)
    | (at_builtin; refine append_bytes _ rfl _ _ rfl w3.heap.size (.slice (some ⟨q3, 0, none⟩) (n0 + 1) cap3) (n0 + 1) (t ++ [10]) rfl G3.out.1 B i cb b rfl (H2.out.below B3.out) t2.nil (by omega) (by have := G3.out.2.1.size; simp at this ⊢; omega) ?_; intro v4 w5 hown4 hg4 hat4; have B4 := hidQ (belowGrown B3.out hg4 (fun k hk => by have := B2.out.size; have := (World.ownsRow.lt G3.out.1.2.2 k hk).1; omega)); have C4 := hidQ (belowGrown C3.out hg4 (fun k hk => (World.ownsRow.lt G3.out.1.2.2 k hk).1)); obtain ⟨q4, cap4, rfl, m1, m2, m6, m4⟩ := hown4.form (by omega); have G4 := hidQ (And.intro hown4 (And.intro hg4 (And.intro hat4 (And.intro m1 (And.intro m2 m4))))); clear hown4 hg4 hat4 m1 m2 m4)
    | (at_builtin; refine append_bytes _ rfl _ _ rfl w3.heap.size (.slice (some ⟨q4, 0, none⟩) (n0 + 1 + i) cap4) (n0 + 1 + i) (t ++ [10] ++ b) rfl (G4.out.1.kept ((Below.refl _ _).alloc (Nat.le_refl _) _)) (some ⟨w5.heap.size, 0, none⟩) 1 1 [10] rfl (sl_made' w5 [10] (by intro z hz; simp at hz; omega) _ rfl (0, 0)) (fun e => by cases e) (by omega) (by have := G3.out.2.1.size; have := G4.out.2.1.size; simp at *; omega) ?_; intro v5 w6 hown5 hg5 hat5; have B5 := hidQ (belowGrown (B4.out.alloc B4.out.size _) hg5 (fun k hk => by have := B2.out.size; have := (World.ownsRow.lt G4.out.1.2.2 k hk).1; omega)); have C5 := hidQ (belowGrown (C4.out.alloc C4.out.size _) hg5 (fun k hk => (World.ownsRow.lt G4.out.1.2.2 k hk).1)); obtain ⟨q5, cap5, rfl, m1, m2, m7, m4⟩ := hown5.form (by omega); have G5 := hidQ (And.intro hown5 (And.intro hg5 (And.intro hat5 (And.intro m1 (And.intro m2 m4))))); clear hown5 hg5 hat5 m1 m2 m4; have e1 : w6.cell? ⟨w.heap.size, 1, none⟩ = some (.slice A1 n1 c1) := (by rw [cell_of_row _ _ _ _ _ _ ((B5.out.block w.heap.size (Array.getElem?_eq_some_iff.1 HR.out).1).trans HR.out)]; rfl))
    | (at_builtin; refine append_bytes _ rfl _ _ rfl w3.heap.size (.slice (some ⟨q5, 0, none⟩) (n0 + 1 + i + 1) cap5) (n0 + 1 + i + 1) (t ++ [10] ++ b ++ [10]) rfl G5.out.1 A1 n1 c1 u rfl (H1.out.below B5.out) t1.nil (by omega) (by have := G3.out.2.1.size; have := G4.out.2.1.size; have := G5.out.2.1.size; simp at *; omega) ?_; intro v6 w7 hown6 hg6 hat6; have B6 := hidQ (belowGrown B5.out hg6 (fun k hk => by have := B2.out.size; have := (World.ownsRow.lt G5.out.1.2.2 k hk).1; omega)); have C6 := hidQ (belowGrown C5.out hg6 (fun k hk => (World.ownsRow.lt G5.out.1.2.2 k hk).1)); obtain ⟨q6, cap6, rfl, m1, m2, m8, m4⟩ := hown6.form (by omega); have G6 := hidQ (And.intro hown6 (And.intro hg6 (And.intro hat6 (And.intro m1 (And.intro m2 m4))))); clear hown6 hg6 hat6 m1 m2 m4 e1))
   have hrow7 := (B6.out.block w.heap.size (Array.getElem?_eq_some_iff.1 HR.out).1).trans HR.out
   have HR7 := hidQ hrow7
   have HT7 := hidQ (HT.out.below B6.out)
   have HB7 := hidQ (HB.out.trans (B6.out.mono HB.out.size))
   have S2 := hidQ (G2.out.2.2.2.2.2.below C6.out)
   clear hrow7
   by_cases hf : fmt = 1 ∨ fmt = 2 ∨ fmt = 3
   ·have HF3 := hidQ hf
    clear hf
    have S6 := hidQ G6.out.2.2.2.2.2
    have U7 := hidQ (H1.out.below B6.out)
    have hq2 : q2 < w7.heap.size := Nat.lt_of_lt_of_le G2.out.2.2.2.2.1 C6.out.size
    have hq6 : q6 < w7.heap.size := G6.out.2.2.2.2.1
    have HQQ := hidQ (And.intro hq2 hq6)
    clear hq2 hq6
    refine (swhole_any HF3.out HT7.out.1 S2.out (.inr ⟨q2, 0, rfl⟩) (by omega) (by omega) (fun ad e => by cases e; exact HQQ.out.1)).mono ?_
    rintro e w8 ⟨vx, rfl, ox, hb8⟩
    obtain ⟨xs, hxs⟩ : ∃ xs, xs = evsAll fmt (t ++ [10]) := ⟨_, rfl⟩
    rw [← hxs] at ox
    have lx : xs.length ≤ 1502 := by
     have := evs_length fmt (t ++ [10])
     rw [← hxs, List.length_append, H0.out.1] at this
     simp only [List.length_singleton] at this
     omega
    obtain ⟨Ax, nx, cx, rfl, ex, kx, _, _⟩ := ox.form
    rw [← ex] at lx
    have e8 : w8.cell? ⟨w.heap.size, 1, none⟩ = some (.slice A1 n1 c1) := by rw [cell_of_row _ _ _ _ _ _ ((hb8.block _ (Array.getElem?_eq_some_iff.1 HR7.out).1).trans HR7.out)]; rfl
    have HB8 := hidQ hb8
    have HX := hidQ ox.sl
    have HXE := hidQ (And.intro hxs ex)
    clear hb8 ox hxs ex
    go_wp2_with fail
    refine (swhole_any HF3.out (HT7.out.below HB8.out).1 (U7.out.below HB8.out) t1 k1 (by omega) (fun ad e => ?_)).mono ?_
    ·have q1 := hA1 ad e
     have q2 := HB.out.size
     have q3 := B6.out.size
     have q4 := HB8.out.size
     omega
    rintro e w9 ⟨vy, rfl, oy, hb9⟩
    obtain ⟨ys, hys⟩ : ∃ ys, ys = evsAll fmt u := ⟨_, rfl⟩
    rw [← hys] at oy
    have ly : ys.length ≤ 1502 := by
     have := evs_length fmt u
     rw [← hys, H1.out.1] at this
     omega
    obtain ⟨Ay, ny, cy, rfl, ey, ky, _, _⟩ := oy.form
    rw [← ey] at ly
    have HB9 := hidQ (HB8.out.trans (hb9.mono HB8.out.size))
    have HX9 := hidQ (HX.out.below hb9)
    have HY := hidQ oy.sl
    have HYE := hidQ (And.intro hys ey)
    clear hb9 oy e8 hys ey
    go_wp2_with fail
    refine (swhole_any HF3.out (HT7.out.below HB9.out).1 (S6.out.below HB9.out) (.inr ⟨q6, 0, rfl⟩) (by omega) (by omega) (fun ad e => by cases e; exact Nat.lt_of_lt_of_le HQQ.out.2 HB9.out.size)).mono ?_
    rintro e w10 ⟨vz, rfl, oz, hb10⟩
    obtain ⟨zs, hzs⟩ : ∃ zs, zs = evsAll fmt (t ++ [10] ++ b ++ [10] ++ u) := ⟨_, rfl⟩
    rw [← hzs] at oz
    obtain ⟨Az, nz, cz, rfl, ez, kz, mz, fz⟩ := oz.form
    obtain ⟨one, hone⟩ : ∃ o, o = oneEv fmt (t.length + 1) b := ⟨_, rfl⟩
    rw [evs_between fmt t b u HFree.out (by rw [H0.out.1, H1.out.1, H2.out.1]; omega), ← HXE.out.1, ← HYE.out.1, ← hone, H0.out.1, H2.out.1] at hzs
    have hoi := oneEv_is fmt (t.length + 1) b
    rw [← hone, H0.out.1, H2.out.1] at hoi
    obtain ⟨o1, o2, o3⟩ := hoi
    obtain ⟨okk, oa, ob, om, oc, op⟩ := one
    simp only at o1 o2 o3
    subst o1 o2
    have hk3 : (okk == 3) = false := beq_eq_false_iff_ne.2 (by omega)
    obtain ⟨qz, ofz, rfl⟩ := fz (by rw [ez, hzs]; simp; omega)
    have lz : nz = nx + 1 + ny := by
     rw [ez, hzs, HXE.out.2, HYE.out.2, List.length_append, List.length_cons, List.length_map]
     omega
    have HB10 := hidQ (HB9.out.trans (hb10.mono HB9.out.size))
    have HX10 := hidQ (HX9.out.below hb10)
    have HY10 := hidQ (HY.out.below hb10)
    have hz10 := oz.sl
    subst lz
    have HZ := hidQ hz10
    have HZE := hidQ hzs
    clear hb10 oz hzs ez fz HX HX9 HY hz10 hone o3
    have hzx : nx ≤ cz := by omega
    go_wp2_with fail
    refine (event_Equal (cut_front HZ.out HZE.out HXE.out.2 (by omega) _) HX10.out (by rw [← HXE.out.2]; omega)).mono ?_
    rintro e w11 ⟨rfl, hb11⟩
    have HB11 := hidQ (HB10.out.trans (hb11.mono HB10.out.size))
    have HY11 := hidQ (HY10.out.below hb11)
    have HZ11 := hidQ (HZ.out.below hb11)
    clear hb11 HX10 HY10 HZ
    obtain ⟨bo, oo, M, eo, hbl, hM, hc⟩ := HZ11.out.at (i := nx) (ev := ⟨okk, ((n0 + 1 : Nat) : Int), ((n0 + 1 + i + 1 : Nat) : Int), om, oc, op⟩) (by rw [HZE.out, HXE.out.2, List.getElem?_append_right (Nat.le_refl _), Nat.sub_self]; rfl)
    cases eo
    obtain ⟨MA, Mn, Mc, rfl⟩ := hM.slice
    have d0 := hc 0 _ rfl
    have d1 := hc 1 _ rfl
    have d2 := hc 2 _ rfl
    have d3 := hc 3 _ rfl
    have d4 := hc 4 _ rfl
    have d5 := hc 5 _ rfl
    simp only [← Nat.add_assoc, Nat.add_zero, evCells] at d0 d1 d2 d3 d4 d5
    clear hc hM hbl
    go_wp2_with fail
    generalize hwL : w11.alloc (.cells #[.int .i64 okk, .int .i64 ((n0 : Int) + 1), .int .i64 ((n0 : Int) + 1 + (i : Int) + 1), .slice MA Mn Mc, .int .i64 oc, .int .i64 op] 32) = wL
    have hbL : RowKit.Below w11.heap.size w11 wL := by rw [← hwL]; exact (Below.refl _ w11).alloc (Nat.le_refl _) _
    have HBL := hidQ (HB11.out.trans (hbL.mono HB11.out.size))
    have HYL := hidQ (HY11.out.below hbL)
    have HZL := hidQ (HZ11.out.below hbL)
    clear hwL hbL d0 d1 d2 d3 d4 d5 HB11 HY11 HZ11
    go_loopg [18] ny (fun kk s18 wr => ∃ j : Nat, s18 = .int .i64 j ∧ j ≤ ny ∧ kk = ny - j ∧ Hid (RowKit.Below wL.heap.size wL wr))
    case atStart => exact ⟨0, rfl, Nat.zero_le _, rfl, hidQ (Below.refl _ _)⟩
    case round =>
     obtain ⟨j, rfl, hj, rfl, HBr⟩ := hrel
     by_cases hlt : j < ny
     ·have hltz : (j : Int) < (ny : Int) := by omega
      obtain ⟨ev, hev⟩ : ∃ ev, ys[j]? = some ev := ⟨_, List.getElem?_eq_getElem (by rw [← HYE.out.2]; exact hlt)⟩
      have hbd := evs_bound fmt u ev (by rw [← HYE.out.1]; exact List.mem_of_getElem? hev)
      rw [H1.out.1] at hbd
      obtain ⟨b0, b1, b2, b3⟩ := hbd
      have HZr := hidQ (HZL.out.below HBr.out)
      have hat : zs[nx + 1 + j]? = some (evLater (n0 + 1 + i + 1) ev) := by
       rw [HZE.out, HXE.out.2, List.getElem?_append_right (by omega), show xs.length + 1 + j - xs.length = j + 1 by omega, List.getElem?_cons_succ, List.getElem?_map, hev]
       rfl
      have HAT := hidQ hat
      obtain ⟨bo, oo, M, rfl, hbl, hM, hc⟩ := (HYL.out.below HBr.out).at hev
      obtain ⟨ek, ea, eb, em, ec, ep⟩ := ev
      obtain ⟨MA, Mn, Mc, rfl⟩ := hM.slice
      have d0 := hc 0 _ rfl
      have d1 := hc 1 _ rfl
      have d2 := hc 2 _ rfl
      have d3 := hc 3 _ rfl
      have d4 := hc 4 _ rfl
      have d5 := hc 5 _ rfl
      simp only [← Nat.add_assoc, Nat.add_zero, evCells] at d0 d1 d2 d3 d4 d5
      simp only at b0 b1 b2 b3
      have HM := hidQ hM
      clear hc hM hat hbl hev
      have hK : (n0 : Int) + 1 + (i : Int) + 1 ≤ 1802 := by omega
      by_cases hk : ek = 1
      ·subst hk
       go_wp2_with fail
       generalize gA : ea + ((n0 : Int) + 1 + (i : Int) + 1) = fa
       generalize gB : eb + ((n0 : Int) + 1 + (i : Int) + 1) = fb
       have hat : zs[nx + 1 + j]? = some ⟨1, fa, fb, em, ec, ep⟩ := by
        rw [HAT.out, ← gA, ← gB]
        rfl
       generalize ep = fp at hat ⊢
       have hrow := heap_alloc_new wr (.cells #[.int .i64 1, .int .i64 fa, .int .i64 fb, .slice MA Mn Mc, .int .i64 ec, .int .i64 fp] 32)
       have hbv : RowKit.Below wr.heap.size wr (wr.alloc (.cells #[.int .i64 1, .int .i64 fa, .int .i64 fb, .slice MA Mn Mc, .int .i64 ec, .int .i64 fp] 32)) := (Below.refl _ wr).alloc (Nat.le_refl _) _
       generalize wr.alloc (.cells #[.int .i64 1, .int .i64 fa, .int .i64 fb, .slice MA Mn Mc, .int .i64 ec, .int .i64 fp] 32) = wv at hrow hbv ⊢
       have s0 : wv.cell? ⟨wr.heap.size, 0, none⟩ = some (.int .i64 1) := by rw [cell_of_row _ _ _ _ _ _ hrow]; rfl
       have s1 : wv.cell? ⟨wr.heap.size, 1, none⟩ = some (.int .i64 fa) := by rw [cell_of_row _ _ _ _ _ _ hrow]; rfl
       have s2 : wv.cell? ⟨wr.heap.size, 2, none⟩ = some (.int .i64 fb) := by rw [cell_of_row _ _ _ _ _ _ hrow]; rfl
       have s3 : wv.cell? ⟨wr.heap.size, 3, none⟩ = some (.slice MA Mn Mc) := by rw [cell_of_row _ _ _ _ _ _ hrow]; rfl
       have s4 : wv.cell? ⟨wr.heap.size, 4, none⟩ = some (.int .i64 ec) := by rw [cell_of_row _ _ _ _ _ _ hrow]; rfl
       have s5 : wv.cell? ⟨wr.heap.size, 5, none⟩ = some (.int .i64 fp) := by rw [cell_of_row _ _ _ _ _ _ hrow]; rfl
       have HBV := hidQ hbv
       have HAT2 := hidQ hat
       clear hrow hbv hat gA gB d0 d1 d2 d3 d4 d5
       refine region_plain (fun Z => Z.cell? ⟨wr.heap.size, 0, none⟩ = some (.int .i64 1) ∧ Z.cell? ⟨wr.heap.size, 1, none⟩ = some (.int .i64 fa) ∧ Z.cell? ⟨wr.heap.size, 2, none⟩ = some (.int .i64 fb) ∧ Z.cell? ⟨wr.heap.size, 3, none⟩ = some (.slice MA Mn Mc) ∧ Z.cell? ⟨wr.heap.size, 4, none⟩ = some (.int .i64 ec) ∧ Z.cell? ⟨wr.heap.size, 5, none⟩ = some (.int .i64 fp)) 99 (by kernel_rfl) ?_
       have hS : wv.drew.cell? ⟨wr.heap.size, 0, none⟩ = some (.int .i64 1) ∧ wv.drew.cell? ⟨wr.heap.size, 1, none⟩ = some (.int .i64 fa) ∧ wv.drew.cell? ⟨wr.heap.size, 2, none⟩ = some (.int .i64 fb) ∧ wv.drew.cell? ⟨wr.heap.size, 3, none⟩ = some (.slice MA Mn Mc) ∧ wv.drew.cell? ⟨wr.heap.size, 4, none⟩ = some (.int .i64 ec) ∧ wv.drew.cell? ⟨wr.heap.size, 5, none⟩ = some (.int .i64 fp) := ⟨s0, s1, s2, s3, s4, s5⟩
       clear s0 s1 s2 s3 s4 s5
       have hw1 : IntKind.i64.wrap ((nx : Int) + 1) = (nx : Int) + 1 := by rw [IntKind.wrap_i64]; omega
       have hw2 : IntKind.i64.wrap ((nx : Int) + 2) = (nx : Int) + 2 := by rw [IntKind.wrap_i64]; omega
       have hw3 : IntKind.i64.wrap ((nx : Int) + 1 + (j : Int)) = (nx : Int) + 1 + (j : Int) := by rw [IntKind.wrap_i64]; omega
       have hw4 : IntKind.i64.wrap ((nx : Int) + 2 + (j : Int)) = (nx : Int) + 2 + (j : Int) := by rw [IntKind.wrap_i64]; omega
       refine z_t 0 (v := ?_) hS ?_ ?_
       rotate_left
       ·(rintro wS ⟨s0, s1, s2, s3, s4, s5⟩; go_simp <;> with_reducible rfl)
       simp only [Act.put, List.setIfInBounds_toArray, List.set_cons_zero, List.set_cons_succ]
       refine z_t 2 (v := ?_) hS ?_ ?_
       rotate_left
       ·(rintro wS ⟨s0, s1, s2, s3, s4, s5⟩; go_simp <;> with_reducible rfl)
       simp only [Act.put, List.setIfInBounds_toArray, List.set_cons_zero, List.set_cons_succ]
       refine z_t 3 (v := ?_) hS ?_ ?_
       rotate_left
       ·(rintro wS ⟨s0, s1, s2, s3, s4, s5⟩; go_simp <;> with_reducible rfl)
       simp only [Act.put, List.setIfInBounds_toArray, List.set_cons_zero, List.set_cons_succ]
       refine z_t 4 (v := ?_) hS ?_ ?_
       rotate_left
       ·(rintro wS ⟨s0, s1, s2, s3, s4, s5⟩; go_simp <;> with_reducible rfl)
       simp only [Act.put, List.setIfInBounds_toArray, List.set_cons_zero, List.set_cons_succ]
       refine z_t 5 (v := ?_) hS ?_ ?_
       rotate_left
       ·(rintro wS ⟨s0, s1, s2, s3, s4, s5⟩; go_simp <;> with_reducible rfl)
       simp only [Act.put, List.setIfInBounds_toArray, List.set_cons_zero, List.set_cons_succ]
       refine z_t 6 (v := ?_) hS ?_ ?_
       rotate_left
       ·(rintro wS ⟨s0, s1, s2, s3, s4, s5⟩; go_simp <;> with_reducible rfl)
       simp only [Act.put, List.setIfInBounds_toArray, List.set_cons_zero, List.set_cons_succ]
       refine z_t 7 (v := ?_) hS ?_ ?_
       rotate_left
       ·(rintro wS ⟨s0, s1, s2, s3, s4, s5⟩; go_simp <;> with_reducible rfl)
       simp only [Act.put, List.setIfInBounds_toArray, List.set_cons_zero, List.set_cons_succ]
       refine z_t 8 (v := ?_) hS ?_ ?_
       rotate_left
       ·(rintro wS ⟨s0, s1, s2, s3, s4, s5⟩; go_simp <;> with_reducible rfl)
       simp only [Act.put, List.setIfInBounds_toArray, List.set_cons_zero, List.set_cons_succ]
       refine z_t 9 (v := ?_) hS ?_ ?_
       rotate_left
       ·(rintro wS ⟨s0, s1, s2, s3, s4, s5⟩; go_simp <;> with_reducible rfl)
       simp only [Act.put, List.setIfInBounds_toArray, List.set_cons_zero, List.set_cons_succ]
       refine z_t 10 (v := ?_) hS ?_ ?_
       rotate_left
       ·(rintro wS ⟨s0, s1, s2, s3, s4, s5⟩; go_simp <;> with_reducible rfl)
       simp only [Act.put, List.setIfInBounds_toArray, List.set_cons_zero, List.set_cons_succ]
       refine z_t 11 (v := ?_) hS ?_ ?_
       rotate_left
       ·(rintro wS ⟨s0, s1, s2, s3, s4, s5⟩; go_simp <;> with_reducible rfl)
       simp only [Act.put, List.setIfInBounds_toArray, List.set_cons_zero, List.set_cons_succ]
       refine z_t 12 (v := ?_) hS ?_ ?_
       rotate_left
       ·(rintro wS ⟨s0, s1, s2, s3, s4, s5⟩; go_simp <;> with_reducible rfl)
       simp only [Act.put, List.setIfInBounds_toArray, List.set_cons_zero, List.set_cons_succ]
       refine z_take (i := 13) (v := .slice (some ⟨qz, ofz + (nx + 1 + j) * 6, none⟩) 1 (cz - (nx + 1 + j))) rfl (by kernel_rfl) (by kernel_rfl) (by kernel_rfl) (by kernel_rfl) (fun _ _ _ h => h) (Or.inl ⟨by rfl, ?_⟩) hS ?_
       ·rintro wS _
        try simp only [List.getElem_toArray, List.getElem_cons_zero, List.getElem_cons_succ]
        go_simp
        rw [if_pos (by omega), if_pos (by omega), show ((nx : Int) + 1 + (j : Int)).toNat = nx + 1 + j by omega, show ((nx : Int) + 2 + (j : Int)).toNat = nx + 2 + j by omega, if_neg (by omega), show nx + 2 + j - (nx + 1 + j) = 1 by omega]
       simp only [Act.put, List.getElem_toArray, List.getElem_cons_zero, List.getElem_cons_succ, List.setIfInBounds_toArray, List.set_cons_zero, List.set_cons_succ]
       have hfresh := (ownE_new (base := 0) wv ⟨1, fa, fb, em, ec, fp⟩ (.slice MA Mn Mc) (HM.out.km (Km.below HBV.out)) (Nat.zero_le _)).sl
       have hlt0 : wr.heap.size < wv.heap.size := lt_of_cell (w := wv) hS.1
       have hal := (Below.refl wv.heap.size wv).alloc (Nat.le_refl _) (.cells #[.int .i64 1, .int .i64 fa, .int .i64 fb, .slice MA Mn Mc, .int .i64 ec, .int .i64 fp] 32)
       have HBA := hidQ (HBV.out.trans (hal.mono HBV.out.size))
       have hS2 : (wv.alloc (.cells #[.int .i64 1, .int .i64 fa, .int .i64 fb, .slice MA Mn Mc, .int .i64 ec, .int .i64 fp] 32)).cell? ⟨wr.heap.size, 0, none⟩ = some (.int .i64 1) ∧ (wv.alloc (.cells #[.int .i64 1, .int .i64 fa, .int .i64 fb, .slice MA Mn Mc, .int .i64 ec, .int .i64 fp] 32)).cell? ⟨wr.heap.size, 1, none⟩ = some (.int .i64 fa) ∧ (wv.alloc (.cells #[.int .i64 1, .int .i64 fa, .int .i64 fb, .slice MA Mn Mc, .int .i64 ec, .int .i64 fp] 32)).cell? ⟨wr.heap.size, 2, none⟩ = some (.int .i64 fb) ∧ (wv.alloc (.cells #[.int .i64 1, .int .i64 fa, .int .i64 fb, .slice MA Mn Mc, .int .i64 ec, .int .i64 fp] 32)).cell? ⟨wr.heap.size, 3, none⟩ = some (.slice MA Mn Mc) ∧ (wv.alloc (.cells #[.int .i64 1, .int .i64 fa, .int .i64 fb, .slice MA Mn Mc, .int .i64 ec, .int .i64 fp] 32)).cell? ⟨wr.heap.size, 4, none⟩ = some (.int .i64 ec) ∧ (wv.alloc (.cells #[.int .i64 1, .int .i64 fa, .int .i64 fb, .slice MA Mn Mc, .int .i64 ec, .int .i64 fp] 32)).cell? ⟨wr.heap.size, 5, none⟩ = some (.int .i64 fp) := ⟨(hal.cell (p := ⟨wr.heap.size, 0, none⟩) hlt0).trans hS.1, (hal.cell (p := ⟨wr.heap.size, 1, none⟩) hlt0).trans hS.2.1, (hal.cell (p := ⟨wr.heap.size, 2, none⟩) hlt0).trans hS.2.2.1, (hal.cell (p := ⟨wr.heap.size, 3, none⟩) hlt0).trans hS.2.2.2.1, (hal.cell (p := ⟨wr.heap.size, 4, none⟩) hlt0).trans hS.2.2.2.2.1, (hal.cell (p := ⟨wr.heap.size, 5, none⟩) hlt0).trans hS.2.2.2.2.2⟩
       refine z_one (i := 1) (by kernel_rfl) rfl rfl ?_
       go_simp
       simp only [evCells] at hfresh
       generalize wv.alloc (.cells #[.int .i64 1, .int .i64 fa, .int .i64 fb, .slice MA Mn Mc, .int .i64 ec, .int .i64 fp] 32) = wa at hfresh hal HBA hS2 ⊢
       have hlt1 : wr.heap.size < wa.heap.size := lt_of_cell (w := wa) hS2.1
       have HFR := hidQ hfresh
       have HZA := hidQ (HZr.out.below HBA.out)
       have hS := hS2
       clear hfresh hS2 hal hlt0
       refine z_one (i := 14) (by kernel_rfl) rfl rfl ?_
       go_simp
       refine (event_Equal (HFR.out.below (below_drewN' (Below.refl _ wa) 1)) ((cut_one HZA.out HAT2.out (by omega) _).below (below_drewN' (Below.refl _ wa) 1)) (by simp)).mono ?_
       rintro e w2 ⟨rfl, hb2⟩
       have hb3 : RowKit.Below wa.heap.size wa w2 := (below_drewN' (Below.refl _ wa) 1).trans hb2
       have HB3 := hidQ (HBA.out.trans (hb3.mono HBA.out.size))
       have hS3 : w2.cell? ⟨wr.heap.size, 0, none⟩ = some (.int .i64 1) ∧ w2.cell? ⟨wr.heap.size, 1, none⟩ = some (.int .i64 fa) ∧ w2.cell? ⟨wr.heap.size, 2, none⟩ = some (.int .i64 fb) ∧ w2.cell? ⟨wr.heap.size, 3, none⟩ = some (.slice MA Mn Mc) ∧ w2.cell? ⟨wr.heap.size, 4, none⟩ = some (.int .i64 ec) ∧ w2.cell? ⟨wr.heap.size, 5, none⟩ = some (.int .i64 fp) := ⟨(hb3.cell (p := ⟨wr.heap.size, 0, none⟩) hlt1).trans hS.1, (hb3.cell (p := ⟨wr.heap.size, 1, none⟩) hlt1).trans hS.2.1, (hb3.cell (p := ⟨wr.heap.size, 2, none⟩) hlt1).trans hS.2.2.1, (hb3.cell (p := ⟨wr.heap.size, 3, none⟩) hlt1).trans hS.2.2.2.1, (hb3.cell (p := ⟨wr.heap.size, 4, none⟩) hlt1).trans hS.2.2.2.2.1, (hb3.cell (p := ⟨wr.heap.size, 5, none⟩) hlt1).trans hS.2.2.2.2.2⟩
       clear hS hb2 hb3 hlt1
       refine ⟨hS3, ?_⟩
       have hS := hS3
       clear hS3
       refine z_t 15 (v := ?_) hS ?_ ?_
       rotate_left
       ·(rintro wS ⟨s0, s1, s2, s3, s4, s5⟩; go_simp <;> with_reducible rfl)
       simp only [Act.put, List.setIfInBounds_toArray, List.set_cons_zero, List.set_cons_succ]
       refine z_done (by kernel_rfl) ?_ _
       clear hS
       go_wp2_with fail
       go_roundg (ny - (j + 1))
       ·exact ⟨j + 1, by rw [Int.natCast_add]; rfl, by omega, rfl, hidQ (HBr.out.trans (HB3.out.mono HBr.out.size))⟩
       all_goals omega
      ·have hkz : (ek == 1) = false := beq_eq_false_iff_ne.2 hk
       go_wp2_with fail
       generalize gA : ea + ((n0 : Int) + 1 + (i : Int) + 1) = fa
       generalize gB : eb + ((n0 : Int) + 1 + (i : Int) + 1) = fb
       generalize gP : wrap64 (ep + ((n0 : Int) + 1 + (i : Int) + 1)) = fp
       have hat : zs[nx + 1 + j]? = some ⟨ek, fa, fb, em, ec, fp⟩ := by
        rw [HAT.out, ← gA, ← gB, ← gP]
        unfold evLater
        rw [if_neg hk]
        refine congrArg some ?_
        rw [EV.mk.injEq]
        refine ⟨rfl, rfl, rfl, rfl, rfl, ?_⟩
        refine (IntKind.wrap_i64 (ep + ((n0 + 1 + i + 1 : Nat) : Int))).trans ?_
        unfold wrap64
        omega
       clear gP hk
       have hrow := heap_alloc_new wr (.cells #[.int .i64 ek, .int .i64 fa, .int .i64 fb, .slice MA Mn Mc, .int .i64 ec, .int .i64 fp] 32)
       have hbv : RowKit.Below wr.heap.size wr (wr.alloc (.cells #[.int .i64 ek, .int .i64 fa, .int .i64 fb, .slice MA Mn Mc, .int .i64 ec, .int .i64 fp] 32)) := (Below.refl _ wr).alloc (Nat.le_refl _) _
       generalize wr.alloc (.cells #[.int .i64 ek, .int .i64 fa, .int .i64 fb, .slice MA Mn Mc, .int .i64 ec, .int .i64 fp] 32) = wv at hrow hbv ⊢
       have s0 : wv.cell? ⟨wr.heap.size, 0, none⟩ = some (.int .i64 ek) := by rw [cell_of_row _ _ _ _ _ _ hrow]; rfl
       have s1 : wv.cell? ⟨wr.heap.size, 1, none⟩ = some (.int .i64 fa) := by rw [cell_of_row _ _ _ _ _ _ hrow]; rfl
       have s2 : wv.cell? ⟨wr.heap.size, 2, none⟩ = some (.int .i64 fb) := by rw [cell_of_row _ _ _ _ _ _ hrow]; rfl
       have s3 : wv.cell? ⟨wr.heap.size, 3, none⟩ = some (.slice MA Mn Mc) := by rw [cell_of_row _ _ _ _ _ _ hrow]; rfl
       have s4 : wv.cell? ⟨wr.heap.size, 4, none⟩ = some (.int .i64 ec) := by rw [cell_of_row _ _ _ _ _ _ hrow]; rfl
       have s5 : wv.cell? ⟨wr.heap.size, 5, none⟩ = some (.int .i64 fp) := by rw [cell_of_row _ _ _ _ _ _ hrow]; rfl
       have HBV := hidQ hbv
       have HAT2 := hidQ hat
       clear hrow hbv hat gA gB d0 d1 d2 d3 d4 d5
       refine region_plain (fun Z => Z.cell? ⟨wr.heap.size, 0, none⟩ = some (.int .i64 ek) ∧ Z.cell? ⟨wr.heap.size, 1, none⟩ = some (.int .i64 fa) ∧ Z.cell? ⟨wr.heap.size, 2, none⟩ = some (.int .i64 fb) ∧ Z.cell? ⟨wr.heap.size, 3, none⟩ = some (.slice MA Mn Mc) ∧ Z.cell? ⟨wr.heap.size, 4, none⟩ = some (.int .i64 ec) ∧ Z.cell? ⟨wr.heap.size, 5, none⟩ = some (.int .i64 fp)) 99 (by kernel_rfl) ?_
       have hS : wv.drew.cell? ⟨wr.heap.size, 0, none⟩ = some (.int .i64 ek) ∧ wv.drew.cell? ⟨wr.heap.size, 1, none⟩ = some (.int .i64 fa) ∧ wv.drew.cell? ⟨wr.heap.size, 2, none⟩ = some (.int .i64 fb) ∧ wv.drew.cell? ⟨wr.heap.size, 3, none⟩ = some (.slice MA Mn Mc) ∧ wv.drew.cell? ⟨wr.heap.size, 4, none⟩ = some (.int .i64 ec) ∧ wv.drew.cell? ⟨wr.heap.size, 5, none⟩ = some (.int .i64 fp) := ⟨s0, s1, s2, s3, s4, s5⟩
       clear s0 s1 s2 s3 s4 s5
       have hw1 : IntKind.i64.wrap ((nx : Int) + 1) = (nx : Int) + 1 := by rw [IntKind.wrap_i64]; omega
       have hw2 : IntKind.i64.wrap ((nx : Int) + 2) = (nx : Int) + 2 := by rw [IntKind.wrap_i64]; omega
       have hw3 : IntKind.i64.wrap ((nx : Int) + 1 + (j : Int)) = (nx : Int) + 1 + (j : Int) := by rw [IntKind.wrap_i64]; omega
       have hw4 : IntKind.i64.wrap ((nx : Int) + 2 + (j : Int)) = (nx : Int) + 2 + (j : Int) := by rw [IntKind.wrap_i64]; omega
       refine z_t 0 (v := ?_) hS ?_ ?_
       rotate_left
       ·(rintro wS ⟨s0, s1, s2, s3, s4, s5⟩; go_simp <;> with_reducible rfl)
       simp only [Act.put, List.setIfInBounds_toArray, List.set_cons_zero, List.set_cons_succ]
       refine z_t 2 (v := ?_) hS ?_ ?_
       rotate_left
       ·(rintro wS ⟨s0, s1, s2, s3, s4, s5⟩; go_simp <;> with_reducible rfl)
       simp only [Act.put, List.setIfInBounds_toArray, List.set_cons_zero, List.set_cons_succ]
       refine z_t 3 (v := ?_) hS ?_ ?_
       rotate_left
       ·(rintro wS ⟨s0, s1, s2, s3, s4, s5⟩; go_simp <;> with_reducible rfl)
       simp only [Act.put, List.setIfInBounds_toArray, List.set_cons_zero, List.set_cons_succ]
       refine z_t 4 (v := ?_) hS ?_ ?_
       rotate_left
       ·(rintro wS ⟨s0, s1, s2, s3, s4, s5⟩; go_simp <;> with_reducible rfl)
       simp only [Act.put, List.setIfInBounds_toArray, List.set_cons_zero, List.set_cons_succ]
       refine z_t 5 (v := ?_) hS ?_ ?_
       rotate_left
       ·(rintro wS ⟨s0, s1, s2, s3, s4, s5⟩; go_simp <;> with_reducible rfl)
       simp only [Act.put, List.setIfInBounds_toArray, List.set_cons_zero, List.set_cons_succ]
       refine z_t 6 (v := ?_) hS ?_ ?_
       rotate_left
       ·(rintro wS ⟨s0, s1, s2, s3, s4, s5⟩; go_simp <;> with_reducible rfl)
       simp only [Act.put, List.setIfInBounds_toArray, List.set_cons_zero, List.set_cons_succ]
       refine z_t 7 (v := ?_) hS ?_ ?_
       rotate_left
       ·(rintro wS ⟨s0, s1, s2, s3, s4, s5⟩; go_simp <;> with_reducible rfl)
       simp only [Act.put, List.setIfInBounds_toArray, List.set_cons_zero, List.set_cons_succ]
       refine z_t 8 (v := ?_) hS ?_ ?_
       rotate_left
       ·(rintro wS ⟨s0, s1, s2, s3, s4, s5⟩; go_simp <;> with_reducible rfl)
       simp only [Act.put, List.setIfInBounds_toArray, List.set_cons_zero, List.set_cons_succ]
       refine z_t 9 (v := ?_) hS ?_ ?_
       rotate_left
       ·(rintro wS ⟨s0, s1, s2, s3, s4, s5⟩; go_simp <;> with_reducible rfl)
       simp only [Act.put, List.setIfInBounds_toArray, List.set_cons_zero, List.set_cons_succ]
       refine z_t 10 (v := ?_) hS ?_ ?_
       rotate_left
       ·(rintro wS ⟨s0, s1, s2, s3, s4, s5⟩; go_simp <;> with_reducible rfl)
       simp only [Act.put, List.setIfInBounds_toArray, List.set_cons_zero, List.set_cons_succ]
       refine z_t 11 (v := ?_) hS ?_ ?_
       rotate_left
       ·(rintro wS ⟨s0, s1, s2, s3, s4, s5⟩; go_simp <;> with_reducible rfl)
       simp only [Act.put, List.setIfInBounds_toArray, List.set_cons_zero, List.set_cons_succ]
       refine z_t 12 (v := ?_) hS ?_ ?_
       rotate_left
       ·(rintro wS ⟨s0, s1, s2, s3, s4, s5⟩; go_simp <;> with_reducible rfl)
       simp only [Act.put, List.setIfInBounds_toArray, List.set_cons_zero, List.set_cons_succ]
       refine z_take (i := 13) (v := .slice (some ⟨qz, ofz + (nx + 1 + j) * 6, none⟩) 1 (cz - (nx + 1 + j))) rfl (by kernel_rfl) (by kernel_rfl) (by kernel_rfl) (by kernel_rfl) (fun _ _ _ h => h) (Or.inl ⟨by rfl, ?_⟩) hS ?_
       ·rintro wS _
        try simp only [List.getElem_toArray, List.getElem_cons_zero, List.getElem_cons_succ]
        go_simp
        rw [if_pos (by omega), if_pos (by omega), show ((nx : Int) + 1 + (j : Int)).toNat = nx + 1 + j by omega, show ((nx : Int) + 2 + (j : Int)).toNat = nx + 2 + j by omega, if_neg (by omega), show nx + 2 + j - (nx + 1 + j) = 1 by omega]
       simp only [Act.put, List.getElem_toArray, List.getElem_cons_zero, List.getElem_cons_succ, List.setIfInBounds_toArray, List.set_cons_zero, List.set_cons_succ]
       have hfresh := (ownE_new (base := 0) wv ⟨ek, fa, fb, em, ec, fp⟩ (.slice MA Mn Mc) (HM.out.km (Km.below HBV.out)) (Nat.zero_le _)).sl
       have hlt0 : wr.heap.size < wv.heap.size := lt_of_cell (w := wv) hS.1
       have hal := (Below.refl wv.heap.size wv).alloc (Nat.le_refl _) (.cells #[.int .i64 ek, .int .i64 fa, .int .i64 fb, .slice MA Mn Mc, .int .i64 ec, .int .i64 fp] 32)
       have HBA := hidQ (HBV.out.trans (hal.mono HBV.out.size))
       have hS2 : (wv.alloc (.cells #[.int .i64 ek, .int .i64 fa, .int .i64 fb, .slice MA Mn Mc, .int .i64 ec, .int .i64 fp] 32)).cell? ⟨wr.heap.size, 0, none⟩ = some (.int .i64 ek) ∧ (wv.alloc (.cells #[.int .i64 ek, .int .i64 fa, .int .i64 fb, .slice MA Mn Mc, .int .i64 ec, .int .i64 fp] 32)).cell? ⟨wr.heap.size, 1, none⟩ = some (.int .i64 fa) ∧ (wv.alloc (.cells #[.int .i64 ek, .int .i64 fa, .int .i64 fb, .slice MA Mn Mc, .int .i64 ec, .int .i64 fp] 32)).cell? ⟨wr.heap.size, 2, none⟩ = some (.int .i64 fb) ∧ (wv.alloc (.cells #[.int .i64 ek, .int .i64 fa, .int .i64 fb, .slice MA Mn Mc, .int .i64 ec, .int .i64 fp] 32)).cell? ⟨wr.heap.size, 3, none⟩ = some (.slice MA Mn Mc) ∧ (wv.alloc (.cells #[.int .i64 ek, .int .i64 fa, .int .i64 fb, .slice MA Mn Mc, .int .i64 ec, .int .i64 fp] 32)).cell? ⟨wr.heap.size, 4, none⟩ = some (.int .i64 ec) ∧ (wv.alloc (.cells #[.int .i64 ek, .int .i64 fa, .int .i64 fb, .slice MA Mn Mc, .int .i64 ec, .int .i64 fp] 32)).cell? ⟨wr.heap.size, 5, none⟩ = some (.int .i64 fp) := ⟨(hal.cell (p := ⟨wr.heap.size, 0, none⟩) hlt0).trans hS.1, (hal.cell (p := ⟨wr.heap.size, 1, none⟩) hlt0).trans hS.2.1, (hal.cell (p := ⟨wr.heap.size, 2, none⟩) hlt0).trans hS.2.2.1, (hal.cell (p := ⟨wr.heap.size, 3, none⟩) hlt0).trans hS.2.2.2.1, (hal.cell (p := ⟨wr.heap.size, 4, none⟩) hlt0).trans hS.2.2.2.2.1, (hal.cell (p := ⟨wr.heap.size, 5, none⟩) hlt0).trans hS.2.2.2.2.2⟩
       refine z_one (i := 1) (by kernel_rfl) rfl rfl ?_
       go_simp
       simp only [evCells] at hfresh
       generalize wv.alloc (.cells #[.int .i64 ek, .int .i64 fa, .int .i64 fb, .slice MA Mn Mc, .int .i64 ec, .int .i64 fp] 32) = wa at hfresh hal HBA hS2 ⊢
       have hlt1 : wr.heap.size < wa.heap.size := lt_of_cell (w := wa) hS2.1
       have HFR := hidQ hfresh
       have HZA := hidQ (HZr.out.below HBA.out)
       have hS := hS2
       clear hfresh hS2 hal hlt0
       refine z_one (i := 14) (by kernel_rfl) rfl rfl ?_
       go_simp
       refine (event_Equal (HFR.out.below (below_drewN' (Below.refl _ wa) 1)) ((cut_one HZA.out HAT2.out (by omega) _).below (below_drewN' (Below.refl _ wa) 1)) (by simp)).mono ?_
       rintro e w2 ⟨rfl, hb2⟩
       have hb3 : RowKit.Below wa.heap.size wa w2 := (below_drewN' (Below.refl _ wa) 1).trans hb2
       have HB3 := hidQ (HBA.out.trans (hb3.mono HBA.out.size))
       have hS3 : w2.cell? ⟨wr.heap.size, 0, none⟩ = some (.int .i64 ek) ∧ w2.cell? ⟨wr.heap.size, 1, none⟩ = some (.int .i64 fa) ∧ w2.cell? ⟨wr.heap.size, 2, none⟩ = some (.int .i64 fb) ∧ w2.cell? ⟨wr.heap.size, 3, none⟩ = some (.slice MA Mn Mc) ∧ w2.cell? ⟨wr.heap.size, 4, none⟩ = some (.int .i64 ec) ∧ w2.cell? ⟨wr.heap.size, 5, none⟩ = some (.int .i64 fp) := ⟨(hb3.cell (p := ⟨wr.heap.size, 0, none⟩) hlt1).trans hS.1, (hb3.cell (p := ⟨wr.heap.size, 1, none⟩) hlt1).trans hS.2.1, (hb3.cell (p := ⟨wr.heap.size, 2, none⟩) hlt1).trans hS.2.2.1, (hb3.cell (p := ⟨wr.heap.size, 3, none⟩) hlt1).trans hS.2.2.2.1, (hb3.cell (p := ⟨wr.heap.size, 4, none⟩) hlt1).trans hS.2.2.2.2.1, (hb3.cell (p := ⟨wr.heap.size, 5, none⟩) hlt1).trans hS.2.2.2.2.2⟩
       clear hS hb2 hb3 hlt1
       refine ⟨hS3, ?_⟩
       have hS := hS3
       clear hS3
       refine z_t 15 (v := ?_) hS ?_ ?_
       rotate_left
       ·(rintro wS ⟨s0, s1, s2, s3, s4, s5⟩; go_simp <;> with_reducible rfl)
       simp only [Act.put, List.setIfInBounds_toArray, List.set_cons_zero, List.set_cons_succ]
       refine z_done (by kernel_rfl) ?_ _
       clear hS
       go_wp2_with fail
       go_roundg (ny - (j + 1))
       ·exact ⟨j + 1, by rw [Int.natCast_add]; rfl, by omega, rfl, hidQ (HBr.out.trans (HB3.out.mono HBr.out.size))⟩
       all_goals omega
     ·have hge : ¬ (j : Int) < (ny : Int) := by omega
      have HBR := hidQ (HBL.out.trans (HBr.out.mono HBL.out.size))
      have HA := hidQ (alive_T (HT7.out.below HBR.out))
      go_wp2_with (go_at_call 4; refine HA.out.mono ?_; rintro e w12 ⟨rfl, hb12⟩; have HB12 := hidQ ((HB7.out.trans (HBR.out.mono HB7.out.size)).trans (hb12.mono (Nat.le_trans HB7.out.size HBR.out.size))); clear hb12)
      go_ret
      exact ⟨rfl, HB12.out⟩
   ·have hfn : fmt ≠ 1 ∧ fmt ≠ 2 ∧ fmt ≠ 3 ∧ fmt ≠ 4 := ⟨fun e => hf (.inl e), fun e => hf (.inr (.inl e)), fun e => hf (.inr (.inr e)), fun e => by subst e; simp at hfz⟩
    clear hf
    have HFN := hidQ hfn
    clear hfn
    refine (swhole_none HFN.out _).mono ?_
    rintro e w8 ⟨rfl, hb8⟩
    have e8 : w8.cell? ⟨w.heap.size, 1, none⟩ = some (.slice A1 n1 c1) := by rw [cell_of_row _ _ _ _ _ _ ((hb8.block _ (Array.getElem?_eq_some_iff.1 HR7.out).1).trans HR7.out)]; rfl
    have HB8 := hidQ hb8
    clear hb8
    go_wp2_with fail
    refine (swhole_none HFN.out _).mono ?_
    rintro e w9 ⟨rfl, hb9⟩
    have HB9 := hidQ (HB8.out.trans (hb9.mono HB8.out.size))
    clear hb9 e8
    go_wp2_with fail
    refine (swhole_none HFN.out _).mono ?_
    rintro e w10 ⟨rfl, hb10⟩
    have HB10 := hidQ (HB9.out.trans (hb10.mono HB9.out.size))
    clear hb10
    go_wp2_with (go_at_call 4; refine (alive_T (HT7.out.below HB10.out)).mono ?_; rintro e w11 ⟨rfl, hb11⟩; have HB11 := hidQ ((HB7.out.trans (HB10.out.mono HB7.out.size)).trans (hb11.mono (Nat.le_trans HB7.out.size HB10.out.size))); clear hb11)
    go_ret
    exact ⟨rfl, HB11.out⟩
/-- whatever came in: true -/
theorem top_any {w : World} (hT : WT w) {A0 A1 B : Option Addr} {n0 c0 n1 c1 nb cb : Nat} {fmt : Int} {t u b : List Int} (h0 : Sl w A0 n0 t) (t0 : Tidy A0 c0) (k0 : n0 ≤ c0) (h1 : Sl w A1 n1 u) (t1 : Tidy A1 c1) (k1 : n1 ≤ c1) (hA1 : ∀ ad, A1 = some ad → ad.block < w.heap.size) (h2 : Sl w B nb b) (t2 : Tidy B cb) (k2 : nb ≤ cb) :
  Calls Tryz.prog 3 #[.agg #[.slice A0 n0 c0, .slice A1 n1 c1], .slice B nb cb, .int .i64 fmt] w fun e w' => e = .returned (.bool true) ∧ RowKit.Below w.heap.size w w' := by
 by_cases hout : 1500 < n0 ∨ 1500 < n1 ∨ 300 < nb ∨ fmt = 4
 ·exact top_out hT hout
 ·simp only [not_or] at hout
  exact top_in hT h0 t0 k0 h1 t1 k1 hA1 h2 t2 k2 (by omega) (by omega) (by omega) hout.2.2.2
end Go.Eng
