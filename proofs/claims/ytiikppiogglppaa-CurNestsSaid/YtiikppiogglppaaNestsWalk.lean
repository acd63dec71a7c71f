/-
  The walk of the law CurNests.
-/
import Derived.Test.YtiikppiogglppaaNestsOuter
namespace Go.Proofs.Ytiikppiogglppaa
open Go.RowKit

/-- The three boxes of the arguments. -/
def w3 (w : World) (a b c : Array Value) : World := ((w.alloc (.cells a 23)).alloc (.cells b 24)).alloc (.cells c 3)
theorem w3_rows (w : World) (a b c : Array Value) : (w3 w a b c).heap[w.heap.size]? = some (.cells a 23 (0, 0)) ∧ (w3 w a b c).heap[w.heap.size + 1]? = some (.cells b 24 (0, 0)) ∧ (w3 w a b c).heap[w.heap.size + 1 + 1]? = some (.cells c 3 (0, 0)) ∧ (w3 w a b c).heap.size = w.heap.size + 3 ∧ Below w.heap.size w (w3 w a b c) := by
  have h1 := heap_alloc_new w (.cells a 23)
  have h2 := heap_alloc_new (w.alloc (.cells a 23)) (.cells b 24)
  have h3 := heap_alloc_new ((w.alloc (.cells a 23)).alloc (.cells b 24)) (.cells c 3)
  simp only [World.size_alloc] at h2 h3
  exact ⟨(Below.heap_alloc _ _ _ (by first | (simp; omega) | simp)).trans ((Below.heap_alloc _ _ _ (by simp)).trans h1), (Below.heap_alloc _ _ _ (by simp)).trans h2, h3, by unfold w3; simp, (((Below.refl _ w).alloc (Nat.le_refl _) _).alloc (by simp) _).alloc (by first | (simp; omega) | simp) _⟩

/-- The five variables that the reads write. -/
def w9 (w : World) (a b c d e : Array Value) : World := ((((w.alloc (.cells a 26)).alloc (.cells b 3)).alloc (.cells c 31)).alloc (.cells d 4)).alloc (.cells e 4)
theorem w9_rows (w : World) (a b c d e : Array Value) : (w9 w a b c d e).heap[w.heap.size]? = some (.cells a 26 (0, 0)) ∧ (w9 w a b c d e).heap[w.heap.size + 1]? = some (.cells b 3 (0, 0)) ∧ (w9 w a b c d e).heap[w.heap.size + 1 + 1]? = some (.cells c 31 (0, 0)) ∧ (w9 w a b c d e).heap[w.heap.size + 1 + 1 + 1]? = some (.cells d 4 (0, 0)) ∧
    (w9 w a b c d e).heap[w.heap.size + 1 + 1 + 1 + 1]? = some (.cells e 4 (0, 0)) ∧ (w9 w a b c d e).heap.size = w.heap.size + 5 ∧ Below w.heap.size w (w9 w a b c d e) := by
  have h1 := heap_alloc_new w (.cells a 26)
  have h2 := heap_alloc_new (w.alloc (.cells a 26)) (.cells b 3)
  have h3 := heap_alloc_new ((w.alloc (.cells a 26)).alloc (.cells b 3)) (.cells c 31)
  have h4 := heap_alloc_new (((w.alloc (.cells a 26)).alloc (.cells b 3)).alloc (.cells c 31)) (.cells d 4)
  have h5 := heap_alloc_new ((((w.alloc (.cells a 26)).alloc (.cells b 3)).alloc (.cells c 31)).alloc (.cells d 4)) (.cells e 4)
  simp only [World.size_alloc] at h2 h3 h4 h5
  refine ⟨(Below.heap_alloc _ _ _ (by first | (simp; omega) | simp)).trans ((Below.heap_alloc _ _ _ (by first | (simp; omega) | simp)).trans ((Below.heap_alloc _ _ _ (by first | (simp; omega) | simp)).trans ((Below.heap_alloc _ _ _ (by simp)).trans h1))), (Below.heap_alloc _ _ _ (by first | (simp; omega) | simp)).trans ((Below.heap_alloc _ _ _ (by first | (simp; omega) | simp)).trans ((Below.heap_alloc _ _ _ (by simp)).trans h2)), (Below.heap_alloc _ _ _ (by first | (simp; omega) | simp)).trans ((Below.heap_alloc _ _ _ (by simp)).trans h3), (Below.heap_alloc _ _ _ (by simp)).trans h4, h5, by unfold w9; simp, (((((Below.refl _ w).alloc (Nat.le_refl _) _).alloc (by simp) _).alloc (by first | (simp; omega) | simp) _).alloc (by first | (simp; omega) | simp) _).alloc (by first | (simp; omega) | simp) _⟩

set_option maxRecDepth 100000 in
set_option maxHeartbeats 8000000 in
theorem nests_main (A0 : Option Addr) (c0 : Nat) (l0 : List Int) (A1 : Option Addr) (c1 : Nat) (l1 : List Int) (k0 k1 : Nat) (x : Int) (w : World) (hs0 : Sl w A0 l0.length l0) (hA0 : A0 = none → c0 = 0) (hs1 : Sl w A1 l1.length l1) (hA1 : A1 = none → c1 = 0) (hn0 : l0.length ≤ 100) (hn1 : l1.length ≤ 100) (hk0 : k0 ≤ 120) (hk1 : k1 ≤ 120) :
    Calls Try.prog 3 #[.agg #[.slice A0 l0.length c0, .slice A1 l1.length c1], .agg #[.int .i64 k0, .int .i64 k1], .int .i64 x] w fun e w' => e = .returned (.bool true) ∧ Below w.heap.size w w' := by
  have h1 : ¬ (100 : Int) < (l0.length : Int) := by omega
  have h2 : ¬ (100 : Int) < (l1.length : Int) := by omega
  have h3 : ¬ (k0 : Int) < 0 := by omega
  have h4 : ¬ (120 : Int) < (k0 : Int) := by omega
  have h5 : ¬ (k1 : Int) < 0 := by omega
  have h6 : ¬ (120 : Int) < (k1 : Int) := by omega
  have HS0 := Lib.hid hs0
  have HS1 := Lib.hid hs1
  clear hs0 hs1
  have hmf : ∀ (fn : Fn) (first cap : Array Value) (w : World), (Instr.makeFunc fn first cap).run Try.prog w = .ok (.func fn first cap) w := fun _ _ _ _ => rfl
  go_enter Try.func3, Try.ntmps3
  go_wp2_with fail
  refine (new_any none 0 0 [] _ (sl_nil _ _) (fun _ => rfl) (by decide)).mono ?_
  rintro e w4 ⟨go, Ao, co, rfl, h4', hge, _, hb4⟩
  have HC4 := Lib.hid h4'
  have HB4 := Lib.hid hb4
  have HGE := Lib.hid hge
  clear h4' hb4 hge
  go_wp2_with fail
  have b5 := (Below.refl w4.heap.size w4).alloc (Nat.le_refl _) (.cells #[.pointer (some ⟨go, 0, none⟩)] 26)
  have HC5 := Lib.hid (HC4.out.below b5)
  have hT := byte_any _ go Ao co [] CS.start false HC5.out (CS.fits_start (by decide))
  have HT := Lib.hid hT
  clear hT
  refine HT.out.mono ?_
  rintro e w5 ⟨rfl, hc5, hg5⟩
  have HC6 := Lib.hid (show IsCur w5 go Ao co [] ⟨0, 13, 0⟩ false from hc5)
  have O5 := Lib.hid ((hg5.block w4.heap.size (by simp) (fun e => by have := Option.some.inj e; have := HC4.out.lt; omega)).trans (heap_alloc_new w4 (.cells #[.pointer (some ⟨go, 0, none⟩)] 26)))
  have ot5 : w5.cell? ⟨w4.heap.size, 0, none⟩ = some (.pointer (some ⟨go, 0, none⟩)) := by rw [cell_of_row _ _ _ _ 26 (0, 0) O5.out]; rfl
  have G5 := Lib.hid ((grown_below (row := some go) b5).trans hg5)
  clear hc5 hg5 b5 HT
  go_wp2_with fail
  refine (must_idle w5 go Ao co [] ⟨0, 13, 0⟩ false HC6.out ⟨by decide, by decide, fun h => by cases h⟩ (.inl rfl)).mono ?_
  rintro e w6 ⟨rfl, hb6⟩
  obtain ⟨t1, t2, t3, t4, t5⟩ := w3_rows w #[.slice A0 l0.length c0, .slice A1 l1.length c1] #[.int .i64 k0, .int .i64 k1] #[.int .i64 x]
  obtain ⟨v1, v2, v3, v4, v5, v6, v7⟩ := w9_rows w6 #[.pointer none] #[.int .i64 (-1)] #[.int .i64 0, .int .i64 0] #[.bool false] #[.bool false]
  have hgo : w.heap.size + 3 ≤ go := by have := HGE.out; rw [show (((w.alloc (.cells #[.slice A0 l0.length c0, .slice A1 l1.length c1] 23)).alloc (.cells #[.int .i64 k0, .int .i64 k1] 24)).alloc (.cells #[.int .i64 x] 3)).heap.size = w.heap.size + 3 from t4] at this; exact this
  have hgo4 := HC4.out.lt
  have hb3 : Below (w.heap.size + 3) (w3 w #[.slice A0 l0.length c0, .slice A1 l1.length c1] #[.int .i64 k0, .int .i64 k1] #[.int .i64 x]) w4 := by have := HB4.out; rw [show (((w.alloc (.cells #[.slice A0 l0.length c0, .slice A1 l1.length c1] 23)).alloc (.cells #[.int .i64 k0, .int .i64 k1] 24)).alloc (.cells #[.int .i64 x] 3)).heap.size = w.heap.size + 3 from t4] at this; exact this
  have hz5 : w4.heap.size < w5.heap.size := (Array.getElem?_eq_some_iff.1 O5.out).1
  have hz6 := hb6.size
  have far : ∀ k, k < w.heap.size + 3 → (w9 w6 #[.pointer none] #[.int .i64 (-1)] #[.int .i64 0, .int .i64 0] #[.bool false] #[.bool false]).heap[k]? = (w3 w #[.slice A0 l0.length c0, .slice A1 l1.length c1] #[.int .i64 k0, .int .i64 k1] #[.int .i64 x]).heap[k]? := fun k hk =>
    (v7.block k (by omega)).trans ((hb6.block k (by omega)).trans ((G5.out.block k (by omega) (fun e => by have := Option.some.inj e; omega)).trans (hb3.block k hk)))
  have hBW : Below w.heap.size w (w9 w6 #[.pointer none] #[.int .i64 (-1)] #[.int .i64 0, .int .i64 0] #[.bool false] #[.bool false]) :=
    (((t5.trans (hb3.mono (by omega))).grown G5.out (by have := hb3.size; omega) (fun b e => by cases e; omega)).trans (hb6.mono (by have := hb3.size; omega))).trans (v7.mono (by have := hb3.size; omega))
  obtain ⟨p, hp⟩ : ∃ p : NP, p = { TW := w.heap.size, TK := w.heap.size + 1, WH := w.heap.size + 1 + 1, go := go, Ao := Ao, co := co, OT := w4.heap.size, K := w6.heap.size, IN := w6.heap.size + 1, FA := w6.heap.size + 1 + 1, RE := w6.heap.size + 1 + 1 + 1, BE := w6.heap.size + 1 + 1 + 1 + 1, A0 := A0, n0 := l0.length, c0 := c0, A1 := A1, n1 := l1.length, c1 := c1, t0 := k0, t1 := k1, w := x } := ⟨_, rfl⟩
  have N9 : Nest w (w9 w6 #[.pointer none] #[.int .i64 (-1)] #[.int .i64 0, .int .i64 0] #[.bool false] #[.bool false]) p none (-1) 0 0 false false := by
    subst hp
    exact { tw := (far _ (by show w.heap.size < _; omega)).trans t1, tk := (far _ (by show w.heap.size + 1 < _; omega)).trans t2, wh := (far _ (by show w.heap.size + 1 + 1 < _; omega)).trans t3
            ot := (v7.block _ (by show w4.heap.size < _; omega)).trans ((hb6.block _ (by show w4.heap.size < _; omega)).trans O5.out)
            kp := v1, inn := v2, fa := v3, re := v4, be := v5
            other := (HC6.out.below hb6).below v7
            ord := by show w.heap.size ≤ w.heap.size ∧ w.heap.size < w.heap.size + 1 ∧ w.heap.size + 1 < w.heap.size + 1 + 1 ∧ w.heap.size + 1 + 1 < go ∧ go < w4.heap.size ∧ w4.heap.size < w6.heap.size ∧ w6.heap.size < w6.heap.size + 1 ∧ w6.heap.size + 1 < w6.heap.size + 1 + 1 ∧ w6.heap.size + 1 + 1 < w6.heap.size + 1 + 1 + 1 ∧ w6.heap.size + 1 + 1 + 1 < w6.heap.size + 1 + 1 + 1 + 1; omega
            below := hBW }
  have HN9 := Lib.hid N9
  have HP := Lib.hid hp
  have HZ9 := Lib.hid v6
  obtain ⟨y0, y1, y2, y3, y4, y5, _⟩ := N9.cells
  rw [hp] at y0 y1 y2 y3 y4 y5
  change World.cell? (((((w6.alloc (.cells #[.pointer none] 26)).alloc (.cells #[.int .i64 (-1)] 3)).alloc (.cells #[.int .i64 0, .int .i64 0] 31)).alloc (.cells #[.bool false] 4)).alloc (.cells #[.bool false] 4)) ⟨w.heap.size, 0, none⟩ = _ at y0
  clear t1 t2 t3 t4 t5 v1 v2 v3 v4 v5 v6 v7 hgo hgo4 hb3 hz5 hz6 far hBW hb6 ot5 N9 hp HC4 HC5 HC6 O5 G5 HB4 HGE
  go_wp2_with fail
  clear y0 y1 y2 y3 y4 y5
  have hne14 : ∀ (a b c d e f g h i : Value) (w : World), (binOp .eql 34 (.func (.func 14) #[] #[a, b, c, d, e, f, g, h, i]) .nilFunc).run Try.prog w = .ok (.bool false) w := fun _ _ _ _ _ _ _ _ _ _ => by kernel_rfl
  have hBE : p.BE < (w9 w6 #[.pointer none] #[.int .i64 (-1)] #[.int .i64 0, .int .i64 0] #[.bool false] #[.bool false]).heap.size := by rw [HZ9.out, HP.out]; show w6.heap.size + 1 + 1 + 1 + 1 < w6.heap.size + 5; omega
  refine (try_any A0 l0.length c0 l0 14 #[.pointer (some ⟨w6.heap.size, 0, none⟩), .pointer (some ⟨w.heap.size + 1, 0, none⟩), .pointer (some ⟨w.heap.size, 0, none⟩), .pointer (some ⟨w.heap.size + 1 + 1, 0, none⟩), .pointer (some ⟨w4.heap.size, 0, none⟩), .pointer (some ⟨w6.heap.size + 1 + 1 + 1, 0, none⟩), .pointer (some ⟨w6.heap.size + 1, 0, none⟩), .pointer (some ⟨w6.heap.size + 1 + 1, 0, none⟩), .pointer (some ⟨w6.heap.size + 1 + 1 + 1 + 1, 0, none⟩)] (w9 w6 #[.pointer none] #[.int .i64 (-1)] #[.int .i64 0, .int .i64 0] #[.bool false] #[.bool false])
    (AfterOuter w p l0 l1 k0 k1) (HS0.out.below HN9.out.below) hA0 (by omega) (hne14 _ _ _ _ _ _ _ _ _) (fun args w => by simp [go_sem])
    (fun g A c w1 hg hb1 hc hAd => ?_)).mono ?_
  · have := outer_read w w1 p (w9 w6 #[.pointer none] #[.int .i64 (-1)] #[.int .i64 0, .int .i64 0] #[.bool false] #[.bool false]).heap.size g A c l0 l1 k0 k1 none 0 0 (by rw [HP.out]) hk0 (by rw [HP.out]) hk1 (by omega) (by omega) (by rw [HP.out]) (by rw [HP.out]; exact HS1.out) (by rw [HP.out]; exact hA1) (HN9.out.later hb1 hBE) hc ⟨hBE, by omega⟩ hAd
    rw [HP.out] at this ⊢
    exact this
  rintro e w10 ⟨g, A, c, s, w11, rfl, hgb, ⟨hsv, inn, f1, f2, re, be, hN, hor⟩, hb10, hcur⟩
  have N10 := hN.later hb10 hBE
  have hBE10 : p.BE < w10.heap.size := (Array.getElem?_eq_some_iff.1 N10.be).1
  have b12 := (Below.refl w10.heap.size w10).alloc (Nat.le_refl _) (.cells #[.int .i64 s.code, .int .i64 s.fat] 31)
  have N12 := N10.later b12 hBE10
  have HC12 := Lib.hid (hcur.below b12)
  have V12 := Lib.hid (heap_alloc_new w10 (.cells #[.int .i64 s.code, .int .i64 s.fat] 31))
  have HN12 := Lib.hid N12
  have HOR := Lib.hid hor
  have HFV : Hid (s.fits l0) := Lib.hid (hsv ▸ bytes_fits (by omega) k0)
  have HSV := Lib.hid hsv
  obtain ⟨_, _, _, _, _, _, y6, _⟩ := N12.cells
  rw [HP.out] at y6
  have hpn : ∀ w : World, (binOp .eql 26 (.pointer (some ⟨g, 0, none⟩)) (.pointer none)).run Try.prog w = .ok (.bool false) w := fun w => by kernel_rfl
  clear hN hor hsv hb10 hcur N10 N12 hne14 b12
  go_wp2_with fail
  refine (must_idle _ g A c l0 s false HC12.out HFV.out (.inl rfl)).mono ?_
  rintro e w13 ⟨rfl, hb13⟩
  have HN13 := Lib.hid (HN12.out.later hb13 (by simp; omega))
  have V13 := Lib.hid ((hb13.block _ (by simp)).trans V12.out)
  have L13 : Hid (p.BE < w13.heap.size ∧ w10.heap.size < w13.heap.size) := Lib.hid (by have := hb13.size; simp at this; omega)
  clear hb13 HN12 V12 HC12 y6
  by_cases hsh : l0.length < k0
  · have hsi : (l0.length : Int) < (k0 : Int) := by omega
    by_cases hfw : l1.length < k1
    · have hfi : (l1.length : Int) < (k1 : Int) := by omega
      by_cases hx0 : x = 0
      · subst hx0
        have hB0 : CS.bytes l0 k0 = ⟨l0.length, 13, l0.length⟩ := by unfold CS.bytes; rw [if_neg (by omega)]
        have hB1 : CS.bytes l1 k1 = ⟨l1.length, 13, l1.length⟩ := by unfold CS.bytes; rw [if_neg (by omega)]
        obtain ⟨hi, hf1, hf2, hr, hb⟩ : inn = (l1.length : Int) ∧ f1 = 13 ∧ f2 = (l1.length : Int) ∧ re = false ∧ be = true := by
          rcases HOR.out with ⟨h1, h2, _⟩ | ⟨_, h1, h2, h3, h4, h5⟩
          · rw [show p.w = 0 from by rw [HP.out]] at h1; omega
          · rw [hB1] at h1 h2 h3
            refine ⟨h1, h2, h3, ?_, h5⟩
            rw [h4]; unfold innerDone; rw [hB1, show p.w = 0 from by rw [HP.out]]; rfl
        obtain rfl := hi
        obtain rfl := hf1
        obtain rfl := hf2
        obtain rfl := hr
        obtain rfl := hb
        obtain rfl := HSV.out.trans hB0
        clear hB0 hB1 HSV HOR HFV
        have HN14 := Lib.hid (HN13.out.later ((Below.refl w13.heap.size w13).alloc (Nat.le_refl _) (.cells #[.int .i64 0, .int .i64 0] 31)) L13.out.1)
        have q := HN13.out.cells
        rw [HP.out] at q
        obtain ⟨q0, q1, q2, q3, q4, q5, q6, q7, q8, q9, q10, q11⟩ := q
        have y := HN14.out.cells
        rw [HP.out] at y
        obtain ⟨y0, y1, y2, y3, y4, y5, y6, y7, y8, y9, y10, y11⟩ := y
        have HN15 := Lib.hid (HN13.out.later ((Below.refl w13.heap.size w13).alloc (Nat.le_refl _) (.cells #[.int .i64 13, .int .i64 (l0.length : Int)] 31)) L13.out.1)
        have z := HN15.out.cells
        rw [HP.out] at z
        obtain ⟨z0, z1, z2, z3, z4, z5, z6, z7, z8, z9, z10, z11⟩ := z
        have V15 := ((Below.refl w13.heap.size w13).alloc (Nat.le_refl _) (.cells #[.int .i64 13, .int .i64 (l0.length : Int)] 31)).block _ L13.out.2 |>.trans V13.out
        have v0 : (w13.alloc (.cells #[.int .i64 13, .int .i64 (l0.length : Int)] 31)).cell? ⟨w10.heap.size, 0, none⟩ = some (.int .i64 13) := by rw [cell_of_row _ _ _ _ 31 (0, 0) V15]; rfl
        have v1 : (w13.alloc (.cells #[.int .i64 13, .int .i64 (l0.length : Int)] 31)).cell? ⟨w10.heap.size, 1, none⟩ = some (.int .i64 (l0.length : Int)) := by rw [cell_of_row _ _ _ _ 31 (0, 0) V15]; rfl
        clear V15
        go_wp2_with fail
        refine (awake_any _).mono ?_
        rintro e w16 ⟨rfl, hb16⟩
        have B16 := Lib.hid (HN15.out.below.trans (hb16.mono HN15.out.below.size))
        clear hb16
        go_wp2_with fail
        go_ret
        exact ⟨rfl, B16.out⟩
      · by_cases hx1 : x = 1
        · subst hx1
          clear hx0
          have hB0 : CS.bytes l0 k0 = ⟨l0.length, 13, l0.length⟩ := by unfold CS.bytes; rw [if_neg (by omega)]
          have hB1 : CS.bytes l1 k1 = ⟨l1.length, 13, l1.length⟩ := by unfold CS.bytes; rw [if_neg (by omega)]
          obtain ⟨hi, hr, hb⟩ : inn = -1 ∧ re = false ∧ be = false := by
            rcases HOR.out with ⟨_, _, h1, h2, h3⟩ | ⟨h1, _⟩
            · exact ⟨h1, h2, h3⟩
            · exact absurd ⟨by rw [HP.out], by rw [hB0]; show (13 : Int) ≠ 0; decide⟩ h1
          obtain rfl := hi
          obtain rfl := hr
          obtain rfl := hb
          obtain rfl := HSV.out.trans hB0
          clear hB0 hB1 HSV HOR HFV
          have HN14 := Lib.hid (HN13.out.later ((Below.refl w13.heap.size w13).alloc (Nat.le_refl _) (.cells #[.int .i64 0, .int .i64 0] 31)) L13.out.1)
          have q := HN13.out.cells
          rw [HP.out] at q
          obtain ⟨q0, q1, q2, q3, q4, q5, q6, q7, q8, q9, q10, q11⟩ := q
          have y := HN14.out.cells
          rw [HP.out] at y
          obtain ⟨y0, y1, y2, y3, y4, y5, y6, y7, y8, y9, y10, y11⟩ := y
          have HN15 := Lib.hid (HN13.out.later ((Below.refl w13.heap.size w13).alloc (Nat.le_refl _) (.cells #[.int .i64 13, .int .i64 (l0.length : Int)] 31)) L13.out.1)
          have z := HN15.out.cells
          rw [HP.out] at z
          obtain ⟨z0, z1, z2, z3, z4, z5, z6, z7, z8, z9, z10, z11⟩ := z
          have V15 := ((Below.refl w13.heap.size w13).alloc (Nat.le_refl _) (.cells #[.int .i64 13, .int .i64 (l0.length : Int)] 31)).block _ L13.out.2 |>.trans V13.out
          have v0 : (w13.alloc (.cells #[.int .i64 13, .int .i64 (l0.length : Int)] 31)).cell? ⟨w10.heap.size, 0, none⟩ = some (.int .i64 13) := by rw [cell_of_row _ _ _ _ 31 (0, 0) V15]; rfl
          have v1 : (w13.alloc (.cells #[.int .i64 13, .int .i64 (l0.length : Int)] 31)).cell? ⟨w10.heap.size, 1, none⟩ = some (.int .i64 (l0.length : Int)) := by rw [cell_of_row _ _ _ _ 31 (0, 0) V15]; rfl
          clear V15
          go_wp2_with fail
          refine (awake_any _).mono ?_
          rintro e w16 ⟨rfl, hb16⟩
          have B16 := Lib.hid (HN15.out.below.trans (hb16.mono HN15.out.below.size))
          clear hb16
          go_wp2_with fail
          go_ret
          exact ⟨rfl, B16.out⟩
        · have hxb0 : (x == 0) = false := beq_eq_false_iff_ne.2 hx0
          have hxb1 : (x == 1) = false := beq_eq_false_iff_ne.2 hx1
          have hB0 : CS.bytes l0 k0 = ⟨l0.length, 13, l0.length⟩ := by unfold CS.bytes; rw [if_neg (by omega)]
          have hB1 : CS.bytes l1 k1 = ⟨l1.length, 13, l1.length⟩ := by unfold CS.bytes; rw [if_neg (by omega)]
          obtain ⟨hi, hf1, hf2, hr, hb⟩ : inn = (l1.length : Int) ∧ f1 = 13 ∧ f2 = (l1.length : Int) ∧ re = true ∧ be = true := by
            rcases HOR.out with ⟨h1, h2, _⟩ | ⟨_, h1, h2, h3, h4, h5⟩
            · rw [show p.w = x from by rw [HP.out]] at h1; exact absurd h1 hx1
            · rw [hB1] at h1 h2 h3
              refine ⟨h1, h2, h3, ?_, h5⟩
              rw [h4]; unfold innerDone; rw [hB1, show p.w = x from by rw [HP.out]]; rw [beq_eq_false_iff_ne.2 hx0]; rfl
          obtain rfl := hi
          obtain rfl := hf1
          obtain rfl := hf2
          obtain rfl := hr
          obtain rfl := hb
          obtain rfl := HSV.out.trans hB0
          clear hB0 hB1 HSV HOR HFV
          have HN14 := Lib.hid (HN13.out.later ((Below.refl w13.heap.size w13).alloc (Nat.le_refl _) (.cells #[.int .i64 0, .int .i64 0] 31)) L13.out.1)
          have q := HN13.out.cells
          rw [HP.out] at q
          obtain ⟨q0, q1, q2, q3, q4, q5, q6, q7, q8, q9, q10, q11⟩ := q
          have y := HN14.out.cells
          rw [HP.out] at y
          obtain ⟨y0, y1, y2, y3, y4, y5, y6, y7, y8, y9, y10, y11⟩ := y
          have HN15 := Lib.hid (HN13.out.later ((Below.refl w13.heap.size w13).alloc (Nat.le_refl _) (.cells #[.int .i64 13, .int .i64 (l0.length : Int)] 31)) L13.out.1)
          have z := HN15.out.cells
          rw [HP.out] at z
          obtain ⟨z0, z1, z2, z3, z4, z5, z6, z7, z8, z9, z10, z11⟩ := z
          have V15 := ((Below.refl w13.heap.size w13).alloc (Nat.le_refl _) (.cells #[.int .i64 13, .int .i64 (l0.length : Int)] 31)).block _ L13.out.2 |>.trans V13.out
          have v0 : (w13.alloc (.cells #[.int .i64 13, .int .i64 (l0.length : Int)] 31)).cell? ⟨w10.heap.size, 0, none⟩ = some (.int .i64 13) := by rw [cell_of_row _ _ _ _ 31 (0, 0) V15]; rfl
          have v1 : (w13.alloc (.cells #[.int .i64 13, .int .i64 (l0.length : Int)] 31)).cell? ⟨w10.heap.size, 1, none⟩ = some (.int .i64 (l0.length : Int)) := by rw [cell_of_row _ _ _ _ 31 (0, 0) V15]; rfl
          clear V15
          go_wp2_with fail
          refine (awake_any _).mono ?_
          rintro e w16 ⟨rfl, hb16⟩
          have B16 := Lib.hid (HN15.out.below.trans (hb16.mono HN15.out.below.size))
          clear hb16
          go_wp2_with fail
          go_ret
          exact ⟨rfl, B16.out⟩
    · have hfi : ¬ (l1.length : Int) < (k1 : Int) := by omega
      by_cases hx0 : x = 0
      · subst hx0
        have hB0 : CS.bytes l0 k0 = ⟨l0.length, 13, l0.length⟩ := by unfold CS.bytes; rw [if_neg (by omega)]
        have hB1 : CS.bytes l1 k1 = ⟨k1, 0, 0⟩ := by unfold CS.bytes; rw [if_pos (by omega)]
        obtain ⟨hi, hf1, hf2, hr, hb⟩ : inn = (k1 : Int) ∧ f1 = 0 ∧ f2 = 0 ∧ re = true ∧ be = true := by
          rcases HOR.out with ⟨h1, h2, _⟩ | ⟨_, h1, h2, h3, h4, h5⟩
          · rw [show p.w = 0 from by rw [HP.out]] at h1; omega
          · rw [hB1] at h1 h2 h3
            refine ⟨h1, h2, h3, ?_, h5⟩
            rw [h4]; unfold innerDone; rw [hB1, show p.w = 0 from by rw [HP.out]]; rfl
        obtain rfl := hi
        obtain rfl := hf1
        obtain rfl := hf2
        obtain rfl := hr
        obtain rfl := hb
        obtain rfl := HSV.out.trans hB0
        clear hB0 hB1 HSV HOR HFV
        have HN14 := Lib.hid (HN13.out.later ((Below.refl w13.heap.size w13).alloc (Nat.le_refl _) (.cells #[.int .i64 0, .int .i64 0] 31)) L13.out.1)
        have q := HN13.out.cells
        rw [HP.out] at q
        obtain ⟨q0, q1, q2, q3, q4, q5, q6, q7, q8, q9, q10, q11⟩ := q
        have y := HN14.out.cells
        rw [HP.out] at y
        obtain ⟨y0, y1, y2, y3, y4, y5, y6, y7, y8, y9, y10, y11⟩ := y
        have HN15 := Lib.hid (HN13.out.later ((Below.refl w13.heap.size w13).alloc (Nat.le_refl _) (.cells #[.int .i64 13, .int .i64 (l0.length : Int)] 31)) L13.out.1)
        have z := HN15.out.cells
        rw [HP.out] at z
        obtain ⟨z0, z1, z2, z3, z4, z5, z6, z7, z8, z9, z10, z11⟩ := z
        have V15 := ((Below.refl w13.heap.size w13).alloc (Nat.le_refl _) (.cells #[.int .i64 13, .int .i64 (l0.length : Int)] 31)).block _ L13.out.2 |>.trans V13.out
        have v0 : (w13.alloc (.cells #[.int .i64 13, .int .i64 (l0.length : Int)] 31)).cell? ⟨w10.heap.size, 0, none⟩ = some (.int .i64 13) := by rw [cell_of_row _ _ _ _ 31 (0, 0) V15]; rfl
        have v1 : (w13.alloc (.cells #[.int .i64 13, .int .i64 (l0.length : Int)] 31)).cell? ⟨w10.heap.size, 1, none⟩ = some (.int .i64 (l0.length : Int)) := by rw [cell_of_row _ _ _ _ 31 (0, 0) V15]; rfl
        clear V15
        go_wp2_with fail
        refine (awake_any _).mono ?_
        rintro e w16 ⟨rfl, hb16⟩
        have B16 := Lib.hid (HN15.out.below.trans (hb16.mono HN15.out.below.size))
        clear hb16
        go_wp2_with fail
        go_ret
        exact ⟨rfl, B16.out⟩
      · by_cases hx1 : x = 1
        · subst hx1
          clear hx0
          have hB0 : CS.bytes l0 k0 = ⟨l0.length, 13, l0.length⟩ := by unfold CS.bytes; rw [if_neg (by omega)]
          have hB1 : CS.bytes l1 k1 = ⟨k1, 0, 0⟩ := by unfold CS.bytes; rw [if_pos (by omega)]
          obtain ⟨hi, hr, hb⟩ : inn = -1 ∧ re = false ∧ be = false := by
            rcases HOR.out with ⟨_, _, h1, h2, h3⟩ | ⟨h1, _⟩
            · exact ⟨h1, h2, h3⟩
            · exact absurd ⟨by rw [HP.out], by rw [hB0]; show (13 : Int) ≠ 0; decide⟩ h1
          obtain rfl := hi
          obtain rfl := hr
          obtain rfl := hb
          obtain rfl := HSV.out.trans hB0
          clear hB0 hB1 HSV HOR HFV
          have HN14 := Lib.hid (HN13.out.later ((Below.refl w13.heap.size w13).alloc (Nat.le_refl _) (.cells #[.int .i64 0, .int .i64 0] 31)) L13.out.1)
          have q := HN13.out.cells
          rw [HP.out] at q
          obtain ⟨q0, q1, q2, q3, q4, q5, q6, q7, q8, q9, q10, q11⟩ := q
          have y := HN14.out.cells
          rw [HP.out] at y
          obtain ⟨y0, y1, y2, y3, y4, y5, y6, y7, y8, y9, y10, y11⟩ := y
          have HN15 := Lib.hid (HN13.out.later ((Below.refl w13.heap.size w13).alloc (Nat.le_refl _) (.cells #[.int .i64 13, .int .i64 (l0.length : Int)] 31)) L13.out.1)
          have z := HN15.out.cells
          rw [HP.out] at z
          obtain ⟨z0, z1, z2, z3, z4, z5, z6, z7, z8, z9, z10, z11⟩ := z
          have V15 := ((Below.refl w13.heap.size w13).alloc (Nat.le_refl _) (.cells #[.int .i64 13, .int .i64 (l0.length : Int)] 31)).block _ L13.out.2 |>.trans V13.out
          have v0 : (w13.alloc (.cells #[.int .i64 13, .int .i64 (l0.length : Int)] 31)).cell? ⟨w10.heap.size, 0, none⟩ = some (.int .i64 13) := by rw [cell_of_row _ _ _ _ 31 (0, 0) V15]; rfl
          have v1 : (w13.alloc (.cells #[.int .i64 13, .int .i64 (l0.length : Int)] 31)).cell? ⟨w10.heap.size, 1, none⟩ = some (.int .i64 (l0.length : Int)) := by rw [cell_of_row _ _ _ _ 31 (0, 0) V15]; rfl
          clear V15
          go_wp2_with fail
          refine (awake_any _).mono ?_
          rintro e w16 ⟨rfl, hb16⟩
          have B16 := Lib.hid (HN15.out.below.trans (hb16.mono HN15.out.below.size))
          clear hb16
          go_wp2_with fail
          go_ret
          exact ⟨rfl, B16.out⟩
        · have hxb0 : (x == 0) = false := beq_eq_false_iff_ne.2 hx0
          have hxb1 : (x == 1) = false := beq_eq_false_iff_ne.2 hx1
          have hB0 : CS.bytes l0 k0 = ⟨l0.length, 13, l0.length⟩ := by unfold CS.bytes; rw [if_neg (by omega)]
          have hB1 : CS.bytes l1 k1 = ⟨k1, 0, 0⟩ := by unfold CS.bytes; rw [if_pos (by omega)]
          obtain ⟨hi, hf1, hf2, hr, hb⟩ : inn = (k1 : Int) ∧ f1 = 0 ∧ f2 = 0 ∧ re = true ∧ be = true := by
            rcases HOR.out with ⟨h1, h2, _⟩ | ⟨_, h1, h2, h3, h4, h5⟩
            · rw [show p.w = x from by rw [HP.out]] at h1; exact absurd h1 hx1
            · rw [hB1] at h1 h2 h3
              refine ⟨h1, h2, h3, ?_, h5⟩
              rw [h4]; unfold innerDone; rw [hB1, show p.w = x from by rw [HP.out]]; rw [beq_eq_false_iff_ne.2 hx0]; rfl
          obtain rfl := hi
          obtain rfl := hf1
          obtain rfl := hf2
          obtain rfl := hr
          obtain rfl := hb
          obtain rfl := HSV.out.trans hB0
          clear hB0 hB1 HSV HOR HFV
          have HN14 := Lib.hid (HN13.out.later ((Below.refl w13.heap.size w13).alloc (Nat.le_refl _) (.cells #[.int .i64 0, .int .i64 0] 31)) L13.out.1)
          have q := HN13.out.cells
          rw [HP.out] at q
          obtain ⟨q0, q1, q2, q3, q4, q5, q6, q7, q8, q9, q10, q11⟩ := q
          have y := HN14.out.cells
          rw [HP.out] at y
          obtain ⟨y0, y1, y2, y3, y4, y5, y6, y7, y8, y9, y10, y11⟩ := y
          have HN15 := Lib.hid (HN13.out.later ((Below.refl w13.heap.size w13).alloc (Nat.le_refl _) (.cells #[.int .i64 13, .int .i64 (l0.length : Int)] 31)) L13.out.1)
          have z := HN15.out.cells
          rw [HP.out] at z
          obtain ⟨z0, z1, z2, z3, z4, z5, z6, z7, z8, z9, z10, z11⟩ := z
          have V15 := ((Below.refl w13.heap.size w13).alloc (Nat.le_refl _) (.cells #[.int .i64 13, .int .i64 (l0.length : Int)] 31)).block _ L13.out.2 |>.trans V13.out
          have v0 : (w13.alloc (.cells #[.int .i64 13, .int .i64 (l0.length : Int)] 31)).cell? ⟨w10.heap.size, 0, none⟩ = some (.int .i64 13) := by rw [cell_of_row _ _ _ _ 31 (0, 0) V15]; rfl
          have v1 : (w13.alloc (.cells #[.int .i64 13, .int .i64 (l0.length : Int)] 31)).cell? ⟨w10.heap.size, 1, none⟩ = some (.int .i64 (l0.length : Int)) := by rw [cell_of_row _ _ _ _ 31 (0, 0) V15]; rfl
          clear V15
          go_wp2_with fail
          refine (awake_any _).mono ?_
          rintro e w16 ⟨rfl, hb16⟩
          have B16 := Lib.hid (HN15.out.below.trans (hb16.mono HN15.out.below.size))
          clear hb16
          go_wp2_with fail
          go_ret
          exact ⟨rfl, B16.out⟩
  · have hsi : ¬ (l0.length : Int) < (k0 : Int) := by omega
    by_cases hfw : l1.length < k1
    · have hfi : (l1.length : Int) < (k1 : Int) := by omega
      by_cases hx0 : x = 0
      · subst hx0
        have hB0 : CS.bytes l0 k0 = ⟨k0, 0, 0⟩ := by unfold CS.bytes; rw [if_pos (by omega)]
        have hB1 : CS.bytes l1 k1 = ⟨l1.length, 13, l1.length⟩ := by unfold CS.bytes; rw [if_neg (by omega)]
        obtain ⟨hi, hf1, hf2, hr, hb⟩ : inn = (l1.length : Int) ∧ f1 = 13 ∧ f2 = (l1.length : Int) ∧ re = false ∧ be = true := by
          rcases HOR.out with ⟨h1, h2, _⟩ | ⟨_, h1, h2, h3, h4, h5⟩
          · rw [hB0] at h2; exact absurd rfl h2
          · rw [hB1] at h1 h2 h3
            refine ⟨h1, h2, h3, ?_, h5⟩
            rw [h4]; unfold innerDone; rw [hB1, show p.w = 0 from by rw [HP.out]]; rfl
        obtain rfl := hi
        obtain rfl := hf1
        obtain rfl := hf2
        obtain rfl := hr
        obtain rfl := hb
        obtain rfl := HSV.out.trans hB0
        clear hB0 hB1 HSV HOR HFV
        have HN14 := Lib.hid (HN13.out.later ((Below.refl w13.heap.size w13).alloc (Nat.le_refl _) (.cells #[.int .i64 0, .int .i64 0] 31)) L13.out.1)
        have q := HN13.out.cells
        rw [HP.out] at q
        obtain ⟨q0, q1, q2, q3, q4, q5, q6, q7, q8, q9, q10, q11⟩ := q
        have y := HN14.out.cells
        rw [HP.out] at y
        obtain ⟨y0, y1, y2, y3, y4, y5, y6, y7, y8, y9, y10, y11⟩ := y
        have HN15 := HN14
        have V15 := ((Below.refl w13.heap.size w13).alloc (Nat.le_refl _) (.cells #[.int .i64 0, .int .i64 0] 31)).block _ L13.out.2 |>.trans V13.out
        have v0 : (w13.alloc (.cells #[.int .i64 0, .int .i64 0] 31)).cell? ⟨w10.heap.size, 0, none⟩ = some (.int .i64 0) := by rw [cell_of_row _ _ _ _ 31 (0, 0) V15]; rfl
        have v1 : (w13.alloc (.cells #[.int .i64 0, .int .i64 0] 31)).cell? ⟨w10.heap.size, 1, none⟩ = some (.int .i64 0) := by rw [cell_of_row _ _ _ _ 31 (0, 0) V15]; rfl
        clear V15
        go_wp2_with fail
        refine (awake_any _).mono ?_
        rintro e w16 ⟨rfl, hb16⟩
        have B16 := Lib.hid (HN15.out.below.trans (hb16.mono HN15.out.below.size))
        clear hb16
        go_wp2_with fail
        go_ret
        exact ⟨rfl, B16.out⟩
      · by_cases hx1 : x = 1
        · subst hx1
          clear hx0
          have hB0 : CS.bytes l0 k0 = ⟨k0, 0, 0⟩ := by unfold CS.bytes; rw [if_pos (by omega)]
          have hB1 : CS.bytes l1 k1 = ⟨l1.length, 13, l1.length⟩ := by unfold CS.bytes; rw [if_neg (by omega)]
          obtain ⟨hi, hf1, hf2, hr, hb⟩ : inn = (l1.length : Int) ∧ f1 = 13 ∧ f2 = (l1.length : Int) ∧ re = true ∧ be = true := by
            rcases HOR.out with ⟨h1, h2, _⟩ | ⟨_, h1, h2, h3, h4, h5⟩
            · rw [hB0] at h2; exact absurd rfl h2
            · rw [hB1] at h1 h2 h3
              refine ⟨h1, h2, h3, ?_, h5⟩
              rw [h4]; unfold innerDone; rw [hB1, show p.w = 1 from by rw [HP.out]]; rfl
          obtain rfl := hi
          obtain rfl := hf1
          obtain rfl := hf2
          obtain rfl := hr
          obtain rfl := hb
          obtain rfl := HSV.out.trans hB0
          clear hB0 hB1 HSV HOR HFV
          have HN14 := Lib.hid (HN13.out.later ((Below.refl w13.heap.size w13).alloc (Nat.le_refl _) (.cells #[.int .i64 0, .int .i64 0] 31)) L13.out.1)
          have q := HN13.out.cells
          rw [HP.out] at q
          obtain ⟨q0, q1, q2, q3, q4, q5, q6, q7, q8, q9, q10, q11⟩ := q
          have y := HN14.out.cells
          rw [HP.out] at y
          obtain ⟨y0, y1, y2, y3, y4, y5, y6, y7, y8, y9, y10, y11⟩ := y
          have HN15 := HN14
          have V15 := ((Below.refl w13.heap.size w13).alloc (Nat.le_refl _) (.cells #[.int .i64 0, .int .i64 0] 31)).block _ L13.out.2 |>.trans V13.out
          have v0 : (w13.alloc (.cells #[.int .i64 0, .int .i64 0] 31)).cell? ⟨w10.heap.size, 0, none⟩ = some (.int .i64 0) := by rw [cell_of_row _ _ _ _ 31 (0, 0) V15]; rfl
          have v1 : (w13.alloc (.cells #[.int .i64 0, .int .i64 0] 31)).cell? ⟨w10.heap.size, 1, none⟩ = some (.int .i64 0) := by rw [cell_of_row _ _ _ _ 31 (0, 0) V15]; rfl
          clear V15
          go_wp2_with fail
          refine (awake_any _).mono ?_
          rintro e w16 ⟨rfl, hb16⟩
          have B16 := Lib.hid (HN15.out.below.trans (hb16.mono HN15.out.below.size))
          clear hb16
          go_wp2_with fail
          go_ret
          exact ⟨rfl, B16.out⟩
        · have hxb0 : (x == 0) = false := beq_eq_false_iff_ne.2 hx0
          have hxb1 : (x == 1) = false := beq_eq_false_iff_ne.2 hx1
          have hB0 : CS.bytes l0 k0 = ⟨k0, 0, 0⟩ := by unfold CS.bytes; rw [if_pos (by omega)]
          have hB1 : CS.bytes l1 k1 = ⟨l1.length, 13, l1.length⟩ := by unfold CS.bytes; rw [if_neg (by omega)]
          obtain ⟨hi, hf1, hf2, hr, hb⟩ : inn = (l1.length : Int) ∧ f1 = 13 ∧ f2 = (l1.length : Int) ∧ re = true ∧ be = true := by
            rcases HOR.out with ⟨h1, h2, _⟩ | ⟨_, h1, h2, h3, h4, h5⟩
            · rw [hB0] at h2; exact absurd rfl h2
            · rw [hB1] at h1 h2 h3
              refine ⟨h1, h2, h3, ?_, h5⟩
              rw [h4]; unfold innerDone; rw [hB1, show p.w = x from by rw [HP.out]]; rw [beq_eq_false_iff_ne.2 hx0]; rfl
          obtain rfl := hi
          obtain rfl := hf1
          obtain rfl := hf2
          obtain rfl := hr
          obtain rfl := hb
          obtain rfl := HSV.out.trans hB0
          clear hB0 hB1 HSV HOR HFV
          have HN14 := Lib.hid (HN13.out.later ((Below.refl w13.heap.size w13).alloc (Nat.le_refl _) (.cells #[.int .i64 0, .int .i64 0] 31)) L13.out.1)
          have q := HN13.out.cells
          rw [HP.out] at q
          obtain ⟨q0, q1, q2, q3, q4, q5, q6, q7, q8, q9, q10, q11⟩ := q
          have y := HN14.out.cells
          rw [HP.out] at y
          obtain ⟨y0, y1, y2, y3, y4, y5, y6, y7, y8, y9, y10, y11⟩ := y
          have HN15 := HN14
          have V15 := ((Below.refl w13.heap.size w13).alloc (Nat.le_refl _) (.cells #[.int .i64 0, .int .i64 0] 31)).block _ L13.out.2 |>.trans V13.out
          have v0 : (w13.alloc (.cells #[.int .i64 0, .int .i64 0] 31)).cell? ⟨w10.heap.size, 0, none⟩ = some (.int .i64 0) := by rw [cell_of_row _ _ _ _ 31 (0, 0) V15]; rfl
          have v1 : (w13.alloc (.cells #[.int .i64 0, .int .i64 0] 31)).cell? ⟨w10.heap.size, 1, none⟩ = some (.int .i64 0) := by rw [cell_of_row _ _ _ _ 31 (0, 0) V15]; rfl
          clear V15
          go_wp2_with fail
          refine (awake_any _).mono ?_
          rintro e w16 ⟨rfl, hb16⟩
          have B16 := Lib.hid (HN15.out.below.trans (hb16.mono HN15.out.below.size))
          clear hb16
          go_wp2_with fail
          go_ret
          exact ⟨rfl, B16.out⟩
    · have hfi : ¬ (l1.length : Int) < (k1 : Int) := by omega
      by_cases hx0 : x = 0
      · subst hx0
        have hB0 : CS.bytes l0 k0 = ⟨k0, 0, 0⟩ := by unfold CS.bytes; rw [if_pos (by omega)]
        have hB1 : CS.bytes l1 k1 = ⟨k1, 0, 0⟩ := by unfold CS.bytes; rw [if_pos (by omega)]
        obtain ⟨hi, hf1, hf2, hr, hb⟩ : inn = (k1 : Int) ∧ f1 = 0 ∧ f2 = 0 ∧ re = true ∧ be = true := by
          rcases HOR.out with ⟨h1, h2, _⟩ | ⟨_, h1, h2, h3, h4, h5⟩
          · rw [hB0] at h2; exact absurd rfl h2
          · rw [hB1] at h1 h2 h3
            refine ⟨h1, h2, h3, ?_, h5⟩
            rw [h4]; unfold innerDone; rw [hB1, show p.w = 0 from by rw [HP.out]]; rfl
        obtain rfl := hi
        obtain rfl := hf1
        obtain rfl := hf2
        obtain rfl := hr
        obtain rfl := hb
        obtain rfl := HSV.out.trans hB0
        clear hB0 hB1 HSV HOR HFV
        have HN14 := Lib.hid (HN13.out.later ((Below.refl w13.heap.size w13).alloc (Nat.le_refl _) (.cells #[.int .i64 0, .int .i64 0] 31)) L13.out.1)
        have q := HN13.out.cells
        rw [HP.out] at q
        obtain ⟨q0, q1, q2, q3, q4, q5, q6, q7, q8, q9, q10, q11⟩ := q
        have y := HN14.out.cells
        rw [HP.out] at y
        obtain ⟨y0, y1, y2, y3, y4, y5, y6, y7, y8, y9, y10, y11⟩ := y
        have HN15 := HN14
        have V15 := ((Below.refl w13.heap.size w13).alloc (Nat.le_refl _) (.cells #[.int .i64 0, .int .i64 0] 31)).block _ L13.out.2 |>.trans V13.out
        have v0 : (w13.alloc (.cells #[.int .i64 0, .int .i64 0] 31)).cell? ⟨w10.heap.size, 0, none⟩ = some (.int .i64 0) := by rw [cell_of_row _ _ _ _ 31 (0, 0) V15]; rfl
        have v1 : (w13.alloc (.cells #[.int .i64 0, .int .i64 0] 31)).cell? ⟨w10.heap.size, 1, none⟩ = some (.int .i64 0) := by rw [cell_of_row _ _ _ _ 31 (0, 0) V15]; rfl
        clear V15
        go_wp2_with fail
        refine (awake_any _).mono ?_
        rintro e w16 ⟨rfl, hb16⟩
        have B16 := Lib.hid (HN15.out.below.trans (hb16.mono HN15.out.below.size))
        clear hb16
        go_wp2_with fail
        go_ret
        exact ⟨rfl, B16.out⟩
      · by_cases hx1 : x = 1
        · subst hx1
          clear hx0
          have hB0 : CS.bytes l0 k0 = ⟨k0, 0, 0⟩ := by unfold CS.bytes; rw [if_pos (by omega)]
          have hB1 : CS.bytes l1 k1 = ⟨k1, 0, 0⟩ := by unfold CS.bytes; rw [if_pos (by omega)]
          obtain ⟨hi, hf1, hf2, hr, hb⟩ : inn = (k1 : Int) ∧ f1 = 0 ∧ f2 = 0 ∧ re = true ∧ be = true := by
            rcases HOR.out with ⟨h1, h2, _⟩ | ⟨_, h1, h2, h3, h4, h5⟩
            · rw [hB0] at h2; exact absurd rfl h2
            · rw [hB1] at h1 h2 h3
              refine ⟨h1, h2, h3, ?_, h5⟩
              rw [h4]; unfold innerDone; rw [hB1, show p.w = 1 from by rw [HP.out]]; rfl
          obtain rfl := hi
          obtain rfl := hf1
          obtain rfl := hf2
          obtain rfl := hr
          obtain rfl := hb
          obtain rfl := HSV.out.trans hB0
          clear hB0 hB1 HSV HOR HFV
          have HN14 := Lib.hid (HN13.out.later ((Below.refl w13.heap.size w13).alloc (Nat.le_refl _) (.cells #[.int .i64 0, .int .i64 0] 31)) L13.out.1)
          have q := HN13.out.cells
          rw [HP.out] at q
          obtain ⟨q0, q1, q2, q3, q4, q5, q6, q7, q8, q9, q10, q11⟩ := q
          have y := HN14.out.cells
          rw [HP.out] at y
          obtain ⟨y0, y1, y2, y3, y4, y5, y6, y7, y8, y9, y10, y11⟩ := y
          have HN15 := HN14
          have V15 := ((Below.refl w13.heap.size w13).alloc (Nat.le_refl _) (.cells #[.int .i64 0, .int .i64 0] 31)).block _ L13.out.2 |>.trans V13.out
          have v0 : (w13.alloc (.cells #[.int .i64 0, .int .i64 0] 31)).cell? ⟨w10.heap.size, 0, none⟩ = some (.int .i64 0) := by rw [cell_of_row _ _ _ _ 31 (0, 0) V15]; rfl
          have v1 : (w13.alloc (.cells #[.int .i64 0, .int .i64 0] 31)).cell? ⟨w10.heap.size, 1, none⟩ = some (.int .i64 0) := by rw [cell_of_row _ _ _ _ 31 (0, 0) V15]; rfl
          clear V15
          go_wp2_with fail
          refine (awake_any _).mono ?_
          rintro e w16 ⟨rfl, hb16⟩
          have B16 := Lib.hid (HN15.out.below.trans (hb16.mono HN15.out.below.size))
          clear hb16
          go_wp2_with fail
          go_ret
          exact ⟨rfl, B16.out⟩
        · have hxb0 : (x == 0) = false := beq_eq_false_iff_ne.2 hx0
          have hxb1 : (x == 1) = false := beq_eq_false_iff_ne.2 hx1
          have hB0 : CS.bytes l0 k0 = ⟨k0, 0, 0⟩ := by unfold CS.bytes; rw [if_pos (by omega)]
          have hB1 : CS.bytes l1 k1 = ⟨k1, 0, 0⟩ := by unfold CS.bytes; rw [if_pos (by omega)]
          obtain ⟨hi, hf1, hf2, hr, hb⟩ : inn = (k1 : Int) ∧ f1 = 0 ∧ f2 = 0 ∧ re = true ∧ be = true := by
            rcases HOR.out with ⟨h1, h2, _⟩ | ⟨_, h1, h2, h3, h4, h5⟩
            · rw [hB0] at h2; exact absurd rfl h2
            · rw [hB1] at h1 h2 h3
              refine ⟨h1, h2, h3, ?_, h5⟩
              rw [h4]; unfold innerDone; rw [hB1, show p.w = x from by rw [HP.out]]; rw [beq_eq_false_iff_ne.2 hx0]; rfl
          obtain rfl := hi
          obtain rfl := hf1
          obtain rfl := hf2
          obtain rfl := hr
          obtain rfl := hb
          obtain rfl := HSV.out.trans hB0
          clear hB0 hB1 HSV HOR HFV
          have HN14 := Lib.hid (HN13.out.later ((Below.refl w13.heap.size w13).alloc (Nat.le_refl _) (.cells #[.int .i64 0, .int .i64 0] 31)) L13.out.1)
          have q := HN13.out.cells
          rw [HP.out] at q
          obtain ⟨q0, q1, q2, q3, q4, q5, q6, q7, q8, q9, q10, q11⟩ := q
          have y := HN14.out.cells
          rw [HP.out] at y
          obtain ⟨y0, y1, y2, y3, y4, y5, y6, y7, y8, y9, y10, y11⟩ := y
          have HN15 := HN14
          have V15 := ((Below.refl w13.heap.size w13).alloc (Nat.le_refl _) (.cells #[.int .i64 0, .int .i64 0] 31)).block _ L13.out.2 |>.trans V13.out
          have v0 : (w13.alloc (.cells #[.int .i64 0, .int .i64 0] 31)).cell? ⟨w10.heap.size, 0, none⟩ = some (.int .i64 0) := by rw [cell_of_row _ _ _ _ 31 (0, 0) V15]; rfl
          have v1 : (w13.alloc (.cells #[.int .i64 0, .int .i64 0] 31)).cell? ⟨w10.heap.size, 1, none⟩ = some (.int .i64 0) := by rw [cell_of_row _ _ _ _ 31 (0, 0) V15]; rfl
          clear V15
          go_wp2_with fail
          refine (awake_any _).mono ?_
          rintro e w16 ⟨rfl, hb16⟩
          have B16 := Lib.hid (HN15.out.below.trans (hb16.mono HN15.out.below.size))
          clear hb16
          go_wp2_with fail
          go_ret
          exact ⟨rfl, B16.out⟩

set_option maxRecDepth 100000 in
set_option maxHeartbeats 4000000 in
theorem nests_big (A0 : Option Addr) (n0 c0 : Nat) (A1 : Option Addr) (n1 c1 : Nat) (t0 t1 x : Int) (w : World) (h : 100 < n0 ∨ 100 < n1 ∨ t0 < 0 ∨ 120 < t0 ∨ t1 < 0 ∨ 120 < t1) :
    Calls Try.prog 3 #[.agg #[.slice A0 n0 c0, .slice A1 n1 c1], .agg #[.int .i64 t0, .int .i64 t1], .int .i64 x] w fun e w' => e = .returned (.bool true) ∧ Below w.heap.size w w' := by
  obtain ⟨t1', t2', t3', t4', t5'⟩ := w3_rows w #[.slice A0 n0 c0, .slice A1 n1 c1] #[.int .i64 t0, .int .i64 t1] #[.int .i64 x]
  have HB := Lib.hid t5'
  clear t1' t2' t3' t4' t5'
  by_cases g0 : 100 < n0
  · have k0 : (100 : Int) < (n0 : Int) := by omega
    clear h
    go_enter Try.func3, Try.ntmps3
    go_wp2_with fail
    refine (awake_any _).mono ?_
    rintro e w4 ⟨rfl, hb4⟩
    have B4 := Lib.hid (HB.out.trans ((show Below (w3 w #[.slice A0 n0 c0, .slice A1 n1 c1] #[.int .i64 t0, .int .i64 t1] #[.int .i64 x]).heap.size (w3 w #[.slice A0 n0 c0, .slice A1 n1 c1] #[.int .i64 t0, .int .i64 t1] #[.int .i64 x]) w4 from hb4).mono HB.out.size))
    clear hb4
    go_wp2_with fail
    go_ret
    exact ⟨rfl, B4.out⟩
  · have k0 : ¬ (100 : Int) < (n0 : Int) := by omega
    by_cases g1 : 100 < n1
    · have k1 : (100 : Int) < (n1 : Int) := by omega
      clear h
      go_enter Try.func3, Try.ntmps3
      go_wp2_with fail
      refine (awake_any _).mono ?_
      rintro e w4 ⟨rfl, hb4⟩
      have B4 := Lib.hid (HB.out.trans ((show Below (w3 w #[.slice A0 n0 c0, .slice A1 n1 c1] #[.int .i64 t0, .int .i64 t1] #[.int .i64 x]).heap.size (w3 w #[.slice A0 n0 c0, .slice A1 n1 c1] #[.int .i64 t0, .int .i64 t1] #[.int .i64 x]) w4 from hb4).mono HB.out.size))
      clear hb4
      go_wp2_with fail
      go_ret
      exact ⟨rfl, B4.out⟩
    · have k1 : ¬ (100 : Int) < (n1 : Int) := by omega
      by_cases g2 : t0 < 0
      · have k2 : t0 < 0 := by omega
        clear h
        go_enter Try.func3, Try.ntmps3
        go_wp2_with fail
        refine (awake_any _).mono ?_
        rintro e w4 ⟨rfl, hb4⟩
        have B4 := Lib.hid (HB.out.trans ((show Below (w3 w #[.slice A0 n0 c0, .slice A1 n1 c1] #[.int .i64 t0, .int .i64 t1] #[.int .i64 x]).heap.size (w3 w #[.slice A0 n0 c0, .slice A1 n1 c1] #[.int .i64 t0, .int .i64 t1] #[.int .i64 x]) w4 from hb4).mono HB.out.size))
        clear hb4
        go_wp2_with fail
        go_ret
        exact ⟨rfl, B4.out⟩
      · have k2 : ¬ t0 < 0 := by omega
        by_cases g3 : 120 < t0
        · have k3 : (120 : Int) < t0 := by omega
          clear h
          go_enter Try.func3, Try.ntmps3
          go_wp2_with fail
          refine (awake_any _).mono ?_
          rintro e w4 ⟨rfl, hb4⟩
          have B4 := Lib.hid (HB.out.trans ((show Below (w3 w #[.slice A0 n0 c0, .slice A1 n1 c1] #[.int .i64 t0, .int .i64 t1] #[.int .i64 x]).heap.size (w3 w #[.slice A0 n0 c0, .slice A1 n1 c1] #[.int .i64 t0, .int .i64 t1] #[.int .i64 x]) w4 from hb4).mono HB.out.size))
          clear hb4
          go_wp2_with fail
          go_ret
          exact ⟨rfl, B4.out⟩
        · have k3 : ¬ (120 : Int) < t0 := by omega
          by_cases g4 : t1 < 0
          · have k4 : t1 < 0 := by omega
            clear h
            go_enter Try.func3, Try.ntmps3
            go_wp2_with fail
            refine (awake_any _).mono ?_
            rintro e w4 ⟨rfl, hb4⟩
            have B4 := Lib.hid (HB.out.trans ((show Below (w3 w #[.slice A0 n0 c0, .slice A1 n1 c1] #[.int .i64 t0, .int .i64 t1] #[.int .i64 x]).heap.size (w3 w #[.slice A0 n0 c0, .slice A1 n1 c1] #[.int .i64 t0, .int .i64 t1] #[.int .i64 x]) w4 from hb4).mono HB.out.size))
            clear hb4
            go_wp2_with fail
            go_ret
            exact ⟨rfl, B4.out⟩
          · have k4 : ¬ t1 < 0 := by omega
            have k5 : (120 : Int) < t1 := by omega
            clear h
            go_enter Try.func3, Try.ntmps3
            go_wp2_with fail
            refine (awake_any _).mono ?_
            rintro e w4 ⟨rfl, hb4⟩
            have B4 := Lib.hid (HB.out.trans ((show Below (w3 w #[.slice A0 n0 c0, .slice A1 n1 c1] #[.int .i64 t0, .int .i64 t1] #[.int .i64 x]).heap.size (w3 w #[.slice A0 n0 c0, .slice A1 n1 c1] #[.int .i64 t0, .int .i64 t1] #[.int .i64 x]) w4 from hb4).mono HB.out.size))
            clear hb4
            go_wp2_with fail
            go_ret
            exact ⟨rfl, B4.out⟩

theorem nests_walk (A0 : Option Addr) (c0 : Nat) (l0 : List Int) (A1 : Option Addr) (c1 : Nat) (l1 : List Int) (t0 t1 x : Int) (w : World) (hs0 : Sl w A0 l0.length l0) (hA0 : A0 = none → c0 = 0) (hs1 : Sl w A1 l1.length l1) (hA1 : A1 = none → c1 = 0) :
    Calls Try.prog 3 #[.agg #[.slice A0 l0.length c0, .slice A1 l1.length c1], .agg #[.int .i64 t0, .int .i64 t1], .int .i64 x] w fun e w' => e = .returned (.bool true) ∧ Below w.heap.size w w' := by
  by_cases h : 100 < l0.length ∨ 100 < l1.length ∨ t0 < 0 ∨ 120 < t0 ∨ t1 < 0 ∨ 120 < t1
  · exact nests_big A0 _ c0 A1 _ c1 t0 t1 x w h
  · obtain ⟨k0, rfl⟩ := Int.eq_ofNat_of_zero_le (show 0 ≤ t0 by omega)
    obtain ⟨k1, rfl⟩ := Int.eq_ofNat_of_zero_le (show 0 ≤ t1 by omega)
    exact nests_main A0 c0 l0 A1 c1 l1 k0 k1 x w hs0 hA0 hs1 hA1 (by omega) (by omega) (by omega) (by omega)

section
variable (H : Type) (enc : TypeId × Value → H) (w : World) (base : Nat) (spare : Nat → Bool) (held : Bool) (fuel : Nat) (cs : List Value) (x : DataW H × List MemPlace)
theorem openTwo (h : DataW.trod enc Try.prog w base spare held fuel 23 cs = some x) : ∃ p : List Int × List Int, ∃ (A0 : Option Addr) (C0 : Nat) (A1 : Option Addr) (C1 : Nat), cs = [.slice A0 p.1.length C0, .slice A1 p.2.length C1] ∧ ((A0 = none → C0 = 0) ∧ Sl w A0 p.1.length p.1) ∧ (A1 = none → C1 = 0) ∧ Sl w A1 p.2.length p.2 := by
  have hC : Try.prog.cellsOf 23 = 2 := by kernel_rfl
  have h1 : Try.prog.cellsOf 22 = 1 := by kernel_rfl
  obtain ⟨xs, m, _, _, hlen, hxl, hf⟩ := DataW.trod_array Try.underlying23 h
  match cs, hlen.trans hC with
  | [a, b], _ =>
    have e0 := hf 0 (by decide)
    have e1 := hf 1 (by decide)
    rw [h1] at e0 e1
    have hx0 : xs[0]? = some (xs[0]'(by omega)) := List.getElem?_eq_getElem (by omega)
    have hx1 : xs[1]? = some (xs[1]'(by omega)) := List.getElem?_eq_getElem (by omega)
    have t0 : DataW.trod enc Try.prog w base spare held m 22 [a] = some _ := (by simpa using e0 : DataW.trod enc Try.prog w base spare held m 22 [a] = xs[0]?).trans hx0
    have t1 : DataW.trod enc Try.prog w base spare held m 22 [b] = some _ := (by simpa using e1 : DataW.trod enc Try.prog w base spare held m 22 [b] = xs[1]?).trans hx1
    obtain ⟨l0, A0, C0, f0, g0, i0⟩ := openBytes H enc w base spare held m _ _ t0
    obtain ⟨l1, A1, C1, f1, g1, i1⟩ := openBytes H enc w base spare held m _ _ t1
    cases f0
    cases f1
    exact ⟨(l0, l1), A0, C0, A1, C1, rfl, ⟨g0.2, i0⟩, g1.2, i1⟩

theorem openPair (h : DataW.trod enc Try.prog w base spare held fuel 24 cs = some x) : ∃ p : Int × Int, cs = [.int .i64 p.1, .int .i64 p.2] := by
  have hC : Try.prog.cellsOf 24 = 2 := by kernel_rfl
  have h1 : Try.prog.cellsOf 3 = 1 := by kernel_rfl
  obtain ⟨xs, m, _, _, hlen, hxl, hf⟩ := DataW.trod_array Try.underlying24 h
  match cs, hlen.trans hC with
  | [a, b], _ =>
    have e0 := hf 0 (by decide)
    have e1 := hf 1 (by decide)
    rw [h1] at e0 e1
    have hx0 : xs[0]? = some (xs[0]'(by omega)) := List.getElem?_eq_getElem (by omega)
    have hx1 : xs[1]? = some (xs[1]'(by omega)) := List.getElem?_eq_getElem (by omega)
    have t0 : DataW.trod enc Try.prog w base spare held m 3 [a] = some _ := (by simpa using e0 : DataW.trod enc Try.prog w base spare held m 3 [a] = xs[0]?).trans hx0
    have t1 : DataW.trod enc Try.prog w base spare held m 3 [b] = some _ := (by simpa using e1 : DataW.trod enc Try.prog w base spare held m 3 [b] = xs[1]?).trans hx1
    obtain ⟨n0, f0, _⟩ := DataW.trod_int Try.underlying3 t0
    obtain ⟨n1, f1, _⟩ := DataW.trod_int Try.underlying3 t1
    cases f0
    cases f1
    exact ⟨(n0, n1), rfl⟩
end
theorem agg2 {cs : Array Value} {a b : Value} (h : (Value.agg cs).cells.toList = [a, b]) : cs = #[a, b] := by
  have e' : cs.toList = [a, b] := h
  exact Array.toList_inj.1 e'
end Go.Proofs.Ytiikppiogglppaa
