/-
  The walk of the law CurFirst.
-/
import Derived.Test.YtiikppiogglppaaFirstPlain
import Derived.Test.YtiikppiogglppaaArgs
namespace Go.Proofs.Ytiikppiogglppaa
open Go.RowKit

/-- What stands between two rounds. -/
structure FirstAt (w : World) (x y z : Int) (g : Nat) (A : Option Addr) (c : Nat) (l : List Int) (k : Nat) (s : CS) (wr : World) : Prop where
  cur : IsCur wr g A c l s false
  fits : s.fits l
  box : wr.heap[w.heap.size]? = some (.cells #[.int .i64 x, .int .i64 y, .int .i64 z] 58 (0, 0))
  below : Below w.heap.size w wr
  past : w.heap.size < g
  noted : 0 ≤ z → z < k → x ≠ 0 → s.code ≠ 0

theorem FirstAt.boxed {w : World} {x y z : Int} {g : Nat} {A : Option Addr} {c : Nat} {l : List Int} {k : Nat} {s : CS} {wr : World} (h : FirstAt w x y z g A c l k s wr) :
    wr.cell? ⟨w.heap.size, 0, none⟩ = some (.int .i64 x) ∧ wr.cell? ⟨w.heap.size, 1, none⟩ = some (.int .i64 y) ∧ wr.cell? ⟨w.heap.size, 2, none⟩ = some (.int .i64 z) := by
  refine ⟨?_, ?_, ?_⟩
  all_goals rw [cell_of_row _ _ _ _ 58 (0, 0) h.box]; rfl

theorem FirstAt.next {w : World} {x y z : Int} {g : Nat} {A : Option Addr} {c : Nat} {l : List Int} {k : Nat} {s : CS} {wr : World} (h : FirstAt w x y z g A c l k s wr) {w' : World} {s' : CS} (hc : IsCur w' g A c l s' false) (hf : s'.fits l) (hg : wr.grownBy w' (some g)) (k' : Nat) (hn : 0 ≤ z → z < k' → x ≠ 0 → s'.code ≠ 0) :
    FirstAt w x y z g A c l k' s' w' :=
  ⟨hc, hf, (hg.block _ (Array.getElem?_eq_some_iff.1 h.box).1 (fun e => by have := Option.some.inj e; have := h.past; omega)).trans h.box, h.below.grown hg h.below.size (fun j hj => by cases hj; exact Nat.le_of_lt h.past), h.past, hn⟩

theorem FirstAt.drew {w : World} {x y z : Int} {g : Nat} {A : Option Addr} {c : Nat} {l : List Int} {k : Nat} {s : CS} {wr : World} (h : FirstAt w x y z g A c l k s wr) : FirstAt w x y z g A c l k s wr.drew :=
  ⟨h.cur, h.fits, h.box, h.below.drew, h.past, h.noted⟩

set_option maxRecDepth 100000 in
set_option maxHeartbeats 4000000 in
theorem first_main (A : Option Addr) (c : Nat) (l : List Int) (A2 : Option Addr) (c2 : Nat) (acts : List (Int × Int × Int)) (x y z : Int) (w : World) (hs : Sl w A l.length l) (hA : A = none → c = 0) (ha : Acts w A2 acts.length acts) (hn : l.length ≤ 300) (hn2 : acts.length ≤ 100) :
    Calls Try.prog 7 #[.slice A l.length c, .slice A2 acts.length c2, .agg #[.int .i64 x, .int .i64 y, .int .i64 z]] w fun e w' => e = .returned (.bool true) ∧ Below w.heap.size w w' := by
  have hn' : ¬ (300 : Int) < (l.length : Int) := by omega
  have hn2' : ¬ (100 : Int) < (acts.length : Int) := by omega
  have b0 := (Below.refl w.heap.size w).alloc (Nat.le_refl _) (.cells #[.int .i64 x, .int .i64 y, .int .i64 z] 58)
  have h0 := heap_alloc_new w (.cells #[.int .i64 x, .int .i64 y, .int .i64 z] 58)
  have HS := Lib.hid (hs.below b0)
  have HA := Lib.hid ha
  have B0 := Lib.hid b0
  have H0 := Lib.hid h0
  clear hs ha b0 h0
  go_enter Try.func7, Try.ntmps7
  go_wp2_with fail
  refine (new_any A l.length c l _ HS.out hA (by omega)).mono ?_
  rintro e w1 ⟨g, A1, c1, rfl, h1, hge, _, hb1⟩
  have F1 : FirstAt w x y z g A1 c1 l 0 CS.start w1 := ⟨h1, CS.fits_start (by omega), (hb1.block _ (by simp)).trans H0.out, B0.out.trans (hb1.mono B0.out.size), by simp at hge; omega, fun h1 h2 => by omega⟩
  have HF1 := Lib.hid F1
  clear h1 hge hb1 F1 HS H0
  go_wp2_with fail
  go_loopw [8] (fun vi wr => ∃ (k : Nat) (s : CS), k ≤ acts.length ∧ vi = .int .i64 k ∧ Hid (FirstAt w x y z g A1 c1 l k s wr)) (fun vi _ => acts.length - (intOf vi).toNat)
  case atStart => exact ⟨0, CS.start, by omega, rfl, HF1⟩
  case round =>
    obtain ⟨k, s, hk, rfl, HI⟩ := hrel
    by_cases hkn : k < acts.length
    · have hki : (k : Int) < (acts.length : Int) := by omega
      obtain ⟨q0, q1, q2⟩ := HI.out.boxed
      by_cases hz : (k : Int) = z
      · have hz' : ((k : Int) == z) = true := beq_iff_eq.2 hz
        go_wp2_with fail
        refine (fail_any wr g A1 c1 l s false x y HI.out.cur HI.out.fits).mono ?_
        rintro e w2 ⟨rfl, h2, hg2⟩
        obtain ⟨s1, hs1⟩ : ∃ s1, s1 = s.fail x y := ⟨_, rfl⟩
        have F2 : Hid (FirstAt w x y z g A1 c1 l (k + 1) s1 w2) := Lib.hid (HI.out.next (hs1 ▸ h2) (hs1 ▸ CS.fits_fail HI.out.fits x y) hg2 (k + 1) (fun _ _ hx => hs1 ▸ fail_notes s x y hx))
        clear HI h2 hg2 hs1 hz hz' q0 q1 q2
        go_wp2_with fail
        have HFT : Hid (s1.fits l) := Lib.hid F2.out.fits
        refine (fault_any _ g A1 c1 l s1 false F2.out.cur).mono ?_
        rintro e w3 ⟨rfl, hb3⟩
        have F3 : Hid (FirstAt w x y z g A1 c1 l (k + 1) s1 w3) := Lib.hid (F2.out.next (F2.out.cur.below hb3) F2.out.fits (grown_below hb3) (k + 1) F2.out.noted)
        have hb4 := (Below.refl w3.heap.size w3).alloc (Nat.le_refl _) (.cells #[.int .i64 s1.code, .int .i64 s1.fat] 31)
        have F4 : Hid (FirstAt w x y z g A1 c1 l (k + 1) s1 (w3.alloc (.cells #[.int .i64 s1.code, .int .i64 s1.fat] 31))) := Lib.hid (F3.out.next (F3.out.cur.below hb4) F3.out.fits (grown_below hb4) (k + 1) F3.out.noted)
        have V4 := Lib.hid (heap_alloc_new w3 (.cells #[.int .i64 s1.code, .int .i64 s1.fat] 31))
        have G4 := Lib.hid F3.out.cur.lt
        clear F2 F3 hb3 hb4
        go_wp2_with fail
        refine (at_any _ g A1 c1 l s1 false F4.out.cur).mono ?_
        rintro e w5 ⟨rfl, hb5⟩
        have F5 : Hid (FirstAt w x y z g A1 c1 l (k + 1) s1 w5) := Lib.hid (F4.out.next (F4.out.cur.below hb5) F4.out.fits (grown_below hb5) (k + 1) F4.out.noted)
        have V5 := Lib.hid ((hb5.block _ (by simp)).trans V4.out)
        have G5 : Hid (w3.heap.size < w5.heap.size) := Lib.hid (by have := hb5.size; simp at this; omega)
        clear F4 V4 hb5
        obtain ⟨b2, o2, rfl, _, e0, e1, e2⟩ := (HA.out.below F5.out.below).at k hkn
        obtain ⟨⟨d, m, kk⟩, hact⟩ : ∃ p : Int × Int × Int, p = acts.getD k (0, 0, 0) := ⟨_, rfl⟩
        rw [← hact] at e0 e1 e2
        have HD := Lib.hid hact
        clear hact
        simp only at e0 e1 e2
        go_wp2_with fail
        refine (does_any _ g A1 c1 l s1 false d m kk F5.out.cur F5.out.fits).mono ?_
        rintro e w6 ⟨v, rfl, hown, h6, hg6⟩
        obtain ⟨s2, hs2⟩ : ∃ s2, s2 = (s1.does l d m kk).2.2 := ⟨_, rfl⟩
        have f6 : s2.fits l := hs2 ▸ does_fits F5.out.fits d m kk
        rw [← hs2] at h6
        have hst : s1.code ≠ 0 → s2 = s1 := fun h => hs2.trans (does_stuck l d m kk h)
        have F6 : Hid (FirstAt w x y z g A1 c1 l (k + 1) s2 w6) := Lib.hid (F5.out.next h6 f6 hg6 (k + 1) (fun h1 h2 hx => by have hc := F5.out.noted h1 h2 hx; rw [hst hc]; exact hc))
        have V6 := Lib.hid ((hg6.block _ G5.out (fun e => by have := Option.some.inj e; have := G4.out; omega)).trans V5.out)
        have G6 : Hid (w3.heap.size < w6.heap.size) := Lib.hid (Nat.lt_of_lt_of_le G5.out hg6.size)
        have hle : s1.n ≤ s2.n := hs2 ▸ does_mono F5.out.fits d m kk
        have HST := Lib.hid hst
        have HO := Lib.hid hown
        have hs2l := f6.1
        have hsum : ((s2.n : Int) + ((l.length : Int) - (s2.n : Int)) != (l.length : Int)) = false := bne_eq_false_iff_eq.2 (by omega)
        have hlt2 : ¬ (s2.n : Int) < (s1.n : Int) := by omega
        obtain ⟨isv, hisv⟩ : ∃ b, b = (s1.does l d m kk).2.1 := ⟨_, rfl⟩
        rw [← hisv]
        have HIS := Lib.hid hisv
        clear hs2 h6 hg6 hst hown F5 V5 G5 hisv e0 e1 e2
        go_wp2_with fail
        refine (at_any _ g A1 c1 l s2 false F6.out.cur).mono ?_
        rintro e w7 ⟨rfl, hb7⟩
        have F7 : Hid (FirstAt w x y z g A1 c1 l (k + 1) s2 w7) := Lib.hid (F6.out.next (F6.out.cur.below hb7) F6.out.fits (grown_below hb7) (k + 1) F6.out.noted)
        have V7 := Lib.hid ((hb7.block _ G6.out).trans V6.out)
        have G7 : Hid (w3.heap.size < w7.heap.size) := Lib.hid (Nat.lt_of_lt_of_le G6.out hb7.size)
        have HO7 := Lib.hid (HO.out.kept hb7)
        clear F6 V6 G6 HO hb7
        go_wp2_with fail
        refine (left_any _ g A1 c1 l s2 false F7.out.cur f6).mono ?_
        rintro e w8 ⟨rfl, hb8⟩
        have F8 : Hid (FirstAt w x y z g A1 c1 l (k + 1) s2 w8) := Lib.hid (F7.out.next (F7.out.cur.below hb8) F7.out.fits (grown_below hb8) (k + 1) F7.out.noted)
        have V8 := Lib.hid ((hb8.block _ G7.out).trans V7.out)
        have G8 : Hid (w3.heap.size < w8.heap.size) := Lib.hid (Nat.lt_of_lt_of_le G7.out hb8.size)
        have HO8 := Lib.hid (HO7.out.kept hb8)
        clear F7 V7 G7 HO7 hb8
        go_wp2_with fail
        refine (at_any _ g A1 c1 l s2 false F8.out.cur).mono ?_
        rintro e w9 ⟨rfl, hb9⟩
        have F9 : Hid (FirstAt w x y z g A1 c1 l (k + 1) s2 w9) := Lib.hid (F8.out.next (F8.out.cur.below hb9) F8.out.fits (grown_below hb9) (k + 1) F8.out.noted)
        have V9 := Lib.hid ((hb9.block _ G8.out).trans V8.out)
        have G9 : Hid (w3.heap.size < w9.heap.size) := Lib.hid (Nat.lt_of_lt_of_le G8.out hb9.size)
        have HO9 := Lib.hid (HO8.out.kept hb9)
        clear F8 V8 G8 HO8 hb9
        have v0 : w9.cell? ⟨w3.heap.size, 0, none⟩ = some (.int .i64 s1.code) := by rw [cell_of_row _ _ 0 _ 31 (0, 0) V9.out]; rfl
        have v1 : w9.cell? ⟨w3.heap.size, 1, none⟩ = some (.int .i64 s1.fat) := by rw [cell_of_row _ _ 1 _ 31 (0, 0) V9.out]; rfl
        by_cases hc0 : s1.code = 0
        · have hfat := HFT.out.2.2 hc0
          rw [hc0] at v0
          rw [hfat] at v1
          clear hc0 hfat
          go_wp2_with fail
          go_roundw
          case rel => exact ⟨k + 1, s2, by omega, by go_num, F9⟩
          case measure => simp [intOf]; omega
        · have hc' : (s1.code == 0) = false := beq_eq_false_iff_ne.2 hc0
          obtain rfl := HST.out hc0
          go_wp2_with fail
          have F9d : Hid (FirstAt w x y z g A1 c1 l (k + 1) s2 w9.drew) := Lib.hid F9.out.drew
          have HO9d : Hid (OwnB w9.drew _ v _ _) := Lib.hid HO9.out
          have G9d : Hid (w3.heap.size < w9.drew.heap.size) := Lib.hid G9.out
          have v0d : w9.drew.cell? ⟨w3.heap.size, 0, none⟩ = some (.int .i64 s2.code) := v0
          have v1d : w9.drew.cell? ⟨w3.heap.size, 1, none⟩ = some (.int .i64 s2.fat) := v1
          clear F9 HO9 G9
          go_region_law (first | (go_simp; go_at_call 24; refine (fault_any _ g A1 c1 l s2 false F9d.out.cur).mono ?_; rintro e w10 ⟨rfl, hb10⟩; have F10 : Hid (FirstAt w x y z g A1 c1 l (k + 1) s2 w10) := Lib.hid (F9d.out.next (F9d.out.cur.below hb10) F9d.out.fits (grown_below hb10) (k + 1) F9d.out.noted); have u0 := (hb10.cell (p := ⟨w3.heap.size, 0, none⟩) G9d.out).trans v0d; have u1 := (hb10.cell (p := ⟨w3.heap.size, 1, none⟩) G9d.out).trans v1d; have HO10 := Lib.hid (HO9d.out.kept hb10); clear hb10) | (go_simp; go_at_call 25; refine (at_any _ g A1 c1 l s2 false F10.out.cur).mono ?_; rintro e w11 ⟨rfl, hb11⟩; have F11 : Hid (FirstAt w x y z g A1 c1 l (k + 1) s2 w11) := Lib.hid (F10.out.next (F10.out.cur.below hb11) F10.out.fits (grown_below hb11) (k + 1) F10.out.noted); have HO11 := Lib.hid (HO10.out.kept hb11); clear hb11))
          all_goals (
            clear v0 v1 v0d v1d u0 u1 F9d F10 HO9d HO10 G9d V9
            obtain ⟨b3, o3, hE, _, f0, _, _⟩ := (HA.out.below F11.out.below).at k hkn
            cases hE
            rw [← HD.out] at f0
            simp only at f0
            have HO := HO11.out
            by_cases d0 : d = 0
            · subst d0
              rw [does_stuck0 l m kk hc0] at HO
              obtain ⟨A9, c9, rfl, S9, _, _, _⟩ := HO.shape
              obtain ⟨b4, o4, rfl, _, hcell⟩ := S9.at 0 (by show 0 < 1; decide)
              have hcell' : w11.cell? ⟨b4, o4, none⟩ = some (.int .u8 0) := hcell
              clear HO S9 hcell HO11
              go_wp2_with fail
              go_roundw
              case rel => exact ⟨k + 1, s2, by omega, by go_num, F11⟩
              case measure => simp [intOf]; omega
            · have d0' : (d == 0) = false := beq_eq_false_iff_ne.2 d0
              by_cases d1 : d = 1
              · subst d1
                rw [does_stuck1 l m kk hc0] at HO
                have HIS' := HIS.out
                rw [does_stuck1 l m kk hc0] at HIS'
                have : isv = false := HIS'
                subst this
                obtain ⟨A9, c9, rfl, S9, _, _, _⟩ := HO.shape
                obtain ⟨b4, o4, rfl, _, hcell⟩ := S9.at 0 (by show 0 < 1; decide)
                have hcell' : w11.cell? ⟨b4, o4, none⟩ = some (.int .u8 0) := hcell
                clear HO S9 hcell HO11 HIS HIS'
                go_wp2_with fail
                go_roundw
                case rel => exact ⟨k + 1, s2, by omega, by go_num, F11⟩
                case measure => simp [intOf]; omega
              · have d1' : (d == 1) = false := beq_eq_false_iff_ne.2 d1
                by_cases d2 : d = 2
                · subst d2
                  rw [does_stuck2 l m kk hc0] at HO
                  obtain ⟨A9, c9, rfl, S9, _, _, _⟩ := HO.shape
                  clear HO S9 HO11
                  go_wp2_with fail
                  go_roundw
                  case rel => exact ⟨k + 1, s2, by omega, by go_num, F11⟩
                  case measure => simp [intOf]; omega
                · have d2' : (d == 2) = false := beq_eq_false_iff_ne.2 d2
                  by_cases d3 : d = 3
                  · subst d3
                    rw [does_stuck3 l m kk hc0] at HO
                    have HIS' := HIS.out
                    rw [does_stuck3 l m kk hc0] at HIS'
                    have : isv = false := HIS'
                    subst this
                    obtain ⟨A9, c9, rfl, S9, _, _, _⟩ := HO.shape
                    clear HO S9 HO11 HIS HIS'
                    go_wp2_with fail
                    go_roundw
                    case rel => exact ⟨k + 1, s2, by omega, by go_num, F11⟩
                    case measure => simp [intOf]; omega
                  · have d3' : (d == 3) = false := beq_eq_false_iff_ne.2 d3
                    clear HO HO11
                    go_wp2_with fail
                    go_roundw
                    case rel => exact ⟨k + 1, s2, by omega, by go_num, F11⟩
                    case measure => simp [intOf]; omega)
      · have hz' : ((k : Int) == z) = false := beq_eq_false_iff_ne.2 hz
        obtain ⟨s1, hs1⟩ : ∃ s1, s1 = s := ⟨_, rfl⟩
        have F2 : Hid (FirstAt w x y z g A1 c1 l (k + 1) s1 wr) := Lib.hid (hs1 ▸ { HI.out with noted := fun h1 h2 hx => HI.out.noted h1 (by omega) hx })
        clear HI hs1 hz
        go_wp2_with fail
        clear hz' q0 q1 q2
        have HFT : Hid (s1.fits l) := Lib.hid F2.out.fits
        refine (fault_any _ g A1 c1 l s1 false F2.out.cur).mono ?_
        rintro e w3 ⟨rfl, hb3⟩
        have F3 : Hid (FirstAt w x y z g A1 c1 l (k + 1) s1 w3) := Lib.hid (F2.out.next (F2.out.cur.below hb3) F2.out.fits (grown_below hb3) (k + 1) F2.out.noted)
        have hb4 := (Below.refl w3.heap.size w3).alloc (Nat.le_refl _) (.cells #[.int .i64 s1.code, .int .i64 s1.fat] 31)
        have F4 : Hid (FirstAt w x y z g A1 c1 l (k + 1) s1 (w3.alloc (.cells #[.int .i64 s1.code, .int .i64 s1.fat] 31))) := Lib.hid (F3.out.next (F3.out.cur.below hb4) F3.out.fits (grown_below hb4) (k + 1) F3.out.noted)
        have V4 := Lib.hid (heap_alloc_new w3 (.cells #[.int .i64 s1.code, .int .i64 s1.fat] 31))
        have G4 := Lib.hid F3.out.cur.lt
        clear F2 F3 hb3 hb4
        go_wp2_with fail
        refine (at_any _ g A1 c1 l s1 false F4.out.cur).mono ?_
        rintro e w5 ⟨rfl, hb5⟩
        have F5 : Hid (FirstAt w x y z g A1 c1 l (k + 1) s1 w5) := Lib.hid (F4.out.next (F4.out.cur.below hb5) F4.out.fits (grown_below hb5) (k + 1) F4.out.noted)
        have V5 := Lib.hid ((hb5.block _ (by simp)).trans V4.out)
        have G5 : Hid (w3.heap.size < w5.heap.size) := Lib.hid (by have := hb5.size; simp at this; omega)
        clear F4 V4 hb5
        obtain ⟨b2, o2, rfl, _, e0, e1, e2⟩ := (HA.out.below F5.out.below).at k hkn
        obtain ⟨⟨d, m, kk⟩, hact⟩ : ∃ p : Int × Int × Int, p = acts.getD k (0, 0, 0) := ⟨_, rfl⟩
        rw [← hact] at e0 e1 e2
        have HD := Lib.hid hact
        clear hact
        simp only at e0 e1 e2
        go_wp2_with fail
        refine (does_any _ g A1 c1 l s1 false d m kk F5.out.cur F5.out.fits).mono ?_
        rintro e w6 ⟨v, rfl, hown, h6, hg6⟩
        obtain ⟨s2, hs2⟩ : ∃ s2, s2 = (s1.does l d m kk).2.2 := ⟨_, rfl⟩
        have f6 : s2.fits l := hs2 ▸ does_fits F5.out.fits d m kk
        rw [← hs2] at h6
        have hst : s1.code ≠ 0 → s2 = s1 := fun h => hs2.trans (does_stuck l d m kk h)
        have F6 : Hid (FirstAt w x y z g A1 c1 l (k + 1) s2 w6) := Lib.hid (F5.out.next h6 f6 hg6 (k + 1) (fun h1 h2 hx => by have hc := F5.out.noted h1 h2 hx; rw [hst hc]; exact hc))
        have V6 := Lib.hid ((hg6.block _ G5.out (fun e => by have := Option.some.inj e; have := G4.out; omega)).trans V5.out)
        have G6 : Hid (w3.heap.size < w6.heap.size) := Lib.hid (Nat.lt_of_lt_of_le G5.out hg6.size)
        have hle : s1.n ≤ s2.n := hs2 ▸ does_mono F5.out.fits d m kk
        have HST := Lib.hid hst
        have HO := Lib.hid hown
        have hs2l := f6.1
        have hsum : ((s2.n : Int) + ((l.length : Int) - (s2.n : Int)) != (l.length : Int)) = false := bne_eq_false_iff_eq.2 (by omega)
        have hlt2 : ¬ (s2.n : Int) < (s1.n : Int) := by omega
        obtain ⟨isv, hisv⟩ : ∃ b, b = (s1.does l d m kk).2.1 := ⟨_, rfl⟩
        rw [← hisv]
        have HIS := Lib.hid hisv
        clear hs2 h6 hg6 hst hown F5 V5 G5 hisv e0 e1 e2
        go_wp2_with fail
        refine (at_any _ g A1 c1 l s2 false F6.out.cur).mono ?_
        rintro e w7 ⟨rfl, hb7⟩
        have F7 : Hid (FirstAt w x y z g A1 c1 l (k + 1) s2 w7) := Lib.hid (F6.out.next (F6.out.cur.below hb7) F6.out.fits (grown_below hb7) (k + 1) F6.out.noted)
        have V7 := Lib.hid ((hb7.block _ G6.out).trans V6.out)
        have G7 : Hid (w3.heap.size < w7.heap.size) := Lib.hid (Nat.lt_of_lt_of_le G6.out hb7.size)
        have HO7 := Lib.hid (HO.out.kept hb7)
        clear F6 V6 G6 HO hb7
        go_wp2_with fail
        refine (left_any _ g A1 c1 l s2 false F7.out.cur f6).mono ?_
        rintro e w8 ⟨rfl, hb8⟩
        have F8 : Hid (FirstAt w x y z g A1 c1 l (k + 1) s2 w8) := Lib.hid (F7.out.next (F7.out.cur.below hb8) F7.out.fits (grown_below hb8) (k + 1) F7.out.noted)
        have V8 := Lib.hid ((hb8.block _ G7.out).trans V7.out)
        have G8 : Hid (w3.heap.size < w8.heap.size) := Lib.hid (Nat.lt_of_lt_of_le G7.out hb8.size)
        have HO8 := Lib.hid (HO7.out.kept hb8)
        clear F7 V7 G7 HO7 hb8
        go_wp2_with fail
        refine (at_any _ g A1 c1 l s2 false F8.out.cur).mono ?_
        rintro e w9 ⟨rfl, hb9⟩
        have F9 : Hid (FirstAt w x y z g A1 c1 l (k + 1) s2 w9) := Lib.hid (F8.out.next (F8.out.cur.below hb9) F8.out.fits (grown_below hb9) (k + 1) F8.out.noted)
        have V9 := Lib.hid ((hb9.block _ G8.out).trans V8.out)
        have G9 : Hid (w3.heap.size < w9.heap.size) := Lib.hid (Nat.lt_of_lt_of_le G8.out hb9.size)
        have HO9 := Lib.hid (HO8.out.kept hb9)
        clear F8 V8 G8 HO8 hb9
        have v0 : w9.cell? ⟨w3.heap.size, 0, none⟩ = some (.int .i64 s1.code) := by rw [cell_of_row _ _ 0 _ 31 (0, 0) V9.out]; rfl
        have v1 : w9.cell? ⟨w3.heap.size, 1, none⟩ = some (.int .i64 s1.fat) := by rw [cell_of_row _ _ 1 _ 31 (0, 0) V9.out]; rfl
        by_cases hc0 : s1.code = 0
        · have hfat := HFT.out.2.2 hc0
          rw [hc0] at v0
          rw [hfat] at v1
          clear hc0 hfat
          go_wp2_with fail
          go_roundw
          case rel => exact ⟨k + 1, s2, by omega, by go_num, F9⟩
          case measure => simp [intOf]; omega
        · have hc' : (s1.code == 0) = false := beq_eq_false_iff_ne.2 hc0
          obtain rfl := HST.out hc0
          go_wp2_with fail
          have F9d : Hid (FirstAt w x y z g A1 c1 l (k + 1) s2 w9.drew) := Lib.hid F9.out.drew
          have HO9d : Hid (OwnB w9.drew _ v _ _) := Lib.hid HO9.out
          have G9d : Hid (w3.heap.size < w9.drew.heap.size) := Lib.hid G9.out
          have v0d : w9.drew.cell? ⟨w3.heap.size, 0, none⟩ = some (.int .i64 s2.code) := v0
          have v1d : w9.drew.cell? ⟨w3.heap.size, 1, none⟩ = some (.int .i64 s2.fat) := v1
          clear F9 HO9 G9
          go_region_law (first | (go_simp; go_at_call 24; refine (fault_any _ g A1 c1 l s2 false F9d.out.cur).mono ?_; rintro e w10 ⟨rfl, hb10⟩; have F10 : Hid (FirstAt w x y z g A1 c1 l (k + 1) s2 w10) := Lib.hid (F9d.out.next (F9d.out.cur.below hb10) F9d.out.fits (grown_below hb10) (k + 1) F9d.out.noted); have u0 := (hb10.cell (p := ⟨w3.heap.size, 0, none⟩) G9d.out).trans v0d; have u1 := (hb10.cell (p := ⟨w3.heap.size, 1, none⟩) G9d.out).trans v1d; have HO10 := Lib.hid (HO9d.out.kept hb10); clear hb10) | (go_simp; go_at_call 25; refine (at_any _ g A1 c1 l s2 false F10.out.cur).mono ?_; rintro e w11 ⟨rfl, hb11⟩; have F11 : Hid (FirstAt w x y z g A1 c1 l (k + 1) s2 w11) := Lib.hid (F10.out.next (F10.out.cur.below hb11) F10.out.fits (grown_below hb11) (k + 1) F10.out.noted); have HO11 := Lib.hid (HO10.out.kept hb11); clear hb11))
          all_goals (
            clear v0 v1 v0d v1d u0 u1 F9d F10 HO9d HO10 G9d V9
            obtain ⟨b3, o3, hE, _, f0, _, _⟩ := (HA.out.below F11.out.below).at k hkn
            cases hE
            rw [← HD.out] at f0
            simp only at f0
            have HO := HO11.out
            by_cases d0 : d = 0
            · subst d0
              rw [does_stuck0 l m kk hc0] at HO
              obtain ⟨A9, c9, rfl, S9, _, _, _⟩ := HO.shape
              obtain ⟨b4, o4, rfl, _, hcell⟩ := S9.at 0 (by show 0 < 1; decide)
              have hcell' : w11.cell? ⟨b4, o4, none⟩ = some (.int .u8 0) := hcell
              clear HO S9 hcell HO11
              go_wp2_with fail
              go_roundw
              case rel => exact ⟨k + 1, s2, by omega, by go_num, F11⟩
              case measure => simp [intOf]; omega
            · have d0' : (d == 0) = false := beq_eq_false_iff_ne.2 d0
              by_cases d1 : d = 1
              · subst d1
                rw [does_stuck1 l m kk hc0] at HO
                have HIS' := HIS.out
                rw [does_stuck1 l m kk hc0] at HIS'
                have : isv = false := HIS'
                subst this
                obtain ⟨A9, c9, rfl, S9, _, _, _⟩ := HO.shape
                obtain ⟨b4, o4, rfl, _, hcell⟩ := S9.at 0 (by show 0 < 1; decide)
                have hcell' : w11.cell? ⟨b4, o4, none⟩ = some (.int .u8 0) := hcell
                clear HO S9 hcell HO11 HIS HIS'
                go_wp2_with fail
                go_roundw
                case rel => exact ⟨k + 1, s2, by omega, by go_num, F11⟩
                case measure => simp [intOf]; omega
              · have d1' : (d == 1) = false := beq_eq_false_iff_ne.2 d1
                by_cases d2 : d = 2
                · subst d2
                  rw [does_stuck2 l m kk hc0] at HO
                  obtain ⟨A9, c9, rfl, S9, _, _, _⟩ := HO.shape
                  clear HO S9 HO11
                  go_wp2_with fail
                  go_roundw
                  case rel => exact ⟨k + 1, s2, by omega, by go_num, F11⟩
                  case measure => simp [intOf]; omega
                · have d2' : (d == 2) = false := beq_eq_false_iff_ne.2 d2
                  by_cases d3 : d = 3
                  · subst d3
                    rw [does_stuck3 l m kk hc0] at HO
                    have HIS' := HIS.out
                    rw [does_stuck3 l m kk hc0] at HIS'
                    have : isv = false := HIS'
                    subst this
                    obtain ⟨A9, c9, rfl, S9, _, _, _⟩ := HO.shape
                    clear HO S9 HO11 HIS HIS'
                    go_wp2_with fail
                    go_roundw
                    case rel => exact ⟨k + 1, s2, by omega, by go_num, F11⟩
                    case measure => simp [intOf]; omega
                  · have d3' : (d == 3) = false := beq_eq_false_iff_ne.2 d3
                    clear HO HO11
                    go_wp2_with fail
                    go_roundw
                    case rel => exact ⟨k + 1, s2, by omega, by go_num, F11⟩
                    case measure => simp [intOf]; omega)
    · obtain rfl : k = acts.length := by omega
      obtain ⟨q0, q1, q2⟩ := HI.out.boxed
      by_cases h1 : 0 ≤ z
      · by_cases h2 : z < acts.length
        · by_cases h3 : x = 0
          · subst h3
            go_wp2_with fail
            refine (awake_any _).mono ?_
            rintro e w3 ⟨rfl, hb3⟩
            have B3 := Lib.hid (HI.out.below.trans (hb3.mono HI.out.below.size))
            clear hb3
            go_wp2_with fail
            go_ret
            exact ⟨rfl, B3.out⟩
          · have hc := HI.out.noted h1 h2 h3
            have hc' : (s.code == 0) = false := beq_eq_false_iff_ne.2 hc
            have h3' : (x != 0) = true := bne_iff_ne.2 h3
            clear hc h3
            go_wp2_with fail
            refine (fault_any _ g A1 c1 l s false HI.out.cur).mono ?_
            rintro e w2 ⟨rfl, hb2⟩
            have B2 := Lib.hid (HI.out.below.trans (hb2.mono HI.out.below.size))
            clear hb2
            go_wp2_with fail
            refine (awake_any _).mono ?_
            rintro e w3 ⟨rfl, hb3⟩
            have B3 := Lib.hid (B2.out.trans (hb3.mono B2.out.size))
            clear hb3
            go_wp2_with fail
            go_ret
            exact ⟨rfl, B3.out⟩
        · go_wp2_with fail
          refine (awake_any _).mono ?_
          rintro e w3 ⟨rfl, hb3⟩
          have B3 := Lib.hid (HI.out.below.trans (hb3.mono HI.out.below.size))
          clear hb3
          go_wp2_with fail
          go_ret
          exact ⟨rfl, B3.out⟩
      · go_wp2_with fail
        refine (awake_any _).mono ?_
        rintro e w3 ⟨rfl, hb3⟩
        have B3 := Lib.hid (HI.out.below.trans (hb3.mono HI.out.below.size))
        clear hb3
        go_wp2_with fail
        go_ret
        exact ⟨rfl, B3.out⟩

set_option maxHeartbeats 1000000 in
theorem first_big (A : Option Addr) (n c : Nat) (A2 : Option Addr) (n2 c2 : Nat) (x y z : Int) (w : World) (hn : 300 < n ∨ 100 < n2) :
    Calls Try.prog 7 #[.slice A n c, .slice A2 n2 c2, .agg #[.int .i64 x, .int .i64 y, .int .i64 z]] w fun e w' => e = .returned (.bool true) ∧ Below w.heap.size w w' := by
  have B0 := Lib.hid ((Below.refl w.heap.size w).alloc (Nat.le_refl _) (.cells #[.int .i64 x, .int .i64 y, .int .i64 z] 58))
  by_cases h : 300 < n
  · have hn' : (300 : Int) < (n : Int) := by omega
    clear hn h
    go_enter Try.func7, Try.ntmps7
    go_wp2_with fail
    refine (awake_any _).mono ?_
    rintro e w3 ⟨rfl, hb3⟩
    have B3 := Lib.hid (B0.out.trans (hb3.mono B0.out.size))
    clear hb3
    go_wp2_with fail
    go_ret
    exact ⟨rfl, B3.out⟩
  · have hn' : ¬ (300 : Int) < (n : Int) := by omega
    have hn2' : (100 : Int) < (n2 : Int) := by omega
    clear hn h
    go_enter Try.func7, Try.ntmps7
    go_wp2_with fail
    refine (awake_any _).mono ?_
    rintro e w3 ⟨rfl, hb3⟩
    have B3 := Lib.hid (B0.out.trans (hb3.mono B0.out.size))
    clear hb3
    go_wp2_with fail
    go_ret
    exact ⟨rfl, B3.out⟩

theorem first_walk (A : Option Addr) (c : Nat) (l : List Int) (A2 : Option Addr) (c2 : Nat) (acts : List (Int × Int × Int)) (x y z : Int) (w : World) (hs : Sl w A l.length l) (hA : A = none → c = 0) (ha : Acts w A2 acts.length acts) :
    Calls Try.prog 7 #[.slice A l.length c, .slice A2 acts.length c2, .agg #[.int .i64 x, .int .i64 y, .int .i64 z]] w fun e w' => e = .returned (.bool true) ∧ Below w.heap.size w w' := by
  by_cases h : 300 < l.length ∨ 100 < acts.length
  · exact first_big A _ c A2 _ c2 x y z w h
  · exact first_main A c l A2 c2 acts x y z w hs hA ha (by omega) (by omega)
end Go.Proofs.Ytiikppiogglppaa
