/-
  The walk of the law CurTries.
-/
import Derived.Test.YtiikppiogglppaaTriesRead
namespace Go.Proofs.Ytiikppiogglppaa
open Go.RowKit

theorem Boxes.past {w0 wr w' : World} {L T D C base : Nat} {A2 : Option Addr} {n2 c2 : Nat} {A3 : Option Addr} {n3 c3 : Nat} {d k : Int} (h : Boxes w0 wr L T D C A2 n2 c2 A3 n3 c3 d k) (hb : Below base wr w') (hl : L < base ∧ T < base ∧ D < base ∧ C < base) (h0 : w0.heap.size ≤ base) : Boxes w0 w' L T D C A2 n2 c2 A3 n3 c3 d k :=
  { h with
    l := (hb.block L hl.1).trans h.l, t := (hb.block T hl.2.1).trans h.t, d := (hb.block D hl.2.2.1).trans h.d, c := (hb.block C hl.2.2.2).trans h.c
    below := h.below.trans (hb.mono h0) }

/-- The law's own loop over the document's Cur. -/
structure LoopAt (w0 : World) (L T D C : Nat) (A2 : Option Addr) (n2 c2 : Nat) (A3 : Option Addr) (n3 c3 : Nat) (R : Nat × CS × Bool) (P g2 : Nat) (A : Option Addr) (c : Nat) (l : List Int) (s : CS) (wr : World) : Prop where
  boxes : Boxes w0 wr L T D C A2 n2 c2 A3 n3 c3 R.1 1
  f : wr.heap[P]? = some (.cells #[.int .i64 R.2.1.code, .int .i64 R.2.1.fat] 31 (0, 0))
  ref : IsRef wr g2 A c l s
  fits : s.fits l
  ne : g2 ≠ L ∧ g2 ≠ T ∧ g2 ≠ D ∧ g2 ≠ C ∧ g2 ≠ P
  old : w0.heap.size ≤ g2

section
variable {w0 wr w' : World} {L T D C : Nat} {A2 : Option Addr} {n2 c2 : Nat} {A3 : Option Addr} {n3 c3 : Nat} {R : Nat × CS × Bool} {P g2 : Nat} {A : Option Addr} {c : Nat} {l : List Int} {s : CS}
theorem LoopAt.step (h : LoopAt w0 L T D C A2 n2 c2 A3 n3 c3 R P g2 A c l s wr) {s' : CS} (hr : IsRef w' g2 A c l s') (hf : s'.fits l) (hg : wr.grownBy w' (some g2)) : LoopAt w0 L T D C A2 n2 c2 A3 n3 c3 R P g2 A c l s' w' :=
  { h with
    boxes := h.boxes.grown hg ⟨h.ne.1, h.ne.2.1, h.ne.2.2.1, h.ne.2.2.2.1⟩ h.old
    f := (hg.block P (Array.getElem?_eq_some_iff.1 h.f).1 (fun e => h.ne.2.2.2.2 (Option.some.inj e).symm)).trans h.f
    ref := hr, fits := hf }
theorem LoopAt.later (h : LoopAt w0 L T D C A2 n2 c2 A3 n3 c3 R P g2 A c l s wr) (hb : Below wr.heap.size wr w') : LoopAt w0 L T D C A2 n2 c2 A3 n3 c3 R P g2 A c l s w' :=
  h.step (h.ref.below hb) h.fits (grown_below hb)
theorem LoopAt.drew (h : LoopAt w0 L T D C A2 n2 c2 A3 n3 c3 R P g2 A c l s wr) : LoopAt w0 L T D C A2 n2 c2 A3 n3 c3 R P g2 A c l s wr.drew := h.later (Below.refl _ _).drew
/-- All cells that are loaded. -/
theorem LoopAt.cells (h : LoopAt w0 L T D C A2 n2 c2 A3 n3 c3 R P g2 A c l s wr) :
    wr.cell? ⟨C, 0, none⟩ = some (.int .i64 1) ∧ wr.cell? ⟨D, 0, none⟩ = some (.int .i64 R.1) ∧ wr.cell? ⟨P, 0, none⟩ = some (.int .i64 R.2.1.code) ∧ wr.cell? ⟨P, 1, none⟩ = some (.int .i64 R.2.1.fat) ∧
      wr.cell? ⟨g2, 1, none⟩ = some (.int .i64 s.n) ∧ wr.cell? ⟨g2, 2, none⟩ = some (.int .i64 s.code) ∧ wr.cell? ⟨g2, 3, none⟩ = some (.int .i64 s.fat) := by
  obtain ⟨_, _, hd, hc, _⟩ := h.boxes.cells
  exact ⟨hc, hd, by rw [cell_of_row _ _ _ _ 31 (0, 0) h.f]; rfl, by rw [cell_of_row _ _ _ _ 31 (0, 0) h.f]; rfl, h.ref.cells.2⟩
end

/-- The world in which Try is called: the law's variables stand. -/
def w4 (w : World) (A2 : Option Addr) (n2 c2 : Nat) (A3 : Option Addr) (n3 c3 : Nat) : World :=
  (((w.alloc (.cells #[.slice A2 n2 c2] 36)).alloc (.cells #[.slice A3 n3 c3] 37)).alloc (.cells #[.int .i64 0] 3)).alloc (.cells #[.int .i64 0] 3)
section
variable (w : World) (A2 : Option Addr) (n2 c2 : Nat) (A3 : Option Addr) (n3 c3 : Nat)
theorem boxes_below : Below w.heap.size w (w4 w A2 n2 c2 A3 n3 c3) :=
  ((((Below.refl _ w).alloc (Nat.le_refl _) _).alloc (by simp) _).alloc (by simp; omega) _).alloc (by simp; omega) _
theorem boxes_size : (w4 w A2 n2 c2 A3 n3 c3).heap.size = w.heap.size + 4 := by unfold w4; simp
theorem boxes_new : Boxes w (w4 w A2 n2 c2 A3 n3 c3) w.heap.size (w.heap.size + 1) (w.heap.size + 1 + 1) (w.heap.size + 1 + 1 + 1) A2 n2 c2 A3 n3 c3 0 0 := by
  have h1 := heap_alloc_new w (.cells #[.slice A2 n2 c2] 36)
  have h2 := heap_alloc_new (w.alloc (.cells #[.slice A2 n2 c2] 36)) (.cells #[.slice A3 n3 c3] 37)
  have h3 := heap_alloc_new ((w.alloc (.cells #[.slice A2 n2 c2] 36)).alloc (.cells #[.slice A3 n3 c3] 37)) (.cells #[.int .i64 0] 3)
  have h4 := heap_alloc_new (((w.alloc (.cells #[.slice A2 n2 c2] 36)).alloc (.cells #[.slice A3 n3 c3] 37)).alloc (.cells #[.int .i64 0] 3)) (.cells #[.int .i64 0] 3)
  simp only [World.size_alloc] at h2 h3 h4
  exact
    { l := (Below.heap_alloc _ _ _ (by simp; omega)).trans ((Below.heap_alloc _ _ _ (by simp; omega)).trans ((Below.heap_alloc _ _ _ (by simp)).trans h1))
      t := (Below.heap_alloc _ _ _ (by simp)).trans ((Below.heap_alloc _ _ _ (by simp)).trans h2)
      d := (Below.heap_alloc _ _ _ (by simp)).trans h3
      c := h4
      old := by omega
      ne := by omega
      below := boxes_below w A2 n2 c2 A3 n3 c3 }
end

set_option maxRecDepth 100000 in
set_option maxHeartbeats 8000000 in
theorem tries_main (A : Option Addr) (c : Nat) (l : List Int) (A2 : Option Addr) (c2 : Nat) (acts : List (Int × Int × Int)) (A3 : Option Addr) (n3 c3 : Nat) (turns : List Bool) (w : World) (hs : Sl w A l.length l) (hA : A = none → c = 0) (ha : Acts w A2 acts.length acts) (ht : Bools w A3 n3 turns) (hn : l.length ≤ 300) (hn2 : acts.length ≤ 100) (hn3 : n3 ≤ 100) :
    Calls Try.prog 4 #[.slice A l.length c, .slice A2 acts.length c2, .slice A3 n3 c3] w fun e w' => e = .returned (.bool true) ∧ Below w.heap.size w w' := by
  have hn' : ¬ (300 : Int) < (l.length : Int) := by omega
  have hn2' : ¬ (100 : Int) < (acts.length : Int) := by omega
  have hn3' : ¬ (100 : Int) < (n3 : Int) := by omega
  have HS := Lib.hid hs
  have HA := Lib.hid ha
  have HT := Lib.hid ht
  clear hs ha ht
  have hmf : ∀ (fn : Fn) (first cap : Array Value) (w : World), (Instr.makeFunc fn first cap).run Try.prog w = .ok (.func fn first cap) w := fun _ _ _ _ => rfl
  obtain ⟨R, hR⟩ : ∃ R, R = trun l turns acts 0 CS.start := ⟨_, rfl⟩
  have HU : Hid (Upto l turns acts R 0 CS.start) := Lib.hid (hR ▸ Upto.start)
  have HR := Lib.hid hR
  clear hR
  go_enter Try.func4, Try.ntmps4
  go_wp2_with fail
  have hne16 : ∀ (a b c d : Value) (w : World), (binOp .eql 34 (.func (.func 16) #[] #[a, b, c, d]) .nilFunc).run Try.prog w = .ok (.bool false) w := fun _ _ _ _ _ => by kernel_rfl
  have hB4 : Below w.heap.size w (w4 w A2 acts.length c2 A3 n3 c3) := boxes_below w _ _ _ _ _ _
  have hX4 := boxes_new w A2 acts.length c2 A3 n3 c3
  have hz4 := boxes_size w A2 acts.length c2 A3 n3 c3
  refine (try_any A l.length c l 16 #[.pointer (some ⟨w.heap.size + 1 + 1 + 1, 0, none⟩), .pointer (some ⟨w.heap.size, 0, none⟩), .pointer (some ⟨w.heap.size + 1 + 1, 0, none⟩), .pointer (some ⟨w.heap.size + 1, 0, none⟩)] (w4 w A2 acts.length c2 A3 n3 c3)
    (fun _ => AfterRead w w.heap.size (w.heap.size + 1) (w.heap.size + 1 + 1) (w.heap.size + 1 + 1 + 1) A2 acts.length c2 A3 n3 c3 R) (HS.out.below hB4) hA (by omega) (hne16 _ _ _ _) (fun args w => by simp [go_sem])
    (fun g A' c' w1 hg hb1 hc hAd => ?_)).mono ?_
  · have := tries_read w (w4 w A2 acts.length c2 A3 n3 c3).heap.size w.heap.size (w.heap.size + 1) (w.heap.size + 1 + 1) (w.heap.size + 1 + 1 + 1) A2 c2 acts A3 n3 c3 turns g A' c' l w1 HA.out HT.out hn2 hn3 (hX4.later hb1) (by omega) (by omega) (by omega) hc (by omega) (fun ad _ e => hAd ad e)
    rw [← HR.out] at this
    exact this
  rintro e w5 ⟨g, A', c', s, w3, rfl, _, ⟨hbox, rfl⟩, hb5, _⟩
  have hbx5 := hbox.past hb5 (by omega) (by omega)
  have hsz5 : w.heap.size + 4 ≤ w5.heap.size := by
    have h1 := (Array.getElem?_eq_some_iff.1 hbx5.c).1
    omega
  have b6 := ((Below.refl w5.heap.size w5).alloc (Nat.le_refl _) (.cells #[.int .i64 R.2.1.code, .int .i64 R.2.1.fat] 31)).alloc (by simp) (.cells #[.slice A l.length c, .int .i64 0, .int .i64 0, .int .i64 0] 44)
  have hnew := heap_alloc_new (w5.alloc (.cells #[.int .i64 R.2.1.code, .int .i64 R.2.1.fat] 31)) (.cells #[.slice A l.length c, .int .i64 0, .int .i64 0, .int .i64 0] 44)
  rw [World.size_alloc] at hnew
  have hS5 := HS.out.below hbx5.below
  have F6 : LoopAt w w.heap.size (w.heap.size + 1) (w.heap.size + 1 + 1) (w.heap.size + 1 + 1 + 1) A2 acts.length c2 A3 n3 c3 R w5.heap.size (w5.heap.size + 1) A c l CS.start ((w5.alloc (.cells #[.int .i64 R.2.1.code, .int .i64 R.2.1.fat] 31)).alloc (.cells #[.slice A l.length c, .int .i64 0, .int .i64 0, .int .i64 0] 44)) :=
    { boxes := hbx5.later b6
      f := (Below.heap_alloc _ _ _ (by simp)).trans (heap_alloc_new w5 _)
      ref := ⟨hnew, hS5.below b6, fun h0 ad e => by have := hS5.old h0 ad e; omega⟩
      fits := CS.fits_start (by omega)
      ne := by omega
      old := by omega }
  have HF6 := Lib.hid F6
  obtain ⟨q0, q1, q2, q3, q4, q5⟩ := (hbx5.later ((Below.refl w5.heap.size w5).alloc (Nat.le_refl _) (.cells #[.int .i64 R.2.1.code, .int .i64 R.2.1.fat] 31))).cells
  clear hbx5 hsz5 b6 hnew hS5 F6 hbox hb5 hX4 hz4 hB4 hne16
  go_wp2_with fail
  obtain ⟨P, hP⟩ : ∃ P, P = w5.heap.size := ⟨_, rfl⟩
  rw [← hP] at HF6 ⊢
  clear hP q0 q1 q2 q3 q4 q5
  go_loopw [12, 13] (fun vw vi wr => ∃ (k : Nat) (s : CS), k ≤ acts.length ∧ vi = .int .i64 k ∧ vw = .int .i64 k ∧ Hid (LoopAt w w.heap.size (w.heap.size + 1) (w.heap.size + 1 + 1) (w.heap.size + 1 + 1 + 1) A2 acts.length c2 A3 n3 c3 R P (P + 1) A c l s wr) ∧ Hid (Upto l turns acts R k s)) (fun _ vi _ => acts.length - (intOf vi).toNat)
  case atStart => exact ⟨0, CS.start, by omega, rfl, rfl, HF6, HU⟩
  case round =>
    obtain ⟨k, s, hk, rfl, rfl, HI, HV⟩ := hrel
    clear HF6 HU
    obtain ⟨p0, p1, p2, p3, _, _⟩ := HI.out.boxes.cells
    by_cases hkn : k < acts.length
    · have hki : (k : Int) < (acts.length : Int) := by omega
      obtain ⟨b2, o2, rfl, _, e0, e1, e2⟩ := (HA.out.below HI.out.boxes.below).at k hkn
      obtain ⟨⟨d, m, kk⟩, hact⟩ : ∃ p : Int × Int × Int, p = acts.getD k (0, 0, 0) := ⟨_, rfl⟩
      rw [← hact] at e0 e1 e2
      simp only at e0 e1 e2
      have hun := HV.out.unfold hkn d m kk hact
      obtain ⟨s', hs'⟩ : ∃ s', s' = (s.does l d m kk).2.2 := ⟨_, rfl⟩
      rw [← hs'] at hun
      have HUN := Lib.hid hun
      have HD := Lib.hid (plays_any wr (P + 1) A c l s d m kk HI.out.ref HI.out.fits)
      have HS' := Lib.hid hs'
      clear hact hun hs'
      go_wp2_with fail
      refine HD.out.mono ?_
      rintro e w2 ⟨v, rfl, _, h2, hg2⟩
      have h2' : IsRef w2 (P + 1) A c l s' := HS'.out ▸ h2
      have H2 := Lib.hid (HI.out.step h2' (HS'.out ▸ does_fits HI.out.fits d m kk) hg2)
      have HRG := Lib.hid HS'.out
      clear h2 h2' hg2 HD HI HV p0 p1 p2 p3 e0 e1 e2 HS'
      obtain ⟨p0, p1, p2, p3, _, _⟩ := H2.out.boxes.cells
      obtain ⟨r0, r1, r2, r3⟩ := H2.out.ref.cells
      go_wp2_with fail
      by_cases h0 : 0 < n3
      · have hgt : (0 : Int) < (n3 : Int) := by omega
        obtain ⟨i3, hi3⟩ : ∃ i3, i3 = k % n3 := ⟨_, rfl⟩
        have hi3l : i3 < n3 := hi3 ▸ Nat.mod_lt _ h0
        have hmt : (k : Int).tmod (n3 : Int) = (i3 : Int) := by rw [Int.tmod_eq_emod_of_nonneg (by omega), hi3]; omega
        have hme : (k : Int) % (n3 : Int) = (i3 : Int) := by rw [hi3]; omega
        have hil : (i3 : Int) < (n3 : Int) := by omega
        obtain ⟨b3, o3, rfl, _, ec⟩ := (HT.out.below H2.out.boxes.below).at i3 hi3l
        have hta : turnAt turns k = turns.getD i3 false := by unfold turnAt; rw [HT.out.1, ← hi3]
        obtain ⟨tb, htb⟩ : ∃ tb, tb = turns.getD i3 false := ⟨_, rfl⟩
        rw [← htb] at ec hta
        have HTA := Lib.hid hta
        have hn0 : ((n3 : Int) == 0) = false := beq_eq_false_iff_ne.2 (by omega)
        have hdec : decide ((0 : Int) < (n3 : Int)) = true := decide_eq_true hgt
        clear hta htb hi3
        cases tb with
        | false =>
          have HV' := Lib.hid (HUN.out.2 (fun h => by have := h.1; rw [HTA.out] at this; cases this))
          go_quiet (fail)
          go_wp2_with fail
          go_roundw
          case rel => exact ⟨k + 1, s', by omega, by go_num, by go_num, Lib.hid (H2.out.later (below_drewN' (Below.refl _ _) _)), HV'⟩
          case measure => simp [intOf]; omega
        | true =>
          by_cases hc0 : s'.code = 0
          · have HV' := Lib.hid (HUN.out.2 (fun h => h.2 hc0))
            have hcb : (s'.code != 0) = false := bne_eq_false_iff_eq.2 hc0
            clear hc0
            go_quiet (fail)
            go_wp2_with fail
            go_roundw
            case rel => exact ⟨k + 1, s', by omega, by go_num, by go_num, Lib.hid (H2.out.later (below_drewN' (Below.refl _ _) _)), HV'⟩
            case measure => simp [intOf]; omega
          · have hE := HUN.out.1 ⟨HTA.out, hc0⟩
            have hcb : (s'.code != 0) = true := bne_iff_ne.2 hc0
            have hS : s' = R.2.1 := by rw [hE]
            have hdone : (((R.1 : Nat) : Int) == (k : Int) + 1) = true := by rw [hE, beq_iff_eq]; show ((k + 1 : Nat) : Int) = _; omega
            clear hE hc0 HUN HRG
            subst hS
            have HN : Hid (∀ n : Nat, LoopAt w w.heap.size (w.heap.size + 1) (w.heap.size + 1 + 1) (w.heap.size + 1 + 1 + 1) _ acts.length c2 _ n3 c3 R P (P + 1) A c l R.2.1 (w2.drewN n)) := Lib.hid (fun n => H2.out.later (below_drewN' (Below.refl _ _) n))
            go_quiet (fail)
            go_wp2_with fail
            generalize hWq : w2.drewN _ = wq
            have HL : Hid (LoopAt w w.heap.size (w.heap.size + 1) (w.heap.size + 1 + 1) (w.heap.size + 1 + 1 + 1) _ acts.length c2 _ n3 c3 R P (P + 1) A c l R.2.1 wq) := Lib.hid (hWq ▸ HN.out _)
            clear hWq HN H2
            have hK := HL.out.drew.cells
            go_region_held3 (fun W => W.cell? ⟨w.heap.size + 1 + 1 + 1, 0, none⟩ = some (.int .i64 1) ∧ W.cell? ⟨w.heap.size + 1 + 1, 0, none⟩ = some (.int .i64 R.1) ∧ W.cell? ⟨P, 0, none⟩ = some (.int .i64 R.2.1.code) ∧ W.cell? ⟨P, 1, none⟩ = some (.int .i64 R.2.1.fat) ∧ W.cell? ⟨P + 1, 1, none⟩ = some (.int .i64 R.2.1.n) ∧ W.cell? ⟨P + 1, 2, none⟩ = some (.int .i64 R.2.1.code) ∧ W.cell? ⟨P + 1, 3, none⟩ = some (.int .i64 R.2.1.fat)) (first | exact hK | exact (HL2.out.cells)) (first | (go_at_call 9; refine (awake_any _).mono ?_; rintro e w9 ⟨rfl, hb9⟩; have HL2 := Lib.hid (HL.out.drew.later hb9); clear hb9))
            go_wp2_with fail
            go_ret
            exact ⟨rfl, HL2.out.boxes.below⟩
      · have hgt : ¬ (0 : Int) < (n3 : Int) := by omega
        have hnil : turns = [] := List.length_eq_zero_iff.1 (by have := HT.out.1; omega)
        have HV' := Lib.hid (HUN.out.2 (fun h => by have := h.1; unfold turnAt at this; rw [hnil] at this; simp at this))
        obtain rfl : n3 = 0 := by omega
        clear hnil h0 hgt
        go_quiet (fail)
        go_wp2_with fail
        go_roundw
        case rel => exact ⟨k + 1, s', by omega, by go_num, by go_num, Lib.hid (H2.out.later (below_drewN' (Below.refl _ _) _)), HV'⟩
        case measure => simp [intOf]; omega
    · obtain rfl : k = acts.length := by omega
      have hE := HV.out.ends (Nat.le_refl _)
      have hS : s = R.2.1 := by rw [hE]
      have hdone : (((R.1 : Nat) : Int) == (acts.length : Int)) = true := by rw [hE, beq_iff_eq]
      clear hE HV
      subst hS
      have HL := HI
      go_wp2_with fail
      have hK := HL.out.drew.cells
      go_region_held3 (fun W => W.cell? ⟨w.heap.size + 1 + 1 + 1, 0, none⟩ = some (.int .i64 1) ∧ W.cell? ⟨w.heap.size + 1 + 1, 0, none⟩ = some (.int .i64 R.1) ∧ W.cell? ⟨P, 0, none⟩ = some (.int .i64 R.2.1.code) ∧ W.cell? ⟨P, 1, none⟩ = some (.int .i64 R.2.1.fat) ∧ W.cell? ⟨P + 1, 1, none⟩ = some (.int .i64 R.2.1.n) ∧ W.cell? ⟨P + 1, 2, none⟩ = some (.int .i64 R.2.1.code) ∧ W.cell? ⟨P + 1, 3, none⟩ = some (.int .i64 R.2.1.fat)) (first | exact hK | exact (HL2.out.cells)) (first | (go_at_call 9; refine (awake_any _).mono ?_; rintro e w9 ⟨rfl, hb9⟩; have HL2 := Lib.hid (HL.out.drew.later hb9); clear hb9))
      go_wp2_with fail
      go_ret
      exact ⟨rfl, HL2.out.boxes.below⟩

set_option maxRecDepth 100000 in
set_option maxHeartbeats 1000000 in
theorem tries_big (A : Option Addr) (n c : Nat) (A2 : Option Addr) (n2 c2 : Nat) (A3 : Option Addr) (n3 c3 : Nat) (w : World) (hn : 300 < n ∨ 100 < n2 ∨ 100 < n3) :
    Calls Try.prog 4 #[.slice A n c, .slice A2 n2 c2, .slice A3 n3 c3] w fun e w' => e = .returned (.bool true) ∧ Below w.heap.size w w' := by
  have hb := ((Below.refl w.heap.size w).alloc (Nat.le_refl _) (.cells #[.slice A2 n2 c2] 36)).alloc (by simp) (.cells #[.slice A3 n3 c3] 37)
  have HB := Lib.hid hb
  clear hb
  by_cases h : 300 < n
  · have hn' : (300 : Int) < (n : Int) := by omega
    clear hn h
    go_enter Try.func4, Try.ntmps4
    go_wp2_with fail
    refine (awake_any _).mono ?_
    rintro e w3 ⟨rfl, hb3⟩
    have B3 := Lib.hid (HB.out.trans (hb3.mono HB.out.size))
    clear hb3
    go_wp2_with fail
    go_ret
    exact ⟨rfl, B3.out⟩
  · have hn' : ¬ (300 : Int) < (n : Int) := by omega
    by_cases h2 : 100 < n2
    · have hn2' : (100 : Int) < (n2 : Int) := by omega
      clear hn h
      go_enter Try.func4, Try.ntmps4
      go_wp2_with fail
      refine (awake_any _).mono ?_
      rintro e w3 ⟨rfl, hb3⟩
      have B3 := Lib.hid (HB.out.trans (hb3.mono HB.out.size))
      clear hb3
      go_wp2_with fail
      go_ret
      exact ⟨rfl, B3.out⟩
    · have hn2' : ¬ (100 : Int) < (n2 : Int) := by omega
      have hn3' : (100 : Int) < (n3 : Int) := by omega
      clear hn h
      go_enter Try.func4, Try.ntmps4
      go_wp2_with fail
      refine (awake_any _).mono ?_
      rintro e w3 ⟨rfl, hb3⟩
      have B3 := Lib.hid (HB.out.trans (hb3.mono HB.out.size))
      clear hb3
      go_wp2_with fail
      go_ret
      exact ⟨rfl, B3.out⟩

theorem tries_walk (A : Option Addr) (c : Nat) (l : List Int) (A2 : Option Addr) (c2 : Nat) (acts : List (Int × Int × Int)) (A3 : Option Addr) (c3 : Nat) (turns : List Bool) (w : World) (hs : Sl w A l.length l) (hA : A = none → c = 0) (ha : Acts w A2 acts.length acts) (ht : Bools w A3 turns.length turns) :
    Calls Try.prog 4 #[.slice A l.length c, .slice A2 acts.length c2, .slice A3 turns.length c3] w fun e w' => e = .returned (.bool true) ∧ Below w.heap.size w w' := by
  by_cases h : 300 < l.length ∨ 100 < acts.length ∨ 100 < turns.length
  · exact tries_big A _ c A2 _ c2 A3 _ c3 w h
  · exact tries_main A c l A2 c2 acts A3 _ c3 turns w hs hA ha ht (by omega) (by omega) (by omega)
end Go.Proofs.Ytiikppiogglppaa
