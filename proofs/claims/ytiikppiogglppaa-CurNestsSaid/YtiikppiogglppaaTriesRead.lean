/-
  The read of the law CurTries: calls, one by one, a Must behind some of them.
-/
import Derived.Test.YtiikppiogglppaaTryAny
import Derived.Test.YtiikppiogglppaaPartsPlain
namespace Go.Proofs.Ytiikppiogglppaa
open Go.RowKit

/-- Is there a Must behind call number k? -/
def turnAt (turns : List Bool) (k : Nat) : Bool := turns.getD (k % turns.length) false

/-- How many calls are made, what they leave, and whether a Must stopped them. -/
def trun (l : List Int) (turns : List Bool) : List (Int × Int × Int) → Nat → CS → Nat × CS × Bool
  | [], _, s => (0, s, false)
  | a :: more, k, s =>
    if turnAt turns k = true ∧ ((s.does l a.1 a.2.1 a.2.2).2.2).code ≠ 0 then (1, (s.does l a.1 a.2.1 a.2.2).2.2, true)
    else ((trun l turns more (k + 1) (s.does l a.1 a.2.1 a.2.2).2.2).1 + 1, (trun l turns more (k + 1) (s.does l a.1 a.2.1 a.2.2).2.2).2)

/-- Behind k calls: what is still to come makes up the whole. -/
def Upto (l : List Int) (turns : List Bool) (acts : List (Int × Int × Int)) (R : Nat × CS × Bool) (k : Nat) (s : CS) : Prop :=
  R = (k + (trun l turns (acts.drop k) k s).1, (trun l turns (acts.drop k) k s).2)

section
variable {l : List Int} {turns : List Bool} {acts : List (Int × Int × Int)} {R : Nat × CS × Bool} {k : Nat} {s : CS}
theorem Upto.start : Upto l turns acts (trun l turns acts 0 CS.start) 0 CS.start := by
  unfold Upto
  simp
theorem Upto.ends (h : Upto l turns acts R k s) (hk : acts.length ≤ k) : R = (k, s, false) := by
  unfold Upto at h
  rw [List.drop_eq_nil_of_le hk] at h
  exact h
theorem Upto.unfold (h : Upto l turns acts R k s) (hk : k < acts.length) (d m n : Int) (ha : (d, m, n) = acts.getD k (0, 0, 0)) :
    (turnAt turns k = true ∧ ((s.does l d m n).2.2).code ≠ 0 → R = (k + 1, (s.does l d m n).2.2, true)) ∧ (¬ (turnAt turns k = true ∧ ((s.does l d m n).2.2).code ≠ 0) → Upto l turns acts R (k + 1) (s.does l d m n).2.2) := by
  have hd : acts.drop k = (d, m, n) :: acts.drop (k + 1) := by
    rw [List.drop_eq_getElem_cons hk]
    congr 1
    rw [ha, List.getD_eq_getElem?_getD, List.getElem?_eq_getElem hk]
    rfl
  unfold Upto at h ⊢
  rw [hd] at h
  refine ⟨fun hc => ?_, fun hc => ?_⟩
  · rw [h]
    simp only [trun, if_pos hc]
  · rw [h]
    simp only [trun, if_neg hc]
    congr 1
    omega
end

theorem Bools.below {w w' : World} {A : Option Addr} {n : Nat} {l : List Bool} (h : Bools w A n l) (hb : Below w.heap.size w w') : Bools w' A n l := by
  refine ⟨h.1, ?_⟩
  rcases h.2 with h0 | ⟨b, off, rfl, hlt, hc⟩
  · exact .inl h0
  · exact .inr ⟨b, off, rfl, Nat.lt_of_lt_of_le hlt hb.size, fun i hi => (hb.cell (p := ⟨b, off + i, none⟩) hlt).trans (hc i hi)⟩
theorem Bools.at {w : World} {A : Option Addr} {n : Nat} {l : List Bool} (h : Bools w A n l) (k : Nat) (hk : k < n) : ∃ b off, A = some ⟨b, off, none⟩ ∧ b < w.heap.size ∧ w.cell? ⟨b, off + k, none⟩ = some (.bool (l.getD k false)) := by
  rcases h.2 with h0 | ⟨b, off, rfl, hlt, hc⟩
  · omega
  · exact ⟨b, off, rfl, hlt, hc k hk⟩

/-- The law's variables that the read uses: the calls, the turns, how many calls were made, and how often the read was called. -/
structure Boxes (w0 wr : World) (L T D C : Nat) (A2 : Option Addr) (n2 c2 : Nat) (A3 : Option Addr) (n3 c3 : Nat) (d k : Int) : Prop where
  l : wr.heap[L]? = some (.cells #[.slice A2 n2 c2] 36 (0, 0))
  t : wr.heap[T]? = some (.cells #[.slice A3 n3 c3] 37 (0, 0))
  d : wr.heap[D]? = some (.cells #[.int .i64 d] 3 (0, 0))
  c : wr.heap[C]? = some (.cells #[.int .i64 k] 3 (0, 0))
  old : w0.heap.size ≤ L ∧ w0.heap.size ≤ T ∧ w0.heap.size ≤ D ∧ w0.heap.size ≤ C
  ne : D ≠ L ∧ D ≠ T ∧ D ≠ C ∧ C ≠ L ∧ C ≠ T
  below : Below w0.heap.size w0 wr

section
variable {w0 wr w' : World} {L T D C : Nat} {A2 : Option Addr} {n2 c2 : Nat} {A3 : Option Addr} {n3 c3 : Nat} {d k : Int}
theorem Boxes.cells (h : Boxes w0 wr L T D C A2 n2 c2 A3 n3 c3 d k) : wr.cell? ⟨L, 0, none⟩ = some (.slice A2 n2 c2) ∧ wr.cell? ⟨T, 0, none⟩ = some (.slice A3 n3 c3) ∧ wr.cell? ⟨D, 0, none⟩ = some (.int .i64 d) ∧ wr.cell? ⟨C, 0, none⟩ = some (.int .i64 k) ∧ wr.frozen? ⟨D, 0, none⟩ = false ∧ wr.frozen? ⟨C, 0, none⟩ = false :=
  ⟨by rw [cell_of_row _ _ _ _ 36 (0, 0) h.l]; rfl, by rw [cell_of_row _ _ _ _ 37 (0, 0) h.t]; rfl, by rw [cell_of_row _ _ _ _ 3 (0, 0) h.d]; rfl, by rw [cell_of_row _ _ _ _ 3 (0, 0) h.c]; rfl, frozen_of_row _ D 0 _ 3 h.d, frozen_of_row _ C 0 _ 3 h.c⟩
theorem Boxes.grown (h : Boxes w0 wr L T D C A2 n2 c2 A3 n3 c3 d k) {g : Nat} (hg : wr.grownBy w' (some g)) (hn : g ≠ L ∧ g ≠ T ∧ g ≠ D ∧ g ≠ C) (hb : w0.heap.size ≤ g) : Boxes w0 w' L T D C A2 n2 c2 A3 n3 c3 d k :=
  { h with
    l := (hg.block L (Array.getElem?_eq_some_iff.1 h.l).1 (fun e => hn.1 (Option.some.inj e).symm)).trans h.l
    t := (hg.block T (Array.getElem?_eq_some_iff.1 h.t).1 (fun e => hn.2.1 (Option.some.inj e).symm)).trans h.t
    d := (hg.block D (Array.getElem?_eq_some_iff.1 h.d).1 (fun e => hn.2.2.1 (Option.some.inj e).symm)).trans h.d
    c := (hg.block C (Array.getElem?_eq_some_iff.1 h.c).1 (fun e => hn.2.2.2 (Option.some.inj e).symm)).trans h.c
    below := h.below.grown hg h.below.size (fun j e => by cases e; exact hb) }
theorem Boxes.later (h : Boxes w0 wr L T D C A2 n2 c2 A3 n3 c3 d k) (hb : Below wr.heap.size wr w') : Boxes w0 w' L T D C A2 n2 c2 A3 n3 c3 d k :=
  { h with
    l := (hb.block L (Array.getElem?_eq_some_iff.1 h.l).1).trans h.l
    t := (hb.block T (Array.getElem?_eq_some_iff.1 h.t).1).trans h.t
    d := (hb.block D (Array.getElem?_eq_some_iff.1 h.d).1).trans h.d
    c := (hb.block C (Array.getElem?_eq_some_iff.1 h.c).1).trans h.c
    below := h.below.trans (hb.mono h.below.size) }
theorem Boxes.put_d (h : Boxes w0 wr L T D C A2 n2 c2 A3 n3 c3 d k) (x : Int) : Boxes w0 (wr.setCell ⟨D, 0, none⟩ (.int .i64 x)) L T D C A2 n2 c2 A3 n3 c3 x k :=
  { h with
    l := (heap_setCell_other _ _ _ _ h.ne.1.symm).trans h.l
    t := (heap_setCell_other _ _ _ _ h.ne.2.1.symm).trans h.t
    d := by rw [heap_setCell_same _ D 0 _ 3 _ h.d]; rfl
    c := (heap_setCell_other _ _ _ _ h.ne.2.2.1.symm).trans h.c
    below := h.below.setCell (p := ⟨D, 0, none⟩) h.old.2.2.1 _ }
theorem Boxes.put_c (h : Boxes w0 wr L T D C A2 n2 c2 A3 n3 c3 d k) (x : Int) : Boxes w0 (wr.setCell ⟨C, 0, none⟩ (.int .i64 x)) L T D C A2 n2 c2 A3 n3 c3 d x :=
  { h with
    l := (heap_setCell_other _ _ _ _ h.ne.2.2.2.1.symm).trans h.l
    t := (heap_setCell_other _ _ _ _ h.ne.2.2.2.2.symm).trans h.t
    d := (heap_setCell_other _ _ _ _ h.ne.2.2.1).trans h.d
    c := by rw [heap_setCell_same _ C 0 _ 3 _ h.c]; rfl
    below := h.below.setCell (p := ⟨C, 0, none⟩) h.old.2.2.2 _ }
end

/-- What the read leaves in its variables. -/
def AfterRead (w0 : World) (L T D C : Nat) (A2 : Option Addr) (n2 c2 : Nat) (A3 : Option Addr) (n3 c3 : Nat) (R : Nat × CS × Bool) (s : CS) (w' : World) : Prop :=
  Boxes w0 w' L T D C A2 n2 c2 A3 n3 c3 R.1 1 ∧ s = R.2.1

/-- Between two rounds of the read. -/
structure RoundAt (w0 w1 : World) (base L T D C : Nat) (A2 : Option Addr) (n2 c2 : Nat) (A3 : Option Addr) (n3 c3 : Nat) (g : Nat) (A : Option Addr) (c : Nat) (l : List Int) (k : Nat) (s : CS) (wr : World) : Prop where
  cur : IsCur wr g A c l s true
  fits : s.fits l
  boxes : Boxes w0 wr L T D C A2 n2 c2 A3 n3 c3 k 1
  size : w1.heap.size ≤ wr.heap.size
  same : ∀ j, base ≤ j → j < w1.heap.size → j ≠ g → wr.heap[j]? = w1.heap[j]?
  lows : L < base ∧ T < base ∧ D < base ∧ C < base
  high : base ≤ g
  gold : w0.heap.size ≤ base

section
variable {w0 w1 wr w' : World} {base L T D C : Nat} {A2 : Option Addr} {n2 c2 : Nat} {A3 : Option Addr} {n3 c3 g : Nat} {A : Option Addr} {c : Nat} {l : List Int} {k : Nat} {s : CS}
theorem RoundAt.step (h : RoundAt w0 w1 base L T D C A2 n2 c2 A3 n3 c3 g A c l k s wr) {s' : CS} (hc : IsCur w' g A c l s' true) (hf : s'.fits l) (hg : wr.grownBy w' (some g)) : RoundAt w0 w1 base L T D C A2 n2 c2 A3 n3 c3 g A c l k s' w' :=
  { h with
    cur := hc, fits := hf
    boxes := h.boxes.grown hg (by have := h.lows; have := h.high; omega) (Nat.le_trans h.gold h.high)
    size := Nat.le_trans h.size hg.size
    same := fun j h1 h2 h3 => (hg.block j (Nat.lt_of_lt_of_le h2 h.size) (fun e => h3 (Option.some.inj e))).trans (h.same j h1 h2 h3) }
theorem RoundAt.later (h : RoundAt w0 w1 base L T D C A2 n2 c2 A3 n3 c3 g A c l k s wr) (hb : Below wr.heap.size wr w') : RoundAt w0 w1 base L T D C A2 n2 c2 A3 n3 c3 g A c l k s w' :=
  h.step (h.cur.below hb) h.fits (grown_below hb)
theorem RoundAt.count (h : RoundAt w0 w1 base L T D C A2 n2 c2 A3 n3 c3 g A c l k s wr) (hA : ∀ ad, 0 < l.length → A = some ad → base ≤ ad.block) :
    RoundAt w0 w1 base L T D C A2 n2 c2 A3 n3 c3 g A c l (k + 1) s (wr.setCell ⟨D, 0, none⟩ (.int .i64 ((k : Int) + 1))) := by
  have hl := h.lows
  have hh := h.high
  refine { h with cur := h.cur.kept' (grown_set wr D 0 _) (fun e => by have := Option.some.inj e; omega) (fun h0 ad e e2 => by have := Option.some.inj e2; have := hA ad h0 e; omega), boxes := ?_, size := by simpa [World.setCell] using h.size, same := fun j h1 h2 h3 => (heap_setCell_other _ _ _ _ (by show j ≠ D; omega)).trans (h.same j h1 h2 h3) }
  have := h.boxes.put_d ((k : Int) + 1)
  rwa [show ((k : Int) + 1) = ((k + 1 : Nat) : Int) from by omega] at this ⊢
end

set_option maxRecDepth 100000 in
set_option maxHeartbeats 8000000 in
theorem tries_read (w0 : World) (base L T D C : Nat) (A2 : Option Addr) (c2 : Nat) (acts : List (Int × Int × Int)) (A3 : Option Addr) (n3 c3 : Nat) (turns : List Bool) (g : Nat) (A : Option Addr) (c : Nat) (l : List Int) (w1 : World)
    (ha : Acts w0 A2 acts.length acts) (ht : Bools w0 A3 n3 turns) (hn2 : acts.length ≤ 100) (hn3 : n3 ≤ 100)
    (hb : Boxes w0 w1 L T D C A2 acts.length c2 A3 n3 c3 0 0) (hl : L < base ∧ T < base ∧ D < base ∧ C < base) (hg : base ≤ g) (hw : w0.heap.size ≤ base) (hc : IsCur w1 g A c l CS.start true) (hll : l.length ≤ 1000) (hA : ∀ ad, 0 < l.length → A = some ad → base ≤ ad.block) :
    Calls Try.prog 16 #[.pointer (some ⟨g, 0, none⟩), .pointer (some ⟨C, 0, none⟩), .pointer (some ⟨L, 0, none⟩), .pointer (some ⟨D, 0, none⟩), .pointer (some ⟨T, 0, none⟩)] w1
      (Read base w1 g A c l (AfterRead w0 L T D C A2 acts.length c2 A3 n3 c3 (trun l turns acts 0 CS.start))) := by
  obtain ⟨R, hR⟩ : ∃ R, R = trun l turns acts 0 CS.start := ⟨_, rfl⟩
  have hU : Upto l turns acts R 0 CS.start := hR ▸ Upto.start
  rw [← hR]
  have HU := Lib.hid hU
  clear hR hU
  have HA := Lib.hid ha
  have HT := Lib.hid ht
  obtain ⟨q0, q1, q2, q3, f2, f3⟩ := hb.cells
  have HW : Hid (RoundAt w0 w1 base L T D C A2 acts.length c2 A3 n3 c3 g A c l 0 CS.start (w1.setCell ⟨C, 0, none⟩ (.int .i64 1))) := Lib.hid
    { cur := hc.kept' (grown_set w1 C 0 _) (fun e => by have := Option.some.inj e; omega) (fun h0 ad e e2 => by have := Option.some.inj e2; have := hA ad h0 e; omega), fits := CS.fits_start hll, boxes := hb.put_c 1, size := by simp [World.setCell], same := fun j h1 h2 h3 => heap_setCell_other _ _ _ _ (by show j ≠ C; omega), lows := hl, high := hg, gold := hw }
  have HAA := Lib.hid hA
  clear ha ht hb hc hA
  go_enter Try.func16, Try.ntmps16
  go_wp2_with fail
  go_loopw [6] (fun vi wr => ∃ (k : Nat) (s : CS), k ≤ acts.length ∧ vi = .int .i64 k ∧ Hid (RoundAt w0 w1 base L T D C A2 acts.length c2 A3 n3 c3 g A c l k s wr) ∧ Hid (Upto l turns acts R k s)) (fun vi _ => acts.length - (intOf vi).toNat)
  case atStart => exact ⟨0, CS.start, by omega, rfl, HW, HU⟩
  case round =>
    obtain ⟨k, s, hk, rfl, HI, HV⟩ := hrel
    clear HW HU q0 q1 q2 q3 f2 f3
    obtain ⟨p0, p1, p2, p3, f2, f3⟩ := HI.out.boxes.cells
    by_cases hkn : k < acts.length
    · have hki : (k : Int) < (acts.length : Int) := by omega
      obtain ⟨b2, o2, rfl, _, e0, e1, e2⟩ := (HA.out.below HI.out.boxes.below).at k hkn
      obtain ⟨⟨d, m, kk⟩, hact⟩ : ∃ p : Int × Int × Int, p = acts.getD k (0, 0, 0) := ⟨_, rfl⟩
      rw [← hact] at e0 e1 e2
      simp only at e0 e1 e2
      have hun := HV.out.unfold hkn d m kk hact
      obtain ⟨s', hs'⟩ : ∃ s', s' = (s.does l d m kk).2.2 := ⟨_, rfl⟩
      rw [← hs'] at hun
      have HUN := Lib.hid hun
      have HD := Lib.hid (does_any wr g A c l s true d m kk HI.out.cur HI.out.fits)
      have HS' := Lib.hid hs'
      clear hact hun hs'
      go_wp2_with fail
      refine HD.out.mono ?_
      rintro e w2 ⟨v, rfl, _, h2, hg2⟩
      have h2' : IsCur w2 g A c l s' true := HS'.out ▸ h2
      have H2 := Lib.hid (HI.out.step h2' (HS'.out ▸ does_fits HI.out.fits d m kk) hg2)
      have H3 := Lib.hid (H2.out.count HAA.out)
      clear h2 h2' hg2 HD HI HV p0 p1 p2 p3 e0 e1 e2
      obtain ⟨p0, p1, p2, p3, f2, f3⟩ := H2.out.boxes.cells
      obtain ⟨t0, t1, t2, t3, t4, t5⟩ := H3.out.boxes.cells
      go_wp2_with fail
      by_cases h0 : 0 < n3
      · have hgt : (0 : Int) < (n3 : Int) := by omega
        obtain ⟨i3, hi3⟩ : ∃ i3, i3 = k % n3 := ⟨_, rfl⟩
        have hi3l : i3 < n3 := hi3 ▸ Nat.mod_lt _ h0
        have hmt : (k : Int).tmod (n3 : Int) = (i3 : Int) := by rw [Int.tmod_eq_emod_of_nonneg (by omega), hi3]; omega
        have hme : (k : Int) % (n3 : Int) = (i3 : Int) := by rw [hi3]; omega
        have hil : (i3 : Int) < (n3 : Int) := by omega
        obtain ⟨b3, o3, rfl, _, ec⟩ := (HT.out.below H3.out.boxes.below).at i3 hi3l
        have hta : turnAt turns k = turns.getD i3 false := by unfold turnAt; rw [HT.out.1, ← hi3]
        obtain ⟨tb, htb⟩ : ∃ tb, tb = turns.getD i3 false := ⟨_, rfl⟩
        rw [← htb] at ec hta
        have HTA := Lib.hid hta
        have hn0 : ((n3 : Int) == 0) = false := beq_eq_false_iff_ne.2 (by omega)
        have hdec : decide ((0 : Int) < (n3 : Int)) = true := decide_eq_true hgt
        clear hta htb hi3
        cases tb with
        | false =>
          have HV' := Lib.hid (HUN.out.2 (fun h => by have := h.1; rw [HTA.out] at this; cases this))
          go_quiet (fail)
          go_wp2_with fail
          go_roundw
          case rel => exact ⟨k + 1, s', by omega, by go_num, Lib.hid (H3.out.later (below_drewN' (Below.refl _ _) _)), HV'⟩
          case measure => simp [intOf]; omega
        | true =>
          by_cases hc0 : s'.code = 0
          · have HV' := Lib.hid (HUN.out.2 (fun h => h.2 hc0))
            go_quiet (fail)
            go_wp2_with fail
            have H4 : Hid (∀ n : Nat, RoundAt w0 w1 base L T D C _ acts.length c2 _ n3 c3 g A c l (k + 1) s' ((w2.setCell ⟨D, 0, none⟩ (.int .i64 ((k : Int) + 1))).drewN n)) := Lib.hid (fun n => H3.out.later (below_drewN' (Below.refl _ _) n))
            refine (must_idle _ g A c l s' true (H4.out _).cur (H4.out 0).fits (.inr hc0)).mono ?_
            rintro e w4 ⟨rfl, hb4⟩
            have H5 := Lib.hid ((H4.out _).later hb4)
            clear hb4 H4
            go_wp2_with fail
            go_roundw
            case rel => exact ⟨k + 1, s', by omega, by go_num, H5, HV'⟩
            case measure => simp [intOf]; omega
          · have HE := Lib.hid (HUN.out.1 ⟨HTA.out, hc0⟩)
            go_quiet (fail)
            go_wp2_with fail
            have H4 : Hid (∀ n : Nat, RoundAt w0 w1 base L T D C _ acts.length c2 _ n3 c3 g A c l (k + 1) s' ((w2.setCell ⟨D, 0, none⟩ (.int .i64 ((k : Int) + 1))).drewN n)) := Lib.hid (fun n => H3.out.later (below_drewN' (Below.refl _ _) n))
            refine (must_stop _ g A c l s' (H4.out _).cur (H4.out 0).fits hc0).mono ?_
            rintro e w4 ⟨rfl, hb4⟩
            have H5 := Lib.hid ((H4.out _).later hb4)
            clear hb4 H4
            go_wp2_with fail
            refine ⟨rfl, s', .inr ⟨[], rfl, rfl⟩, H5.out.cur, ⟨?_, ?_⟩, H5.out.size, H5.out.same⟩
            · rw [HE.out]; exact H5.out.boxes
            · rw [HE.out]
      · have hgt : ¬ (0 : Int) < (n3 : Int) := by omega
        have hnil : turns = [] := List.length_eq_zero_iff.1 (by have := HT.out.1; omega)
        have hdec : decide ((0 : Int) < (n3 : Int)) = false := by rw [decide_eq_false_iff_not]; exact hgt
        have HV' := Lib.hid (HUN.out.2 (fun h => by have := h.1; unfold turnAt at this; rw [hnil] at this; simp at this))
        have hdec2 : decide (0 < n3) = false := by rw [decide_eq_false_iff_not]; exact h0
        clear hnil
        go_quiet (fail)
        go_wp2_with fail
        go_roundw
        case rel => exact ⟨k + 1, s', by omega, by go_num, Lib.hid (H3.out.later (below_drewN' (Below.refl _ _) _)), HV'⟩
        case measure => simp [intOf]; omega
    · obtain rfl : k = acts.length := by omega
      have HE := Lib.hid (HV.out.ends (Nat.le_refl _))
      go_wp2_with fail
      (first | go_end0 | ((try simp only [Exit.inBlock, Exit.then]); refine bodyPost_ret (results_none rfl _ _ _) rfl ?_))
      refine ⟨s, .inl rfl, HI.out.cur, ⟨?_, ?_⟩, HI.out.size, HI.out.same⟩
      · rw [HE.out]; exact HI.out.boxes
      · rw [HE.out]
end Go.Proofs.Ytiikppiogglppaa
