/-
  The walk of the law CurPlays.
-/
import Derived.Test.YtiikppiogglppaaRef
import Derived.Test.YtiikppiogglppaaArgs
namespace Go.Proofs.Ytiikppiogglppaa
open Go.RowKit

theorem take_len (s : CS) (l : List Int) (n : Int) : (s.take l n).1.length ≤ l.length := by
  unfold CS.take
  split
  · split
    · exact Nat.zero_le _
    · split
      · exact Nat.zero_le _
      · show ((l.drop s.n).take n.toNat).length ≤ l.length
        rw [List.length_take, List.length_drop]; omega
  · exact Nat.zero_le _

theorem does_len (s : CS) (l : List Int) (d n k : Int) : (s.does l d n k).1.length ≤ l.length + 1 := by
  unfold CS.does
  split
  · show 1 ≤ l.length + 1; omega
  · split
    · show 1 ≤ l.length + 1; omega
    · split
      · have := take_len s l n; show (s.take l n).1.length ≤ l.length + 1; omega
      · split
        · unfold CS.until
          split
          · split
            · show ((l.drop s.n).take _).length ≤ l.length + 1
              rw [List.length_take, List.length_drop]; omega
            · show (l.drop s.n).length ≤ l.length + 1
              rw [List.length_drop]; omega
          · exact Nat.zero_le _
        · split <;> exact Nat.zero_le _

theorem IsCur.kept' {w w' : World} {g c : Nat} {A : Option Addr} {l : List Int} {s : CS} {tr : Bool} {row : Option Nat} (h : IsCur w g A c l s tr) (hg : w.grownBy w' row) (h1 : some g ≠ row) (h2 : 0 < l.length → ∀ ad, A = some ad → row ≠ some ad.block) : IsCur w' g A c l s tr :=
  ⟨(hg.block g h.lt h1).trans h.1, h.2.1.grown' hg h2, h.2.2.1, h.2.2.2⟩

theorem same_yes (a1 : Option Addr) (n cap1 : Nat) (l : List Int) (a2 : Option Addr) (cap2 : Nat) (w : World) (h1 : Sl w a1 n l) (h2 : Sl w a2 n l) (hm : n ≤ 140737488351232) :
    Calls Try.prog 23 #[.slice a1 n cap1, .slice a2 n cap2] w fun e w' => e = .returned (.bool true) ∧ Below w.heap.size w w' :=
  (same_any a1 n cap1 l a2 n cap2 l w h1 h2 hm).mono fun e w' ⟨he, hb⟩ => ⟨by rw [he, show (l == l) = true from by simp], hb⟩

/-- A Cur and the document's, at one place. -/
structure PlaysAt (w : World) (g1 : Nat) (A1 : Option Addr) (c1 g2 : Nat) (A : Option Addr) (c : Nat) (l : List Int) (s : CS) (wr : World) : Prop where
  cur : IsCur wr g1 A1 c1 l s false
  ref : IsRef wr g2 A c l s
  fits : s.fits l
  below : Below w.heap.size w wr
  p1 : w.heap.size ≤ g1
  p2 : g1 < g2
  a1 : 0 < l.length → ∀ ad, A1 = some ad → ad.block ≠ g2
  old : 0 < l.length → ∀ ad, A = some ad → ad.block < w.heap.size

section
variable {w : World} {g1 : Nat} {A1 : Option Addr} {c1 g2 : Nat} {A : Option Addr} {c : Nat} {l : List Int} {s : CS} {wr w' : World}
theorem PlaysAt.later (h : PlaysAt w g1 A1 c1 g2 A c l s wr) (hb : Below wr.heap.size wr w') : PlaysAt w g1 A1 c1 g2 A c l s w' :=
  { h with cur := h.cur.below hb, ref := h.ref.below hb, below := h.below.trans (hb.mono h.below.size) }
theorem PlaysAt.drew (h : PlaysAt w g1 A1 c1 g2 A c l s wr) : PlaysAt w g1 A1 c1 g2 A c l s wr.drew := h.later (Below.refl _ _).drew

/-- The Cur is one call on. -/
structure Half (w : World) (g1 : Nat) (A1 : Option Addr) (c1 g2 : Nat) (A : Option Addr) (c : Nat) (l : List Int) (s s' : CS) (wr : World) : Prop where
  cur : IsCur wr g1 A1 c1 l s' false
  ref : IsRef wr g2 A c l s
  fits : s.fits l
  fits' : s'.fits l
  below : Below w.heap.size w wr
  p1 : w.heap.size ≤ g1
  p2 : g1 < g2
  a1 : 0 < l.length → ∀ ad, A1 = some ad → ad.block ≠ g2
  old : 0 < l.length → ∀ ad, A = some ad → ad.block < w.heap.size

theorem PlaysAt.half (h : PlaysAt w g1 A1 c1 g2 A c l s wr) {s' : CS} (hc : IsCur w' g1 A1 c1 l s' false) (hf : s'.fits l) (hg : wr.grownBy w' (some g1)) : Half w g1 A1 c1 g2 A c l s s' w' :=
  { h with cur := hc, fits' := hf, ref := h.ref.kept hg (fun e => by have := Option.some.inj e; have := h.p2; omega) (fun h0 ad e e2 => by have := Option.some.inj e2; have := h.old h0 ad e; have := h.p1; omega), below := h.below.grown hg h.below.size (fun k e => by cases e; exact h.p1) }
theorem Half.whole {s' : CS} (h : Half w g1 A1 c1 g2 A c l s s' wr) (hr : IsRef w' g2 A c l s') (hg : wr.grownBy w' (some g2)) : PlaysAt w g1 A1 c1 g2 A c l s' w' :=
  { h with fits := h.fits', cur := h.cur.kept' hg (fun e => by have := Option.some.inj e; have := h.p2; omega) (fun h0 ad e e2 => h.a1 h0 ad e (Option.some.inj e2).symm), ref := hr, below := h.below.grown hg h.below.size (fun k e => by cases e; have := h.p1; have := h.p2; omega) }
end

set_option maxRecDepth 100000 in
set_option maxHeartbeats 4000000 in
theorem plays_main (A : Option Addr) (c : Nat) (l : List Int) (A2 : Option Addr) (c2 : Nat) (acts : List (Int × Int × Int)) (w : World) (hs : Sl w A l.length l) (hA : A = none → c = 0) (ha : Acts w A2 acts.length acts) (hn : l.length ≤ 300) (hn2 : acts.length ≤ 100) :
    Calls Try.prog 6 #[.slice A l.length c, .slice A2 acts.length c2] w fun e w' => e = .returned (.bool true) ∧ Below w.heap.size w w' := by
  have hn' : ¬ (300 : Int) < (l.length : Int) := by omega
  have hn2' : ¬ (100 : Int) < (acts.length : Int) := by omega
  have HS := Lib.hid hs
  have HA := Lib.hid ha
  clear hs ha
  go_enter Try.func6, Try.ntmps6
  go_wp2_with fail
  refine (new_any A l.length c l _ HS.out hA (by omega)).mono ?_
  rintro e w1 ⟨g1, A1, c1, rfl, h1, hge, hA1, hb1⟩
  have hlt1 := h1.lt
  have hb2 := (Below.refl w1.heap.size w1).alloc (Nat.le_refl _) (.cells #[.slice A l.length c, .int .i64 0, .int .i64 0, .int .i64 0] 44)
  have hold := HS.out.old
  have hA1' := h1.2.1.old
  have F2 : PlaysAt w g1 A1 c1 w1.heap.size A c l CS.start (w1.alloc (.cells #[.slice A l.length c, .int .i64 0, .int .i64 0, .int .i64 0] 44)) :=
    { cur := h1.below hb2, ref := ⟨heap_alloc_new w1 _, (HS.out.below hb1).below hb2, fun h0 ad e => by have := hold h0 ad e; have := hb1.size; omega⟩, fits := CS.fits_start (by omega),
      below := hb1.trans (hb2.mono hb1.size), p1 := hge, p2 := hlt1, a1 := fun h0 ad e => by have := hA1' h0 ad e; omega, old := hold }
  have HF2 := Lib.hid F2
  clear h1 hge hA1 hb1 hlt1 hb2 hold hA1' F2
  go_wp2_with fail
  refine (at_any _ g1 A1 c1 l CS.start false HF2.out.cur).mono ?_
  rintro e w3 ⟨rfl, hb3⟩
  have HF3 := Lib.hid (HF2.out.later hb3)
  clear hb3
  rw [show ((CS.start.n : Nat) : Int) = 0 from rfl]
  go_wp2_with fail
  refine (left_any _ g1 A1 c1 l CS.start false HF3.out.cur HF3.out.fits).mono ?_
  rintro e w4 ⟨rfl, hb4⟩
  have HF4 := Lib.hid (HF3.out.later hb4)
  clear hb4
  rw [show (l.length : Int) - ((CS.start.n : Nat) : Int) = (l.length : Int) from by show (l.length : Int) - 0 = _; omega]
  go_wp2_with fail
  refine (fault_any _ g1 A1 c1 l CS.start false HF4.out.cur).mono ?_
  rintro e w5 ⟨rfl, hb5⟩
  have HF5 := Lib.hid (HF4.out.later hb5)
  clear hb5 HF2 HF3 HF4
  rw [show CS.start.code = 0 from rfl, show CS.start.fat = 0 from rfl]
  go_wp2_with fail
  obtain ⟨g2, hg2⟩ : ∃ g2, g2 = w1.heap.size := ⟨_, rfl⟩
  rw [← hg2] at HF5 ⊢
  clear hg2 HS
  go_loopw [7] (fun vi wr => ∃ (k : Nat) (s : CS), k ≤ acts.length ∧ vi = .int .i64 k ∧ Hid (PlaysAt w g1 A1 c1 g2 A c l s wr)) (fun vi _ => acts.length - (intOf vi).toNat)
  case atStart => exact ⟨0, CS.start, by omega, rfl, HF5⟩
  case round =>
    obtain ⟨k, s, hk, rfl, HI⟩ := hrel
    clear HF5
    by_cases hkn : k < acts.length
    · have hki : (k : Int) < (acts.length : Int) := by omega
      obtain ⟨b2, o2, rfl, _, e0, e1, e2⟩ := (HA.out.below HI.out.below).at k hkn
      obtain ⟨⟨d, m, kk⟩, hact⟩ : ∃ p : Int × Int × Int, p = acts.getD k (0, 0, 0) := ⟨_, rfl⟩
      rw [← hact] at e0 e1 e2
      have HD := Lib.hid hact
      clear hact
      simp only at e0 e1 e2
      obtain ⟨p, hp⟩ : ∃ p, p = s.does l d m kk := ⟨_, rfl⟩
      have hT1 := does_any wr g1 A1 c1 l s false d m kk HI.out.cur HI.out.fits
      have hfp := does_fits HI.out.fits d m kk
      have hlen := does_len s l d m kk
      rw [← hp] at hT1 hfp hlen
      have HP := Lib.hid hp
      have HT1 := Lib.hid hT1
      clear hp hT1
      go_wp2_with fail
      refine HT1.out.mono ?_
      rintro e w6 ⟨v1, rfl, hown1, h6, hg6⟩
      have H6 := Lib.hid (HI.out.half h6 hfp hg6)
      have O6 := Lib.hid hown1
      have L6 : Hid (g2 < wr.heap.size) := Lib.hid HI.out.ref.lt
      clear e0 e1 e2 hown1 h6 hg6
      obtain ⟨b3, o3, hE, _, e0, e1, e2⟩ := (HA.out.below H6.out.below).at k hkn
      cases hE
      rw [← HD.out] at e0 e1 e2
      simp only at e0 e1 e2
      have hT2 := plays_any w6 g2 A c l s d m kk H6.out.ref HI.out.fits
      rw [← HP.out] at hT2
      have HT2 := Lib.hid hT2
      clear hT2
      go_wp2_with fail
      refine HT2.out.mono ?_
      rintro e w7 ⟨v2, rfl, hown2, h7, hg7⟩
      have F7 := Lib.hid (H6.out.whole h7 hg7).drew
      have O7 := Lib.hid ((O6.out.across hg7 (fun k e => by cases e; exact L6.out)).drew')
      have P7 := Lib.hid hown2.drew'
      clear e0 e1 e2 h7 hg7 hown2 H6 O6 HT1 HT2 HP L6 HI HD
      obtain ⟨x, isv, s'⟩ := p
      simp only at F7 O7 P7 hlen hfp ⊢
      obtain ⟨A8, c8, rfl, S8, _⟩ := O7.out.shape
      obtain ⟨A9, c9, rfl, S9, _⟩ := P7.out.shape
      have HS8 := Lib.hid S8
      have HS9 := Lib.hid S9
      have hx : x.length ≤ 140737488351232 := by omega
      obtain ⟨r0, r1, r2, r3⟩ := F7.out.ref.cells
      clear O7 P7 S8 S9
      go_wp2_with fail
      have hwr : IntKind.i64.wrap ((l.length : Int) - (s'.n : Int)) = (l.length : Int) - (s'.n : Int) := by have := hfp.1; have := hfp.2.1; rw [IntKind.wrap_i64]; omega
      have K7 : w7.drew.cell? ⟨g2, 1, none⟩ = some (.int .i64 s'.n) ∧ w7.drew.cell? ⟨g2, 2, none⟩ = some (.int .i64 s'.code) ∧ w7.drew.cell? ⟨g2, 3, none⟩ = some (.int .i64 s'.fat) := F7.out.ref.cells.2
      clear r0 r1 r2 r3
      go_region_held3 (fun W => W.cell? ⟨g2, 1, none⟩ = some (.int .i64 s'.n) ∧ W.cell? ⟨g2, 2, none⟩ = some (.int .i64 s'.code) ∧ W.cell? ⟨g2, 3, none⟩ = some (.int .i64 s'.fat)) (first | exact K7 | exact F8.out.ref.cells.2 | exact F9.out.ref.cells.2 | exact F10.out.ref.cells.2 | exact F11.out.ref.cells.2) (first | (go_at_call 23; refine (same_yes A8 _ c8 _ A9 c9 _ HS8.out HS9.out hx).mono ?_; rintro e w8 ⟨rfl, hb8⟩; have F8 := Lib.hid (F7.out.later hb8); clear hb8) | (go_at_call 25; refine (at_any _ g1 A1 c1 l s' false F8.out.cur).mono ?_; rintro e w9 ⟨rfl, hb9⟩; have F9 := Lib.hid (F8.out.later hb9); clear hb9) | (go_at_call 19; refine (left_any _ g1 A1 c1 l s' false F9.out.cur hfp).mono ?_; rintro e w10 ⟨rfl, hb10⟩; have F10 := Lib.hid (F9.out.later hb10); clear hb10) | (go_at_call 24; refine (fault_any _ g1 A1 c1 l s' false F10.out.cur).mono ?_; rintro e w11 ⟨rfl, hb11⟩; have F11 := Lib.hid (F10.out.later hb11); clear hb11))
      go_wp2_with fail
      go_roundw
      case rel => exact ⟨k + 1, s', by omega, by go_num, F11⟩
      case measure => simp [intOf]; omega
    · obtain rfl : k = acts.length := by omega
      go_wp2_with fail
      refine (awake_any _).mono ?_
      rintro e w3 ⟨rfl, hb3⟩
      have B3 := Lib.hid (HI.out.below.trans (hb3.mono HI.out.below.size))
      clear hb3
      go_wp2_with fail
      go_ret
      exact ⟨rfl, B3.out⟩

set_option maxHeartbeats 1000000 in
theorem plays_big (A : Option Addr) (n c : Nat) (A2 : Option Addr) (n2 c2 : Nat) (w : World) (hn : 300 < n ∨ 100 < n2) :
    Calls Try.prog 6 #[.slice A n c, .slice A2 n2 c2] w fun e w' => e = .returned (.bool true) ∧ Below w.heap.size w w' := by
  by_cases h : 300 < n
  · have hn' : (300 : Int) < (n : Int) := by omega
    clear hn h
    go_enter Try.func6, Try.ntmps6
    go_wp2_with fail
    refine (awake_any _).mono ?_
    rintro e w3 ⟨rfl, hb3⟩
    have B3 := Lib.hid hb3
    clear hb3
    go_wp2_with fail
    go_ret
    exact ⟨rfl, B3.out⟩
  · have hn' : ¬ (300 : Int) < (n : Int) := by omega
    have hn2' : (100 : Int) < (n2 : Int) := by omega
    clear hn h
    go_enter Try.func6, Try.ntmps6
    go_wp2_with fail
    refine (awake_any _).mono ?_
    rintro e w3 ⟨rfl, hb3⟩
    have B3 := Lib.hid hb3
    clear hb3
    go_wp2_with fail
    go_ret
    exact ⟨rfl, B3.out⟩

theorem plays_walk (A : Option Addr) (c : Nat) (l : List Int) (A2 : Option Addr) (c2 : Nat) (acts : List (Int × Int × Int)) (w : World) (hs : Sl w A l.length l) (hA : A = none → c = 0) (ha : Acts w A2 acts.length acts) :
    Calls Try.prog 6 #[.slice A l.length c, .slice A2 acts.length c2] w fun e w' => e = .returned (.bool true) ∧ Below w.heap.size w w' := by
  by_cases h : 300 < l.length ∨ 100 < acts.length
  · exact plays_big A _ c A2 _ c2 w h
  · exact plays_main A c l A2 c2 acts w hs hA ha (by omega) (by omega)
end Go.Proofs.Ytiikppiogglppaa
