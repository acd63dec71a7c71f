/-
  The walk of does: a call of any kind.
-/
import Derived.Test.YtiikppiogglppaaAwake
namespace Go.Proofs.Ytiikppiogglppaa
open Go.RowKit

/-- A call, in plain words: which bytes it tells, whether, and what it leaves. -/
def CS.does (s : CS) (l : List Int) (d n k : Int) : List Int × Bool × CS :=
  if d = 0 then ([s.byte l], true, (s.take l 1).2)
  else if d = 1 then ([(s.peek l).1], (s.peek l).2, s)
  else if d = 2 then ((s.take l n).1, true, (s.take l n).2)
  else if d = 3 then s.until l (n % 256)
  else if d = 4 then ([], true, s.fail k n)
  else ([], true, s)

theorem ownB_one (w : World) (base : Nat) (hb : base ≤ w.heap.size) (z : Int) (hz : 0 ≤ z ∧ z < 256) : OwnB (w.alloc (.cells #[.int .u8 z] 5)) base (.slice (some ⟨w.heap.size, 0, none⟩) 1 1) 1 [z] :=
  ⟨rfl, (by intro x hx; cases List.mem_singleton.1 hx; exact hz), by simp, .inr ⟨w.heap.size, 1, _, rfl, hb, heap_alloc_new w _, Nat.le_refl _, by decide, rfl, rfl⟩⟩

theorem byte_range (s : CS) (l : List Int) (h : ∀ z ∈ l, 0 ≤ z ∧ z < 256) : 0 ≤ s.byte l ∧ s.byte l < 256 := by
  unfold CS.byte
  refine getD_byte (fun z hz => ?_) 0
  unfold CS.take at hz
  split at hz
  · split at hz
    · cases hz
    · split at hz
      · cases hz
      · exact h z (List.mem_of_mem_drop (List.mem_of_mem_take hz))
  · cases hz

theorem peek_range (s : CS) (l : List Int) (h : ∀ z ∈ l, 0 ≤ z ∧ z < 256) : 0 ≤ (s.peek l).1 ∧ (s.peek l).1 < 256 := by
  unfold CS.peek
  split
  · exact getD_byte h _
  · exact ⟨by decide, by decide⟩

theorem does_fits {s : CS} {l : List Int} (h : s.fits l) (d n k : Int) : (s.does l d n k).2.2.fits l := by
  unfold CS.does
  split
  · exact CS.take_fits h 1
  · split
    · exact h
    · split
      · exact CS.take_fits h n
      · split
        · exact CS.until_fits h _
        · split
          · exact CS.fits_fail h _ _
          · exact h

set_option maxHeartbeats 4000000 in
theorem does_any (w : World) (g : Nat) (A : Option Addr) (c : Nat) (l : List Int) (s : CS) (tr : Bool) (d n k : Int) (h : IsCur w g A c l s tr) (hf : s.fits l) :
    Calls Try.prog 17 #[.pointer (some ⟨g, 0, none⟩), .agg #[.int .i64 d, .int .i64 n, .int .i64 k]] w (Got w g A c l tr (s.does l d n k).1 (s.does l d n k).2.1 (s.does l d n k).2.2) := by
  have hb0 := (Below.refl w.heap.size w).alloc (Nat.le_refl _) (.cells #[.int .i64 d, .int .i64 n, .int .i64 k] 41)
  have hr := h.2.1.2.1
  have H := Lib.hid (h.below hb0)
  have G := Lib.hid (grown_below (row := some g) hb0)
  have HR := Lib.hid hr
  obtain ⟨p, hp⟩ : ∃ p, p = s.does l d n k := ⟨_, rfl⟩
  rw [← hp]
  unfold CS.does at hp
  have HP := Lib.hid hp
  clear h hb0 hr hp
  by_cases d0 : d = 0
  · subst d0
    have hE : Hid (p = ([s.byte l], true, (s.take l 1).2)) := Lib.hid HP.out
    clear HP
    go_enter Try.func17, Try.ntmps17
    go_wp2_with fail
    refine (byte_any _ g A c l s tr H.out hf).mono ?_
    rintro e w1 ⟨rfl, h1, hg1⟩
    have H1 := Lib.hid h1
    have G1 := Lib.hid (G.out.trans hg1)
    clear h1 hg1
    go_wp2
    go_ret2
    exact hE.out ▸ ⟨_, rfl, ownB_one w1 w.heap.size G1.out.size _ (byte_range s l HR.out), H1.out.below ((Below.refl _ _).alloc (Nat.le_refl _) _), G1.out.trans (grown_below ((Below.refl _ _).alloc (Nat.le_refl _) _))⟩
  · by_cases d1 : d = 1
    · subst d1
      have hE : Hid (p = ([(s.peek l).1], (s.peek l).2, s)) := Lib.hid HP.out
      clear HP
      go_enter Try.func17, Try.ntmps17
      go_wp2_with fail
      refine (peek_any _ g A c l s tr H.out hf).mono ?_
      rintro e w1 ⟨rfl, hb1⟩
      have H1 := Lib.hid (H.out.below hb1)
      have G1 := Lib.hid (G.out.trans (grown_below (row := some g) hb1))
      clear hb1
      go_wp2
      go_ret2
      exact hE.out ▸ ⟨_, rfl, ownB_one w1 w.heap.size G1.out.size _ (peek_range s l HR.out), H1.out.below ((Below.refl _ _).alloc (Nat.le_refl _) _), G1.out.trans (grown_below ((Below.refl _ _).alloc (Nat.le_refl _) _))⟩
    · by_cases d2 : d = 2
      · subst d2
        have hE : Hid (p = ((s.take l n).1, true, (s.take l n).2)) := Lib.hid HP.out
        clear HP
        go_enter Try.func17, Try.ntmps17
        go_wp2_with fail
        refine (take_any _ g A c l s tr n H.out hf).mono ?_
        rintro e w1 ⟨v, rfl, hown, h1, hg1⟩
        have H1 := Lib.hid h1
        have HO := Lib.hid (hown.lower G.out.size)
        have G1 := Lib.hid (G.out.trans hg1)
        clear h1 hg1 hown
        go_wp2
        go_ret2
        exact hE.out ▸ ⟨_, rfl, HO.out, H1.out, G1.out⟩
      · by_cases d3 : d = 3
        · subst d3
          obtain rfl : p = s.until l (n % 256) := HP.out
          clear HP
          go_enter Try.func17, Try.ntmps17
          go_wp2_with fail
          refine (until_any _ g A c l s tr (n % 256) ⟨by omega, by omega⟩ H.out hf).mono ?_
          rintro e w1 ⟨v, rfl, hown, h1, hg1⟩
          have H1 := Lib.hid h1
          have HO := Lib.hid (hown.lower G.out.size)
          have G1 := Lib.hid (G.out.trans hg1)
          clear h1 hg1 hown
          go_wp2
          go_ret2
          exact ⟨_, rfl, HO.out, H1.out, G1.out⟩
        · by_cases d4 : d = 4
          · subst d4
            have hE : Hid (p = ([], true, s.fail k n)) := Lib.hid HP.out
            clear HP
            go_enter Try.func17, Try.ntmps17
            go_wp2_with fail
            refine (fail_any _ g A c l s tr k n H.out hf).mono ?_
            rintro e w1 ⟨rfl, h1, hg1⟩
            have H1 := Lib.hid h1
            have G1 := Lib.hid (G.out.trans hg1)
            clear h1 hg1
            go_wp2
            go_ret2
            exact hE.out ▸ ⟨_, rfl, own_nil _ _, H1.out, G1.out⟩
          · have hE : Hid (p = ([], true, s)) := Lib.hid (by rw [HP.out, if_neg d0, if_neg d1, if_neg d2, if_neg d3, if_neg d4])
            clear HP
            go_enter Try.func17, Try.ntmps17
            go_wp2
            go_ret2
            exact hE.out ▸ ⟨_, rfl, own_nil _ _, H.out, G.out⟩
end Go.Proofs.Ytiikppiogglppaa
