/-
  What Byte, Peek and Until do to a Cur.
-/
import Derived.Test.YtiikppiogglppaaCut
namespace Go.Proofs.Ytiikppiogglppaa
open Go.RowKit

theorem OwnB.shape {w : World} {base : Nat} {v : Value} {n : Nat} {l : List Int} (h : OwnB w base v n l) : ∃ A c, v = .slice A n c ∧ Sl w A n l ∧ Tidy A c ∧ n ≤ c ∧ (∀ ad, A = some ad → base ≤ ad.block ∧ ad.block < w.heap.size) := by
  rcases h.2.2.2 with ⟨rfl, h0⟩ | ⟨g, cap, cur, rfl, hb, hg, hnc, _⟩
  · refine ⟨none, 0, by rw [h0], ⟨h.1, h.2.1, .inl h0⟩, .inl ⟨rfl, rfl⟩, by omega, fun ad e => by cases e⟩
  · exact ⟨_, cap, rfl, OwnB.slice h, .inr ⟨_, _, rfl⟩, hnc, fun ad e => by cases e; exact ⟨hb, (Array.getElem?_eq_some_iff.1 hg).1⟩⟩

theorem CS.take_fits {s : CS} {l : List Int} (h : s.fits l) (n : Int) : (s.take l n).2.fits l := by
  unfold CS.take
  split
  · split
    · exact CS.fits_fail h _ _
    · split
      · exact CS.fits_fail h _ _
      · refine ⟨?_, h.2.1, h.2.2⟩
        show s.n + n.toNat ≤ l.length
        have := h.1
        omega
  · exact h

/-- Byte, in plain words. -/
def CS.byte (s : CS) (l : List Int) : Int := (s.take l 1).1.getD 0 0

theorem CS.take_one (s : CS) (l : List Int) : (s.take l 1).1.length ≤ 1 := by
  unfold CS.take
  split
  · split
    · exact Nat.zero_le _
    · split
      · exact Nat.zero_le _
      · show ((l.drop s.n).take 1).length ≤ 1
        rw [List.length_take]; omega
  · exact Nat.zero_le _

/-- What a call that tells a byte leaves. -/
def Told (w : World) (g : Nat) (A : Option Addr) (c : Nat) (l : List Int) (tr : Bool) (v : Value) (s : CS) (e : Ending) (w' : World) : Prop :=
  e = .returned v ∧ IsCur w' g A c l s tr ∧ w.grownBy w' (some g)

set_option maxHeartbeats 1000000 in
theorem byte_any (w : World) (g : Nat) (A : Option Addr) (c : Nat) (l : List Int) (s : CS) (tr : Bool) (h : IsCur w g A c l s tr) (hf : s.fits l) :
    Calls Try.prog 11 #[.pointer (some ⟨g, 0, none⟩)] w (Told w g A c l tr (.int .u8 (s.byte l)) (s.take l 1).2) := by
  have H := Lib.hid h
  have HF := Lib.hid hf
  have hone := CS.take_one s l
  obtain ⟨b, hb⟩ : ∃ b, b = s.byte l := ⟨_, rfl⟩
  rw [← hb]
  unfold CS.byte at hb
  have HT := Lib.hid (take_any w g A c l s tr 1 h hf)
  obtain ⟨p, hp⟩ : ∃ p, p = s.take l 1 := ⟨_, rfl⟩
  rw [← hp] at HT hb hone
  rw [← hp]
  have HB := Lib.hid hb
  clear h hf hb hp
  go_enter Try.func11, Try.ntmps11
  go_wp2_with fail
  refine HT.out.mono ?_
  rintro e w1 ⟨v, rfl, hown, h1, hg⟩
  obtain ⟨A', c', rfl, hsl, ht, hlc, _⟩ := hown.shape
  have H1 := Lib.hid h1
  have HG := Lib.hid hg
  clear h1 hg hown HT
  by_cases h0 : p.1.length = 1
  · obtain ⟨b', o', rfl, hlt, hc⟩ := hsl.at 0 (by omega)
    rw [Nat.add_zero] at hc
    rw [← HB.out] at hc
    rw [h0]
    have HS := Lib.hid hsl
    clear hsl
    go_wp2
    go_ret
    exact ⟨rfl, H1.out, HG.out⟩
  · have h1 : p.1.length = 0 := by omega
    have hb0 : b = 0 := by rw [HB.out, List.length_eq_zero_iff.1 h1]; rfl
    rw [h1]
    subst hb0
    have HS := Lib.hid hsl
    clear hsl HB
    go_wp2
    go_ret
    exact ⟨rfl, H1.out, HG.out⟩

/-- Peek, in plain words. -/
def CS.peek (s : CS) (l : List Int) : Int × Bool := if s.code = 0 ∧ s.n < l.length then (l.getD s.n 0, true) else (0, false)

set_option maxHeartbeats 1000000 in
theorem peek_any (w : World) (g : Nat) (A : Option Addr) (c : Nat) (l : List Int) (s : CS) (tr : Bool) (h : IsCur w g A c l s tr) (hf : s.fits l) :
    Calls Try.prog 21 #[.pointer (some ⟨g, 0, none⟩)] w fun e w' => e = .returned (.tuple #[.int .u8 (s.peek l).1, .bool (s.peek l).2]) ∧ Below w.heap.size w w' := by
  have H := Lib.hid h
  have HF := Lib.hid hf
  clear h hf
  have k1 := HF.out.1
  have k2 := HF.out.2.1
  obtain ⟨p, hp⟩ : ∃ p, p = s.peek l := ⟨_, rfl⟩
  rw [← hp]
  have HP := Lib.hid hp
  clear hp
  go_enter Try.func21, Try.ntmps21
  go_wp2_with fail
  refine (ok_any w g A c l s tr H.out HF.out).mono ?_
  rintro e w1 ⟨rfl, hb⟩
  have H1 := Lib.hid (H.out.below hb)
  have HB := Lib.hid hb
  clear hb H
  by_cases h0 : s.code = 0
  · have e1 : s.ok = true := by unfold CS.ok; rw [h0]; rfl
    rw [e1]
    go_wp2_with fail
    refine (left_any w1 g A c l s tr H1.out HF.out).mono ?_
    rintro e w2 ⟨rfl, hb⟩
    have H2 := Lib.hid (H1.out.below hb)
    have HB2 := Lib.hid (HB.out.trans (hb.mono HB.out.size))
    clear hb H1 HB
    by_cases hl : s.n < l.length
    · obtain ⟨c0, c1, c2, c3, c4⟩ := H2.out.cells
      obtain ⟨b', o', rfl, hlt, hc⟩ := H2.out.2.1.at s.n hl
      have hl2 : (s.n : Int) < (l.length : Int) := by omega
      have hE : p = (l.getD s.n 0, true) := by rw [HP.out]; unfold CS.peek; rw [if_pos ⟨h0, hl⟩]
      obtain ⟨z, hz⟩ : ∃ z, z = l.getD s.n 0 := ⟨_, rfl⟩
      rw [← hz] at hc hE
      subst hE
      have hne : ((l.length : Int) - (s.n : Int) == 0) = false := beq_eq_false_iff_ne.mpr (by omega)
      clear hz h0 e1 HP
      go_wp2
      go_quiet (fail)
      go_wp2
      go_ret2
      exact ⟨rfl, below_drewN' HB2.out _⟩
    · have hl2 : (s.n : Int) = (l.length : Int) := by omega
      have hE : p = (0, false) := by rw [HP.out]; unfold CS.peek; rw [if_neg (fun h => hl h.2)]
      subst hE
      have hne : ((l.length : Int) - (s.n : Int) == 0) = true := beq_iff_eq.mpr (by omega)
      rw [hl2] at hne ⊢
      clear h0 e1 HP
      go_wp2
      go_ret2
      exact ⟨rfl, HB2.out⟩
  · have e1 : s.ok = false := by unfold CS.ok; exact beq_eq_false_iff_ne.mpr h0
    have hE : p = (0, false) := by rw [HP.out]; unfold CS.peek; rw [if_neg (fun h => h0 h.1)]
    rw [e1]
    subst hE
    clear h0 e1 HP
    go_wp2
    go_ret2
    exact ⟨rfl, HB.out⟩

/-- Until, in plain words. -/
def CS.until (s : CS) (l : List Int) (e : Int) : List Int × Bool × CS :=
  if s.code = 0 then
    match pos e (l.drop s.n) with
    | some i => ((l.drop s.n).take i, true, ⟨s.n + i + 1, s.code, s.fat⟩)
    | none => (l.drop s.n, false, ⟨l.length, s.code, s.fat⟩)
  else ([], false, s)

theorem CS.until_fits {s : CS} {l : List Int} (h : s.fits l) (e : Int) : (s.until l e).2.2.fits l := by
  unfold CS.until
  split
  · split
    · rename_i i hi
      have := pos_lt hi
      rw [List.length_drop] at this
      exact ⟨by show s.n + i + 1 ≤ l.length; omega, h.2.1, h.2.2⟩
    · exact ⟨Nat.le_refl _, h.2.1, h.2.2⟩
  · exact h

theorem cut_some (A : Option Addr) (n c : Nat) (l : List Int) (e : Int) (i b o c2 : Nat) (w : World) (hs : Sl w A n l) (ht : Tidy A c) (hc : n ≤ c) (hn : n ≤ 1000000) (he : 0 ≤ e ∧ e < 256) (hb : w.cell? ⟨b, o, none⟩ = some (.int .u8 e)) (hq : pos e l = some i) :
    Calls Try.prog 36 #[.slice A n c, .slice (some ⟨b, o, none⟩) 1 c2] w fun r w' => ∃ A1 A2 c2, r = .returned (.tuple #[.slice A1 i c, .slice A2 (n - (i + 1)) c2, .bool true]) ∧ Below w.heap.size w w' ∧ Sl w A1 i (l.take i) ∧ Tidy A1 c := by
  refine (cut_one A n c l e b o c2 w hs ht hc hn he hb).mono ?_
  rintro r w' ⟨hb', h⟩
  rw [hq] at h
  obtain ⟨A1, A2, c2, h1, h2, h3, _⟩ := h
  exact ⟨A1, A2, c2, h1, hb', h2, h3⟩
theorem cut_none (A : Option Addr) (n c : Nat) (l : List Int) (e : Int) (b o c2 : Nat) (w : World) (hs : Sl w A n l) (ht : Tidy A c) (hc : n ≤ c) (hn : n ≤ 1000000) (he : 0 ≤ e ∧ e < 256) (hb : w.cell? ⟨b, o, none⟩ = some (.int .u8 e)) (hq : pos e l = none) :
    Calls Try.prog 36 #[.slice A n c, .slice (some ⟨b, o, none⟩) 1 c2] w fun r w' => r = .returned (.tuple #[.slice A n c, .slice none 0 0, .bool false]) ∧ Below w.heap.size w w' := by
  refine (cut_one A n c l e b o c2 w hs ht hc hn he hb).mono ?_
  rintro r w' ⟨hb', h⟩
  rw [hq] at h
  exact ⟨h, hb'⟩

/-- What Until tells, and leaves. -/
def Got (w : World) (g : Nat) (A : Option Addr) (c : Nat) (l : List Int) (tr : Bool) (x : List Int) (b : Bool) (s : CS) (e : Ending) (w' : World) : Prop :=
  ∃ v, e = .returned (.tuple #[v, .bool b]) ∧ OwnB w' w.heap.size v x.length x ∧ IsCur w' g A c l s tr ∧ w.grownBy w' (some g)

set_option maxHeartbeats 4000000 in
theorem until_any (w : World) (g : Nat) (A : Option Addr) (c : Nat) (l : List Int) (s : CS) (tr : Bool) (e : Int) (he : 0 ≤ e ∧ e < 256) (h : IsCur w g A c l s tr) (hf : s.fits l) :
    Calls Try.prog 22 #[.pointer (some ⟨g, 0, none⟩), .int .u8 e] w (Got w g A c l tr (s.until l e).1 (s.until l e).2.1 (s.until l e).2.2) := by
  have H := Lib.hid h
  have HF := Lib.hid hf
  clear h hf
  have k1 := HF.out.1
  have k2 := HF.out.2.1
  obtain ⟨p, hp⟩ : ∃ p, p = s.until l e := ⟨_, rfl⟩
  rw [← hp]
  have HP := Lib.hid hp
  clear hp
  go_enter Try.func22, Try.ntmps22
  go_wp2_with fail
  refine (ok_any w g A c l s tr H.out HF.out).mono ?_
  rintro e' w1 ⟨rfl, hb⟩
  have H1 := Lib.hid (H.out.below hb)
  have HG := Lib.hid (grown_below (row := some g) hb)
  clear hb H
  by_cases h0 : s.code = 0
  · have e1 : s.ok = true := by unfold CS.ok; rw [h0]; rfl
    rw [e1]
    have HH := Lib.hid h0
    clear e1 h0
    obtain ⟨a', hrun, hsl, ht'⟩ := cut_from H1.out.2.1 s.n k1 H1.out.2.2.2.1 H1.out.2.2.2.2
    have hlc := H1.out.2.2.2.1
    obtain ⟨c0, c1, c2, c3, c4⟩ := H1.out.cells
    have hb1 : Below w1.heap.size w1 (w1.alloc (.cells #[.int .u8 e] 5)).drew := ((Below.refl _ w1).alloc (Nat.le_refl _) _).drew
    obtain ⟨d0, d1, d2, d3, d4⟩ := (H1.out.below hb1).cells
    have HSL := Lib.hid (hsl.below hb1)
    have hcell : (w1.alloc (.cells #[.int .u8 e] 5)).drew.cell? ⟨w1.heap.size, 0, none⟩ = some (.int .u8 e) := (show (w1.alloc (.cells #[.int .u8 e] 5)).cell? ⟨w1.heap.size, 0, none⟩ = some (.int .u8 e) by rw [cell_of_row _ w1.heap.size 0 _ 5 (0, 0) (heap_alloc_new w1 _)]; rfl)
    have HC := Lib.hid hcell
    have H1d := Lib.hid (H1.out.below hb1)
    have HGd := Lib.hid (HG.out.trans (grown_below (row := some g) hb1))
    clear hsl hb1 hcell
    have hn1 : l.length - s.n ≤ c - s.n := by omega
    have hn2 : l.length - s.n ≤ 1000000 := by omega
    cases hq : pos e (l.drop s.n) with
    | some i =>
      have hi := pos_lt hq
      rw [List.length_drop] at hi
      have hE : p = ((l.drop s.n).take i, true, ⟨s.n + i + 1, s.code, s.fat⟩) := by rw [HP.out]; unfold CS.until; rw [if_pos HH.out, hq]
      have HQ := Lib.hid hq
      have HE := Lib.hid hE
      clear hq hE HP
      go_wp2_with fail
      go_region_law (go_simp; go_at_call 36; refine (cut_some a' (l.length - s.n) (c - s.n) (l.drop s.n) e i w1.heap.size 0 1 _ HSL.out ht' hn1 hn2 he HC.out HQ.out).mono ?_; rintro r w2 ⟨A1, A2, c2', rfl, hb2, s1, t1⟩; have H2 := Lib.hid (H1d.out.below hb2); have HG2 := Lib.hid (HGd.out.trans (grown_below (row := some g) hb2)); have S1 := Lib.hid (s1.below hb2); clear hb2 s1)
      all_goals (
        have P1 : IsCur (w2.setCell ⟨g, 1, none⟩ (.int .i64 ((s.n : Int) + (i : Int)))) g A c l ⟨s.n + i, s.code, s.fat⟩ tr := by have := H2.out.put_n (s.n + i); rwa [Int.natCast_add] at this
        obtain ⟨x0, x1, x2, x3, x4⟩ := H2.out.cells
        obtain ⟨y0, y1, y2, y3, y4⟩ := P1.cells
        simp only [Int.natCast_add] at y1
        have f1 := H2.out.free 1
        have f2 := P1.free 1
        have hi3 : i ≤ 1000 := by omega
        have S2 := Lib.hid ((S1.out.put (.int .i64 ((s.n : Int) + (i : Int))) x1 (fun z e => by cases e)).put (.int .i64 ((s.n : Int) + (i : Int) + 1)) y1 (fun z e => by cases e))
        have P2 : IsCur ((w2.setCell ⟨g, 1, none⟩ (.int .i64 ((s.n : Int) + (i : Int)))).setCell ⟨g, 1, none⟩ (.int .i64 ((s.n : Int) + (i : Int) + 1))) g A c l ⟨s.n + i + 1, s.code, s.fat⟩ tr := by have := P1.put_n (s.n + i + 1); rwa [Int.natCast_add, Int.natCast_add, Int.natCast_one] at this
        have HP2 := Lib.hid P2
        have G2 := Lib.hid ((HG2.out.trans (grown_set w2 g 1 (.int .i64 ((s.n : Int) + (i : Int))))).trans (grown_set _ g 1 (.int .i64 ((s.n : Int) + (i : Int) + 1))))
        clear P1 P2
        go_wp2_with fail
        refine (clone_any A1 i (c - s.n) _ _ S2.out t1.nil hi3).mono ?_
        rintro e2 w3 ⟨v, rfl, hown, hb3⟩
        have HO := Lib.hid hown
        have H3 := Lib.hid (HP2.out.below hb3)
        have G3 := Lib.hid (G2.out.trans (grown_below (row := some g) hb3))
        clear hown hb3
        go_wp2
        go_ret2
        exact HE.out ▸ ⟨v, rfl, (HO.out.lower G2.out.size).len, H3.out, G3.out⟩)
    | none =>
      have hE : p = (l.drop s.n, false, ⟨l.length, s.code, s.fat⟩) := by rw [HP.out]; unfold CS.until; rw [if_pos HH.out, hq]
      have HQ := Lib.hid hq
      have HE := Lib.hid hE
      clear hq hE HP
      go_wp2_with fail
      go_region_law (go_simp; go_at_call 36; refine (cut_none a' (l.length - s.n) (c - s.n) (l.drop s.n) e w1.heap.size 0 1 _ HSL.out ht' hn1 hn2 he HC.out HQ.out).mono ?_; rintro r w2 ⟨rfl, hb2⟩; have H2 := Lib.hid (H1d.out.below hb2); have HG2 := Lib.hid (HGd.out.trans (grown_below (row := some g) hb2)); have S1 := Lib.hid (HSL.out.below hb2); clear hb2)
      all_goals (
        have P1 := H2.out.put_n l.length
        obtain ⟨x0, x1, x2, x3, x4⟩ := H2.out.cells
        have f1 := H2.out.free 1
        have hsum : (s.n : Int) + ((l.length - s.n : Nat) : Int) = (l.length : Int) := by omega
        have hi3 : l.length - s.n ≤ 1000 := by omega
        have S2 := Lib.hid (S1.out.put (.int .i64 (l.length : Int)) x1 (fun z e => by cases e))
        have HP1 := Lib.hid P1
        have G2 := Lib.hid (HG2.out.trans (grown_set w2 g 1 (.int .i64 (l.length : Int))))
        clear P1
        go_wp2_with fail
        refine (clone_any a' (l.length - s.n) (c - s.n) _ _ S2.out ht'.nil hi3).mono ?_
        rintro e2 w3 ⟨v, rfl, hown, hb3⟩
        have HO := Lib.hid hown
        have H3 := Lib.hid (HP1.out.below hb3)
        have G3 := Lib.hid (G2.out.trans (grown_below (row := some g) hb3))
        clear hown hb3
        go_wp2
        go_ret2
        exact HE.out ▸ ⟨v, rfl, (HO.out.lower G2.out.size).len, H3.out, G3.out⟩)
  · have e1 : s.ok = false := by unfold CS.ok; exact beq_eq_false_iff_ne.mpr h0
    have hE : p = ([], false, s) := by rw [HP.out]; unfold CS.until; rw [if_neg h0]
    rw [e1]
    subst hE
    clear h0 e1 HP
    go_wp2
    go_ret2
    exact ⟨_, rfl, own_nil _ _, H1.out, HG.out⟩
end Go.Proofs.Ytiikppiogglppaa
