/-
  The document's answer for a Cur in memory, and what its methods do to it: the same as the Cur's own.
-/
import Derived.Test.YtiikppiogglppaaDoes
import Derived.Test.YtiikppiogglppaaAppend
namespace Go.Proofs.Ytiikppiogglppaa
open Go.RowKit

def refCells (A : Option Addr) (c : Nat) (l : List Int) (s : CS) : Array Value := #[.slice A l.length c, .int .i64 s.n, .int .i64 s.code, .int .i64 s.fat]
/-- Block g is the document's Cur over bytes that read as l. -/
structure IsRef (w : World) (g : Nat) (A : Option Addr) (c : Nat) (l : List Int) (s : CS) : Prop where
  row : w.heap[g]? = some (.cells (refCells A c l s) 44 (0, 0))
  sl : Sl w A l.length l
  ne : 0 < l.length → ∀ ad, A = some ad → ad.block ≠ g

theorem IsRef.lt {w : World} {g c : Nat} {A : Option Addr} {l : List Int} {s : CS} (h : IsRef w g A c l s) : g < w.heap.size := (Array.getElem?_eq_some_iff.1 h.row).1

theorem IsRef.cells {w : World} {g c : Nat} {A : Option Addr} {l : List Int} {s : CS} (h : IsRef w g A c l s) :
    w.cell? ⟨g, 0, none⟩ = some (.slice A l.length c) ∧ w.cell? ⟨g, 1, none⟩ = some (.int .i64 s.n) ∧ w.cell? ⟨g, 2, none⟩ = some (.int .i64 s.code) ∧ w.cell? ⟨g, 3, none⟩ = some (.int .i64 s.fat) := by
  refine ⟨?_, ?_, ?_, ?_⟩
  all_goals rw [cell_of_row _ g _ _ 44 (0, 0) h.row]; rfl

theorem IsRef.free {w : World} {g c : Nat} {A : Option Addr} {l : List Int} {s : CS} (h : IsRef w g A c l s) (j : Nat) : w.frozen? ⟨g, j, none⟩ = false := frozen_of_row w g j _ 44 h.row

theorem Sl.grown' {w w' : World} {a : Option Addr} {l : List Int} {row : Option Nat} (h : Sl w a l.length l) (hg : w.grownBy w' row) (hne : 0 < l.length → ∀ ad, a = some ad → row ≠ some ad.block) : Sl w' a l.length l := by
  by_cases h0 : 0 < l.length
  · exact h.grown hg (hne h0)
  · exact ⟨rfl, h.2.1, .inl (by omega)⟩

theorem IsRef.kept {w w' : World} {g c : Nat} {A : Option Addr} {l : List Int} {s : CS} {row : Option Nat} (h : IsRef w g A c l s) (hg : w.grownBy w' row) (h1 : some g ≠ row) (h2 : 0 < l.length → ∀ ad, A = some ad → row ≠ some ad.block) : IsRef w' g A c l s :=
  ⟨(hg.block g h.lt h1).trans h.row, h.sl.grown' hg h2, h.ne⟩
theorem IsRef.below {w w' : World} {g c : Nat} {A : Option Addr} {l : List Int} {s : CS} (h : IsRef w g A c l s) (hb : Below w.heap.size w w') : IsRef w' g A c l s :=
  ⟨(hb.block g h.lt).trans h.row, h.sl.below hb, h.ne⟩

theorem IsRef.put_n {w : World} {g c : Nat} {A : Option Addr} {l : List Int} {s : CS} (h : IsRef w g A c l s) (n : Nat) :
    IsRef (w.setCell ⟨g, 1, none⟩ (.int .i64 (n : Int))) g A c l ⟨n, s.code, s.fat⟩ := by
  refine ⟨?_, h.sl.grown' (grown_set w g 1 _) (fun h0 ad e => fun e2 => h.ne h0 ad e (Option.some.inj e2).symm), h.ne⟩
  rw [heap_setCell_same w g 1 _ 44 _ h.row]; rfl
theorem IsRef.put_fault {w : World} {g c : Nat} {A : Option Addr} {l : List Int} {s : CS} (h : IsRef w g A c l s) (x y : Int) :
    IsRef ((w.setCell ⟨g, 2, none⟩ (.int .i64 x)).setCell ⟨g, 3, none⟩ (.int .i64 y)) g A c l ⟨s.n, x, y⟩ := by
  have hne : 0 < l.length → ∀ ad, A = some ad → some g ≠ some ad.block := fun h0 ad e e2 => h.ne h0 ad e (Option.some.inj e2).symm
  refine ⟨?_, (h.sl.grown' (grown_set w g 2 _) hne).grown' (grown_set _ g 3 _) hne, h.ne⟩
  have h1 : (w.setCell ⟨g, 2, none⟩ (.int .i64 x)).heap[g]? = some (.cells #[.slice A l.length c, .int .i64 s.n, .int .i64 x, .int .i64 s.fat] 44 (0, 0)) := by rw [heap_setCell_same w g 2 _ 44 _ h.row]; rfl
  rw [heap_setCell_same _ g 3 _ 44 _ h1]; rfl

theorem rfail_any (w : World) (g : Nat) (A : Option Addr) (c : Nat) (l : List Int) (s : CS) (x y : Int) (h : IsRef w g A c l s) :
    Calls Try.prog 35 #[.pointer (some ⟨g, 0, none⟩), .int .i64 x, .int .i64 y] w fun e w' => e = .returned (.tuple #[]) ∧ IsRef w' g A c l (s.fail x y) ∧ w.grownBy w' (some g) := by
  have H := Lib.hid h
  obtain ⟨c0, c1, c2, c3⟩ := h.cells
  have f2 := h.free 2
  have f3 := h.free 3
  clear h
  obtain ⟨s', hs'⟩ : ∃ s', s' = s.fail x y := ⟨_, rfl⟩
  rw [← hs']
  have HS := Lib.hid hs'
  clear hs'
  by_cases h0 : s.code = 0
  · have e1 : (s.code == 0) = true := beq_iff_eq.2 h0
    by_cases hx : x = 0
    · have e2 : s.fail x y = s := by unfold CS.fail; rw [if_pos h0, if_pos hx]
      have HE := Lib.hid (HS.out.trans e2)
      subst hx
      clear HS e2 h0
      go_enter Try.func35, Try.ntmps35
      go_wp2
      (first | go_end0 | ((try simp only [Exit.inBlock, Exit.then]); refine bodyPost_ret (results_none rfl _ _ _) rfl ?_))
      exact ⟨rfl, HE.out ▸ H.out, World.grownBy.refl _ _⟩
    · have e2 : s.fail x y = ⟨s.n, x, y⟩ := by unfold CS.fail; rw [if_pos h0, if_neg hx]
      have HE := Lib.hid (HS.out.trans e2)
      have e3 : (x != 0) = true := bne_iff_ne.mpr hx
      have P1 := Lib.hid (H.out.put_fault x y)
      have P2 := Lib.hid ((grown_set w g 2 (.int .i64 x)).trans (grown_set _ g 3 (.int .i64 y)))
      clear hx e2 h0 HS
      go_enter Try.func35, Try.ntmps35
      go_wp2
      (first | go_end0 | ((try simp only [Exit.inBlock, Exit.then]); refine bodyPost_ret (results_none rfl _ _ _) rfl ?_))
      exact ⟨rfl, HE.out ▸ P1.out, P2.out⟩
  · have e1 : (s.code == 0) = false := beq_eq_false_iff_ne.mpr h0
    have e2 : s.fail x y = s := by unfold CS.fail; rw [if_neg h0]
    have HE := Lib.hid (HS.out.trans e2)
    clear HS e2 h0
    go_enter Try.func35, Try.ntmps35
    go_wp2
    (first | go_end0 | ((try simp only [Exit.inBlock, Exit.then]); refine bodyPost_ret (results_none rfl _ _ _) rfl ?_))
    exact ⟨rfl, HE.out ▸ H.out, World.grownBy.refl _ _⟩

/-- What a call of the document's Cur that takes bytes tells, and leaves. -/
def RTook (w : World) (g : Nat) (A : Option Addr) (c : Nat) (l : List Int) (x : List Int) (s : CS) (e : Ending) (w' : World) : Prop :=
  ∃ v, e = .returned v ∧ OwnB w' w.heap.size v x.length x ∧ IsRef w' g A c l s ∧ w.grownBy w' (some g)

theorem OwnB.across {w w' : World} {base : Nat} {v : Value} {n : Nat} {l : List Int} {row : Option Nat} (h : OwnB w base v n l) (hg : w.grownBy w' row) (hne : ∀ k, row = some k → k < base) : OwnB w' base v n l := by
  refine ⟨h.1, h.2.1, ?_⟩
  cases hk : v.ownBlock with
  | none => exact h.2.2.kept hg (.inl hk)
  | some k => exact h.2.2.kept hg (.inr (fun e => by have := (h.2.2.lt k hk).1; have := hne k (e.symm.trans hk); omega))

theorem IsRef.drewN {w : World} {g c : Nat} {A : Option Addr} {l : List Int} {s : CS} (h : IsRef w g A c l s) (n : Nat) : IsRef (w.drewN n) g A c l s := ⟨h.row, h.sl.drewN n, h.ne⟩
theorem IsRef.drew {w : World} {g c : Nat} {A : Option Addr} {l : List Int} {s : CS} (h : IsRef w g A c l s) : IsRef w.drew g A c l s := ⟨h.row, h.sl, h.ne⟩
theorem grown_drewN {w w' : World} {row : Option Nat} (h : w.grownBy w' row) (n : Nat) : w.grownBy (w'.drewN n) row := ⟨h.os, h.tape, h.output, h.size, h.block⟩
theorem OwnB.drewN {w : World} {base n : Nat} {v : Value} {l : List Int} (h : OwnB w base v n l) (m : Nat) : OwnB (w.drewN m) base v n l := h.kept (below_drewN' (Below.refl _ _) m)

theorem Sl.old {w : World} {A : Option Addr} {n : Nat} {l : List Int} (h : Sl w A n l) : 0 < n → ∀ ad, A = some ad → ad.block < w.heap.size := by
  intro h0 ad e
  rcases h.2.2 with h1 | ⟨b, o, e2, hb, _⟩
  · omega
  · rw [e] at e2; cases e2; exact hb

/-- The own bytes grow: the document's Cur stands. -/
theorem IsRef.past {w w' : World} {g c base n : Nat} {A : Option Addr} {l l2 : List Int} {s : CS} {v : Value} (h : IsRef w g A c l s) (ho : OwnB w base v n l2) (hg : w.grownBy w' v.ownBlock) (h1 : g < base) (h2 : 0 < l.length → ∀ ad, A = some ad → ad.block < base) : IsRef w' g A c l s := by
  refine h.kept hg (fun e => ?_) (fun h0 ad e e2 => ?_)
  · have := (ho.2.2.lt g e.symm).1; omega
  · have := (ho.2.2.lt ad.block e2).1; have := h2 h0 ad e; omega

theorem grown_two {w w1 w2 : World} {g : Nat} {row : Option Nat} (h : w.grownBy w1 (some g)) (k : w1.grownBy w2 row) (hr : ∀ b, row = some b → w.heap.size ≤ b) : w.grownBy w2 (some g) :=
  ⟨k.os.trans h.os, k.tape.trans h.tape, k.output.trans h.output, Nat.le_trans h.size k.size, fun i hi hne => (k.block i (Nat.lt_of_lt_of_le hi h.size) (fun e => by have := hr i e.symm; omega)).trans (h.block i hi hne)⟩

set_option maxHeartbeats 4000000 in
theorem rtake_any (w : World) (g : Nat) (A : Option Addr) (c : Nat) (l : List Int) (s : CS) (n : Int) (h : IsRef w g A c l s) (hf : s.fits l) :
    Calls Try.prog 33 #[.pointer (some ⟨g, 0, none⟩), .int .i64 n] w (RTook w g A c l (s.take l n).1 (s.take l n).2) := by
  have b0 := (Below.refl w.heap.size w).alloc (Nat.le_refl _) (.cells #[] 5)
  have H := Lib.hid (h.below b0)
  have O := Lib.hid (ownB_made w w.heap.size (Nat.le_refl _))
  have G := Lib.hid (grown_below (row := some g) b0)
  have HF := Lib.hid hf
  have k1 := hf.1
  have k2 := hf.2.1
  have HGL := Lib.hid h.lt
  have HOLD := Lib.hid h.sl.old
  clear h hf b0
  obtain ⟨p, hp⟩ : ∃ p, p = s.take l n := ⟨_, rfl⟩
  rw [← hp]
  have HP := Lib.hid hp
  clear hp
  obtain ⟨c0, c1, c2, c3⟩ := H.out.cells
  by_cases h0 : s.code = 0
  · have e1 : (s.code != 0) = false := bne_eq_false_iff_eq.2 h0
    by_cases hn : n < 0
    · have e2 : s.take l n = ([], s.fail 1 s.n) := by unfold CS.take; rw [if_pos h0, if_pos hn]
      have HE := Lib.hid (HP.out.trans e2)
      clear e2 h0 HP
      go_enter Try.func33, Try.ntmps33
      go_wp2_with fail
      refine (rfail_any _ g A c l s 1 s.n H.out).mono ?_
      rintro e w2 ⟨rfl, h2, hg2⟩
      have H2 := Lib.hid h2
      have G2 := Lib.hid (G.out.trans hg2)
      have O2 := Lib.hid (O.out.across hg2 (fun k e => by cases e; exact HGL.out))
      clear h2 hg2
      go_wp2
      go_ret
      exact HE.out ▸ ⟨_, rfl, O2.out, H2.out, G2.out⟩
    · obtain ⟨m, rfl⟩ := Int.eq_ofNat_of_zero_le (show 0 ≤ n by omega)
      have hn0 : ¬ (m : Int) < 0 := by omega
      by_cases hm : (l.length : Int) - s.n < (m : Int)
      · have e2 : s.take l (m : Int) = ([], s.fail 13 l.length) := by unfold CS.take; rw [if_pos h0, if_neg (by omega), if_pos hm]
        have HE := Lib.hid (HP.out.trans e2)
        clear e2 h0 HP
        go_enter Try.func33, Try.ntmps33
        go_wp2_with fail
        go_quiet (fail)
        go_wp2_with fail
        refine (rfail_any _ g A c l s 13 l.length (H.out.drewN _)).mono ?_
        rintro e w2 ⟨rfl, h2, hg2⟩
        have H2 := Lib.hid h2
        have G2 := Lib.hid ((grown_drewN G.out _).trans hg2)
        have O2 := Lib.hid ((O.out.drewN _).across hg2 (fun k e => by cases e; exact HGL.out))
        clear h2 hg2
        go_wp2
        go_ret
        exact HE.out ▸ ⟨_, rfl, O2.out, H2.out, G2.out⟩
      · have e2 : s.take l (m : Int) = ((l.drop s.n).take m, ⟨s.n + m, s.code, s.fat⟩) := by unfold CS.take; rw [if_pos h0, if_neg (by omega), if_neg hm, Int.toNat_natCast]
        have HE := Lib.hid (HP.out.trans e2)
        have hsm : s.n + m ≤ l.length := by omega
        clear e2 h0 HP
        go_enter Try.func33, Try.ntmps33
        go_wp2_with fail
        go_quiet (fail)
        go_wp2_with fail
        go_loopw [5, 6] (fun v vi wr => ∃ j : Nat, j ≤ m ∧ vi = .int .i64 j ∧ Hid (OwnB wr w.heap.size v j ((l.drop s.n).take j) ∧ IsRef wr g A c l ⟨s.n + j, s.code, s.fat⟩ ∧ w.grownBy wr (some g))) (fun _ vi _ => m - (intOf vi).toNat)
        case atStart => exact ⟨0, by omega, rfl, Lib.hid ⟨O.out.drewN _, H.out.drewN _, grown_drewN G.out _⟩⟩
        case round =>
          obtain ⟨j, hj, rfl, HI⟩ := hrel
          by_cases hjm : j < m
          · have hji : (j : Int) < (m : Int) := by omega
            obtain ⟨d0, d1, d2, d3⟩ := HI.out.2.1.cells
            simp only [Int.natCast_add] at d1
            obtain ⟨b, o, rfl, hb, hc⟩ := HI.out.2.1.sl.at (s.n + j) (by omega)
            have hidx : (s.n : Int) + (j : Int) < (l.length : Int) := by omega
            go_wp2_with fail
            have hzr := Sl.byte HI.out.2.1.sl (s.n + j)
            have hts := take_snoc (l := l.drop s.n) (k := j) (by rw [List.length_drop]; omega)
            have hgd : (l.drop s.n).getD j 0 = l.getD (s.n + j) 0 := by simp only [List.getD_eq_getElem?_getD, List.getElem?_drop]
            rw [hgd] at hts
            obtain ⟨z, hz⟩ : ∃ z, z = l.getD (s.n + j) 0 := ⟨_, rfl⟩
            rw [← hz] at hc hzr hts
            have HTS := Lib.hid hts
            have hj1 : j + 1 ≤ 100000 := by omega
            have bO : Below wr.drew.heap.size wr.drew (wr.drew.alloc (.cells #[.int .u8 z] 5)) := (Below.refl _ _).alloc (Nat.le_refl _) _
            have O1 := HI.out.1.drew'.kept bO
            have S1 := (ownB_one wr.drew wr.drew.heap.size (Nat.le_refl _) z hzr).slice
            have R1 := Lib.hid (HI.out.2.1.drew.below bO)
            have G1 := Lib.hid ((grown_drew HI.out.2.2).trans (grown_below (row := some g) bO))
            have hb1 : w.heap.size ≤ (wr.drew.alloc (.cells #[.int .u8 z] 5)).heap.size := Nat.le_trans HI.out.2.2.size (bO.size)
            have HO1 := Lib.hid O1
            have HS1 := Lib.hid S1
            clear hts hgd hz bO O1 S1 hzr
            have hi0 : 0 ≤ (s.n : Int) + (j : Int) := by omega
            have hi1 : ((s.n : Int) + (j : Int)).toNat = s.n + j := by omega
            go_region_law (first | (refine step_append_bytes rfl _ _ rfl w.heap.size _ j _ rfl HO1.out _ 1 1 [z] rfl HS1.out (fun e => by cases e) hj1 hb1 ?_; intro v' w' hown hg hat))
            all_goals (
              have R2 := Lib.hid (R1.out.past HO1.out hg HGL.out HOLD.out)
              have G2 := Lib.hid (grown_two G1.out hg (fun b hb => (HO1.out.2.2.lt b hb).1))
              have O2 : Hid (OwnB w' w.heap.size v' (j + 1) ((l.drop s.n).take (j + 1))) := Lib.hid (by rw [HTS.out]; exact hown)
              have R3 := Lib.hid (R2.out.put_n (s.n + j + 1))
              have G3 := Lib.hid (G2.out.trans (grown_set w' g 1 (.int .i64 ((s.n + j + 1 : Nat) : Int))))
              have O3 := Lib.hid (O2.out.across (grown_set w' g 1 (.int .i64 ((s.n + j + 1 : Nat) : Int))) (fun k e => by cases e; exact HGL.out))
              obtain ⟨d0', d1', d2', d3'⟩ := R2.out.cells
              simp only [Int.natCast_add] at d1'
              have f1 := R2.out.free 1
              have hsum : ((s.n + j + 1 : Nat) : Int) = (s.n : Int) + (j : Int) + 1 := by omega
              rw [hsum] at R3 G3 O3
              clear hsum hown hg hat R1 G1 HO1 HS1 hi1
              go_wp2_with fail
              go_roundw
              case rel => exact ⟨j + 1, by omega, by go_num, Lib.hid ⟨O3.out, R3.out, G3.out⟩⟩
              case measure => simp [intOf]; omega)
          · obtain rfl : j = m := by omega
            go_wp2_with fail
            go_ret
            exact HE.out ▸ ⟨_, rfl, HI.out.1.len, HI.out.2.1, HI.out.2.2⟩
  · have e1 : (s.code != 0) = true := bne_iff_ne.mpr h0
    have e2 : s.take l n = ([], s) := by unfold CS.take; rw [if_neg h0]
    have HE := Lib.hid (HP.out.trans e2)
    clear h0 e2 HP
    go_enter Try.func33, Try.ntmps33
    go_wp2_with fail
    go_ret
    exact HE.out ▸ ⟨_, rfl, O.out, H.out, G.out⟩
/-- What a call of the document's Cur that tells a byte leaves. -/
def RTold (w : World) (g : Nat) (A : Option Addr) (c : Nat) (l : List Int) (v : Value) (s : CS) (e : Ending) (w' : World) : Prop :=
  e = .returned v ∧ IsRef w' g A c l s ∧ w.grownBy w' (some g)

set_option maxHeartbeats 1000000 in
theorem rbyte_any (w : World) (g : Nat) (A : Option Addr) (c : Nat) (l : List Int) (s : CS) (h : IsRef w g A c l s) (hf : s.fits l) :
    Calls Try.prog 31 #[.pointer (some ⟨g, 0, none⟩)] w (RTold w g A c l (.int .u8 (s.byte l)) (s.take l 1).2) := by
  have hone := CS.take_one s l
  obtain ⟨b, hb⟩ : ∃ b, b = s.byte l := ⟨_, rfl⟩
  rw [← hb]
  unfold CS.byte at hb
  have HT := Lib.hid (rtake_any w g A c l s 1 h hf)
  obtain ⟨p, hp⟩ : ∃ p, p = s.take l 1 := ⟨_, rfl⟩
  rw [← hp] at HT hb hone
  rw [← hp]
  have HB := Lib.hid hb
  clear h hf hb hp
  go_enter Try.func31, Try.ntmps31
  go_wp2_with fail
  refine HT.out.mono ?_
  rintro e w1 ⟨v, rfl, hown, h1, hg⟩
  obtain ⟨A', c', rfl, hsl, ht, hlc, _⟩ := hown.shape
  have H1 := Lib.hid h1
  have HG := Lib.hid hg
  clear h1 hg hown HT
  by_cases h0 : p.1.length = 1
  · obtain ⟨b', o', rfl, hlt, hc⟩ := hsl.at 0 (by omega)
    rw [Nat.add_zero] at hc
    rw [← HB.out] at hc
    rw [h0]
    have HS := Lib.hid hsl
    clear hsl
    go_wp2
    go_ret
    exact ⟨rfl, H1.out, HG.out⟩
  · have h1 : p.1.length = 0 := by omega
    have hb0 : b = 0 := by rw [HB.out, List.length_eq_zero_iff.1 h1]; rfl
    rw [h1]
    subst hb0
    have HS := Lib.hid hsl
    clear hsl HB
    go_wp2
    go_ret
    exact ⟨rfl, H1.out, HG.out⟩

set_option maxHeartbeats 1000000 in
theorem rpeek_any (w : World) (g : Nat) (A : Option Addr) (c : Nat) (l : List Int) (s : CS) (h : IsRef w g A c l s) (hf : s.fits l) :
    Calls Try.prog 32 #[.pointer (some ⟨g, 0, none⟩)] w fun e w' => e = .returned (.tuple #[.int .u8 (s.peek l).1, .bool (s.peek l).2]) ∧ Below w.heap.size w w' := by
  obtain ⟨c0, c1, c2, c3⟩ := h.cells
  have HF := Lib.hid hf
  have HS := Lib.hid h.sl
  have k1 := hf.1
  have k2 := hf.2.1
  clear h hf
  obtain ⟨p, hp⟩ : ∃ p, p = s.peek l := ⟨_, rfl⟩
  rw [← hp]
  have HP := Lib.hid hp
  clear hp
  by_cases h0 : s.code = 0
  · have e1 : (s.code != 0) = false := bne_eq_false_iff_eq.2 h0
    by_cases hl : s.n < l.length
    · obtain ⟨b', o', rfl, hlt, hc⟩ := HS.out.at s.n hl
      have hl2 : (s.n : Int) < (l.length : Int) := by omega
      have hE : p = (l.getD s.n 0, true) := by rw [HP.out]; unfold CS.peek; rw [if_pos ⟨h0, hl⟩]
      obtain ⟨z, hz⟩ : ∃ z, z = l.getD s.n 0 := ⟨_, rfl⟩
      rw [← hz] at hc hE
      subst hE
      have hne : ((s.n : Int) == (l.length : Int)) = false := beq_eq_false_iff_ne.mpr (by omega)
      clear hz h0 HP
      go_enter Try.func32, Try.ntmps32
      go_wp2_with fail
      go_quiet (fail)
      go_wp2_with fail
      go_quiet (fail)
      go_wp2
      go_ret2
      exact ⟨rfl, below_drewN' (below_drewN' (Below.refl _ _) _) _⟩
    · have hl2 : s.n = l.length := by omega
      have hE : p = (0, false) := by rw [HP.out]; unfold CS.peek; rw [if_neg (fun h => hl h.2)]
      have hne : ((l.length : Int) == (l.length : Int)) = true := beq_iff_eq.mpr rfl
      subst hE
      rw [hl2] at c1
      clear h0 HP hl2 hl k1
      go_enter Try.func32, Try.ntmps32
      go_wp2_with fail
      go_quiet (fail)
      go_wp2
      go_ret2
      exact ⟨rfl, below_drewN' (Below.refl _ _) _⟩
  · have e1 : (s.code != 0) = true := bne_iff_ne.mpr h0
    have hE : p = (0, false) := by rw [HP.out]; unfold CS.peek; rw [if_neg (fun h => h0 h.1)]
    subst hE
    clear h0 HP
    go_enter Try.func32, Try.ntmps32
    go_wp2_with fail
    go_quiet (fail)
    go_wp2
    go_ret2
    exact ⟨rfl, below_drewN' (Below.refl _ _) _⟩

/-- Up to j no byte is e. -/
theorem pos_none_of {e : Int} : ∀ {l : List Int}, (∀ i, i < l.length → l.getD i 0 ≠ e) → pos e l = none
  | [], _ => rfl
  | z :: l, h => by
    unfold pos
    rw [if_neg (by have := h 0 (by simp); simpa using this), pos_none_of (l := l) (fun i hi => by have := h (i + 1) (by simp; omega); simpa using this)]
    rfl
theorem pos_some_of {e : Int} : ∀ {l : List Int} {j : Nat}, j < l.length → (∀ i, i < j → l.getD i 0 ≠ e) → l.getD j 0 = e → pos e l = some j
  | [], j, hj, _, _ => by simp at hj
  | z :: l, 0, _, _, h => by
    unfold pos
    rw [if_pos (by simpa using h)]
  | z :: l, j + 1, hj, hn, h => by
    unfold pos
    rw [if_neg (by have := hn 0 (by omega); simpa using this), pos_some_of (l := l) (j := j) (by simpa using hj) (fun i hi => by have := hn (i + 1) (by omega); simpa using this) (by simpa using h)]
    rfl

/-- How many bytes are left, read off the world. -/
def leftOf (g n : Nat) (w : World) : Nat := n - (match w.cell? ⟨g, 1, none⟩ with | some (.int _ x) => x.toNat | _ => 0)
theorem IsRef.leftOf {w : World} {g c : Nat} {A : Option Addr} {l : List Int} {s : CS} (h : IsRef w g A c l s) (n : Nat) : leftOf g n w = n - s.n := by
  unfold Ytiikppiogglppaa.leftOf
  rw [h.cells.2.1]
  simp

/-- Behind a byte that Until has read: the Cur's place is one on. -/
theorem until_step {w wr : World} {g c j : Nat} {A : Option Addr} {l x : List Int} {s : CS} {v : Value} (ho : OwnB wr w.heap.size v j x) (hr : IsRef wr g A c l ⟨s.n + j, s.code, s.fat⟩) (hg : w.grownBy wr (some g)) (hl : g < w.heap.size) (m : Nat) (y : Int) (hy : y = ((s.n + j + 1 : Nat) : Int)) :
    OwnB ((wr.drewN m).setCell ⟨g, 1, none⟩ (.int .i64 y)) w.heap.size v j x ∧ IsRef ((wr.drewN m).setCell ⟨g, 1, none⟩ (.int .i64 y)) g A c l ⟨s.n + j + 1, s.code, s.fat⟩ ∧ w.grownBy ((wr.drewN m).setCell ⟨g, 1, none⟩ (.int .i64 y)) (some g) := by
  subst hy
  exact ⟨(ho.drewN m).across (grown_set _ g 1 _) (fun k e => by cases e; exact hl), (hr.drewN m).put_n (s.n + j + 1), (grown_drewN hg m).trans (grown_set _ g 1 _)⟩

theorem until_byte {w W : World} {g c j : Nat} {A : Option Addr} {l x : List Int} {s : CS} {v : Value} (h : OwnB W w.heap.size v j x ∧ IsRef W g A c l s ∧ w.grownBy W (some g)) (z : Int) (hz : 0 ≤ z ∧ z < 256) :
    OwnB (W.alloc (.cells #[.int .u8 z] 5)) w.heap.size v j x ∧ Sl (W.alloc (.cells #[.int .u8 z] 5)) (some ⟨W.heap.size, 0, none⟩) 1 [z] ∧ IsRef (W.alloc (.cells #[.int .u8 z] 5)) g A c l s ∧ w.grownBy (W.alloc (.cells #[.int .u8 z] 5)) (some g) ∧ w.heap.size ≤ (W.alloc (.cells #[.int .u8 z] 5)).heap.size := by
  have bO : Below W.heap.size W (W.alloc (.cells #[.int .u8 z] 5)) := (Below.refl _ _).alloc (Nat.le_refl _) _
  exact ⟨h.1.kept bO, (ownB_one W W.heap.size (Nat.le_refl _) z hz).slice, h.2.1.below bO, h.2.2.trans (grown_below bO), Nat.le_trans h.2.2.size bO.size⟩

/-- What the document's Until tells, and leaves. -/
def RGot (w : World) (g : Nat) (A : Option Addr) (c : Nat) (l : List Int) (x : List Int) (b : Bool) (s : CS) (e : Ending) (w' : World) : Prop :=
  ∃ v, e = .returned (.tuple #[v, .bool b]) ∧ OwnB w' w.heap.size v x.length x ∧ IsRef w' g A c l s ∧ w.grownBy w' (some g)

set_option maxHeartbeats 4000000 in
theorem runtil_any (w : World) (g : Nat) (A : Option Addr) (c : Nat) (l : List Int) (s : CS) (e : Int) (h : IsRef w g A c l s) (hf : s.fits l) :
    Calls Try.prog 34 #[.pointer (some ⟨g, 0, none⟩), .int .u8 e] w (RGot w g A c l (s.until l e).1 (s.until l e).2.1 (s.until l e).2.2) := by
  have b0 := (Below.refl w.heap.size w).alloc (Nat.le_refl _) (.cells #[] 5)
  have H := Lib.hid (h.below b0)
  have O := Lib.hid (ownB_made w w.heap.size (Nat.le_refl _))
  have G := Lib.hid (grown_below (row := some g) b0)
  have k1 := hf.1
  have k2 := hf.2.1
  have HGL := Lib.hid h.lt
  have HOLD := Lib.hid h.sl.old
  clear h hf b0
  obtain ⟨p, hp⟩ : ∃ p, p = s.until l e := ⟨_, rfl⟩
  rw [← hp]
  have HP := Lib.hid hp
  clear hp
  obtain ⟨c0, c1, c2, c3⟩ := H.out.cells
  by_cases h0 : s.code = 0
  · have e1 : (s.code != 0) = false := bne_eq_false_iff_eq.2 h0
    have HH := Lib.hid h0
    clear h0
    go_enter Try.func34, Try.ntmps34
    go_wp2_with fail
    go_loopw [6] (fun v wr => ∃ j : Nat, s.n + j ≤ l.length ∧ Hid ((∀ i, i < j → (l.drop s.n).getD i 0 ≠ e) ∧ OwnB wr w.heap.size v j ((l.drop s.n).take j) ∧ IsRef wr g A c l ⟨s.n + j, s.code, s.fat⟩ ∧ w.grownBy wr (some g))) (fun _ wr => leftOf g l.length wr)
    case atStart => exact ⟨0, by omega, Lib.hid ⟨fun i hi => by omega, O.out, H.out, G.out⟩⟩
    case round =>
      obtain ⟨j, hj, HI⟩ := hrel
      obtain ⟨d0, d1, d2, d3⟩ := HI.out.2.2.1.cells
      simp only [Int.natCast_add] at d1
      have HM := Lib.hid (HI.out.2.2.1.leftOf l.length)
      by_cases hjl : s.n + j < l.length
      · have hji : (s.n : Int) + (j : Int) < (l.length : Int) := by omega
        obtain ⟨b, o, rfl, hb, hc⟩ := HI.out.2.2.1.sl.at (s.n + j) hjl
        have hzr := Sl.byte HI.out.2.2.1.sl (s.n + j)
        have hts := take_snoc (l := l.drop s.n) (k := j) (by rw [List.length_drop]; omega)
        have hgd : (l.drop s.n).getD j 0 = l.getD (s.n + j) 0 := by simp only [List.getD_eq_getElem?_getD, List.getElem?_drop]
        rw [hgd] at hts
        obtain ⟨z, hz⟩ : ∃ z, z = l.getD (s.n + j) 0 := ⟨_, rfl⟩
        rw [← hz] at hc hzr hts hgd
        have HTS := Lib.hid hts
        have HGD := Lib.hid hgd
        have hi0 : 0 ≤ (s.n : Int) + (j : Int) := by omega
        have hi1 : ((s.n : Int) + (j : Int)).toNat = s.n + j := by omega
        have f1 := HI.out.2.2.1.free 1
        have hlt1 := HI.out.2.2.1.lt
        have hj1 : j + 1 ≤ 100000 := by omega
        clear hts hgd hz
        have HX : Hid (∀ m : Nat, OwnB ((wr.drewN m).setCell ⟨g, 1, none⟩ (.int .i64 ((s.n : Int) + (j : Int) + 1))) w.heap.size _ j _ ∧ _ ∧ _) := Lib.hid (fun m => until_step HI.out.2.1 HI.out.2.2.1 HI.out.2.2.2 HGL.out m ((s.n : Int) + (j : Int) + 1) (by omega))
        by_cases hze : z = e
        · subst hze
          have hE : p = ((l.drop s.n).take j, true, ⟨s.n + j + 1, s.code, s.fat⟩) := by
            rw [HP.out]; unfold CS.until; rw [if_pos HH.out, pos_some_of (j := j) (by rw [List.length_drop]; omega) HI.out.1 HGD.out]
          have HE := Lib.hid hE
          clear hE HP
          go_wp2_with fail
          go_quiet (fail)
          go_wp2_with fail
          go_quiet (fail)
          go_wp2_with fail
          go_ret2
          exact HE.out ▸ ⟨_, rfl, (HX.out _).1.len, (HX.out _).2.1, (HX.out _).2.2⟩
        · have hze' : (z == e) = false := beq_eq_false_iff_ne.2 hze
          have HY : Hid (∀ m : Nat, OwnB (((wr.drewN m).setCell ⟨g, 1, none⟩ (.int .i64 ((s.n : Int) + (j : Int) + 1))).alloc (.cells #[.int .u8 z] 5)) w.heap.size _ j _ ∧ Sl _ (some ⟨wr.heap.size, 0, none⟩) 1 [z] ∧ _ ∧ _ ∧ _) := Lib.hid (fun m => by
            have := until_byte (HX.out m) z hzr
            rwa [show ((wr.drewN m).setCell ⟨g, 1, none⟩ (.int .i64 ((s.n : Int) + (j : Int) + 1))).heap.size = wr.heap.size from by simp [World.setCell]] at this)
          have HNE := Lib.hid hze
          clear hzr hze HX
          go_wp2_with fail
          go_quiet (fail)
          go_wp2_with fail
          go_quiet (fail)
          go_wp2_with (at_builtin; refine append_bytes _ rfl _ _ rfl w.heap.size _ j _ rfl (HY.out _).1 _ 1 1 [z] rfl (HY.out _).2.1 (fun e => by cases e) hj1 (HY.out _).2.2.2.2 ?_; intro v' w' hown hg hat)
          have R2 := Lib.hid ((HY.out _).2.2.1.past (HY.out _).1 hg HGL.out HOLD.out)
          have G2 := Lib.hid (grown_two (HY.out _).2.2.2.1 hg (fun b hb => ((HY.out 0).1.2.2.lt b hb).1))
          have O2 : Hid (OwnB w' w.heap.size v' (j + 1) ((l.drop s.n).take (j + 1))) := Lib.hid (by rw [HTS.out]; exact hown)
          have HM2 := Lib.hid (R2.out.leftOf l.length)
          have HN2 : Hid (∀ i, i < j + 1 → (l.drop s.n).getD i 0 ≠ e) := Lib.hid (fun i hi => by
            by_cases hij : i = j
            · subst hij; rw [HGD.out]; exact HNE.out
            · exact HI.out.1 i (by omega))
          clear hown hg hat HY
          go_roundw
          case rel => exact ⟨j + 1, by omega, Lib.hid ⟨HN2.out, O2.out, R2.out, G2.out⟩⟩
          case measure => rw [HM2.out, HM.out]; show l.length - (s.n + j + 1) < l.length - (s.n + j); omega
      · have hjl2 : s.n + j = l.length := by omega
        have hji : ¬ (s.n : Int) + (j : Int) < (l.length : Int) := by omega
        have hE : p = (l.drop s.n, false, ⟨l.length, s.code, s.fat⟩) := by
          rw [HP.out]; unfold CS.until; rw [if_pos HH.out, pos_none_of (fun i hi => HI.out.1 i (by rw [List.length_drop] at hi; omega))]
        have HT : Hid ((l.drop s.n).take j = l.drop s.n) := Lib.hid (List.take_of_length_le (by rw [List.length_drop]; omega))
        have HE := Lib.hid hE
        have HJ := Lib.hid hjl2
        clear hE HP hjl2
        go_wp2_with fail
        go_quiet (fail)
        go_wp2_with fail
        go_ret2
        refine HE.out ▸ ⟨_, rfl, ?_, ?_, grown_drewN HI.out.2.2.2 _⟩
        · exact (HT.out ▸ HI.out.2.1.len).drewN _
        · have := HI.out.2.2.1
          rw [HJ.out] at this
          exact this.drewN _
  · have e1 : (s.code != 0) = true := bne_iff_ne.mpr h0
    have hE : p = ([], false, s) := by rw [HP.out]; unfold CS.until; rw [if_neg h0]
    subst hE
    clear h0 HP
    go_enter Try.func34, Try.ntmps34
    go_wp2_with fail
    go_ret2
    exact ⟨_, rfl, O.out, H.out, G.out⟩
set_option maxHeartbeats 4000000 in
theorem plays_any (w : World) (g : Nat) (A : Option Addr) (c : Nat) (l : List Int) (s : CS) (d n k : Int) (h : IsRef w g A c l s) (hf : s.fits l) :
    Calls Try.prog 18 #[.pointer (some ⟨g, 0, none⟩), .agg #[.int .i64 d, .int .i64 n, .int .i64 k]] w (RGot w g A c l (s.does l d n k).1 (s.does l d n k).2.1 (s.does l d n k).2.2) := by
  have hb0 := (Below.refl w.heap.size w).alloc (Nat.le_refl _) (.cells #[.int .i64 d, .int .i64 n, .int .i64 k] 41)
  have hr := h.sl.2.1
  have H := Lib.hid (h.below hb0)
  have G := Lib.hid (grown_below (row := some g) hb0)
  have HR := Lib.hid hr
  obtain ⟨p, hp⟩ : ∃ p, p = s.does l d n k := ⟨_, rfl⟩
  rw [← hp]
  unfold CS.does at hp
  have HP := Lib.hid hp
  clear h hb0 hr hp
  by_cases d0 : d = 0
  · subst d0
    have hE : Hid (p = ([s.byte l], true, (s.take l 1).2)) := Lib.hid HP.out
    clear HP
    go_enter Try.func18, Try.ntmps18
    go_wp2_with fail
    refine (rbyte_any _ g A c l s H.out hf).mono ?_
    rintro e w1 ⟨rfl, h1, hg1⟩
    have H1 := Lib.hid h1
    have G1 := Lib.hid (G.out.trans hg1)
    clear h1 hg1
    go_wp2
    go_ret2
    exact hE.out ▸ ⟨_, rfl, ownB_one w1 w.heap.size G1.out.size _ (byte_range s l HR.out), H1.out.below ((Below.refl _ _).alloc (Nat.le_refl _) _), G1.out.trans (grown_below ((Below.refl _ _).alloc (Nat.le_refl _) _))⟩
  · by_cases d1 : d = 1
    · subst d1
      have hE : Hid (p = ([(s.peek l).1], (s.peek l).2, s)) := Lib.hid HP.out
      clear HP
      go_enter Try.func18, Try.ntmps18
      go_wp2_with fail
      refine (rpeek_any _ g A c l s H.out hf).mono ?_
      rintro e w1 ⟨rfl, hb1⟩
      have H1 := Lib.hid (H.out.below hb1)
      have G1 := Lib.hid (G.out.trans (grown_below (row := some g) hb1))
      clear hb1
      go_wp2
      go_ret2
      exact hE.out ▸ ⟨_, rfl, ownB_one w1 w.heap.size G1.out.size _ (peek_range s l HR.out), H1.out.below ((Below.refl _ _).alloc (Nat.le_refl _) _), G1.out.trans (grown_below ((Below.refl _ _).alloc (Nat.le_refl _) _))⟩
    · by_cases d2 : d = 2
      · subst d2
        have hE : Hid (p = ((s.take l n).1, true, (s.take l n).2)) := Lib.hid HP.out
        clear HP
        go_enter Try.func18, Try.ntmps18
        go_wp2_with fail
        refine (rtake_any _ g A c l s n H.out hf).mono ?_
        rintro e w1 ⟨v, rfl, hown, h1, hg1⟩
        have H1 := Lib.hid h1
        have HO := Lib.hid (hown.lower G.out.size)
        have G1 := Lib.hid (G.out.trans hg1)
        clear h1 hg1 hown
        go_wp2
        go_ret2
        exact hE.out ▸ ⟨_, rfl, HO.out, H1.out, G1.out⟩
      · by_cases d3 : d = 3
        · subst d3
          obtain rfl : p = s.until l (n % 256) := HP.out
          clear HP
          go_enter Try.func18, Try.ntmps18
          go_wp2_with fail
          refine (runtil_any _ g A c l s (n % 256) H.out hf).mono ?_
          rintro e w1 ⟨v, rfl, hown, h1, hg1⟩
          have H1 := Lib.hid h1
          have HO := Lib.hid (hown.lower G.out.size)
          have G1 := Lib.hid (G.out.trans hg1)
          clear h1 hg1 hown
          go_wp2
          go_ret2
          exact ⟨_, rfl, HO.out, H1.out, G1.out⟩
        · by_cases d4 : d = 4
          · subst d4
            have hE : Hid (p = ([], true, s.fail k n)) := Lib.hid HP.out
            clear HP
            go_enter Try.func18, Try.ntmps18
            go_wp2_with fail
            refine (rfail_any _ g A c l s k n H.out).mono ?_
            rintro e w1 ⟨rfl, h1, hg1⟩
            have H1 := Lib.hid h1
            have G1 := Lib.hid (G.out.trans hg1)
            clear h1 hg1
            go_wp2
            go_ret2
            exact hE.out ▸ ⟨_, rfl, own_nil _ _, H1.out, G1.out⟩
          · have hE : Hid (p = ([], true, s)) := Lib.hid (by rw [HP.out, if_neg d0, if_neg d1, if_neg d2, if_neg d3, if_neg d4])
            clear HP
            go_enter Try.func18, Try.ntmps18
            go_wp2
            go_ret2
            exact hE.out ▸ ⟨_, rfl, own_nil _ _, H.out, G.out⟩
end Go.Proofs.Ytiikppiogglppaa
