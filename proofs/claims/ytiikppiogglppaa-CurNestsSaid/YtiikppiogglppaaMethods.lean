/-
  What Fail, Take, Byte, Peek and Until do to a Cur.
-/
import Derived.Test.YtiikppiogglppaaState
namespace Go.Proofs.Ytiikppiogglppaa
open Go.RowKit

theorem fail_any (w : World) (g : Nat) (A : Option Addr) (c : Nat) (l : List Int) (s : CS) (tr : Bool) (x y : Int) (h : IsCur w g A c l s tr) (hf : s.fits l) :
    Calls Try.prog 26 #[.pointer (some ⟨g, 0, none⟩), .int .i64 x, .int .i64 y] w fun e w' => e = .returned (.tuple #[]) ∧ IsCur w' g A c l (s.fail x y) tr ∧ w.grownBy w' (some g) := by
  have H := Lib.hid h
  clear h
  obtain ⟨s', hs'⟩ : ∃ s', s' = s.fail x y := ⟨_, rfl⟩
  rw [← hs']
  have HS := Lib.hid hs'
  clear hs'
  go_enter Try.func26, Try.ntmps26
  go_wp2_with fail
  refine (ok_any w g A c l s tr H.out hf).mono ?_
  rintro e w1 ⟨rfl, hb⟩
  have H1 := Lib.hid (H.out.below hb)
  have HG := Lib.hid (grown_below (row := some g) hb)
  clear hb H
  by_cases h0 : s.code = 0
  · have e1 : s.ok = true := by unfold CS.ok; rw [h0]; rfl
    rw [e1]
    by_cases hx : x = 0
    · have e2 : s.fail x y = s := by unfold CS.fail; rw [if_pos h0, if_pos hx]
      have HE := Lib.hid (HS.out.trans e2)
      clear HS e2
      subst hx
      go_wp2
      (first | go_end0 | ((try simp only [Exit.inBlock, Exit.then]); refine bodyPost_ret (results_none rfl _ _ _) rfl ?_))
      exact ⟨rfl, HE.out ▸ H1.out, HG.out⟩
    · have e2 : s.fail x y = ⟨s.n, x, y⟩ := by unfold CS.fail; rw [if_pos h0, if_neg hx]
      have HE := Lib.hid (HS.out.trans e2)
      clear HS
      have e3 : (x != 0) = true := bne_iff_ne.mpr hx
      have P1 := Lib.hid (H1.out.put_fault x y)
      have P2 := Lib.hid ((HG.out.trans (grown_set w1 g 2 (.int .i64 x))).trans (grown_set _ g 3 (.int .i64 y)))
      obtain ⟨c0, c1, c2, c3, c4⟩ := H1.out.cells
      have f2 := H1.out.free 2
      have f3 := H1.out.free 3
      clear hx e2
      go_wp2
      (first | go_end0 | ((try simp only [Exit.inBlock, Exit.then]); refine bodyPost_ret (results_none rfl _ _ _) rfl ?_))
      exact ⟨rfl, HE.out ▸ P1.out, P2.out⟩
  · have e1 : s.ok = false := by unfold CS.ok; exact beq_eq_false_iff_ne.mpr h0
    have e2 : s.fail x y = s := by unfold CS.fail; rw [if_neg h0]
    rw [e1]
    have HE := Lib.hid (HS.out.trans e2)
    clear h0 e1 e2 HS
    go_wp2
    (first | go_end0 | ((try simp only [Exit.inBlock, Exit.then]); refine bodyPost_ret (results_none rfl _ _ _) rfl ?_))
    exact ⟨rfl, HE.out ▸ H1.out, HG.out⟩

theorem grown_drew {w w' : World} {row : Option Nat} (h : w.grownBy w' row) : w.grownBy w'.drew row := ⟨h.os, h.tape, h.output, h.size, h.block⟩

theorem OwnB.lower {w : World} {base base' : Nat} {v : Value} {n : Nat} {l : List Int} (h : OwnB w base v n l) (hb : base' ≤ base) : OwnB w base' v n l := by
  refine ⟨h.1, h.2.1, h.2.2.1, ?_⟩
  rcases h.2.2.2 with hn | ⟨g, cap, cur, e, hb', r⟩
  · exact .inl hn
  · exact .inr ⟨g, cap, cur, e, Nat.le_trans hb hb', r⟩

theorem OwnB.len {w : World} {base : Nat} {v : Value} {n : Nat} {l : List Int} (h : OwnB w base v n l) : OwnB w base v l.length l := by
  obtain rfl := h.1
  exact h

/-- Take, in plain words. -/
def CS.take (s : CS) (l : List Int) (n : Int) : List Int × CS :=
  if s.code = 0 then (if n < 0 then ([], s.fail 1 s.n) else if (l.length : Int) - s.n < n then ([], s.fail 13 l.length) else ((l.drop s.n).take n.toNat, ⟨s.n + n.toNat, s.code, s.fat⟩)) else ([], s)

theorem own_nil (w : World) (base : Nat) : OwnB w base (.slice none 0 0) 0 [] := ⟨rfl, (by intro z hz; cases hz), World.ownsRow_nil _ _ _ _⟩

/-- What a call that takes bytes tells, and leaves. -/
def Took (w : World) (g : Nat) (A : Option Addr) (c : Nat) (l : List Int) (tr : Bool) (x : List Int) (s : CS) (e : Ending) (w' : World) : Prop :=
  ∃ v, e = .returned v ∧ OwnB w' w.heap.size v x.length x ∧ IsCur w' g A c l s tr ∧ w.grownBy w' (some g)

set_option maxHeartbeats 1000000 in
theorem take_any (w : World) (g : Nat) (A : Option Addr) (c : Nat) (l : List Int) (s : CS) (tr : Bool) (n : Int) (h : IsCur w g A c l s tr) (hf : s.fits l) :
    Calls Try.prog 20 #[.pointer (some ⟨g, 0, none⟩), .int .i64 n] w (Took w g A c l tr (s.take l n).1 (s.take l n).2) := by
  have H := Lib.hid h
  have HF := Lib.hid hf
  clear h hf
  obtain ⟨p, hp⟩ : ∃ p, p = s.take l n := ⟨_, rfl⟩
  rw [← hp]
  have HP := Lib.hid hp
  clear hp
  go_enter Try.func20, Try.ntmps20
  go_wp2_with fail
  refine (ok_any w g A c l s tr H.out HF.out).mono ?_
  rintro e w1 ⟨rfl, hb⟩
  have H1 := Lib.hid (H.out.below hb)
  have HG := Lib.hid (grown_below (row := some g) hb)
  clear hb H
  by_cases h0 : s.code = 0
  · have e1 : s.ok = true := by unfold CS.ok; rw [h0]; rfl
    rw [e1]
    by_cases hn : n < 0
    · have e2 : s.take l n = ([], s.fail 1 s.n) := by unfold CS.take; rw [if_pos h0, if_pos hn]
      have HE := Lib.hid (HP.out.trans e2)
      obtain ⟨c0, c1, c2, c3, c4⟩ := H1.out.cells
      clear e1 e2 h0 HP
      go_wp2_with fail
      refine (fail_any w1 g A c l s tr 1 s.n H1.out HF.out).mono ?_
      rintro e w2 ⟨rfl, h2, hg2⟩
      have H2 := Lib.hid h2
      have HG2 := Lib.hid (HG.out.trans hg2)
      clear h2 hg2
      go_wp2
      go_ret
      exact HE.out ▸ ⟨_, rfl, own_nil _ _, H2.out, HG2.out⟩
    · obtain ⟨m, rfl⟩ := Int.eq_ofNat_of_zero_le (show 0 ≤ n by omega)
      have hn0 : ¬ (m : Int) < 0 := by omega
      go_wp2_with fail
      refine (left_any w1 g A c l s tr H1.out HF.out).mono ?_
      rintro e w2 ⟨rfl, hb⟩
      have H2 := Lib.hid (H1.out.below hb)
      have HG2 := Lib.hid (HG.out.trans (grown_below (row := some g) hb))
      clear hb H1 HG
      obtain ⟨c0, c1, c2, c3, c4⟩ := H2.out.cells
      have f1 := H2.out.free 1
      have k1 := HF.out.1
      have k2 := HF.out.2.1
      by_cases hm : (l.length : Int) - s.n < (m : Int)
      · have e2 : s.take l (m : Int) = ([], s.fail 13 l.length) := by unfold CS.take; rw [if_pos h0, if_neg (by omega), if_pos hm]
        have HE := Lib.hid (HP.out.trans e2)
        clear e1 e2 h0 HP
        go_wp2_with fail
        refine (fail_any w2 g A c l s tr 13 l.length H2.out HF.out).mono ?_
        rintro e w3 ⟨rfl, h3, hg3⟩
        have H3 := Lib.hid h3
        have HG3 := Lib.hid (HG2.out.trans hg3)
        clear h3 hg3
        go_wp2
        go_ret
        exact HE.out ▸ ⟨_, rfl, own_nil _ _, H3.out, HG3.out⟩
      · have e2 : s.take l (m : Int) = ((l.drop s.n).take m, ⟨s.n + m, s.code, s.fat⟩) := by unfold CS.take; rw [if_pos h0, if_neg (by omega), if_neg hm, Int.toNat_natCast]
        have HE := Lib.hid (HP.out.trans e2)
        clear e1 e2 h0 HP
        have hsm : s.n + m ≤ l.length := by omega
        have P1 : IsCur (w2.setCell ⟨g, 1, none⟩ (.int .i64 ((s.n : Int) + (m : Int)))) g A c l ⟨s.n + m, s.code, s.fat⟩ tr := by have := H2.out.put_n (s.n + m); rwa [Int.natCast_add] at this
        have P2 := Lib.hid (show w.grownBy (w2.setCell ⟨g, 1, none⟩ (.int .i64 ((s.n : Int) + (m : Int)))).drew (some g) from grown_drew (HG2.out.trans (grown_set w2 g 1 (.int .i64 ((s.n : Int) + (m : Int))))))
        obtain ⟨a', hrun, hsl, hn'⟩ := cut_run' P1.2.1 s.n m hsm P1.2.2.2.1 P1.2.2.2.2
        obtain ⟨d0, d1, d2, d3, d4⟩ := P1.cells
        simp only [Int.natCast_add] at d1
        have hm3 : m ≤ 1000 := by omega
        have hw : IntKind.i64.wrap (s.n : Int) = (s.n : Int) := by rw [IntKind.wrap_i64]; omega
        have HSL := Lib.hid (show Sl (w2.setCell ⟨g, 1, none⟩ (.int .i64 ((s.n : Int) + (m : Int)))).drew a' m _ from hsl)
        have HP1 := Lib.hid (show IsCur (w2.setCell ⟨g, 1, none⟩ (.int .i64 ((s.n : Int) + (m : Int)))).drew g A c l ⟨s.n + m, s.code, s.fat⟩ tr from P1)
        clear hsl P1
        go_wp2_with fail
        go_region_law (go_simp; go_at_call 28; refine (clone_any a' m (c - s.n) _ _ HSL.out hn'.nil hm3).mono ?_; rintro e w4 ⟨v, rfl, hown, hb⟩; have H4 := Lib.hid (HP1.out.below hb); have HG4 := Lib.hid (P2.out.trans (grown_below (row := some g) hb)); have HO := Lib.hid hown; clear hown hb)
        all_goals (
          go_wp2
          go_ret
          exact HE.out ▸ ⟨v, rfl, (HO.out.lower P2.out.size).len, H4.out, HG4.out⟩)
  · have e1 : s.ok = false := by unfold CS.ok; exact beq_eq_false_iff_ne.mpr h0
    have e2 : s.take l n = ([], s) := by unfold CS.take; rw [if_neg h0]
    rw [e1]
    have HE := Lib.hid (HP.out.trans e2)
    clear h0 e1 e2 HP
    go_wp2
    go_ret
    exact HE.out ▸ ⟨_, rfl, own_nil _ _, H1.out, HG.out⟩
end Go.Proofs.Ytiikppiogglppaa
