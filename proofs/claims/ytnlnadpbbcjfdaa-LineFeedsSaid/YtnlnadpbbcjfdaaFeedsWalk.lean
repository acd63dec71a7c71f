/-
  The walk of LineFeeds.
-/
import Derived.Test.YtnlnadpbbcjfdaaRefWalk
namespace Go.Proofs.Ytnlnadpbbcjfdaa
open Go.RowKit

section
variable {P : Program} {md : Region.Mode} {ops : Array Oper} {Q : Exit → Act → World → Prop} {S : World → Prop} {z : Nat}
/-- Some operations may come up, each of which is wanted. -/
theorem z_pick {fuel : Nat} {listed : Array Bool} {a : Act} {w : World} (l : List Nat) (hr : Region.ready md ops listed = l) (hne : l ≠ [])
    (h : ∀ i ∈ l, ∃ oi, ops[i]? = some oi ∧ Region.wanted oi (yielded ops a.tmps) = true ∧ oi.wp P a w (fun a' w' => (i = z ∨ S w') ∧ wpAnyZ P md ops Q S z fuel (listed.setIfInBounds i true) a' w') Q) : wpAnyZ P md ops Q S z (fuel + 1) listed a w := by
  subst hr
  refine ⟨fun h0 => absurd h0 hne, fun j hj => ?_⟩
  obtain ⟨oi, ho, hw, hh⟩ := h j hj
  unfold wpOp
  rw [ho]
  dsimp only
  rw [if_pos hw]
  exact .inl hh

theorem z_oneg {i : Nat} {oi : Oper} {fuel : Nat} {listed : Array Bool} {a : Act} {w : World} (hr : Region.ready md ops listed = [i]) (hi : ops[i]? = some oi) (hg : Region.wanted oi (yielded ops a.tmps) = true)
    (h : oi.wp P a w (fun a' w' => (i = z ∨ S w') ∧ wpAnyZ P md ops Q S z fuel (listed.setIfInBounds i true) a' w') Q) : wpAnyZ P md ops Q S z (fuel + 1) listed a w :=
  z_pick [i] hr (by simp) fun j hj => by
    obtain rfl := List.mem_singleton.1 hj
    exact ⟨oi, hi, hg, h⟩
end

theorem elem43 : Try.prog.elem 43 = 51 := by kernel_rfl
theorem size51 (w : World) : (sizeOf 51).run Try.prog w = .ok 4 w := by kernel_rfl

/-- The reference's lines from p on. -/
theorem cut_refs (a : Option Addr) (len cap p : Nat) (hp : p ≤ len) (hcap : len ≤ cap) :
    ∃ a', (∀ w' : World, (Instr.slice 43 (.slice a len cap) (some (.int .i64 p)) none none).run Try.prog w' = .ok (.slice a' (len - p) (cap - p)) w') ∧ ∀ (w : World) (ls : List LV), LnAt w a ls → ls.length = len → LnAt w a' (ls.drop p) := by
  refine ⟨(if cap = p then a else Option.map (fun x : Addr => x.add (p * 4)) a), fun w' => ?_, fun w ls h hl => ?_⟩
  · rw [run_slice_l (P := Try.prog) w' 43 a len cap (by rw [elem43]; exact Try.underlying43) .i64 (p : Int) (by omega) (by omega)]
    rw [elem43, size51]
    simp only [Result.andThen, sliced, Int.toNat_natCast]
  · by_cases hc : cap = p
    · exact .inl (List.drop_eq_nil_of_le (by omega))
    · rw [if_neg hc]
      exact h.drop p

/-- Between two chunks. -/
structure FeedsAt (w : World) (ps : List Pt) (vp : Value) (g m : Nat) (W : World) (L : List Int) (O : Option Addr) (co : Nat) : Prop where
  fr : IsFr W g m L.length (fin 0 [] L).1 (fin 0 [] L).2 false O co
  row : OwnP W w.heap.size vp ps
  bO : ∀ ad, O = some ad → ad.block < W.heap.size
  below : Below w.heap.size w W
  ge : w.heap.size ≤ g

theorem FeedsAt.on {w : World} {ps : List Pt} {vp : Value} {g m : Nat} {W Y : World} {L : List Int} {O : Option Addr} {co : Nat} (h : FeedsAt w ps vp g m W L O co) (hb : Below W.heap.size W Y) : FeedsAt w ps vp g m Y L O co :=
  ⟨h.fr.below hb, h.row.below hb, fun ad e => Nat.lt_of_lt_of_le (h.bO ad e) hb.size, h.below.trans (hb.mono h.below.size), h.ge⟩

/-- A chunk is fed. -/
theorem FeedsAt.fed {w : World} {ps : List Pt} {vp : Value} {g m : Nat} {W Y : World} {L t : List Int} {v2 : Value} {O O2 : Option Addr} {co co2 : Nat} (h : FeedsAt w ps vp g m W L O co)
    (hf : IsFr Y g m ((fin (fin 0 [] L).1 (fin 0 [] L).2 t).1 + (fin (fin 0 [] L).1 (fin 0 [] L).2 t).2.length) (fin (fin 0 [] L).1 (fin 0 [] L).2 t).1 (fin (fin 0 [] L).1 (fin 0 [] L).2 t).2 false O2 co2)
    (hO : ∀ ad, O2 = some ad → v2.ownBlock ≠ some ad.block ∧ (O2 = O ∨ W.heap.size ≤ ad.block) ∧ ad.block < Y.heap.size) (hg : W.grownBy Y (some g)) : FeedsAt w ps vp g m Y (L ++ t) O2 co2 := by
  have hnp : vp.ownBlock ≠ some g := ownsRow_ne h.row h.fr.row (by decide)
  rw [← fin_append] at hf
  have hs := fin_size (L ++ t) 0 []
  rw [hs] at hf
  simp only [List.length_nil, Nat.zero_add] at hf
  exact ⟨hf, World.ownsRow.kept h.row hg (.inr hnp), fun ad e => (hO ad e).2.2, h.below.grown hg h.below.size (fun k e => by cases e; exact h.ge), h.ge⟩

theorem lnAt31 (W : World) (x : LV) : LnAt (W.alloc (.cells (lvv x) 31)) (some ⟨W.heap.size, 0, none⟩) [x] := by
  obtain ⟨O, c, e, _, h, _⟩ := ownsRow_at (ls := [x]) (ownL_one W x)
  rw [(Value.slice.inj e).1]
  exact h
theorem lnAt51 (W : World) (x : LV) : LnAt (W.alloc (.cells (lvv x) 51)) (some ⟨W.heap.size, 0, none⟩) [x] := by
  obtain ⟨O, c, e, _, h, _⟩ := ownsRow_at (ls := [x]) (ownR_one W x)
  rw [(Value.slice.inj e).1]
  exact h

theorem flat_prefix (ps : List Pt) (k : Nat) : flat (ps.take k) = (flat ps).take (flat (ps.take k)).length := by
  have e : flat ps = flat (ps.take k) ++ flat (ps.drop k) := by unfold flat; rw [← List.flatMap_append, List.take_append_drop]
  rw [e, List.take_left]

set_option maxRecDepth 100000 in
set_option maxHeartbeats 4000000 in
theorem lineFeeds_out (A : Option Addr) (n c : Nat) (A2 : Option Addr) (n2 c2 : Nat) (x : Int) (w : World) (h : 600 < n ∨ 100 < n2) :
    Calls Try.prog 6 #[.slice A n c, .slice A2 n2 c2, .int .i64 x] w fun e w' => e = .returned (.bool true) ∧ Below w.heap.size w w' := by
  by_cases h1 : (600 : Int) < (n : Int)
  · clear h
    go_enter Try.func6, Try.ntmps6
    go_wp2_with fail
    refine (awake_any _).mono ?_
    rintro e w1 ⟨rfl, b1⟩
    go_wp2_with fail
    go_ret
    exact ⟨rfl, b1⟩
  · have h2 : (100 : Int) < (n2 : Int) := by omega
    clear h
    go_enter Try.func6, Try.ntmps6
    go_wp2_with fail
    refine (awake_any _).mono ?_
    rintro e w1 ⟨rfl, b1⟩
    go_wp2_with fail
    go_ret
    exact ⟨rfl, b1⟩

set_option maxRecDepth 100000 in
set_option maxHeartbeats 4000000 in
theorem lineFeeds_bad (A : Option Addr) (n c : Nat) (A2 : Option Addr) (n2 c2 : Nat) (x : Int) (w : World) (hn : n ≤ 600) (hn2 : n2 ≤ 100) (h : x < 1 ∨ 8192 < x) :
    Calls Try.prog 6 #[.slice A n c, .slice A2 n2 c2, .int .i64 x] w fun e w' => e = .returned (.bool true) ∧ Below w.heap.size w w' := by
  have hni : ¬ (600 : Int) < (n : Int) := by omega
  have hni2 : ¬ (100 : Int) < (n2 : Int) := by omega
  have HX := Lib.hid h
  clear h
  go_enter Try.func6, Try.ntmps6
  go_wp2_with fail
  refine (new_wrong x w HX.out).mono ?_
  rintro e w1 ⟨rfl, rfl⟩
  by_cases h1 : x < 1
  · clear HX
    go_wp2_with fail
    refine (awake_any _).mono ?_
    rintro e w2 ⟨rfl, b2⟩
    go_wp2_with fail
    go_ret
    exact ⟨rfl, b2⟩
  · have h2 : 8192 < x := HX.out.resolve_left h1
    clear HX
    go_wp2_with fail
    refine (awake_any _).mono ?_
    rintro e w2 ⟨rfl, b2⟩
    go_wp2_with fail
    go_ret
    exact ⟨rfl, b2⟩

set_option maxRecDepth 100000 in
set_option maxHeartbeats 2000000 in
theorem lineFeeds_in (A : Option Addr) (n c : Nat) (l : List Int) (A2 : Option Addr) (c2 : Nat) (ks : List Int) (m : Nat) (w : World) (hs : Sl w A n l) (ht : Tidy A c) (hc : n ≤ c) (hA : ∀ ad, A = some ad → ad.block < w.heap.size) (hk : Nums w A2 ks.length ks)
    (hn : n ≤ 600) (hn2 : ks.length ≤ 100) (h1 : 1 ≤ m) (h2 : m ≤ 8192) :
    Calls Try.prog 6 #[.slice A n c, .slice A2 ks.length c2, .int .i64 (m : Int)] w fun e w' => e = .returned (.bool true) ∧ Below w.heap.size w w' := by
  have hni : ¬ (600 : Int) < (n : Int) := by omega
  have hni2 : ¬ (100 : Int) < (ks.length : Int) := by omega
  have hm1 : ¬ (m : Int) < 1 := by omega
  have hm2 : ¬ (8192 : Int) < (m : Int) := by omega
  have HS := Lib.hid hs
  have HK := Lib.hid hk
  have HA := Lib.hid hA
  clear hs hk hA
  go_enter Try.func6, Try.ntmps6
  go_wp2_with fail
  refine (new_any m w h1 h2).mono ?_
  rintro e w1 ⟨rfl, f1, b1⟩
  have hz1 := f1.lt
  have HF1 := Lib.hid f1
  have HB1 := Lib.hid b1
  have HCU := Lib.hid (cuts_any A n c l A2 c2 ks w1 (HS.out.below b1) ht hc (by omega) (HK.out.below b1) (by omega))
  clear f1 b1 HK
  go_wp2_with fail
  refine HCU.out.mono ?_
  rintro e w2 ⟨vp, ps, rfl, own, hfl, hpp, hp1, hp2, b2⟩
  obtain ⟨q, cap, rfl, hcap, _⟩ := own.cell hp1
  have hz2 := b2.size
  have HI0 : Hid (FeedsAt w ps (.slice (some ⟨q, 0, none⟩) ps.length cap) w.heap.size m w2 (l.take 0) none 0) := Lib.hid
    { fr := HF1.out.below b2
      row := ⟨own.1, own.2.imp id (fun ⟨k, cp, cs, e, hb, r⟩ => ⟨k, cp, cs, e, by omega, r⟩)⟩
      bO := fun ad e => by cases e
      below := HB1.out.trans (b2.mono HB1.out.size)
      ge := Nat.le_refl _ }
  have HPP := Lib.hid hpp
  have HFL := Lib.hid hfl
  clear own hfl hpp b2 HF1 HB1 HCU
  go_wp2_with fail
  go_loopw [10, 11, 12] (fun va vd vi wr => ∃ (k at_ : Nat) (O : Option Addr) (co : Nat), va = .int .i64 at_ ∧ vd = .int .i64 ((lin m 0 [] (l.take at_)).length : Nat) ∧ vi = .int .i64 k ∧ k ≤ ps.length ∧ at_ ≤ n ∧ Hid (flat (ps.take k) = l.take at_) ∧ Hid (FeedsAt w ps (.slice (some ⟨q, 0, none⟩) ps.length cap) w.heap.size m wr (l.take at_) O co)) (fun _ _ vi _ => ps.length - (intOf vi).toNat)
  case atStart => exact ⟨0, 0, none, 0, rfl, rfl, rfl, Nat.zero_le _, Nat.zero_le _, Lib.hid rfl, HI0⟩
  case round =>
    obtain ⟨k, at_, O, co, rfl, rfl, rfl, hk, hat, HT, HI⟩ := hrel
    clear HI0
    by_cases hkn : k < ps.length
    · have hki : (k : Int) < (ps.length : Int) := by omega
      obtain ⟨p, hp⟩ : ∃ p, ps[k]? = some p := ⟨_, List.getElem?_eq_getElem hkn⟩
      obtain ⟨q', cap', e', _, hcell⟩ := HI.out.row.cell hp1
      cases e'
      have hc1 := hcell k p hp
      unfold Pt.v at hc1
      have hP := HPP.out p (List.mem_of_getElem? hp)
      have hln := HS.out.1
      have hsl := HS.out.below HI.out.below
      have hspt := hP.sl _ hsl
      have hfp := flat_take hp
      have hpx := flat_prefix ps (k + 1)
      rw [← hfp, HT.out, HFL.out, List.length_append, List.length_take, Nat.min_eq_left (by omega : at_ ≤ l.length), hspt.1] at hpx
      have hle : at_ + p.k ≤ n := by
        have := congrArg List.length hpx
        rw [List.length_append, List.length_take, List.length_take, hspt.1] at this
        omega
      have HT2 : Hid (flat (ps.take (k + 1)) = l.take (at_ + p.k)) := Lib.hid (by rw [← hpx, ← hfp, HT.out])
      have hfr := HI.out.fr
      rw [show (l.take at_).length = (fin 0 [] (l.take at_)).1 + (fin 0 [] (l.take at_)).2.length from by have := fin_size (l.take at_) 0 []; simp only [List.length_nil] at this; omega] at hfr
      have hfs := fin_size (l.take at_) 0 []
      have hfeed := feed_any wr w.heap.size m (fin 0 [] (l.take at_)).1 (fin 0 [] (l.take at_)).2 O co p.B p.k p.kc p.t hfr hspt hP.tidy hP.le
        (fun ad e => by obtain ⟨a0, e0, hb⟩ := hP.blk ad e; have := HA.out a0 e0; omega) (fun ad e => by obtain ⟨a0, e0, hb⟩ := hP.blk ad e; have := HA.out a0 e0; have := HI.out.below.size; omega) HI.out.bO (by rw [List.length_take] at hfs; simp at hfs; omega)
      have HFE := Lib.hid hfeed
      have HPX := Lib.hid hpx
      have hwa : IntKind.i64.wrap ((at_ : Int) + (p.k : Int)) = ((at_ + p.k : Nat) : Int) := by rw [IntKind.wrap_i64]; omega
      obtain ⟨a', hrun, hsa, hta⟩ := cut_to HS.out (at_ + p.k) hle hc ht
      have HSA := Lib.hid hsa
      clear hcell hP hfp hfs hspt hfeed hp hpx hfr hln hsl hsa
      generalize hat2 : at_ + p.k = at2 at hwa HPX HT2 hle hrun HSA
      have HAT2 := Lib.hid hat2
      clear hat2
      go_wp2_with fail
      refine HFE.out.mono ?_
      rintro e w3 ⟨v2, O2, co2, rfl, own2, f3, far3, g3⟩
      have M := HI.out.fed f3 far3 g3
      rw [HPX.out] at M
      have hz3 := g3.size
      have HM := Lib.hid M
      have HO2 := Lib.hid own2
      have hla := lin_append m (l.take at_) p.t 0 []
      rw [HPX.out] at hla
      have HLA := Lib.hid hla
      have HLI := Lib.hid (lines_any a' at2 c (l.take at2) m w3 (HSA.out.below M.below) (by omega) (by omega))
      clear f3 far3 g3 HFE HI own2 M hla
      go_wp2_with fail
      refine HLI.out.mono ?_
      rintro e w4 ⟨v4, rfl, own4, b4⟩
      have M4 := HM.out.on b4
      obtain ⟨O4, c4, rfl, hc4, LN4, _⟩ := ownsRow_at own4
      obtain ⟨O2v, c2v, rfl, _, LN2, _⟩ := ownsRow_at (HO2.out.below b4)
      have hfr4 := M4.fr
      have hlt : (l.take at2).length = at2 := by rw [List.length_take, HS.out.1]; omega
      rw [hlt] at hfr4
      have hD := congrArg List.length HLA.out
      rw [List.length_append] at hD
      have hla := lin_length m (l.take at2) 0 []
      rw [hlt] at hla
      obtain ⟨a5, hrun5, hln5⟩ := cut_refs O4 _ c4 (lin m 0 [] (l.take at_)).length (by omega) hc4
      have LN5 := hln5 w4 _ LN4 rfl
      rw [HLA.out, List.drop_left] at LN5
      have hD2 : (lin m 0 [] (l.take at2)).length - (lin m 0 [] (l.take at_)).length = (lin m (fin 0 [] (l.take at_)).1 (fin 0 [] (l.take at_)).2 p.t).length := by omega
      rw [hD2] at hrun5
      have HSM := Lib.hid (same_any O2v c2v a5 (c4 - (lin m 0 [] (l.take at_)).length) _ _ w4.drew rfl (LN2.below (below_drewN' (Below.refl _ _) 1)) (LN5.below (below_drewN' (Below.refl _ _) 1)) (by omega))
      have HM4 := Lib.hid M4
      have HFR4 := Lib.hid hfr4
      have HSA4 := Lib.hid (HSA.out.below M4.below)
      clear hln5 LN5 LN4 LN2 own4 b4 M4 hfr4 hlt hla HM HO2 HLI hD2 HLA HSA
      generalize (lin m (fin 0 [] (l.take at_)).1 (fin 0 [] (l.take at_)).2 p.t).length = D2 at hD hrun5 HSM ⊢
      generalize (lin m 0 [] (l.take at_)).length = D at hD hrun5 HSM ⊢
      generalize hN4 : (lin m 0 [] (l.take at2)).length = N4 at hD hrun5 hc4 ⊢
      have HN4 := Lib.hid hN4
      clear hN4
      have hDD : ¬ (N4 : Int) < (D : Int) := by omega
      have HD := Lib.hid hD
      clear hD
      go_wp2_with fail
      have hDD : ¬ (N4 : Int) < (D : Int) := by have := HD.out; omega
      refine region_plain (fun _ => True) 99 (by kernel_rfl) ?_
      have hS : True := trivial
      refine z_take (i := 0) (v := ?_) rfl (by kernel_rfl) (by kernel_rfl) (by kernel_rfl) (by kernel_rfl) (fun _ _ _ h => h) (Or.inl ⟨by rfl, ?_⟩) hS ?_
      rotate_left
      · (rintro wS s0; (try simp only [List.getElem_toArray, List.getElem_cons_zero]); go_simp <;> with_reducible rfl)
      simp only [Act.put, List.getElem_toArray, List.getElem_cons_zero, List.setIfInBounds_toArray, List.set_cons_zero, List.set_cons_succ]
      refine z_take (i := 1) (v := ?_) rfl (by kernel_rfl) (by kernel_rfl) (by kernel_rfl) (by kernel_rfl) (fun _ _ _ h => h) (Or.inl ⟨by rfl, ?_⟩) hS ?_
      rotate_left
      · (rintro wS s0; (try simp only [List.getElem_toArray, List.getElem_cons_zero, List.getElem_cons_succ]); go_simp <;> with_reducible rfl)
      simp only [Act.put, List.getElem_toArray, List.getElem_cons_zero, List.getElem_cons_succ, List.setIfInBounds_toArray, List.set_cons_zero, List.set_cons_succ]
      refine z_take (i := 2) (v := ?_) rfl (by kernel_rfl) (by kernel_rfl) (by kernel_rfl) (by kernel_rfl) (fun _ _ _ h => h) (Or.inl ⟨by rfl, ?_⟩) hS ?_
      rotate_left
      · (rintro wS s0; (try simp only [List.getElem_toArray, List.getElem_cons_zero, List.getElem_cons_succ]); go_simp <;> with_reducible rfl)
      simp only [Act.put, List.getElem_toArray, List.getElem_cons_zero, List.getElem_cons_succ, List.setIfInBounds_toArray, List.set_cons_zero, List.set_cons_succ]
      refine z_take (i := 3) (v := ?_) rfl (by kernel_rfl) (by kernel_rfl) (by kernel_rfl) (by kernel_rfl) (fun _ _ _ h => h) (Or.inl ⟨by rfl, ?_⟩) hS ?_
      rotate_left
      · (rintro wS s0; (try simp only [List.getElem_toArray, List.getElem_cons_zero, List.getElem_cons_succ]); go_simp <;> with_reducible rfl)
      simp only [Act.put, List.getElem_toArray, List.getElem_cons_zero, List.getElem_cons_succ, List.setIfInBounds_toArray, List.set_cons_zero, List.set_cons_succ]
      refine z_take (i := 4) (v := ?_) rfl (by kernel_rfl) (by kernel_rfl) (by kernel_rfl) (by kernel_rfl) (fun _ _ _ h => h) (Or.inl ⟨by rfl, ?_⟩) hS ?_
      rotate_left
      · (rintro wS s0; (try simp only [List.getElem_toArray, List.getElem_cons_zero, List.getElem_cons_succ]); go_simp <;> with_reducible rfl)
      simp only [Act.put, List.getElem_toArray, List.getElem_cons_zero, List.getElem_cons_succ, List.setIfInBounds_toArray, List.set_cons_zero, List.set_cons_succ]
      refine z_take (i := 5) (v := ?_) rfl (by kernel_rfl) (by kernel_rfl) (by kernel_rfl) (by kernel_rfl) (fun _ _ _ h => h) (Or.inl ⟨by rfl, ?_⟩) hS ?_
      rotate_left
      · (rintro wS s0; (try simp only [List.getElem_toArray, List.getElem_cons_zero, List.getElem_cons_succ]); go_simp <;> with_reducible rfl)
      simp only [Act.put, List.getElem_toArray, List.getElem_cons_zero, List.getElem_cons_succ, List.setIfInBounds_toArray, List.set_cons_zero, List.set_cons_succ]
      refine z_take (i := 6) (v := ?_) rfl (by kernel_rfl) (by kernel_rfl) (by kernel_rfl) (by kernel_rfl) (fun _ _ _ h => h) (Or.inl ⟨by rfl, ?_⟩) hS ?_
      rotate_left
      · (rintro wS s0; (try simp only [List.getElem_toArray, List.getElem_cons_zero, List.getElem_cons_succ]); go_simp <;> with_reducible rfl)
      simp only [Act.put, List.getElem_toArray, List.getElem_cons_zero, List.getElem_cons_succ, List.setIfInBounds_toArray, List.set_cons_zero, List.set_cons_succ]
      refine z_take (i := 7) (v := ?_) rfl (by kernel_rfl) (by kernel_rfl) (by kernel_rfl) (by kernel_rfl) (fun _ _ _ h => h) (Or.inl ⟨by rfl, ?_⟩) hS ?_
      rotate_left
      · (rintro wS s0; (try simp only [List.getElem_toArray, List.getElem_cons_zero, List.getElem_cons_succ]); go_simp <;> with_reducible rfl)
      simp only [Act.put, List.getElem_toArray, List.getElem_cons_zero, List.getElem_cons_succ, List.setIfInBounds_toArray, List.set_cons_zero, List.set_cons_succ]
      refine z_take (i := 8) (v := ?_) rfl (by kernel_rfl) (by kernel_rfl) (by kernel_rfl) (by kernel_rfl) (fun _ _ _ h => h) (Or.inl ⟨by rfl, ?_⟩) hS ?_
      rotate_left
      · (rintro wS s0; (try simp only [List.getElem_toArray, List.getElem_cons_zero, List.getElem_cons_succ]); go_simp <;> with_reducible rfl)
      simp only [Act.put, List.getElem_toArray, List.getElem_cons_zero, List.getElem_cons_succ, List.setIfInBounds_toArray, List.set_cons_zero, List.set_cons_succ]
      refine z_take (i := 9) (v := ?_) rfl (by kernel_rfl) (by kernel_rfl) (by kernel_rfl) (by kernel_rfl) (fun _ _ _ h => h) (Or.inl ⟨by rfl, ?_⟩) hS ?_
      rotate_left
      · (rintro wS s0; (try simp only [List.getElem_toArray, List.getElem_cons_zero, List.getElem_cons_succ]); go_simp <;> with_reducible rfl)
      simp only [Act.put, List.getElem_toArray, List.getElem_cons_zero, List.getElem_cons_succ, List.setIfInBounds_toArray, List.set_cons_zero, List.set_cons_succ]
      refine z_take (i := 10) (v := ?_) rfl (by kernel_rfl) (by kernel_rfl) (by kernel_rfl) (by kernel_rfl) (fun _ _ _ h => h) (Or.inl ⟨by rfl, ?_⟩) hS ?_
      rotate_left
      · (rintro wS s0; (try simp only [List.getElem_toArray, List.getElem_cons_zero, List.getElem_cons_succ]); go_simp <;> with_reducible rfl)
      simp only [Act.put, List.getElem_toArray, List.getElem_cons_zero, List.getElem_cons_succ, List.setIfInBounds_toArray, List.set_cons_zero, List.set_cons_succ]
      refine z_take (i := 11) (v := ?_) rfl (by kernel_rfl) (by kernel_rfl) (by kernel_rfl) (by kernel_rfl) (fun _ _ _ h => h) (Or.inl ⟨by rfl, ?_⟩) hS ?_
      rotate_left
      · (rintro wS s0; (try simp only [List.getElem_toArray, List.getElem_cons_zero, List.getElem_cons_succ]); go_simp <;> with_reducible rfl)
      simp only [Act.put, List.getElem_toArray, List.getElem_cons_zero, List.getElem_cons_succ, List.setIfInBounds_toArray, List.set_cons_zero, List.set_cons_succ]
      refine z_take (i := 12) (v := ?_) rfl (by kernel_rfl) (by kernel_rfl) (by kernel_rfl) (by kernel_rfl) (fun _ _ _ h => h) (Or.inl ⟨by rfl, ?_⟩) hS ?_
      rotate_left
      · (rintro wS s0; (try simp only [List.getElem_toArray, List.getElem_cons_zero, List.getElem_cons_succ]); go_simp <;> with_reducible rfl)
      simp only [Act.put, List.getElem_toArray, List.getElem_cons_zero, List.getElem_cons_succ, List.setIfInBounds_toArray, List.set_cons_zero, List.set_cons_succ]
      refine z_oneg (i := 13) (by kernel_rfl) rfl (by rfl) ?_
      go_simp
      refine HSM.out.mono ?_
      rintro r w5 ⟨rfl, j, e5⟩
      have b5 : Below w4.heap.size w4 w5 := by rw [e5]; exact below_drewN' (below_drewN' (Below.refl _ w4) 1) j
      have HM5 := Lib.hid (HM4.out.on b5)
      have HA5 := Lib.hid (at_any w5 w.heap.size m at2 _ _ false O2 co2 (HFR4.out.below b5))
      have HH5 := Lib.hid (held_any w5 w.heap.size m at2 _ _ false O2 co2 (HFR4.out.below b5))
      have HR5 := Lib.hid (refheld_any a' at2 c (l.take at2) m w5 (HSA4.out.below b5) (by omega))
      clear e5 b5 HSM HM4 HFR4 HSA4
      generalize (opn m (fin 0 [] (l.take at2)).2).length = N5 at HH5 HR5
      try refine ⟨trivial, ?_⟩
      refine z_take (i := 14) (v := ?_) rfl (by kernel_rfl) (by kernel_rfl) (by kernel_rfl) (by kernel_rfl) (fun _ _ _ h => h) (Or.inl ⟨by rfl, ?_⟩) hS ?_
      rotate_left
      · (rintro wS s0; (try simp only [List.getElem_toArray, List.getElem_cons_zero, List.getElem_cons_succ]); go_simp <;> with_reducible rfl)
      simp only [Act.put, List.getElem_toArray, List.getElem_cons_zero, List.getElem_cons_succ, List.setIfInBounds_toArray, List.set_cons_zero, List.set_cons_succ]
      refine z_take (i := 15) (v := ?_) rfl (by kernel_rfl) (by kernel_rfl) (by kernel_rfl) (by kernel_rfl) (fun _ _ _ h => h) (Or.inl ⟨by rfl, ?_⟩) hS ?_
      rotate_left
      · (rintro wS s0; (try simp only [List.getElem_toArray, List.getElem_cons_zero, List.getElem_cons_succ]); go_simp <;> with_reducible rfl)
      simp only [Act.put, List.getElem_toArray, List.getElem_cons_zero, List.getElem_cons_succ, List.setIfInBounds_toArray, List.set_cons_zero, List.set_cons_succ]
      refine z_take (i := 16) (v := ?_) rfl (by kernel_rfl) (by kernel_rfl) (by kernel_rfl) (by kernel_rfl) (fun _ _ _ h => h) (Or.inl ⟨by rfl, ?_⟩) hS ?_
      rotate_left
      · (rintro wS s0; (try simp only [List.getElem_toArray, List.getElem_cons_zero, List.getElem_cons_succ]); go_simp <;> with_reducible rfl)
      simp only [Act.put, List.getElem_toArray, List.getElem_cons_zero, List.getElem_cons_succ, List.setIfInBounds_toArray, List.set_cons_zero, List.set_cons_succ]
      refine z_take (i := 17) (v := ?_) rfl (by kernel_rfl) (by kernel_rfl) (by kernel_rfl) (by kernel_rfl) (fun _ _ _ h => h) (Or.inl ⟨by rfl, ?_⟩) hS ?_
      rotate_left
      · (rintro wS s0; (try simp only [List.getElem_toArray, List.getElem_cons_zero, List.getElem_cons_succ]); go_simp <;> with_reducible rfl)
      simp only [Act.put, List.getElem_toArray, List.getElem_cons_zero, List.getElem_cons_succ, List.setIfInBounds_toArray, List.set_cons_zero, List.set_cons_succ]
      refine z_take (i := 19) (v := ?_) rfl (by kernel_rfl) (by kernel_rfl) (by kernel_rfl) (by kernel_rfl) (fun _ _ _ h => h) (Or.inl ⟨by rfl, ?_⟩) hS ?_
      rotate_left
      · (rintro wS s0; (try simp only [List.getElem_toArray, List.getElem_cons_zero, List.getElem_cons_succ]); go_simp <;> with_reducible rfl)
      simp only [Act.put, List.getElem_toArray, List.getElem_cons_zero, List.getElem_cons_succ, List.setIfInBounds_toArray, List.set_cons_zero, List.set_cons_succ]
      refine z_oneg (i := 18) (by kernel_rfl) rfl (by rfl) ?_
      go_simp
      refine HA5.out.mono ?_
      rintro r w6 ⟨rfl, rfl⟩
      try refine ⟨trivial, ?_⟩
      refine z_take (i := 20) (v := ?_) rfl (by kernel_rfl) (by kernel_rfl) (by kernel_rfl) (by kernel_rfl) (fun _ _ _ h => h) (Or.inl ⟨by rfl, ?_⟩) hS ?_
      rotate_left
      · (rintro wS s0; (try simp only [List.getElem_toArray, List.getElem_cons_zero, List.getElem_cons_succ]); go_simp <;> with_reducible rfl)
      simp only [Act.put, List.getElem_toArray, List.getElem_cons_zero, List.getElem_cons_succ, List.setIfInBounds_toArray, List.set_cons_zero, List.set_cons_succ]
      refine z_take (i := 21) (v := ?_) rfl (by kernel_rfl) (by kernel_rfl) (by kernel_rfl) (by kernel_rfl) (fun _ _ _ h => h) (Or.inl ⟨by rfl, ?_⟩) hS ?_
      rotate_left
      · (rintro wS s0; (try simp only [List.getElem_toArray, List.getElem_cons_zero, List.getElem_cons_succ]); go_simp <;> with_reducible rfl)
      simp only [Act.put, List.getElem_toArray, List.getElem_cons_zero, List.getElem_cons_succ, List.setIfInBounds_toArray, List.set_cons_zero, List.set_cons_succ]
      refine z_take (i := 22) (v := ?_) rfl (by kernel_rfl) (by kernel_rfl) (by kernel_rfl) (by kernel_rfl) (fun _ _ _ h => h) (Or.inl ⟨by rfl, ?_⟩) hS ?_
      rotate_left
      · (rintro wS s0; (try simp only [List.getElem_toArray, List.getElem_cons_zero, List.getElem_cons_succ]); go_simp <;> with_reducible rfl)
      simp only [Act.put, List.getElem_toArray, List.getElem_cons_zero, List.getElem_cons_succ, List.setIfInBounds_toArray, List.set_cons_zero, List.set_cons_succ]
      refine z_take (i := 23) (v := ?_) rfl (by kernel_rfl) (by kernel_rfl) (by kernel_rfl) (by kernel_rfl) (fun _ _ _ h => h) (Or.inl ⟨by rfl, ?_⟩) hS ?_
      rotate_left
      · (rintro wS s0; (try simp only [List.getElem_toArray, List.getElem_cons_zero, List.getElem_cons_succ]); go_simp <;> with_reducible rfl)
      simp only [Act.put, List.getElem_toArray, List.getElem_cons_zero, List.getElem_cons_succ, List.setIfInBounds_toArray, List.set_cons_zero, List.set_cons_succ]
      refine z_take (i := 25) (v := ?_) rfl (by kernel_rfl) (by kernel_rfl) (by kernel_rfl) (by kernel_rfl) (fun _ _ _ h => h) (Or.inl ⟨by rfl, ?_⟩) hS ?_
      rotate_left
      · (rintro wS s0; (try simp only [List.getElem_toArray, List.getElem_cons_zero, List.getElem_cons_succ]); go_simp <;> with_reducible rfl)
      simp only [Act.put, List.getElem_toArray, List.getElem_cons_zero, List.getElem_cons_succ, List.setIfInBounds_toArray, List.set_cons_zero, List.set_cons_succ]
      refine z_take (i := 26) (v := ?_) rfl (by kernel_rfl) (by kernel_rfl) (by kernel_rfl) (by kernel_rfl) (fun _ _ _ h => h) (Or.inl ⟨by rfl, ?_⟩) hS ?_
      rotate_left
      · (rintro wS s0; (try simp only [List.getElem_toArray, List.getElem_cons_zero, List.getElem_cons_succ]); go_simp <;> with_reducible rfl)
      simp only [Act.put, List.getElem_toArray, List.getElem_cons_zero, List.getElem_cons_succ, List.setIfInBounds_toArray, List.set_cons_zero, List.set_cons_succ]
      refine z_take (i := 27) (v := ?_) rfl (by kernel_rfl) (by kernel_rfl) (by kernel_rfl) (by kernel_rfl) (fun _ _ _ h => h) (Or.inl ⟨by rfl, ?_⟩) hS ?_
      rotate_left
      · (rintro wS s0; (try simp only [List.getElem_toArray, List.getElem_cons_zero, List.getElem_cons_succ]); go_simp <;> with_reducible rfl)
      simp only [Act.put, List.getElem_toArray, List.getElem_cons_zero, List.getElem_cons_succ, List.setIfInBounds_toArray, List.set_cons_zero, List.set_cons_succ]
      refine z_take (i := 28) (v := ?_) rfl (by kernel_rfl) (by kernel_rfl) (by kernel_rfl) (by kernel_rfl) (fun _ _ _ h => h) (Or.inl ⟨by rfl, ?_⟩) hS ?_
      rotate_left
      · (rintro wS s0; (try simp only [List.getElem_toArray, List.getElem_cons_zero, List.getElem_cons_succ]); go_simp <;> with_reducible rfl)
      simp only [Act.put, List.getElem_toArray, List.getElem_cons_zero, List.getElem_cons_succ, List.setIfInBounds_toArray, List.set_cons_zero, List.set_cons_succ]
      refine z_oneg (i := 24) (by kernel_rfl) rfl (by rfl) ?_
      go_simp
      refine HH5.out.mono ?_
      rintro r w6 ⟨rfl, rfl⟩
      try refine ⟨trivial, ?_⟩
      refine z_oneg (i := 29) (by kernel_rfl) rfl (by rfl) ?_
      go_simp
      refine HR5.out.mono ?_
      rintro r w6 ⟨rfl, rfl⟩
      try refine ⟨trivial, ?_⟩
      refine z_take (i := 30) (v := ?_) rfl (by kernel_rfl) (by kernel_rfl) (by kernel_rfl) (by kernel_rfl) (fun _ _ _ h => h) (Or.inl ⟨by rfl, ?_⟩) hS ?_
      rotate_left
      · (rintro wS s0; (try simp only [List.getElem_toArray, List.getElem_cons_zero, List.getElem_cons_succ]); go_simp <;> with_reducible rfl)
      simp only [Act.put, List.getElem_toArray, List.getElem_cons_zero, List.getElem_cons_succ, List.setIfInBounds_toArray, List.set_cons_zero, List.set_cons_succ]
      refine z_take (i := 31) (v := ?_) rfl (by kernel_rfl) (by kernel_rfl) (by kernel_rfl) (by kernel_rfl) (fun _ _ _ h => h) (Or.inl ⟨by rfl, ?_⟩) hS ?_
      rotate_left
      · (rintro wS s0; (try simp only [List.getElem_toArray, List.getElem_cons_zero, List.getElem_cons_succ]); go_simp <;> with_reducible rfl)
      simp only [Act.put, List.getElem_toArray, List.getElem_cons_zero, List.getElem_cons_succ, List.setIfInBounds_toArray, List.set_cons_zero, List.set_cons_succ]
      refine z_done (by kernel_rfl) ?_ _
      go_wp2_with fail
      go_roundw
      case rel => exact ⟨k + 1, at2, O2, co2, rfl, by rw [HN4.out], by go_num, by omega, by omega, HT2, HM5⟩
      case measure => simp [intOf]; omega
    · obtain rfl : k = ps.length := by omega
      have hln := HS.out.1
      have hT := HT.out
      rw [List.take_length, HFL.out] at hT
      have hatn : at_ = n := by have := congrArg List.length hT; rw [List.length_take] at this; omega
      subst hatn
      have hI := HI.out
      rw [← hT] at hI
      have hfs := fin_size l 0 []
      simp only [List.length_nil, Nat.zero_add] at hfs
      have hfr := hI.fr
      have hcl := close_any wr w.heap.size m l.length (fin 0 [] l).1 (fin 0 [] l).2 O co hfr hfs.symm (by omega)
      rw [hln] at hcl hfs
      have HCL := Lib.hid hcl
      have HB := Lib.hid hI.below
      have HE : Hid (oneLine m l (fin 0 [] l).1 at_ at_ = mkLine m (fin 0 [] l).1 (fin 0 [] l).2 0) := Lib.hid (by
        have := oneLine_mk m l at_ 0 (by omega)
        rwa [← hT] at this)
      clear hT hI hfr hcl HI HT
      generalize hF : (fin 0 [] l).1 = F at HCL hfs HE
      have HF := Lib.hid hF
      clear hF
      go_wp2_with fail
      refine HCL.out.mono ?_
      rintro e w3 ⟨O3, co3, rfl, f3, g3⟩
      have hz3 := f3.lt
      by_cases hc0 : (fin 0 [] l).2 = []
      · rw [if_pos hc0, decide_eq_false (by simpa using hc0)]
        rw [hc0] at hfs
        have hFn : F = at_ := by simp at hfs; omega
        subst hFn
        rw [lvv_no]
        have ba := (Below.refl w3.heap.size w3).alloc (Nat.le_refl _) (.cells #[.int .i64 0, .int .i64 0, .string ⟨#[]⟩, .bool false] 31)
        have hb3 := HB.out.grown g3 HB.out.size (fun k e => by cases e; exact Nat.le_refl _)
        have HB3 := Lib.hid (hb3.trans (ba.mono hb3.size))
        have HF3 := Lib.hid (f3.below ba)
        have hop := open_any A F c l (w3.alloc (.cells #[.int .i64 0, .int .i64 0, .string ⟨#[]⟩, .bool false] 31)) (HS.out.below HB3.out) (by omega)
        rw [HF.out] at hop
        have HO := Lib.hid hop
        clear hop ba hb3 f3 g3 hfs hc0 HCL hln HB
        go_wp2_with fail
        refine HO.out.mono ?_
        rintro r w4 ⟨rfl, rfl⟩
        have hff : ¬ (F : Int) < (F : Int) := by omega
        go_wp2_with fail
        refine (held_any _ w.heap.size m F F [] true O3 co3 HF3.out).mono ?_
        rintro r w4 ⟨rfl, rfl⟩
        rw [show (opn m []).length = 0 from by unfold opn; split <;> rfl]
        go_wp2_with fail
        refine (at_any _ w.heap.size m F F [] true O3 co3 HF3.out).mono ?_
        rintro r w4 ⟨rfl, rfl⟩
        have HBX := Lib.hid (heap_alloc_new w3 (.cells #[.int .i64 0, .int .i64 0, .string ⟨#[]⟩, .bool false] 31))
        go_wp2_with fail
        refine region_plain (fun _ => True) 99 (by kernel_rfl) ?_
        have hS : True := trivial
        refine z_take (i := 0) (v := ?_) rfl (by kernel_rfl) (by kernel_rfl) (by kernel_rfl) (by kernel_rfl) (fun _ _ _ h => h) (Or.inl ⟨by rfl, ?_⟩) hS ?_
        rotate_left
        · (rintro wS s0; (try simp only [List.getElem_toArray, List.getElem_cons_zero]); go_simp <;> with_reducible rfl)
        simp only [Act.put, List.getElem_toArray, List.getElem_cons_zero, List.setIfInBounds_toArray, List.set_cons_zero, List.set_cons_succ]
        refine z_take (i := 1) (v := ?_) rfl (by kernel_rfl) (by kernel_rfl) (by kernel_rfl) (by kernel_rfl) (fun _ _ _ h => h) (Or.inl ⟨by rfl, ?_⟩) hS ?_
        rotate_left
        · (rintro wS s0; (try simp only [List.getElem_toArray, List.getElem_cons_zero, List.getElem_cons_succ]); go_simp <;> with_reducible rfl)
        simp only [Act.put, List.getElem_toArray, List.getElem_cons_zero, List.getElem_cons_succ, List.setIfInBounds_toArray, List.set_cons_zero, List.set_cons_succ]
        refine z_take (i := 2) (v := undef) rfl (by kernel_rfl) (by kernel_rfl) (by kernel_rfl) (by kernel_rfl) (fun _ _ _ h => h) (Or.inr ⟨by rfl, rfl⟩) hS ?_
        simp only [Act.put, List.getElem_toArray, List.getElem_cons_zero, List.getElem_cons_succ, List.setIfInBounds_toArray, List.set_cons_zero, List.set_cons_succ]
        refine z_take (i := 3) (v := undef) rfl (by kernel_rfl) (by kernel_rfl) (by kernel_rfl) (by kernel_rfl) (fun _ _ _ h => h) (Or.inr ⟨by rfl, rfl⟩) hS ?_
        simp only [Act.put, List.getElem_toArray, List.getElem_cons_zero, List.getElem_cons_succ, List.setIfInBounds_toArray, List.set_cons_zero, List.set_cons_succ]
        refine z_take (i := 4) (v := undef) rfl (by kernel_rfl) (by kernel_rfl) (by kernel_rfl) (by kernel_rfl) (fun _ _ _ h => h) (Or.inr ⟨by rfl, rfl⟩) hS ?_
        simp only [Act.put, List.getElem_toArray, List.getElem_cons_zero, List.getElem_cons_succ, List.setIfInBounds_toArray, List.set_cons_zero, List.set_cons_succ]
        refine z_take (i := 5) (v := undef) rfl (by kernel_rfl) (by kernel_rfl) (by kernel_rfl) (by kernel_rfl) (fun _ _ _ h => h) (Or.inr ⟨by rfl, rfl⟩) hS ?_
        simp only [Act.put, List.getElem_toArray, List.getElem_cons_zero, List.getElem_cons_succ, List.setIfInBounds_toArray, List.set_cons_zero, List.set_cons_succ]
        refine z_take (i := 6) (v := undef) rfl (by kernel_rfl) (by kernel_rfl) (by kernel_rfl) (by kernel_rfl) (fun _ _ _ h => h) (Or.inr ⟨by rfl, rfl⟩) hS ?_
        simp only [Act.put, List.getElem_toArray, List.getElem_cons_zero, List.getElem_cons_succ, List.setIfInBounds_toArray, List.set_cons_zero, List.set_cons_succ]
        refine z_take (i := 7) (v := undef) rfl (by kernel_rfl) (by kernel_rfl) (by kernel_rfl) (by kernel_rfl) (fun _ _ _ h => h) (Or.inr ⟨by rfl, rfl⟩) hS ?_
        simp only [Act.put, List.getElem_toArray, List.getElem_cons_zero, List.getElem_cons_succ, List.setIfInBounds_toArray, List.set_cons_zero, List.set_cons_succ]
        refine z_take (i := 8) (v := undef) rfl (by kernel_rfl) (by kernel_rfl) (by kernel_rfl) (by kernel_rfl) (fun _ _ _ h => h) (Or.inr ⟨by rfl, rfl⟩) hS ?_
        simp only [Act.put, List.getElem_toArray, List.getElem_cons_zero, List.getElem_cons_succ, List.setIfInBounds_toArray, List.set_cons_zero, List.set_cons_succ]
        refine z_take (i := 9) (v := undef) rfl (by kernel_rfl) (by kernel_rfl) (by kernel_rfl) (by kernel_rfl) (fun _ _ _ h => h) (Or.inr ⟨by rfl, rfl⟩) hS ?_
        simp only [Act.put, List.getElem_toArray, List.getElem_cons_zero, List.getElem_cons_succ, List.setIfInBounds_toArray, List.set_cons_zero, List.set_cons_succ]
        refine z_take (i := 10) (v := undef) rfl (by kernel_rfl) (by kernel_rfl) (by kernel_rfl) (by kernel_rfl) (fun _ _ _ h => h) (Or.inr ⟨by rfl, rfl⟩) hS ?_
        simp only [Act.put, List.getElem_toArray, List.getElem_cons_zero, List.getElem_cons_succ, List.setIfInBounds_toArray, List.set_cons_zero, List.set_cons_succ]
        refine z_take (i := 11) (v := undef) rfl (by kernel_rfl) (by kernel_rfl) (by kernel_rfl) (by kernel_rfl) (fun _ _ _ h => h) (Or.inr ⟨by rfl, rfl⟩) hS ?_
        simp only [Act.put, List.getElem_toArray, List.getElem_cons_zero, List.getElem_cons_succ, List.setIfInBounds_toArray, List.set_cons_zero, List.set_cons_succ]
        refine z_take (i := 12) (v := undef) rfl (by kernel_rfl) (by kernel_rfl) (by kernel_rfl) (by kernel_rfl) (fun _ _ _ h => h) (Or.inr ⟨by rfl, rfl⟩) hS ?_
        simp only [Act.put, List.getElem_toArray, List.getElem_cons_zero, List.getElem_cons_succ, List.setIfInBounds_toArray, List.set_cons_zero, List.set_cons_succ]
        refine z_take (i := 13) (v := undef) rfl (by kernel_rfl) (by kernel_rfl) (by kernel_rfl) (by kernel_rfl) (fun _ _ _ h => h) (Or.inr ⟨by rfl, rfl⟩) hS ?_
        simp only [Act.put, List.getElem_toArray, List.getElem_cons_zero, List.getElem_cons_succ, List.setIfInBounds_toArray, List.set_cons_zero, List.set_cons_succ]
        refine z_take (i := 14) (v := undef) rfl (by kernel_rfl) (by kernel_rfl) (by kernel_rfl) (by kernel_rfl) (fun _ _ _ h => h) (Or.inr ⟨by rfl, rfl⟩) hS ?_
        simp only [Act.put, List.getElem_toArray, List.getElem_cons_zero, List.getElem_cons_succ, List.setIfInBounds_toArray, List.set_cons_zero, List.set_cons_succ]
        refine z_take (i := 15) (v := ?_) rfl (by kernel_rfl) (by kernel_rfl) (by kernel_rfl) (by kernel_rfl) (fun _ _ _ h => h) (Or.inl ⟨by rfl, ?_⟩) hS ?_
        rotate_left
        · (rintro wS s0; (try simp only [List.getElem_toArray, List.getElem_cons_zero, List.getElem_cons_succ]); go_simp <;> with_reducible rfl)
        simp only [Act.put, List.getElem_toArray, List.getElem_cons_zero, List.getElem_cons_succ, List.setIfInBounds_toArray, List.set_cons_zero, List.set_cons_succ]
        refine z_done (by kernel_rfl) ?_ _
        have HB4 := Lib.hid (below_drewN' HB3.out 1)
        go_wp2_with fail
        refine (awake_any _).mono ?_
        rintro e w5 ⟨rfl, b5⟩
        go_wp2_with fail
        go_ret
        exact ⟨rfl, HB4.out.trans (b5.mono HB4.out.size)⟩
      · rw [if_neg hc0, decide_eq_true (by simpa using hc0)]
        have hpos : 0 < (fin 0 [] l).2.length := List.length_pos_iff.2 hc0
        have hFn : (F : Int) < (at_ : Int) := by omega
        generalize mkLine m F (fin 0 [] l).2 0 = ln at HE ⊢
        simp only [lvv]
        have ba := (Below.refl w3.heap.size w3).alloc (Nat.le_refl _) (.cells #[.int .i64 ln.a, .int .i64 ln.b, .string (strOfNums ln.t), .bool ln.long] 31)
        have hb3 := HB.out.grown g3 HB.out.size (fun k e => by cases e; exact Nat.le_refl _)
        have HB3 := Lib.hid (hb3.trans (ba.mono hb3.size))
        have HF3 := Lib.hid (f3.below ba)
        have hop := open_any A at_ c l (w3.alloc (.cells #[.int .i64 ln.a, .int .i64 ln.b, .string (strOfNums ln.t), .bool ln.long] 31)) (HS.out.below HB3.out) (by omega)
        rw [HF.out] at hop
        have HO := Lib.hid hop
        have hON : ∀ Y, Below w.heap.size w Y → Calls Try.prog 20 #[.slice A at_ c, .int .i64 (F : Int), .int .i64 (at_ : Int), .int .i64 (at_ : Int), .int .i64 (m : Int)] Y fun r w' => r = .returned (.agg #[.int .i64 ln.a, .int .i64 ln.b, .string (strOfNums ln.t), .bool ln.long]) ∧ Below Y.heap.size Y w' := fun Y hY => by
          have := one_any A at_ c l F at_ at_ m Y (HS.out.below hY) hc (by omega) (Nat.le_refl _) (by omega)
          rw [HE.out] at this
          exact this
        have HON := Lib.hid hON
        clear hop ba hb3 f3 g3 hfs hc0 HCL hln HB hpos hON
        go_wp2_with fail
        refine HO.out.mono ?_
        rintro r w4 ⟨rfl, rfl⟩
        go_wp2_with fail
        refine (held_any _ w.heap.size m at_ at_ [] true O3 co3 HF3.out).mono ?_
        rintro r w4 ⟨rfl, rfl⟩
        rw [show (opn m []).length = 0 from by unfold opn; split <;> rfl]
        go_wp2_with fail
        refine (at_any _ w.heap.size m at_ at_ [] true O3 co3 HF3.out).mono ?_
        rintro r w4 ⟨rfl, rfl⟩
        have hbx := heap_alloc_new w3 (.cells #[.int .i64 ln.a, .int .i64 ln.b, .string (strOfNums ln.t), .bool ln.long] 31)
        have s0 : (w3.alloc (.cells #[.int .i64 ln.a, .int .i64 ln.b, .string (strOfNums ln.t), .bool ln.long] 31)).cell? ⟨w3.heap.size, 0, none⟩ = some (.int .i64 ln.a) := by rw [cell_of_row _ _ _ _ 31 (0, 0) hbx]; rfl
        have s1 : (w3.alloc (.cells #[.int .i64 ln.a, .int .i64 ln.b, .string (strOfNums ln.t), .bool ln.long] 31)).cell? ⟨w3.heap.size, 1, none⟩ = some (.int .i64 ln.b) := by rw [cell_of_row _ _ _ _ 31 (0, 0) hbx]; rfl
        have s2 : (w3.alloc (.cells #[.int .i64 ln.a, .int .i64 ln.b, .string (strOfNums ln.t), .bool ln.long] 31)).cell? ⟨w3.heap.size, 2, none⟩ = some (.string (strOfNums ln.t)) := by rw [cell_of_row _ _ _ _ 31 (0, 0) hbx]; rfl
        have s3 : (w3.alloc (.cells #[.int .i64 ln.a, .int .i64 ln.b, .string (strOfNums ln.t), .bool ln.long] 31)).cell? ⟨w3.heap.size, 3, none⟩ = some (.bool ln.long) := by rw [cell_of_row _ _ _ _ 31 (0, 0) hbx]; rfl
        clear hbx
        go_wp2_with fail
        refine region_plain (fun W => W.cell? ⟨w3.heap.size, 0, none⟩ = some (.int .i64 ln.a) ∧ W.cell? ⟨w3.heap.size, 1, none⟩ = some (.int .i64 ln.b) ∧ W.cell? ⟨w3.heap.size, 2, none⟩ = some (.string (strOfNums ln.t)) ∧ W.cell? ⟨w3.heap.size, 3, none⟩ = some (.bool ln.long)) 99 (by kernel_rfl) ?_
        have HBX := Lib.hid (show Below w.heap.size w (w3.alloc (.cells #[.int .i64 ln.a, .int .i64 ln.b, .string (strOfNums ln.t), .bool ln.long] 31)).drew from below_drewN' HB3.out 1)
        have hS : (w3.alloc (.cells #[.int .i64 ln.a, .int .i64 ln.b, .string (strOfNums ln.t), .bool ln.long] 31)).drew.cell? ⟨w3.heap.size, 0, none⟩ = some (.int .i64 ln.a) ∧ (w3.alloc (.cells #[.int .i64 ln.a, .int .i64 ln.b, .string (strOfNums ln.t), .bool ln.long] 31)).drew.cell? ⟨w3.heap.size, 1, none⟩ = some (.int .i64 ln.b) ∧ (w3.alloc (.cells #[.int .i64 ln.a, .int .i64 ln.b, .string (strOfNums ln.t), .bool ln.long] 31)).drew.cell? ⟨w3.heap.size, 2, none⟩ = some (.string (strOfNums ln.t)) ∧ (w3.alloc (.cells #[.int .i64 ln.a, .int .i64 ln.b, .string (strOfNums ln.t), .bool ln.long] 31)).drew.cell? ⟨w3.heap.size, 3, none⟩ = some (.bool ln.long) := ⟨s0, s1, s2, s3⟩
        clear s0 s1 s2 s3 HF3 HB3 HO
        generalize (w3.alloc (.cells #[.int .i64 ln.a, .int .i64 ln.b, .string (strOfNums ln.t), .bool ln.long] 31)).drew = X at HBX hS ⊢
        refine z_take (i := 0) (v := ?_) rfl (by kernel_rfl) (by kernel_rfl) (by kernel_rfl) (by kernel_rfl) (fun _ _ _ h => h) (Or.inl ⟨by rfl, ?_⟩) hS ?_
        rotate_left
        · (rintro wS ⟨s0, s1, s2, s3⟩; (try simp only [List.getElem_toArray, List.getElem_cons_zero]); go_simp <;> with_reducible rfl)
        simp only [Act.put, List.getElem_toArray, List.getElem_cons_zero, List.setIfInBounds_toArray, List.set_cons_zero, List.set_cons_succ]
        refine z_take (i := 1) (v := ?_) rfl (by kernel_rfl) (by kernel_rfl) (by kernel_rfl) (by kernel_rfl) (fun _ _ _ h => h) (Or.inl ⟨by rfl, ?_⟩) hS ?_
        rotate_left
        · (rintro wS ⟨s0, s1, s2, s3⟩; (try simp only [List.getElem_toArray, List.getElem_cons_zero, List.getElem_cons_succ]); go_simp <;> with_reducible rfl)
        simp only [Act.put, List.getElem_toArray, List.getElem_cons_zero, List.getElem_cons_succ, List.setIfInBounds_toArray, List.set_cons_zero, List.set_cons_succ]
        refine z_take (i := 2) (v := ?_) rfl (by kernel_rfl) (by kernel_rfl) (by kernel_rfl) (by kernel_rfl) (fun _ _ _ h => h) (Or.inl ⟨by rfl, ?_⟩) hS ?_
        rotate_left
        · (rintro wS ⟨s0, s1, s2, s3⟩; (try simp only [List.getElem_toArray, List.getElem_cons_zero, List.getElem_cons_succ]); go_simp <;> with_reducible rfl)
        simp only [Act.put, List.getElem_toArray, List.getElem_cons_zero, List.getElem_cons_succ, List.setIfInBounds_toArray, List.set_cons_zero, List.set_cons_succ]
        refine z_take (i := 4) (v := ?_) rfl (by kernel_rfl) (by kernel_rfl) (by kernel_rfl) (by kernel_rfl) (fun _ _ _ h => h) (Or.inl ⟨by rfl, ?_⟩) hS ?_
        rotate_left
        · (rintro wS ⟨s0, s1, s2, s3⟩; (try simp only [List.getElem_toArray, List.getElem_cons_zero, List.getElem_cons_succ]); go_simp <;> with_reducible rfl)
        simp only [Act.put, List.getElem_toArray, List.getElem_cons_zero, List.getElem_cons_succ, List.setIfInBounds_toArray, List.set_cons_zero, List.set_cons_succ]
        refine z_take (i := 5) (v := ?_) rfl (by kernel_rfl) (by kernel_rfl) (by kernel_rfl) (by kernel_rfl) (fun _ _ _ h => h) (Or.inl ⟨by rfl, ?_⟩) hS ?_
        rotate_left
        · (rintro wS ⟨s0, s1, s2, s3⟩; (try simp only [List.getElem_toArray, List.getElem_cons_zero, List.getElem_cons_succ]); go_simp <;> with_reducible rfl)
        simp only [Act.put, List.getElem_toArray, List.getElem_cons_zero, List.getElem_cons_succ, List.setIfInBounds_toArray, List.set_cons_zero, List.set_cons_succ]
        refine z_take (i := 6) (v := ?_) rfl (by kernel_rfl) (by kernel_rfl) (by kernel_rfl) (by kernel_rfl) (fun _ _ _ h => h) (Or.inl ⟨by rfl, ?_⟩) hS ?_
        rotate_left
        · (rintro wS ⟨s0, s1, s2, s3⟩; (try simp only [List.getElem_toArray, List.getElem_cons_zero, List.getElem_cons_succ]); go_simp <;> with_reducible rfl)
        simp only [Act.put, List.getElem_toArray, List.getElem_cons_zero, List.getElem_cons_succ, List.setIfInBounds_toArray, List.set_cons_zero, List.set_cons_succ]
        refine z_take (i := 7) (v := ?_) rfl (by kernel_rfl) (by kernel_rfl) (by kernel_rfl) (by kernel_rfl) (fun _ _ _ h => h) (Or.inl ⟨by rfl, ?_⟩) hS ?_
        rotate_left
        · (rintro wS ⟨s0, s1, s2, s3⟩; (try simp only [List.getElem_toArray, List.getElem_cons_zero, List.getElem_cons_succ]); go_simp <;> with_reducible rfl)
        simp only [Act.put, List.getElem_toArray, List.getElem_cons_zero, List.getElem_cons_succ, List.setIfInBounds_toArray, List.set_cons_zero, List.set_cons_succ]
        refine z_take (i := 8) (v := ?_) rfl (by kernel_rfl) (by kernel_rfl) (by kernel_rfl) (by kernel_rfl) (fun _ _ _ h => h) (Or.inl ⟨by rfl, ?_⟩) hS ?_
        rotate_left
        · (rintro wS ⟨s0, s1, s2, s3⟩; (try simp only [List.getElem_toArray, List.getElem_cons_zero, List.getElem_cons_succ]); go_simp <;> with_reducible rfl)
        simp only [Act.put, List.getElem_toArray, List.getElem_cons_zero, List.getElem_cons_succ, List.setIfInBounds_toArray, List.set_cons_zero, List.set_cons_succ]
        refine z_take (i := 9) (v := ?_) rfl (by kernel_rfl) (by kernel_rfl) (by kernel_rfl) (by kernel_rfl) (fun _ _ _ h => h) (Or.inl ⟨by rfl, ?_⟩) hS ?_
        rotate_left
        · (rintro wS ⟨s0, s1, s2, s3⟩; (try simp only [List.getElem_toArray, List.getElem_cons_zero, List.getElem_cons_succ]); go_simp <;> with_reducible rfl)
        simp only [Act.put, List.getElem_toArray, List.getElem_cons_zero, List.getElem_cons_succ, List.setIfInBounds_toArray, List.set_cons_zero, List.set_cons_succ]
        refine z_take (i := 10) (v := ?_) rfl (by kernel_rfl) (by kernel_rfl) (by kernel_rfl) (by kernel_rfl) (fun _ _ _ h => h) (Or.inl ⟨by rfl, ?_⟩) hS ?_
        rotate_left
        · (rintro wS ⟨s0, s1, s2, s3⟩; (try simp only [List.getElem_toArray, List.getElem_cons_zero, List.getElem_cons_succ]); go_simp <;> with_reducible rfl)
        simp only [Act.put, List.getElem_toArray, List.getElem_cons_zero, List.getElem_cons_succ, List.setIfInBounds_toArray, List.set_cons_zero, List.set_cons_succ]
        have hrX := World.block_lt_of_cell? _ _ hS.1
        have hSY : ∀ Y, Below X.heap.size X Y → Y.cell? ⟨w3.heap.size, 0, none⟩ = some (.int .i64 ln.a) ∧ Y.cell? ⟨w3.heap.size, 1, none⟩ = some (.int .i64 ln.b) ∧ Y.cell? ⟨w3.heap.size, 2, none⟩ = some (.string (strOfNums ln.t)) ∧ Y.cell? ⟨w3.heap.size, 3, none⟩ = some (.bool ln.long) := fun Y hY =>
          ⟨(hY.cell (p := ⟨w3.heap.size, 0, none⟩) hrX).trans hS.1, (hY.cell (p := ⟨w3.heap.size, 1, none⟩) hrX).trans hS.2.1, (hY.cell (p := ⟨w3.heap.size, 2, none⟩) hrX).trans hS.2.2.1, (hY.cell (p := ⟨w3.heap.size, 3, none⟩) hrX).trans hS.2.2.2⟩
        have bX := Below.refl X.heap.size X
        have hON := HON.out
        clear hS HON
        refine z_pick [3, 11] (by kernel_rfl) (by decide) ?_
        intro i hi
        rcases List.mem_cons.1 hi with rfl | hi
        · refine ⟨_, rfl, by rfl, ?_⟩
          go_simp
          have st := (Below.refl X.heap.size X).alloc (Nat.le_refl _) (.cells #[.int .i64 ln.a, .int .i64 ln.b, .string (strOfNums ln.t), .bool ln.long] 31)
          have bY1 := bX.trans (st.mono bX.size)
          have lA := lnAt31 X ln
          simp only [lvv] at lA
          try refine ⟨hSY _ bY1, ?_⟩
          clear st
          generalize X.alloc (.cells #[.int .i64 ln.a, .int .i64 ln.b, .string (strOfNums ln.t), .bool ln.long] 31) = Y1 at bY1 lA ⊢
          refine z_oneg (i := 11) (by kernel_rfl) rfl (by rfl) ?_
          go_simp
          refine (hON Y1 (HBX.out.trans (bY1.mono HBX.out.size))).mono ?_
          rintro r Y2 ⟨rfl, st⟩
          have bY2 := bY1.trans (st.mono bY1.size)
          replace lA := lA.below st
          try refine ⟨hSY _ bY2, ?_⟩
          clear st
          refine z_oneg (i := 12) (by kernel_rfl) rfl (by rfl) ?_
          go_simp
          have st := (Below.refl Y2.heap.size Y2).alloc (Nat.le_refl _) (.cells #[.int .i64 ln.a, .int .i64 ln.b, .string (strOfNums ln.t), .bool ln.long] 51)
          have bY3 := bY2.trans (st.mono bY2.size)
          have lB := lnAt51 Y2 ln
          simp only [lvv] at lB
          replace lA := lA.below st
          try refine ⟨hSY _ bY3, ?_⟩
          clear st
          generalize Y2.alloc (.cells #[.int .i64 ln.a, .int .i64 ln.b, .string (strOfNums ln.t), .bool ln.long] 51) = Y3 at bY3 lB lA ⊢
          refine z_oneg (i := 13) (by kernel_rfl) rfl (by rfl) ?_
          go_simp
          refine (same_any (some ⟨X.heap.size, 0, none⟩) 1 (some ⟨Y2.heap.size, 0, none⟩) 1 [ln] 1 Y3 rfl lA lB (by omega)).mono ?_
          rintro r Z ⟨rfl, j, e5⟩
          have st : Below Y3.heap.size Y3 Z := by rw [e5]; exact below_drewN' (Below.refl _ Y3) j
          have bZ := bY3.trans (st.mono bY3.size)
          try refine ⟨hSY _ bZ, ?_⟩
          have HZ := Lib.hid (HBX.out.trans (bZ.mono HBX.out.size))
          have hS := hSY _ bZ
          clear st e5
          refine z_take (i := 14) (v := ?_) rfl (by kernel_rfl) (by kernel_rfl) (by kernel_rfl) (by kernel_rfl) (fun _ _ _ h => h) (Or.inl ⟨by rfl, ?_⟩) hS ?_
          rotate_left
          · (rintro wS ⟨s0, s1, s2, s3⟩; (try simp only [List.getElem_toArray, List.getElem_cons_zero, List.getElem_cons_succ]); go_simp <;> with_reducible rfl)
          simp only [Act.put, List.getElem_toArray, List.getElem_cons_zero, List.getElem_cons_succ, List.setIfInBounds_toArray, List.set_cons_zero, List.set_cons_succ]
          refine z_take (i := 15) (v := ?_) rfl (by kernel_rfl) (by kernel_rfl) (by kernel_rfl) (by kernel_rfl) (fun _ _ _ h => h) (Or.inl ⟨by rfl, ?_⟩) hS ?_
          rotate_left
          · (rintro wS ⟨s0, s1, s2, s3⟩; (try simp only [List.getElem_toArray, List.getElem_cons_zero, List.getElem_cons_succ]); go_simp <;> with_reducible rfl)
          simp only [Act.put, List.getElem_toArray, List.getElem_cons_zero, List.getElem_cons_succ, List.setIfInBounds_toArray, List.set_cons_zero, List.set_cons_succ]
          refine z_done (by kernel_rfl) ?_ _
          clear hSY hON hS lA lB
          go_wp2_with fail
          refine (awake_any _).mono ?_
          rintro e w5 ⟨rfl, b5⟩
          go_wp2_with fail
          go_ret
          exact ⟨rfl, HZ.out.trans (b5.mono HZ.out.size)⟩
        · obtain rfl := List.mem_singleton.1 hi
          refine ⟨_, rfl, by rfl, ?_⟩
          go_simp
          refine (hON X (HBX.out.trans (bX.mono HBX.out.size))).mono ?_
          rintro r Y1 ⟨rfl, st⟩
          have bY1 := bX.trans (st.mono bX.size)
          try refine ⟨hSY _ bY1, ?_⟩
          clear st
          refine z_pick [3, 12] (by kernel_rfl) (by decide) ?_
          intro i hi
          rcases List.mem_cons.1 hi with rfl | hi
          · refine ⟨_, rfl, by rfl, ?_⟩
            go_simp
            have st := (Below.refl Y1.heap.size Y1).alloc (Nat.le_refl _) (.cells #[.int .i64 ln.a, .int .i64 ln.b, .string (strOfNums ln.t), .bool ln.long] 31)
            have bY2 := bY1.trans (st.mono bY1.size)
            have lA := lnAt31 Y1 ln
            simp only [lvv] at lA
            try refine ⟨hSY _ bY2, ?_⟩
            clear st
            generalize Y1.alloc (.cells #[.int .i64 ln.a, .int .i64 ln.b, .string (strOfNums ln.t), .bool ln.long] 31) = Y2 at bY2 lA ⊢
            refine z_oneg (i := 12) (by kernel_rfl) rfl (by rfl) ?_
            go_simp
            have st := (Below.refl Y2.heap.size Y2).alloc (Nat.le_refl _) (.cells #[.int .i64 ln.a, .int .i64 ln.b, .string (strOfNums ln.t), .bool ln.long] 51)
            have bY3 := bY2.trans (st.mono bY2.size)
            have lB := lnAt51 Y2 ln
            simp only [lvv] at lB
            replace lA := lA.below st
            try refine ⟨hSY _ bY3, ?_⟩
            clear st
            generalize Y2.alloc (.cells #[.int .i64 ln.a, .int .i64 ln.b, .string (strOfNums ln.t), .bool ln.long] 51) = Y3 at bY3 lB lA ⊢
            refine z_oneg (i := 13) (by kernel_rfl) rfl (by rfl) ?_
            go_simp
            refine (same_any (some ⟨Y1.heap.size, 0, none⟩) 1 (some ⟨Y2.heap.size, 0, none⟩) 1 [ln] 1 Y3 rfl lA lB (by omega)).mono ?_
            rintro r Z ⟨rfl, j, e5⟩
            have st : Below Y3.heap.size Y3 Z := by rw [e5]; exact below_drewN' (Below.refl _ Y3) j
            have bZ := bY3.trans (st.mono bY3.size)
            try refine ⟨hSY _ bZ, ?_⟩
            have HZ := Lib.hid (HBX.out.trans (bZ.mono HBX.out.size))
            have hS := hSY _ bZ
            clear st e5
            refine z_take (i := 14) (v := ?_) rfl (by kernel_rfl) (by kernel_rfl) (by kernel_rfl) (by kernel_rfl) (fun _ _ _ h => h) (Or.inl ⟨by rfl, ?_⟩) hS ?_
            rotate_left
            · (rintro wS ⟨s0, s1, s2, s3⟩; (try simp only [List.getElem_toArray, List.getElem_cons_zero, List.getElem_cons_succ]); go_simp <;> with_reducible rfl)
            simp only [Act.put, List.getElem_toArray, List.getElem_cons_zero, List.getElem_cons_succ, List.setIfInBounds_toArray, List.set_cons_zero, List.set_cons_succ]
            refine z_take (i := 15) (v := ?_) rfl (by kernel_rfl) (by kernel_rfl) (by kernel_rfl) (by kernel_rfl) (fun _ _ _ h => h) (Or.inl ⟨by rfl, ?_⟩) hS ?_
            rotate_left
            · (rintro wS ⟨s0, s1, s2, s3⟩; (try simp only [List.getElem_toArray, List.getElem_cons_zero, List.getElem_cons_succ]); go_simp <;> with_reducible rfl)
            simp only [Act.put, List.getElem_toArray, List.getElem_cons_zero, List.getElem_cons_succ, List.setIfInBounds_toArray, List.set_cons_zero, List.set_cons_succ]
            refine z_done (by kernel_rfl) ?_ _
            clear hSY hON hS lA lB
            go_wp2_with fail
            refine (awake_any _).mono ?_
            rintro e w5 ⟨rfl, b5⟩
            go_wp2_with fail
            go_ret
            exact ⟨rfl, HZ.out.trans (b5.mono HZ.out.size)⟩
          · obtain rfl := List.mem_singleton.1 hi
            refine ⟨_, rfl, by rfl, ?_⟩
            go_simp
            have st := (Below.refl Y1.heap.size Y1).alloc (Nat.le_refl _) (.cells #[.int .i64 ln.a, .int .i64 ln.b, .string (strOfNums ln.t), .bool ln.long] 51)
            have bY2 := bY1.trans (st.mono bY1.size)
            have lB := lnAt51 Y1 ln
            simp only [lvv] at lB
            try refine ⟨hSY _ bY2, ?_⟩
            clear st
            generalize Y1.alloc (.cells #[.int .i64 ln.a, .int .i64 ln.b, .string (strOfNums ln.t), .bool ln.long] 51) = Y2 at bY2 lB ⊢
            refine z_oneg (i := 3) (by kernel_rfl) rfl (by rfl) ?_
            go_simp
            have st := (Below.refl Y2.heap.size Y2).alloc (Nat.le_refl _) (.cells #[.int .i64 ln.a, .int .i64 ln.b, .string (strOfNums ln.t), .bool ln.long] 31)
            have bY3 := bY2.trans (st.mono bY2.size)
            have lA := lnAt31 Y2 ln
            simp only [lvv] at lA
            replace lB := lB.below st
            try refine ⟨hSY _ bY3, ?_⟩
            clear st
            generalize Y2.alloc (.cells #[.int .i64 ln.a, .int .i64 ln.b, .string (strOfNums ln.t), .bool ln.long] 31) = Y3 at bY3 lA lB ⊢
            refine z_oneg (i := 13) (by kernel_rfl) rfl (by rfl) ?_
            go_simp
            refine (same_any (some ⟨Y2.heap.size, 0, none⟩) 1 (some ⟨Y1.heap.size, 0, none⟩) 1 [ln] 1 Y3 rfl lA lB (by omega)).mono ?_
            rintro r Z ⟨rfl, j, e5⟩
            have st : Below Y3.heap.size Y3 Z := by rw [e5]; exact below_drewN' (Below.refl _ Y3) j
            have bZ := bY3.trans (st.mono bY3.size)
            try refine ⟨hSY _ bZ, ?_⟩
            have HZ := Lib.hid (HBX.out.trans (bZ.mono HBX.out.size))
            have hS := hSY _ bZ
            clear st e5
            refine z_take (i := 14) (v := ?_) rfl (by kernel_rfl) (by kernel_rfl) (by kernel_rfl) (by kernel_rfl) (fun _ _ _ h => h) (Or.inl ⟨by rfl, ?_⟩) hS ?_
            rotate_left
            · (rintro wS ⟨s0, s1, s2, s3⟩; (try simp only [List.getElem_toArray, List.getElem_cons_zero, List.getElem_cons_succ]); go_simp <;> with_reducible rfl)
            simp only [Act.put, List.getElem_toArray, List.getElem_cons_zero, List.getElem_cons_succ, List.setIfInBounds_toArray, List.set_cons_zero, List.set_cons_succ]
            refine z_take (i := 15) (v := ?_) rfl (by kernel_rfl) (by kernel_rfl) (by kernel_rfl) (by kernel_rfl) (fun _ _ _ h => h) (Or.inl ⟨by rfl, ?_⟩) hS ?_
            rotate_left
            · (rintro wS ⟨s0, s1, s2, s3⟩; (try simp only [List.getElem_toArray, List.getElem_cons_zero, List.getElem_cons_succ]); go_simp <;> with_reducible rfl)
            simp only [Act.put, List.getElem_toArray, List.getElem_cons_zero, List.getElem_cons_succ, List.setIfInBounds_toArray, List.set_cons_zero, List.set_cons_succ]
            refine z_done (by kernel_rfl) ?_ _
            clear hSY hON hS lA lB
            go_wp2_with fail
            refine (awake_any _).mono ?_
            rintro e w5 ⟨rfl, b5⟩
            go_wp2_with fail
            go_ret
            exact ⟨rfl, HZ.out.trans (b5.mono HZ.out.size)⟩

theorem lineFeeds_walk (A : Option Addr) (c : Nat) (l : List Int) (A2 : Option Addr) (c2 : Nat) (ks : List Int) (x : Int) (w : World) (hs : Sl w A l.length l) (ht : Tidy A c ∧ ∀ ad, A = some ad → ad.block < w.heap.size) (hc : l.length ≤ c) (hk : Nums w A2 ks.length ks) :
    Calls Try.prog 6 #[.slice A l.length c, .slice A2 ks.length c2, .int .i64 x] w fun e w' => e = .returned (.bool true) ∧ Below w.heap.size w w' := by
  by_cases h : 600 < l.length ∨ 100 < ks.length
  · exact lineFeeds_out A _ c A2 _ c2 x w h
  · by_cases hx : x < 1 ∨ 8192 < x
    · exact lineFeeds_bad A _ c A2 _ c2 x w (by omega) (by omega) hx
    · obtain ⟨m, rfl⟩ : ∃ m : Nat, x = (m : Int) := ⟨x.toNat, by omega⟩
      exact lineFeeds_in A _ c l A2 c2 ks m w hs ht.1 hc ht.2 hk (by omega) (by omega) (by omega) (by omega)
end Go.Proofs.Ytnlnadpbbcjfdaa
