/-
 The lines that end in a chunk.
-/
import Derived.Test.YtngmgpmkjdacaaaGreatDoorMLnB
set_option linter.unusedSimpArgs false
set_option linter.unusedVariables false
namespace Go.Proofs.YtngmgpmkjdacaaaGreatDoor
set_option maxRecDepth 100000
open Go.RowKit Go.Shelf
attribute [local go_sem] Oper.semAt_some

theorem lin_length (m : Nat) : ∀ (l : List Int) (fr : Nat) (cur : List Int), (lin m fr cur l).length ≤ l.length
 | [], _, _ => Nat.le_refl _
 | z :: l, fr, cur => by
  rw [lin_cons]
  split
  ·have := lin_length m l (fr + cur.length + 1) []
   simp only [List.length_cons]
   omega
  ·have := lin_length m l fr (cur ++ [z])
   simp only [List.length_cons]
   omega

theorem step_free (m fr : Nat) (cur L : List Int) (x : Pc) (hx : x.e = false) (ht : ∀ z ∈ x.t, z ≠ 10) : lin m fr cur (L ++ x.all) = lin m fr cur L ∧ fin fr cur (L ++ x.all) = ((fin fr cur L).1, (fin fr cur L).2 ++ x.t) := by
 have e : x.all = x.t := by unfold Pc.all; rw [hx]; simp
 rw [e, lin_append, fin_append, (lin_free m x.t _ _ ht).1, (lin_free m x.t _ _ ht).2, List.append_nil]
 exact ⟨rfl, rfl⟩
theorem step_feed (m fr : Nat) (cur L : List Int) (x : Pc) (hx : x.e = true) (ht : ∀ z ∈ x.t, z ≠ 10) :
  lin m fr cur (L ++ x.all) = lin m fr cur L ++ [mkLine m (fin fr cur L).1 ((fin fr cur L).2 ++ x.t) 1] ∧ fin fr cur (L ++ x.all) = ((fin fr cur L).1 + ((fin fr cur L).2 ++ x.t).length + 1, []) := by
 have e : x.all = x.t ++ 10 :: [] := by unfold Pc.all; rw [hx]; rfl
 have h := lin_piece m x.t [] (fin fr cur L).1 (fin fr cur L).2 ht
 rw [e, lin_append, fin_append, h.1, h.2]
 exact ⟨rfl, rfl⟩

set_option maxHeartbeats 4000000 in
theorem feed_any (w : World) (g m fr : Nat) (cur : List Int) (O : Option Addr) (co : Nat) (A0 : Option Addr) (n0 c0 : Nat) (l0 : List Int) (h : IsFr w g m (fr + cur.length) fr cur false O co)
  (hs : Sl w A0 n0 l0) (ht : Tidy A0 c0) (hc : n0 ≤ c0) (hA : ∀ ad, A0 = some ad → ad.block ≠ g) (hA2 : ∀ ad, A0 = some ad → ad.block < w.heap.size) (hO : ∀ ad, O = some ad → ad.block < w.heap.size) (hb : fr + cur.length + n0 ≤ 99000) :
  Calls Tryz.prog 52 #[.pointer (some ⟨g, 0, none⟩), .slice A0 n0 c0] w fun e w' => ∃ v O' co', e = .returned (.tuple #[v, .int .i64 0]) ∧ OwnL w' w.heap.size v (lin m fr cur l0) ∧
   IsFr w' g m ((fin fr cur l0).1 + (fin fr cur l0).2.length) (fin fr cur l0).1 (fin fr cur l0).2 false O' co' ∧ (∀ ad, O' = some ad → v.ownBlock ≠ some ad.block ∧ (O' = O ∨ w.heap.size ≤ ad.block) ∧ ad.block < w'.heap.size) ∧ w.grownBy w' (some g) := by
 refine (callsIn_wide (n := 3)).1 ?_
 have b0 := (Below.refl w.heap.size w).alloc (Nat.le_refl _) (.cells #[.pointer (some ⟨g, 0, none⟩)] 73)
 have b1 := b0.alloc (by simp) (.cells #[.slice none 0 0] 115)
 have H1 := Lib.hid (h.below b0)
 have H0 := Lib.hid h
 clear h
 refine callsIn_of_wp_marks Tryz.func52 rfl trivial ?_ rfl
 simp only [Tryz.ntmps52, List.size_toArray, List.length_cons, List.length_nil, Nat.reduceAdd, Nat.reduceSub, Array.replicate_succ, Array.replicate_zero, List.push_toArray, List.append_toArray, List.nil_append, List.cons_append]
 gi_wp2_with fail
 refine ⟨trivial, (callsIn_wide.2 (check_any _ g m _ fr cur false O co H1.out)).mono ?_⟩
 rintro e w1 ⟨rfl, rfl⟩
 rw [if_neg (by decide : ¬ (false = true))]
 gi_wp2_with fail
 refine ⟨trivial, (callsIn_wide.2 (pieces_any (.slice A0 n0 c0) _ rfl)).mono ?_⟩
 rintro e w1 ⟨rfl, rfl⟩
 gi_wp2_with fail
 have hgl := H0.out.lt
 have hAs : ∀ ad, A0 = some ad → some (w.heap.size + 2) ≠ some ad.block := fun ad e e2 => by have := hA2 ad e; have := Option.some.inj e2; omega
 have hK2 : ∀ {X Y : World}, Kf (w.heap.size + 3) g (w.heap.size + 1) X Y → Sl X A0 n0 l0 → Sl Y A0 n0 l0 := by
  intro X Y hk hx
  obtain ⟨h1, h2, h3⟩ := hx
  refine ⟨h1, h2, ?_⟩
  rcases h3 with h0 | ⟨b, off, rfl, hlt, hc⟩
  ·exact .inl h0
  ·have hbl := hA2 _ rfl
   have hbg := hA _ rfl
   exact .inr ⟨b, off, rfl, Nat.lt_of_lt_of_le hlt hk.1, fun i hi => (World.cell?_of_block (hk.2 b (by show b < _; have : b < w.heap.size := hbl; omega) hbg (by have : b < w.heap.size := hbl; omega))).trans (hc i hi)⟩
 have b2 := b1.alloc (o := .cells #[.slice A0 n0 c0] 22) (by simp; omega)
 have hbx := heap_alloc_new ((w.alloc (.cells #[.pointer (some ⟨g, 0, none⟩)] 73)).alloc (.cells #[.slice none 0 0] 115)) (.cells #[.slice A0 n0 c0] 22)
 rw [World.size_alloc, World.size_alloc] at hbx
 have hseq := pieces_stops (Kp := Kf (w.heap.size + 3) g (w.heap.size + 1)) hbx (hs.below b2) ht hc (by omega) hAs (fun hk => hk.2 _ (by omega) (by omega) (by omega)) hK2
 have hfb : (((w.alloc (.cells #[.pointer (some ⟨g, 0, none⟩)] 73)).alloc (.cells #[.slice none 0 0] 115)).alloc (.cells #[.slice A0 n0 c0] 22)).heap[w.heap.size]? = some (.cells #[.pointer (some ⟨g, 0, none⟩)] 73 (0, 0)) :=
  (Below.heap_alloc _ _ _ (by simp; omega)).trans ((Below.heap_alloc _ _ _ (by simp)).trans (heap_alloc_new w _))
 have hob : (((w.alloc (.cells #[.pointer (some ⟨g, 0, none⟩)] 73)).alloc (.cells #[.slice none 0 0] 115)).alloc (.cells #[.slice A0 n0 c0] 22)).heap[w.heap.size + 1]? = some (.cells #[.slice none 0 0] 115 (0, 0)) := by
  have := heap_alloc_new (w.alloc (.cells #[.pointer (some ⟨g, 0, none⟩)] 73)) (.cells #[.slice none 0 0] 115)
  rw [World.size_alloc] at this
  exact (Below.heap_alloc _ _ _ (by simp)).trans this
 have hsz : (((w.alloc (.cells #[.pointer (some ⟨g, 0, none⟩)] 73)).alloc (.cells #[.slice none 0 0] 115)).alloc (.cells #[.slice A0 n0 c0] 22)).heap.size = w.heap.size + 3 := by simp
 have H2 := H0.out.below b2
 have hstart : FeedAt w g m fr cur O [] (((w.alloc (.cells #[.pointer (some ⟨g, 0, none⟩)] 73)).alloc (.cells #[.slice none 0 0] 115)).alloc (.cells #[.slice A0 n0 c0] 22)) :=
  ⟨hfb, ⟨.slice none 0 0, O, co, hob, ownL_nil _ _, H2, fun ad e => ⟨fun e2 => (by cases e2), .inl rfl, Nat.lt_of_lt_of_le (hO ad e) b2.size⟩⟩, grown_below b2, by rw [hsz]; exact Nat.le_refl _⟩
 generalize ((w.alloc (.cells #[.pointer (some ⟨g, 0, none⟩)] 73)).alloc (.cells #[.slice none 0 0] 115)).alloc (.cells #[.slice A0 n0 c0] 22) = W0 at hseq hsz hstart ⊢
 refine wpIn_rangeFunc_box (gf := 140) rfl (enters_of Tryz.func140 (by kernel_rfl) rfl) hseq (by omega) ?kt ?kb (Below.refl _ _) (fun _ => rfl) ?ok
  (fun pre W => FeedAt w g m fr cur O (joined pre) W) ?own ?box hstart ?a1 ?assign ?body ?done
 case kt => exact fun h1 h2 => ⟨Nat.le_trans h1.1 h2.1, fun k hk hg ho => (h2.2 k hk hg ho).trans (h1.2 k hk hg ho)⟩
 case kb => exact fun W l o' hl => ⟨by simp, fun k hk hg ho => World.putObj_heap_other (by omega)⟩
 case ok => exact fun pre x W l o o' h hl ho => ⟨h.1.other (grownBy_putObj' W l o') (fun r e => by cases e; exact ⟨o, hl, ho⟩), h.2⟩
 case own => exact fun s X Y row hx hg hr => hx.other hg (fun r e => ⟨by have := (hr r e).1; omega, (hr r e).2⟩)
 case box => exact fun s X v hx => hx.box hgl hO v
 case assign =>
  intro l x W K hK
  simp only [Pc.enc]
  gi_wp2
  exact hK
 case body =>
  rintro l pre x W hF hok
  obtain ⟨xA, xn, xc, xt, xe⟩ := x
  obtain ⟨k1, k2, k3, k4, more, k5⟩ := hok
  dsimp only at k1 k2 k3 k4
  have hxl : xt.length = xn := k1.1
  obtain ⟨v, O1, co1, p1, p2, p3, p4⟩ := hF.out
  have hfs := fin_size (joined pre) fr cur
  have hlen : (joined pre).length + (Pc.all ⟨xA, xn, xc, xt, xe⟩).length ≤ n0 := by
   have := congrArg List.length k5
   rw [joined_snoc, List.length_append, List.length_append, hs.1] at this
   omega
  have hall : xn ≤ (Pc.all ⟨xA, xn, xc, xt, xe⟩).length := by unfold Pc.all; rw [List.length_append, hxl]; omega
  obtain ⟨f1, hf1⟩ : ∃ f1, f1 = (fin fr cur (joined pre)).1 := ⟨_, rfl⟩
  obtain ⟨c1, hc1⟩ : ∃ c1, c1 = (fin fr cur (joined pre)).2 := ⟨_, rfl⟩
  obtain ⟨ls, hls⟩ : ∃ ls, ls = lin m fr cur (joined pre) := ⟨_, rfl⟩
  rw [← hf1, ← hc1] at p3 hfs
  rw [← hls] at p2
  obtain ⟨at1, hat⟩ : ∃ at1, at1 = f1 + c1.length := ⟨_, rfl⟩
  rw [← hat] at p3
  have hxb : xn ≤ 1000 ∨ True := .inr trivial
  have M0 : MidAt w W g m O xA xn xt v ls W at1 f1 c1 O1 co1 := ⟨p3, hF.fbox, p1, p2, k1, p4, hF.grown, KeepsFrom.refl _ _, ⟨Nat.le_refl _, fun _ _ _ _ => rfl⟩, hgl, hF.sz⟩
  obtain ⟨d0, _, _⟩ := M0.cells
  obtain ⟨e0, e1, e2, e3, e4⟩ := p3.cells
  have q1 := p3.free 1
  have hba : at1 + xn + 1 ≤ 99001 ∧ f1 + (c1.length + xt.length) + 1 ≤ 99001 := by omega
  have hw8 : IntKind.i64.wrap ((at1 : Int) + (xn : Int)) = (at1 : Int) + (xn : Int) := by rw [IntKind.wrap_i64]; omega
  have M1 := M0.put_at (at1 + xn) (by omega)
  rw [show ((at1 + xn : Nat) : Int) = (at1 : Int) + (xn : Int) from Int.natCast_add _ _] at M1
  have HM1 := Lib.hid M1
  have HLS := Lib.hid hls
  have HF1 := Lib.hid hf1
  have HC1 := Lib.hid hc1
  have HAT := Lib.hid hat
  have HFS := Lib.hid hfs
  have HBA := Lib.hid hba
  have HXL := Lib.hid hxl
  have HK4 := Lib.hid k4
  have HK5 := Lib.hid k5
  have HLN := Lib.hid hlen
  have HAL := Lib.hid hall
  clear hF k1 p1 p2 p3 p4 hls hf1 hc1 hstart hseq b0 b1 b2 H1 H2 M0 M1 hat hfs hba hxl k4 k5 hlen hall hxb hbx hfb hob
  gi_wp2_with fail
  have M1 := HM1.out
  generalize W.setCell ⟨g, 1, none⟩ (.int .i64 ((at1 : Int) + (xn : Int))) = X at M1 ⊢
  clear HM1 d0 e0 e1 e2 e3 e4 q1
  obtain ⟨d0, _, _⟩ := M1.cells
  obtain ⟨e0, e1, e2, e3, e4⟩ := M1.fr.cells
  have HM1 := Lib.hid M1
  clear M1
  refine region_round (fun W => W.cell? ⟨w.heap.size, 0, none⟩ = some (.pointer (some ⟨g, 0, none⟩)) ∧ W.cell? ⟨g, 1, none⟩ = some (.int .i64 ((at1 + xn : Nat) : Int))) 99 (by kernel_rfl) (by kernel_rfl) (fun ⟨_, _, h⟩ => h) ?_
  have hS : X.drew.cell? ⟨w.heap.size, 0, none⟩ = some (.pointer (some ⟨g, 0, none⟩)) ∧ X.drew.cell? ⟨g, 1, none⟩ = some (.int .i64 ((at1 + xn : Nat) : Int)) := ⟨d0, e1⟩
  refine z_t 0 (v := ?_) hS ?_ ?_
  rotate_left
  ·(rintro wS ⟨s0, s1⟩; go_simp <;> with_reducible rfl)
  simp only [Act.put, List.setIfInBounds_toArray, List.set_cons_zero, List.set_cons_succ]
  refine z_t 1 (v := ?_) hS ?_ ?_
  rotate_left
  ·(rintro wS ⟨s0, s1⟩; go_simp <;> with_reducible rfl)
  simp only [Act.put, List.setIfInBounds_toArray, List.set_cons_zero, List.set_cons_succ]
  refine z_t 2 (v := ?_) hS ?_ ?_
  rotate_left
  ·(rintro wS ⟨s0, s1⟩; go_simp <;> with_reducible rfl)
  simp only [Act.put, List.setIfInBounds_toArray, List.set_cons_zero, List.set_cons_succ]
  refine z_t 3 (v := ?_) hS ?_ ?_
  rotate_left
  ·(rintro wS ⟨s0, s1⟩; go_simp <;> with_reducible rfl)
  simp only [Act.put, List.setIfInBounds_toArray, List.set_cons_zero, List.set_cons_succ]
  refine z_t 4 (v := ?_) hS ?_ ?_
  rotate_left
  ·(rintro wS ⟨s0, s1⟩; go_simp <;> with_reducible rfl)
  simp only [Act.put, List.setIfInBounds_toArray, List.set_cons_zero, List.set_cons_succ]
  refine z_one (i := 5) (by kernel_rfl) rfl rfl ?_
  go_simp
  refine (long_any _ g m (at1 + xn) f1 c1 false O1 co1 (HM1.out.fr.below (Below.refl _ _).drew) (at1 + xn) (by have := HAT.out; omega) (by have := HBA.out; omega)).mono ?_
  rintro e w1 ⟨rfl, n1, rfl⟩
  refine ⟨hS, z_done (by kernel_rfl) ?_ _⟩
  have M2 := (HM1.out.below (Below.refl _ _).drew).drewN n1
  generalize X.drew.drewN n1 = X2 at M2 ⊢
  clear hS d0 e0 e1 e2 e3 e4 HM1
  obtain ⟨d0, _, _⟩ := M2.cells
  obtain ⟨e0, e1, e2, e3, e4⟩ := M2.fr.cells
  have q3 := M2.fr.free 3
  have q1 := M2.fr.free 1
  have hdl : decide (m < at1 + xn - f1) = decide (m < c1.length + xt.length) := by rw [HAT.out, HXL.out]; congr 1; rw [Nat.add_assoc, Nat.add_sub_cancel_left]
  rw [hdl]
  have HM2 := Lib.hid M2
  clear M2 hdl
  have hw13 : IntKind.i64.wrap ((at1 : Int) + (xn : Int) + 1) = (at1 : Int) + (xn : Int) + 1 := by have := HBA.out; rw [IntKind.wrap_i64]; omega
  by_cases hl : m < c1.length + xt.length
  ·rw [decide_eq_true hl]
   have M3 := HM2.out.long hl (by have := HBA.out; omega)
   have HM3 := Lib.hid M3
   clear M3
   cases xe with
   | false =>
    gi_wp2_with fail
    obtain ⟨g1, g2⟩ := step_free m fr cur (joined pre) ⟨xA, xn, xc, xt, false⟩ rfl HK4.out
    rw [← HLS.out] at g1
    rw [← HF1.out, ← HC1.out] at g2
    refine ⟨by rw [hsz]; exact HM3.out.kf, HM3.out.kp, ?_⟩
    dsimp only
    rw [joined_snoc]
    exact HM3.out.feed g1 g2 (by have := HAT.out; have := HXL.out; simp only [List.length_append]; omega)
   | true =>
    gi_wp2_with fail
    have M4 := HM3.out.put_at (at1 + xn + 1) (by have := HBA.out; omega)
    rw [show ((at1 + xn + 1 : Nat) : Int) = (at1 : Int) + (xn : Int) + 1 from by push_cast; rfl] at M4
    generalize World.setCell (X2.setCell ⟨g, 3, none⟩ (.slice none 0 0)) ⟨g, 1, none⟩ (.int .i64 ((at1 : Int) + (xn : Int) + 1)) = X4 at M4 ⊢
    refine region_round (SM w g (at1 + xn + 1) v) 14 (by kernel_rfl) (by kernel_rfl) (fun ⟨_, _, h⟩ => h) ?_
    have hS : SM w g (at1 + xn + 1) v X4.drew := ⟨M4.cells.1, M4.fr.cells.2.1, M4.cells.2.1⟩
    have HM4 := Lib.hid M4
    clear M4
    refine z_t 0 (v := ?_) hS ?_ ?_
    rotate_left
    ·(rintro wS ⟨s0, s1, s2⟩; go_simp <;> with_reducible rfl)
    simp only [Act.put, List.setIfInBounds_toArray, List.set_cons_zero, List.set_cons_succ]
    refine z_t 1 (v := ?_) hS ?_ ?_
    rotate_left
    ·(rintro wS ⟨s0, s1, s2⟩; go_simp <;> with_reducible rfl)
    simp only [Act.put, List.setIfInBounds_toArray, List.set_cons_zero, List.set_cons_succ]
    refine z_t 2 (v := ?_) hS ?_ ?_
    rotate_left
    ·(rintro wS ⟨s0, s1, s2⟩; go_simp <;> with_reducible rfl)
    simp only [Act.put, List.setIfInBounds_toArray, List.set_cons_zero, List.set_cons_succ]
    refine z_t 3 (v := ?_) hS ?_ ?_
    rotate_left
    ·(rintro wS ⟨s0, s1, s2⟩; go_simp <;> with_reducible rfl)
    simp only [Act.put, List.setIfInBounds_toArray, List.set_cons_zero, List.set_cons_succ]
    refine z_t 4 (v := ?_) hS ?_ ?_
    rotate_left
    ·(rintro wS ⟨s0, s1, s2⟩; go_simp <;> with_reducible rfl)
    simp only [Act.put, List.setIfInBounds_toArray, List.set_cons_zero, List.set_cons_succ]
    refine z_t 5 (v := ?_) hS ?_ ?_
    rotate_left
    ·(rintro wS ⟨s0, s1, s2⟩; go_simp <;> with_reducible rfl)
    simp only [Act.put, List.setIfInBounds_toArray, List.set_cons_zero, List.set_cons_succ]
    refine z_t 6 (v := ?_) hS ?_ ?_
    rotate_left
    ·(rintro wS ⟨s0, s1, s2⟩; go_simp <;> with_reducible rfl)
    simp only [Act.put, List.setIfInBounds_toArray, List.set_cons_zero, List.set_cons_succ]
    refine z_t 7 (v := ?_) hS ?_ ?_
    rotate_left
    ·(rintro wS ⟨s0, s1, s2⟩; go_simp <;> with_reducible rfl)
    simp only [Act.put, List.setIfInBounds_toArray, List.set_cons_zero, List.set_cons_succ]
    refine z_t 8 (v := ?_) hS ?_ ?_
    rotate_left
    ·(rintro wS ⟨s0, s1, s2⟩; go_simp <;> with_reducible rfl)
    simp only [Act.put, List.setIfInBounds_toArray, List.set_cons_zero, List.set_cons_succ]
    refine z_t 9 (v := ?_) hS ?_ ?_
    rotate_left
    ·(rintro wS ⟨s0, s1, s2⟩; go_simp <;> with_reducible rfl)
    simp only [Act.put, List.setIfInBounds_toArray, List.set_cons_zero, List.set_cons_succ]
    refine z_t 10 (v := ?_) hS ?_ ?_
    rotate_left
    ·(rintro wS ⟨s0, s1, s2⟩; go_simp <;> with_reducible rfl)
    simp only [Act.put, List.setIfInBounds_toArray, List.set_cons_zero, List.set_cons_succ]
    have hline := line_any X4.drew g m (at1 + xn + 1) f1 (c1 ++ xt) false _ _ (HM4.out.fr.below (Below.refl _ _).drew) 1 (by omega) (by have := HBA.out; simp only [List.length_append]; omega)
    have ha1 : f1 + (c1 ++ xt).length = at1 + xn := by have := HAT.out; have := HXL.out; simp only [List.length_append]; omega
    rw [show ((f1 + (c1 ++ xt).length : Nat) : Int) = (at1 : Int) + (xn : Int) from by rw [ha1]; push_cast; rfl, show ((f1 + (c1 ++ xt).length + 1 : Nat) : Int) = (at1 : Int) + (xn : Int) + 1 from by rw [ha1]; push_cast; rfl] at hline
    have HLI := Lib.hid hline
    have HA1 := Lib.hid ha1
    clear hline ha1
    refine z_one (i := 11) (by kernel_rfl) rfl rfl ?_
    go_simp
    refine HLI.out.mono ?_
    rintro e w1 ⟨rfl, hf, hgw⟩
    obtain ⟨q, qn, qc, Z, v', rfl, r14, ⟨sY, sA, sZ⟩, zfr, zk, zp, zfeed⟩ := (HM4.out.below (Below.refl _ _).drew).line hf hgw (mkLine m f1 (c1 ++ xt) 1) 115 (by rw [HLS.out]; have := lin_length m (joined pre) fr cur; have := HLN.out; omega)
    refine ⟨sY, ?_⟩
    simp only [lvv] at r14 sA ⊢
    refine z_one (i := 12) (by kernel_rfl) rfl rfl ?_
    go_simp
    refine z_one (i := 13) (by kernel_rfl) rfl rfl ?_
    refine wp_append_run rfl rfl rfl r14 ⟨.inr sZ, ?_⟩
    simp only [Act.put, List.getElem_toArray, List.getElem_cons_zero, List.getElem_cons_succ, List.setIfInBounds_toArray, List.set_cons_zero, List.set_cons_succ]
    obtain ⟨y0, y1, y2⟩ := sZ
    refine z_one (i := 14) (by kernel_rfl) rfl rfl ?_
    go_simp
    refine z_done (by kernel_rfl) ?_ _
    obtain ⟨g1, g2⟩ := step_feed m fr cur (joined pre) ⟨xA, xn, xc, xt, true⟩ rfl HK4.out
    rw [← HLS.out, ← HF1.out, ← HC1.out] at g1
    rw [← HF1.out, ← HC1.out] at g2
    refine ⟨by rw [hsz]; exact zk, zp, ?_⟩
    dsimp only
    rw [joined_snoc]
    exact zfeed fr cur _ g1 g2 (by rw [HA1.out])
  ·rw [decide_eq_false hl]
   rw [show opn m c1 = c1 from by unfold opn; rw [if_neg (by omega)]] at e3
   obtain ⟨A', c', Y, r1, r3, rc, M3⟩ := (HM2.out.below (Below.refl _ _).drew).more hl (by have := HBA.out; omega) HXL.out.symm k2 22
   gi_wp2_with fail
   refine region_round (fun W => W.cell? ⟨w.heap.size, 0, none⟩ = some (.pointer (some ⟨g, 0, none⟩)) ∧ W.cell? ⟨g, 3, none⟩ = some (.slice O1 c1.length co1)) 20 (by kernel_rfl) (by kernel_rfl) (fun ⟨_, _, h⟩ => h) ?_
   have hS : X2.drew.cell? ⟨w.heap.size, 0, none⟩ = some (.pointer (some ⟨g, 0, none⟩)) ∧ X2.drew.cell? ⟨g, 3, none⟩ = some (.slice O1 c1.length co1) := ⟨d0, e3⟩
   refine z_t 0 (v := ?_) hS ?_ ?_
   rotate_left
   ·(rintro wS ⟨s0, s1⟩; go_simp <;> with_reducible rfl)
   simp only [Act.put, List.setIfInBounds_toArray, List.set_cons_zero, List.set_cons_succ]
   refine z_t 1 (v := ?_) hS ?_ ?_
   rotate_left
   ·(rintro wS ⟨s0, s1⟩; go_simp <;> with_reducible rfl)
   simp only [Act.put, List.setIfInBounds_toArray, List.set_cons_zero, List.set_cons_succ]
   refine z_t 2 (v := ?_) hS ?_ ?_
   rotate_left
   ·(rintro wS ⟨s0, s1⟩; go_simp <;> with_reducible rfl)
   simp only [Act.put, List.setIfInBounds_toArray, List.set_cons_zero, List.set_cons_succ]
   refine z_t 3 (v := ?_) hS ?_ ?_
   rotate_left
   ·(rintro wS ⟨s0, s1⟩; go_simp <;> with_reducible rfl)
   simp only [Act.put, List.setIfInBounds_toArray, List.set_cons_zero, List.set_cons_succ]
   refine z_t 4 (v := ?_) hS ?_ ?_
   rotate_left
   ·(rintro wS ⟨s0, s1⟩; go_simp <;> with_reducible rfl)
   simp only [Act.put, List.setIfInBounds_toArray, List.set_cons_zero, List.set_cons_succ]
   refine z_t 5 (v := ?_) hS ?_ ?_
   rotate_left
   ·(rintro wS ⟨s0, s1⟩; go_simp <;> with_reducible rfl)
   simp only [Act.put, List.setIfInBounds_toArray, List.set_cons_zero, List.set_cons_succ]
   refine z_t 6 (v := ?_) hS ?_ ?_
   rotate_left
   ·(rintro wS ⟨s0, s1⟩; go_simp <;> with_reducible rfl)
   simp only [Act.put, List.setIfInBounds_toArray, List.set_cons_zero, List.set_cons_succ]
   refine z_t 7 (v := ?_) hS ?_ ?_
   rotate_left
   ·(rintro wS ⟨s0, s1⟩; go_simp <;> with_reducible rfl)
   simp only [Act.put, List.setIfInBounds_toArray, List.set_cons_zero, List.set_cons_succ]
   refine z_t 8 (v := ?_) hS ?_ ?_
   rotate_left
   ·(rintro wS ⟨s0, s1⟩; go_simp <;> with_reducible rfl)
   simp only [Act.put, List.setIfInBounds_toArray, List.set_cons_zero, List.set_cons_succ]
   refine z_t 9 (v := ?_) hS ?_ ?_
   rotate_left
   ·(rintro wS ⟨s0, s1⟩; go_simp <;> with_reducible rfl)
   simp only [Act.put, List.setIfInBounds_toArray, List.set_cons_zero, List.set_cons_succ]
   refine z_t 10 (v := ?_) hS ?_ ?_
   rotate_left
   ·(rintro wS ⟨s0, s1⟩; go_simp <;> with_reducible rfl)
   simp only [Act.put, List.setIfInBounds_toArray, List.set_cons_zero, List.set_cons_succ]
   refine z_t 11 (v := ?_) hS ?_ ?_
   rotate_left
   ·(rintro wS ⟨s0, s1⟩; go_simp <;> with_reducible rfl)
   simp only [Act.put, List.setIfInBounds_toArray, List.set_cons_zero, List.set_cons_succ]
   refine z_t 12 (v := ?_) hS ?_ ?_
   rotate_left
   ·(rintro wS ⟨s0, s1⟩; go_simp <;> with_reducible rfl)
   simp only [Act.put, List.setIfInBounds_toArray, List.set_cons_zero, List.set_cons_succ]
   refine z_t 13 (v := ?_) hS ?_ ?_
   rotate_left
   ·(rintro wS ⟨s0, s1⟩; go_simp <;> with_reducible rfl)
   simp only [Act.put, List.setIfInBounds_toArray, List.set_cons_zero, List.set_cons_succ]
   refine z_t 14 (v := ?_) hS ?_ ?_
   rotate_left
   ·(rintro wS ⟨s0, s1⟩; go_simp <;> with_reducible rfl)
   simp only [Act.put, List.setIfInBounds_toArray, List.set_cons_zero, List.set_cons_succ]
   refine z_t 16 (v := ?_) hS ?_ ?_
   rotate_left
   ·(rintro wS ⟨s0, s1⟩; go_simp <;> with_reducible rfl)
   simp only [Act.put, List.setIfInBounds_toArray, List.set_cons_zero, List.set_cons_succ]
   have hsl := fun w' => run_tight w' O1 c1.length co1 (by have := HM2.out.fr.le; rwa [show opn m c1 = c1 from by unfold opn; rw [if_neg (by omega)]] at this) HM2.out.fr.nil
   refine z_one (i := 15) (by kernel_rfl) rfl rfl ?_
   go_simp
   refine z_one (i := 17) (by kernel_rfl) rfl rfl ?_
   refine wp_append_run rfl rfl rfl r1 ⟨.inr ⟨(r3.cell (p := ⟨w.heap.size, 0, none⟩) (World.block_lt_of_cell? _ _ hS.1)).trans hS.1, rc⟩, ?_⟩
   have hS : Y.cell? ⟨w.heap.size, 0, none⟩ = some (.pointer (some ⟨g, 0, none⟩)) ∧ Y.cell? ⟨g, 3, none⟩ = some (.slice O1 c1.length co1) := ⟨(r3.cell (p := ⟨w.heap.size, 0, none⟩) (World.block_lt_of_cell? _ _ hS.1)).trans hS.1, rc⟩
   simp only [Act.put, List.getElem_toArray, List.getElem_cons_zero, List.getElem_cons_succ, List.setIfInBounds_toArray, List.set_cons_zero, List.set_cons_succ]
   obtain ⟨d0, e3⟩ := hS
   have e1 : Y.cell? ⟨g, 1, none⟩ = some (.int .i64 ((at1 + xn : Nat) : Int)) := ((HM2.out.fr.below (Below.refl _ _).drew).below r3).cells.2.1
   have q3 : Y.frozen? ⟨g, 3, none⟩ = false := ((HM2.out.fr.below (Below.refl _ _).drew).below r3).free 3
   have q1 : Y.frozen? ⟨g, 1, none⟩ = false := ((HM2.out.fr.below (Below.refl _ _).drew).below r3).free 1
   refine z_one (i := 18) (by kernel_rfl) rfl rfl ?_
   go_simp
   refine z_one (i := 19) (by kernel_rfl) rfl rfl ?_
   go_simp
   refine z_one (i := 20) (by kernel_rfl) rfl rfl ?_
   go_simp
   refine z_done (by kernel_rfl) ?_ _
   have HM3 := Lib.hid M3
   clear M3
   cases xe with
   | false =>
    gi_wp2_with fail
    obtain ⟨g1, g2⟩ := step_free m fr cur (joined pre) ⟨xA, xn, xc, xt, false⟩ rfl HK4.out
    rw [← HLS.out] at g1
    rw [← HF1.out, ← HC1.out] at g2
    refine ⟨by rw [hsz]; exact HM3.out.kf, HM3.out.kp, ?_⟩
    dsimp only
    rw [joined_snoc]
    exact HM3.out.feed g1 g2 (by have := HAT.out; have := HXL.out; simp only [List.length_append]; omega)
   | true =>
    gi_wp2_with fail
    have M4 := HM3.out.put_at (at1 + xn + 1) (by have := HBA.out; omega)
    rw [show ((at1 + xn + 1 : Nat) : Int) = (at1 : Int) + (xn : Int) + 1 from by push_cast; rfl] at M4
    generalize World.setCell (Y.setCell ⟨g, 3, none⟩ (.slice A' (c1.length + xn) c')) ⟨g, 1, none⟩ (.int .i64 ((at1 : Int) + (xn : Int) + 1)) = X4 at M4 ⊢
    refine region_round (SM w g (at1 + xn + 1) v) 14 (by kernel_rfl) (by kernel_rfl) (fun ⟨_, _, h⟩ => h) ?_
    have hS : SM w g (at1 + xn + 1) v X4.drew := ⟨M4.cells.1, M4.fr.cells.2.1, M4.cells.2.1⟩
    have HM4 := Lib.hid M4
    clear M4
    refine z_t 0 (v := ?_) hS ?_ ?_
    rotate_left
    ·(rintro wS ⟨s0, s1, s2⟩; go_simp <;> with_reducible rfl)
    simp only [Act.put, List.setIfInBounds_toArray, List.set_cons_zero, List.set_cons_succ]
    refine z_t 1 (v := ?_) hS ?_ ?_
    rotate_left
    ·(rintro wS ⟨s0, s1, s2⟩; go_simp <;> with_reducible rfl)
    simp only [Act.put, List.setIfInBounds_toArray, List.set_cons_zero, List.set_cons_succ]
    refine z_t 2 (v := ?_) hS ?_ ?_
    rotate_left
    ·(rintro wS ⟨s0, s1, s2⟩; go_simp <;> with_reducible rfl)
    simp only [Act.put, List.setIfInBounds_toArray, List.set_cons_zero, List.set_cons_succ]
    refine z_t 3 (v := ?_) hS ?_ ?_
    rotate_left
    ·(rintro wS ⟨s0, s1, s2⟩; go_simp <;> with_reducible rfl)
    simp only [Act.put, List.setIfInBounds_toArray, List.set_cons_zero, List.set_cons_succ]
    refine z_t 4 (v := ?_) hS ?_ ?_
    rotate_left
    ·(rintro wS ⟨s0, s1, s2⟩; go_simp <;> with_reducible rfl)
    simp only [Act.put, List.setIfInBounds_toArray, List.set_cons_zero, List.set_cons_succ]
    refine z_t 5 (v := ?_) hS ?_ ?_
    rotate_left
    ·(rintro wS ⟨s0, s1, s2⟩; go_simp <;> with_reducible rfl)
    simp only [Act.put, List.setIfInBounds_toArray, List.set_cons_zero, List.set_cons_succ]
    refine z_t 6 (v := ?_) hS ?_ ?_
    rotate_left
    ·(rintro wS ⟨s0, s1, s2⟩; go_simp <;> with_reducible rfl)
    simp only [Act.put, List.setIfInBounds_toArray, List.set_cons_zero, List.set_cons_succ]
    refine z_t 7 (v := ?_) hS ?_ ?_
    rotate_left
    ·(rintro wS ⟨s0, s1, s2⟩; go_simp <;> with_reducible rfl)
    simp only [Act.put, List.setIfInBounds_toArray, List.set_cons_zero, List.set_cons_succ]
    refine z_t 8 (v := ?_) hS ?_ ?_
    rotate_left
    ·(rintro wS ⟨s0, s1, s2⟩; go_simp <;> with_reducible rfl)
    simp only [Act.put, List.setIfInBounds_toArray, List.set_cons_zero, List.set_cons_succ]
    refine z_t 9 (v := ?_) hS ?_ ?_
    rotate_left
    ·(rintro wS ⟨s0, s1, s2⟩; go_simp <;> with_reducible rfl)
    simp only [Act.put, List.setIfInBounds_toArray, List.set_cons_zero, List.set_cons_succ]
    refine z_t 10 (v := ?_) hS ?_ ?_
    rotate_left
    ·(rintro wS ⟨s0, s1, s2⟩; go_simp <;> with_reducible rfl)
    simp only [Act.put, List.setIfInBounds_toArray, List.set_cons_zero, List.set_cons_succ]
    have hline := line_any X4.drew g m (at1 + xn + 1) f1 (c1 ++ xt) false _ _ (HM4.out.fr.below (Below.refl _ _).drew) 1 (by omega) (by have := HBA.out; simp only [List.length_append]; omega)
    have ha1 : f1 + (c1 ++ xt).length = at1 + xn := by have := HAT.out; have := HXL.out; simp only [List.length_append]; omega
    rw [show ((f1 + (c1 ++ xt).length : Nat) : Int) = (at1 : Int) + (xn : Int) from by rw [ha1]; push_cast; rfl, show ((f1 + (c1 ++ xt).length + 1 : Nat) : Int) = (at1 : Int) + (xn : Int) + 1 from by rw [ha1]; push_cast; rfl] at hline
    have HLI := Lib.hid hline
    have HA1 := Lib.hid ha1
    clear hline ha1
    refine z_one (i := 11) (by kernel_rfl) rfl rfl ?_
    go_simp
    refine HLI.out.mono ?_
    rintro e w1 ⟨rfl, hf, hgw⟩
    obtain ⟨q, qn, qc, Z, v', rfl, r14, ⟨sY, sA, sZ⟩, zfr, zk, zp, zfeed⟩ := (HM4.out.below (Below.refl _ _).drew).line hf hgw (mkLine m f1 (c1 ++ xt) 1) 115 (by rw [HLS.out]; have := lin_length m (joined pre) fr cur; have := HLN.out; omega)
    refine ⟨sY, ?_⟩
    simp only [lvv] at r14 sA ⊢
    refine z_one (i := 12) (by kernel_rfl) rfl rfl ?_
    go_simp
    refine z_one (i := 13) (by kernel_rfl) rfl rfl ?_
    refine wp_append_run rfl rfl rfl r14 ⟨.inr sZ, ?_⟩
    simp only [Act.put, List.getElem_toArray, List.getElem_cons_zero, List.getElem_cons_succ, List.setIfInBounds_toArray, List.set_cons_zero, List.set_cons_succ]
    obtain ⟨y0, y1, y2⟩ := sZ
    refine z_one (i := 14) (by kernel_rfl) rfl rfl ?_
    go_simp
    refine z_done (by kernel_rfl) ?_ _
    obtain ⟨g1, g2⟩ := step_feed m fr cur (joined pre) ⟨xA, xn, xc, xt, true⟩ rfl HK4.out
    rw [← HLS.out, ← HF1.out, ← HC1.out] at g1
    rw [← HF1.out, ← HC1.out] at g2
    refine ⟨by rw [hsz]; exact zk, zp, ?_⟩
    dsimp only
    rw [joined_snoc]
    exact zfeed fr cur _ g1 g2 (by rw [HA1.out])
 case done =>
  rintro D xs W hD hj hF hK
  rw [hj] at hF
  have hF2 := hF.other (grownBy_putObj' W D (.deferred none)) (fun r e => by cases e; exact ⟨by omega, _, hK, rfl⟩)
  obtain ⟨v, O', co', q1, q2, q3, q4⟩ := hF2.out
  have hcell : W.cell? ⟨w.heap.size + 1, 0, none⟩ = some v := by
   obtain ⟨v1, O1, co1, p1, p2, p3, p4⟩ := hF.out
   have := (grownBy_keeps_cells (grownBy_putObj' W D (.deferred none)) (fun r e => by cases e; exact ⟨_, hK, rfl⟩) p1 rfl).trans p1
   rw [q1] at this
   cases this
   rw [cell_of_row _ _ _ _ 115 (0, 0) p1]; rfl
  have HE := Lib.hid (show ∃ v' O' co', v = v' ∧ OwnL (W.putObj D (.deferred none)) w.heap.size v' (lin m fr cur l0) ∧
   IsFr (W.putObj D (.deferred none)) g m ((fin fr cur l0).1 + (fin fr cur l0).2.length) (fin fr cur l0).1 (fin fr cur l0).2 false O' co' ∧ (∀ ad, O' = some ad → v'.ownBlock ≠ some ad.block ∧ (O' = O ∨ w.heap.size ≤ ad.block) ∧ ad.block < (W.putObj D (.deferred none)).heap.size) ∧ w.grownBy (W.putObj D (.deferred none)) (some g) from
   ⟨v, O', co', rfl, q2.mono (by omega), q3, fun ad e => ⟨(q4 ad e).1, (q4 ad e).2.1.imp id (fun h => by omega), (q4 ad e).2.2⟩, hF2.grown⟩)
  clear q1 q2 q3 q4 hF hF2 hstart hseq
  gi_wp2
  refine ⟨by simp, .inl ⟨_, _, rfl, run_takeDeferred hK, ?_⟩⟩
  obtain ⟨v', O', co', rfl, e2, e3, e4, e5⟩ := HE.out
  exact ⟨_, by simp [results, Tryz.results12, asAddr], v, O', co', rfl, e2, e3, e4, e5⟩
end Go.Proofs.YtngmgpmkjdacaaaGreatDoor
