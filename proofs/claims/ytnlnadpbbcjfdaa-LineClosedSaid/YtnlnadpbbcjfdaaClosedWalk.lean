/-
  The walk of LineClosed.
-/
import Derived.Test.YtnlnadpbbcjfdaaWholeWalk
namespace Go.Proofs.Ytnlnadpbbcjfdaa
open Go.RowKit

set_option maxRecDepth 100000 in
set_option maxHeartbeats 8000000 in
/-- Too many bytes, or a number that may not be. -/
theorem lineClosed_out (A : Option Addr) (n c : Nat) (x : Int) (w : World) (h : 300 < n ∨ x < 1 ∨ 8192 < x) :
    Calls Try.prog 7 #[.slice A n c, .int .i64 x] w fun e w' => e = .returned (.bool true) ∧ Below w.heap.size w w' := by
  by_cases h1 : (300 : Int) < (n : Int)
  · clear h
    go_enter Try.func7, Try.ntmps7
    go_wp2_with fail
    refine (feed_nil w _).mono ?_
    rintro e w1 ⟨rfl, d1⟩
    go_wp2_with fail
    refine (close_nil _).mono ?_
    rintro e w2 ⟨rfl, d2⟩
    have HB2 := Lib.hid ((d1.trans (d2.mono d1.size)).alloc (by have := d1.size; have := d2.size; omega) (.cells #[.int .i64 0, .int .i64 0, .string ⟨#[]⟩, .bool false] 31))
    clear d1 d2
    rw [lvv_no]
    go_wp2_with fail
    refine (held_nil _).mono ?_
    rintro e w3 ⟨rfl, rfl⟩
    go_wp2_with fail
    refine (at_nil _).mono ?_
    rintro e w3 ⟨rfl, rfl⟩
    go_wp2_with fail
    refine (awake_any _).mono ?_
    rintro e w4 ⟨rfl, d4⟩
    go_wp2_with fail
    go_ret
    exact ⟨rfl, HB2.out.trans (d4.mono HB2.out.size)⟩
  · by_cases h2 : x < 1
    · clear h
      go_enter Try.func7, Try.ntmps7
      go_wp2_with fail
      refine (feed_nil w _).mono ?_
      rintro e w1 ⟨rfl, d1⟩
      go_wp2_with fail
      refine (close_nil _).mono ?_
      rintro e w2 ⟨rfl, d2⟩
      have HB2 := Lib.hid ((d1.trans (d2.mono d1.size)).alloc (by have := d1.size; have := d2.size; omega) (.cells #[.int .i64 0, .int .i64 0, .string ⟨#[]⟩, .bool false] 31))
      clear d1 d2
      rw [lvv_no]
      go_wp2_with fail
      refine (held_nil _).mono ?_
      rintro e w3 ⟨rfl, rfl⟩
      go_wp2_with fail
      refine (at_nil _).mono ?_
      rintro e w3 ⟨rfl, rfl⟩
      go_wp2_with fail
      refine (awake_any _).mono ?_
      rintro e w4 ⟨rfl, d4⟩
      go_wp2_with fail
      go_ret
      exact ⟨rfl, HB2.out.trans (d4.mono HB2.out.size)⟩
    · have h3 : 8192 < x := by omega
      clear h
      go_enter Try.func7, Try.ntmps7
      go_wp2_with fail
      refine (feed_nil w _).mono ?_
      rintro e w1 ⟨rfl, d1⟩
      go_wp2_with fail
      refine (close_nil _).mono ?_
      rintro e w2 ⟨rfl, d2⟩
      have HB2 := Lib.hid ((d1.trans (d2.mono d1.size)).alloc (by have := d1.size; have := d2.size; omega) (.cells #[.int .i64 0, .int .i64 0, .string ⟨#[]⟩, .bool false] 31))
      clear d1 d2
      rw [lvv_no]
      go_wp2_with fail
      refine (held_nil _).mono ?_
      rintro e w3 ⟨rfl, rfl⟩
      go_wp2_with fail
      refine (at_nil _).mono ?_
      rintro e w3 ⟨rfl, rfl⟩
      go_wp2_with fail
      refine (awake_any _).mono ?_
      rintro e w4 ⟨rfl, d4⟩
      go_wp2_with fail
      go_ret
      exact ⟨rfl, HB2.out.trans (d4.mono HB2.out.size)⟩

theorem far_new {O : Option Addr} {ad : Addr} {k : Nat} (h : O = none ∨ k ≤ ad.block) (e : O = some ad) : k ≤ ad.block := by
  rcases h with h | h
  · rw [h] at e; cases e
  · exact h

/-- While the bytes that were handed in are changed. -/
structure Turned (w : World) (k8 g1 g2 m at_ f : Nat) (cur : List Int) (O6 : Option Addr) (co6 : Nat) (O7 : Option Addr) (co7 : Nat) (base : Nat) (v : Value) (n : Nat) (W : World) : Prop where
  below : Below w.heap.size w W
  row : W.heap[k8]? = some (.cells #[.int .i64 0, .int .i64 0, .string ⟨#[]⟩, .bool false] 31 (0, 0))
  p : IsFr W g1 m at_ f cur false O6 co6
  q : IsFr W g2 m at_ f cur false O7 co7
  own : ∃ l, OwnB W base v n l

theorem Turned.store {w : World} {k8 g1 g2 m at_ f : Nat} {cur : List Int} {O6 O7 : Option Addr} {co6 co7 base n g cap : Nat} {W : World} (h : Turned w k8 g1 g2 m at_ f cur O6 co6 O7 co7 base (.slice (some ⟨g, 0, none⟩) n cap) n W)
    (hb : w.heap.size ≤ g) (h8 : k8 ≠ g) (h1 : g1 ≠ g) (h2 : g2 ≠ g) (h6 : ∀ ad, O6 = some ad → ad.block ≠ g) (h7 : ∀ ad, O7 = some ad → ad.block ≠ g) (j : Nat) (d : Int) (hd : 0 ≤ d ∧ d < 256) :
    Turned w k8 g1 g2 m at_ f cur O6 co6 O7 co7 base (.slice (some ⟨g, 0, none⟩) n cap) n (W.setCell ⟨g, j, none⟩ (.int .u8 d)) := by
  have hg := grown_set W g j (.int .u8 d)
  obtain ⟨l, hl⟩ := h.own
  exact ⟨h.below.setCell (p := ⟨g, j, none⟩) hb _, (heap_setCell_other _ _ _ _ h8).trans h.row, h.p.kept hg (fun e => h1 (Option.some.inj e)) (fun ad e e2 => h6 ad e (Option.some.inj e2).symm), h.q.kept hg (fun e => h2 (Option.some.inj e)) (fun ad e e2 => h7 ad e (Option.some.inj e2).symm), ⟨_, hl.store j d hd⟩⟩

theorem IsFr.kept0 {W Y : World} {g m a f co : Nat} {cl : Bool} {O : Option Addr} {row : Option Nat} (h : IsFr W g m a f [] cl O co) (hg : W.grownBy Y row) (h1 : some g ≠ row) : IsFr Y g m a f [] cl O co :=
  { h with
    row := (hg.block g h.lt h1).trans h.row
    sl := by
      have e0 : opn m [] = [] := by unfold opn; split <;> rfl
      rw [e0]
      exact sl_nil _ _ }

theorem OwnB.shape {w : World} {base : Nat} {v : Value} {n : Nat} {l : List Int} (h : OwnB w base v n l) : ∃ A c, v = .slice A n c ∧ Sl w A n l ∧ Tidy A c ∧ n ≤ c ∧ (∀ ad, A = some ad → base ≤ ad.block ∧ ad.block < w.heap.size) := by
  rcases h.2.2.2 with ⟨rfl, h0⟩ | ⟨g, cap, cur, rfl, hb, hg, hnc, _⟩
  · refine ⟨none, 0, by rw [h0], ⟨h.1, h.2.1, .inl h0⟩, .inl ⟨rfl, rfl⟩, by omega, fun ad e => by cases e⟩
  · exact ⟨_, cap, rfl, OwnB.slice h, .inr ⟨_, _, rfl⟩, hnc, fun ad e => by cases e; exact ⟨hb, (Array.getElem?_eq_some_iff.1 hg).1⟩⟩

set_option maxRecDepth 100000 in
set_option maxHeartbeats 8000000 in
theorem lineClosed_in (A : Option Addr) (n c : Nat) (l : List Int) (m : Nat) (w : World) (hs : Sl w A n l) (ht : Tidy A c) (hc : n ≤ c) (hA : ∀ ad, A = some ad → ad.block < w.heap.size) (hn : n ≤ 300) (h1 : 1 ≤ m) (h2 : m ≤ 8192) :
    Calls Try.prog 7 #[.slice A n c, .int .i64 (m : Int)] w fun e w' => e = .returned (.bool true) ∧ Below w.heap.size w w' := by
  have hni : ¬ (300 : Int) < (n : Int) := by omega
  have hm1 : ¬ (m : Int) < 1 := by omega
  have hm2 : ¬ (8192 : Int) < (m : Int) := by omega
  have HS := Lib.hid hs
  clear hs
  go_enter Try.func7, Try.ntmps7
  go_wp2_with fail
  refine (feed_nil w _).mono ?_
  rintro e w1 ⟨rfl, d1⟩
  go_wp2_with fail
  refine (close_nil _).mono ?_
  rintro e w2 ⟨rfl, d2⟩
  have hb2 := d1.trans (d2.mono d1.size)
  have HB2 := Lib.hid (hb2.alloc hb2.size (.cells #[.int .i64 0, .int .i64 0, .string ⟨#[]⟩, .bool false] 31))
  have R8 := Lib.hid (heap_alloc_new w2 (.cells #[.int .i64 0, .int .i64 0, .string ⟨#[]⟩, .bool false] 31))
  have h8 := hb2.size
  clear d1 d2 hb2
  rw [lvv_no]
  go_wp2_with fail
  refine (held_nil _).mono ?_
  rintro e w3 ⟨rfl, rfl⟩
  go_wp2_with fail
  refine (at_nil _).mono ?_
  rintro e w3 ⟨rfl, rfl⟩
  go_wp2_with fail
  refine (new_any m _ h1 h2).mono ?_
  rintro e w3 ⟨rfl, f3, d3⟩
  rw [World.size_alloc] at f3 d3
  have HB3 := Lib.hid (HB2.out.trans (d3.mono (by omega)))
  have R83 := Lib.hid ((d3.block _ (by omega)).trans R8.out)
  have HF3 := Lib.hid f3
  have hz3 := f3.lt
  clear f3 d3 R8 HB2
  rw [World.size_alloc]
  go_wp2_with fail
  refine (new_any m _ h1 h2).mono ?_
  rintro e w4 ⟨rfl, f4, d4⟩
  have hz4 := f4.lt
  have b5 := (Below.refl w4.heap.size w4).alloc (Nat.le_refl _) (.cells #[] 5)
  have HB4 := Lib.hid (HB3.out.trans (d4.mono (by omega)))
  have R84 := Lib.hid (((b5.block _ (by omega)).trans ((d4.block _ (by omega)).trans R83.out)))
  have HFP := Lib.hid ((HF3.out.below d4).below b5)
  have HFQ := Lib.hid (f4.below b5)
  have HSB := Lib.hid (HS.out.below (HB4.out.alloc (by have := HB4.out.size; omega) (.cells #[] 5)))
  have HO := Lib.hid (ownB_made w4 w4.heap.size (Nat.le_refl _))
  clear f4 d4 HF3 HB3 R83 b5
  have hlt5 : 0 + n ≤ 100000 := by omega
  have hbs5 : w4.heap.size ≤ (w4.alloc (.cells #[] 5)).heap.size := by simp
  have htn := ht.nil
  go_wp2_with (at_builtin; refine append_bytes _ rfl _ _ rfl w4.heap.size (.slice (some ⟨w4.heap.size, 0, none⟩) 0 0) 0 [] rfl HO.out A n c l rfl HSB.out htn hlt5 hbs5 ?_; intro v5 w5 hown hg hat)
  rw [Nat.zero_add, List.nil_append] at hown
  obtain ⟨A5, c5, rfl, S5, t5, l5, hA5⟩ := hown.shape
  have g5 : (w4.alloc (.cells #[] 5)).grownBy w5 (some w4.heap.size) := hg
  have hz5 := g5.size
  rw [World.size_alloc] at hz5
  have HB5 := Lib.hid ((HB4.out.alloc (by have := HB4.out.size; omega) (.cells #[] 5)).grown g5 (by have := HB4.out.size; simp; omega) (fun k e => by cases e; exact HB4.out.size))
  have R85 := Lib.hid ((g5.block _ (by simp; omega) (by intro e; have := Option.some.inj e; omega)).trans R84.out)
  have HFP5 := Lib.hid (HFP.out.kept g5 (by intro e; have := Option.some.inj e; omega) (fun ad e => by cases e))
  have HFQ5 := Lib.hid (HFQ.out.kept g5 (by intro e; have := Option.some.inj e; omega) (fun ad e => by cases e))
  have HS5 := Lib.hid S5
  have HOW5 := Lib.hid hown
  have HA5 := Lib.hid hA5
  have hB4s := HB4.out.size
  clear hg hat hown S5 g5 hA5 HFP HFQ HO HSB R84 HB4
  go_wp2_with fail
  have hfe := feed_any w5 (w2.heap.size + 1) m 0 [] none 0 A5 n c5 l HFP5.out HS5.out t5 l5 (fun ad e => by have := (HA5.out ad e).1; omega) (fun ad e => (HA5.out ad e).2) (fun ad e => by cases e) (by simp; omega)
  have HFE := Lib.hid hfe
  clear hfe
  refine HFE.out.mono ?_
  rintro e w6 ⟨v6, O6, co6, rfl, _, f6, far6, g6⟩
  have hz6 := g6.size
  have HB6 := Lib.hid (HB5.out.grown g6 HB5.out.size (fun k e => by have := Option.some.inj e; omega))
  have R86 := Lib.hid ((g6.block _ (by omega) (by intro e; have := Option.some.inj e; omega)).trans R85.out)
  have HFQ6 := Lib.hid (HFQ5.out.kept g6 (by intro e; have := Option.some.inj e; omega) (fun ad e => by cases e))
  have HOW6 : Hid (OwnB w6 w4.heap.size (.slice A5 n c5) n l) := Lib.hid ⟨HOW5.out.1, HOW5.out.2.1, World.ownsRow.kept HOW5.out.2.2 g6 (by
    cases hv : (Value.slice A5 n c5).ownBlock with
    | none => exact .inl rfl
    | some b => exact .inr (fun e => by have := (World.ownsRow.lt HOW5.out.2.2 b hv).1; have := Option.some.inj e; omega))⟩
  have HF6 := Lib.hid f6
  have HFAR6 := Lib.hid (fun ad e => show w5.heap.size ≤ ad.block ∧ ad.block < w6.heap.size from ⟨far_new (far6 ad e).2.1 e, (far6 ad e).2.2⟩)
  have hfe := feed_any w6 w3.heap.size m 0 [] none 0 A n c l HFQ6.out (HS.out.below HB6.out) ht hc (fun ad e => by have := hA ad e; omega) (fun ad e => by have := hA ad e; have := HB6.out.size; omega) (fun ad e => by cases e) (by simp; omega)
  have HFE2 := Lib.hid hfe
  clear hfe f6 far6 g6 HFE HB5 R85 HFP5 HFQ5 HS5 HOW5
  go_wp2_with fail
  refine HFE2.out.mono ?_
  rintro e w7 ⟨v7, O7, co7, rfl, _, f7, far7, g7⟩
  have HT : Hid (Turned w w2.heap.size (w2.heap.size + 1) w3.heap.size m ((fin 0 [] l).1 + (fin 0 [] l).2.length) (fin 0 [] l).1 (fin 0 [] l).2 O6 co6 O7 co7 w4.heap.size (.slice A5 n c5) n w7) := Lib.hid
    { below := HB6.out.grown g7 HB6.out.size (fun k e => by have := Option.some.inj e; omega)
      row := (g7.block _ (by omega) (by intro e; have := Option.some.inj e; omega)).trans R86.out
      p := HF6.out.kept g7 (by intro e; have := Option.some.inj e; omega) (fun ad e e2 => by have := (HFAR6.out ad e).1; have := Option.some.inj e2; omega)
      q := f7
      own := ⟨l, HOW6.out.1, HOW6.out.2.1, World.ownsRow.kept HOW6.out.2.2 g7 (by
        cases hv : (Value.slice A5 n c5).ownBlock with
        | none => exact .inl rfl
        | some b => exact .inr (fun e => by have := (World.ownsRow.lt HOW6.out.2.2 b hv).1; have := Option.some.inj e; omega))⟩ }
  have H6 := Lib.hid (fun ad e => show w5.heap.size ≤ ad.block from (HFAR6.out ad e).1)
  have H7 := Lib.hid (fun ad e => show w6.heap.size ≤ ad.block from far_new (far7 ad e).2.1 e)
  clear f7 far7 g7 HFE2 HB6 R86 HFQ6 HOW6 HF6 HFAR6
  go_wp2_with fail
  go_loopw [16] (fun vi wr => ∃ k : Nat, vi = .int .i64 k ∧ k ≤ n ∧ Hid (Turned w w2.heap.size (w2.heap.size + 1) w3.heap.size m ((fin 0 [] l).1 + (fin 0 [] l).2.length) (fin 0 [] l).1 (fin 0 [] l).2 O6 co6 O7 co7 w4.heap.size (.slice A5 n c5) n wr)) (fun vi _ => n - (intOf vi).toNat)
  case atStart => exact ⟨0, rfl, Nat.zero_le _, HT⟩
  case round =>
    obtain ⟨k, rfl, hk, HI⟩ := hrel
    clear HT
    by_cases hkn : k < n
    · have hki : (k : Int) < (n : Int) := by omega
      obtain ⟨l2, hl2⟩ := HI.out.own
      obtain ⟨g, cap, e5, hgb, hgl, _, hsl⟩ := hl2.form (by omega)
      cases e5
      have hfree := hl2.free k
      obtain ⟨b', o', e6, _, hcell⟩ := hsl.at k hkn
      cases e6
      rw [Nat.zero_add] at hcell
      have hgA := (HA5.out _ rfl).2
      obtain ⟨z, hz⟩ : ∃ z, z = l2.getD k 0 := ⟨_, rfl⟩
      rw [← hz] at hcell
      obtain ⟨d, hd⟩ : ∃ d, d = (z + 1) % 256 := ⟨_, rfl⟩
      have hd1 : 0 ≤ d ∧ d < 256 := by omega
      have hw : IntKind.u8.wrap (z + 1) = d := by rw [hd]; rfl
      have HT2 := Lib.hid (HI.out.store (g := g) (by omega) (by omega) (by omega) (by omega) (fun ad e => by have := H6.out ad e; have h9 : g < w5.heap.size := hgA; omega) (fun ad e => by have := H7.out ad e; have h9 : g < w5.heap.size := hgA; omega) k d hd1)
      clear HI hl2 hsl hz hd
      go_wp2_with fail
      go_roundw
      case rel => exact ⟨k + 1, by go_num, by omega, HT2⟩
      case measure => simp [intOf]; omega
    · obtain rfl : k = n := by omega
      have hfs := fin_size l 0 []
      have hln := HS.out.1
      have hwr := HI.out.p.lt
      have hwq := HI.out.q.lt
      have hcl := close_any wr (w2.heap.size + 1) m _ _ _ O6 co6 HI.out.p rfl (by simp at hfs; omega)
      have HCL := Lib.hid hcl
      clear hcl
      go_wp2_with fail
      refine HCL.out.mono ?_
      rintro e w8 ⟨O8, co8, rfl, f8, g8⟩
      have hz8 := g8.size
      generalize hln' : (if (fin 0 [] l).2 = [] then noLine else mkLine m (fin 0 [] l).1 (fin 0 [] l).2 0) = ln
      generalize hlb : decide ((fin 0 [] l).2 ≠ []) = lb
      have ba := (Below.refl w8.heap.size w8).alloc (Nat.le_refl _) (.cells (lvv ln) 31)
      have hq8 := (HI.out.q.kept g8 (by intro e; have := Option.some.inj e; omega) (fun ad e e2 => by have := H7.out ad e; have := Option.some.inj e2; omega)).below ba
      have hcl2 := close_any (w8.alloc (.cells (lvv ln) 31)) w3.heap.size m _ _ _ O7 co7 hq8 rfl (by simp at hfs; omega)
      rw [hln', hlb] at hcl2
      have HCL2 := Lib.hid hcl2
      have HF8 := Lib.hid (f8.below ba)
      have HB8 := Lib.hid ((HI.out.below.grown g8 HI.out.below.size (fun k e => by have := Option.some.inj e; omega)).alloc (by have := HI.out.below.size; omega) (.cells (lvv ln) 31))
      have R88 := Lib.hid ((ba.block _ (by omega)).trans ((g8.block _ (by omega) (by intro e; have := Option.some.inj e; omega)).trans HI.out.row))
      have R17 := Lib.hid (heap_alloc_new w8 (.cells (lvv ln) 31))
      clear hcl2 f8 g8 ba hq8 HCL HI
      simp only [lvv] at HCL2 R17 HF8 HB8 R88 ⊢
      go_wp2_with fail
      refine HCL2.out.mono ?_
      rintro e w9 ⟨O9, co9, rfl, f9, g9⟩
      have hz9 := g9.size
      rw [World.size_alloc] at hz9
      have bb := (Below.refl w9.heap.size w9).alloc (Nat.le_refl _) (.cells #[.int .i64 ln.a, .int .i64 ln.b, .string (strOfNums ln.t), .bool ln.long] 31)
      have hr17 := (bb.block w8.heap.size (by omega)).trans ((g9.block _ (by simp) (by intro e; have := Option.some.inj e; omega)).trans R17.out)
      have hr20 := heap_alloc_new w9 (.cells #[.int .i64 ln.a, .int .i64 ln.b, .string (strOfNums ln.t), .bool ln.long] 31)
      have hr8 := (bb.block w2.heap.size (by omega)).trans ((g9.block _ (by simp; omega) (by intro e; have := Option.some.inj e; omega)).trans R88.out)
      have HP := Lib.hid ((HF8.out.kept0 g9 (by intro e; have := Option.some.inj e; omega)).below bb)
      have HB9 := Lib.hid ((HB8.out.grown g9 HB8.out.size (fun k e => by have := Option.some.inj e; omega)).alloc (by have := HB8.out.size; rw [World.size_alloc] at this; omega) (.cells #[.int .i64 ln.a, .int .i64 ln.b, .string (strOfNums ln.t), .bool ln.long] 31))
      have HR8 := Lib.hid hr8
      have x0 := (cell_of_row _ w8.heap.size 0 _ 31 (0, 0) hr17).trans rfl
      have x1 := (cell_of_row _ w8.heap.size 1 _ 31 (0, 0) hr17).trans rfl
      have x2 := (cell_of_row _ w8.heap.size 2 _ 31 (0, 0) hr17).trans rfl
      have x3 := (cell_of_row _ w8.heap.size 3 _ 31 (0, 0) hr17).trans rfl
      simp only [List.getElem?_toArray, List.getElem?_cons_zero, List.getElem?_cons_succ] at x0 x1 x2 x3
      clear f9 g9 bb hr17 hr8 HCL2 HF8 HB8 R88 R17 hr20
      have hat : (fin 0 [] l).1 + (fin 0 [] l).2.length = k := by simp at hfs; omega
      rw [hat] at HP
      clear hfs hat
      go_wp2_with fail
      refine (at_any _ (w2.heap.size + 1) m k k [] true O8 co8 HP.out).mono ?_
      rintro e w10 ⟨rfl, rfl⟩
      have bc := (Below.refl (w9.heap.size + 1) (w9.alloc (.cells #[.int .i64 ln.a, .int .i64 ln.b, .string (strOfNums ln.t), .bool ln.long] 31))).alloc (by simp) (.cells #[.int .u8 10] 5)
      have HP2 := Lib.hid (HP.out.below (bc.mono (by simp)))
      have HR82 := Lib.hid ((bc.block w2.heap.size (by omega)).trans HR8.out)
      have HB10 := Lib.hid (HB9.out.trans (bc.mono (by have := HB9.out.size; rw [World.size_alloc] at this; omega)))
      clear bc HP HR8 HB9 x0 x1 x2 x3
      go_wp2_with fail
      refine (feed_again _ (w2.heap.size + 1) m k k [] O8 co8 HP2.out _).mono ?_
      rintro e w11 ⟨rfl, b11⟩
      have HP3 := Lib.hid (HP2.out.below b11)
      have hz11 := b11.size
      rw [World.size_alloc, World.size_alloc] at hz11
      have HR83 := Lib.hid ((b11.block w2.heap.size (by simp; omega)).trans HR82.out)
      have HB11 := Lib.hid (HB10.out.trans (b11.mono HB10.out.size))
      clear b11 HP2 HR82 HB10
      go_wp2_with fail
      refine (close_again _ (w2.heap.size + 1) m k k [] O8 co8 HP3.out).mono ?_
      rintro e w12 ⟨rfl, b12⟩
      have HP4 := Lib.hid (HP3.out.below b12)
      have hz12 := b12.size
      have hr8 := (b12.block w2.heap.size (by omega)).trans HR83.out
      have HB12 := Lib.hid (HB11.out.trans (b12.mono HB11.out.size))
      have r0 : w12.cell? ⟨w2.heap.size, 0, none⟩ = some (.int .i64 0) := by rw [cell_of_row _ _ _ _ 31 (0, 0) hr8]; rfl
      have r1 : w12.cell? ⟨w2.heap.size, 1, none⟩ = some (.int .i64 0) := by rw [cell_of_row _ _ _ _ 31 (0, 0) hr8]; rfl
      have r2 : w12.cell? ⟨w2.heap.size, 2, none⟩ = some (.string ⟨#[]⟩) := by rw [cell_of_row _ _ _ _ 31 (0, 0) hr8]; rfl
      have r3 : w12.cell? ⟨w2.heap.size, 3, none⟩ = some (.bool false) := by rw [cell_of_row _ _ _ _ 31 (0, 0) hr8]; rfl
      have q0 := frozen_of_row w12 w2.heap.size 0 _ 31 hr8
      have q1 := frozen_of_row w12 w2.heap.size 1 _ 31 hr8
      have q2 := frozen_of_row w12 w2.heap.size 2 _ 31 hr8
      have q3 := frozen_of_row w12 w2.heap.size 3 _ 31 hr8
      have HR84 := Lib.hid hr8
      rw [lvv_no]
      clear b12 hr8 HP3 HR83 HB11
      go_wp2_with fail
      obtain ⟨z1, _, _⟩ := res_store HP4.out (grown_below HB12.out) h8 (by omega) HR84.out 0 0 ⟨#[]⟩ false
      have HZ := Lib.hid z1
      have HE := Lib.hid ((((HB12.out.setCell (p := ⟨w2.heap.size, 0, none⟩) h8 (.int .i64 0)).setCell (p := ⟨w2.heap.size, 1, none⟩) h8 (.int .i64 0)).setCell (p := ⟨w2.heap.size, 2, none⟩) h8 (.string ⟨#[]⟩)).setCell (p := ⟨w2.heap.size, 3, none⟩) h8 (.bool false))
      refine (at_any _ (w2.heap.size + 1) m k k [] true O8 co8 HZ.out).mono ?_
      rintro e w13 ⟨rfl, rfl⟩
      clear z1
      go_wp2_with fail
      refine (held_any _ (w2.heap.size + 1) m k k [] true O8 co8 HZ.out).mono ?_
      rintro e w13 ⟨rfl, rfl⟩
      rw [show (opn m []).length = 0 from by unfold opn; split <;> rfl]
      go_wp2_with fail
      refine (awake_any _).mono ?_
      rintro e w14 ⟨rfl, b14⟩
      go_wp2_with fail
      go_ret
      exact ⟨rfl, HE.out.trans (b14.mono HE.out.size)⟩

theorem lineClosed_walk (A : Option Addr) (c : Nat) (l : List Int) (x : Int) (w : World) (hs : Sl w A l.length l) (ht : Tidy A c ∧ ∀ ad, A = some ad → ad.block < w.heap.size) (hc : l.length ≤ c) :
    Calls Try.prog 7 #[.slice A l.length c, .int .i64 x] w fun e w' => e = .returned (.bool true) ∧ Below w.heap.size w w' := by
  by_cases h : 300 < l.length ∨ x < 1 ∨ 8192 < x
  · exact lineClosed_out A _ c x w h
  · obtain ⟨m, rfl⟩ : ∃ m : Nat, x = (m : Int) := ⟨x.toNat, by omega⟩
    exact lineClosed_in A _ c l m w hs ht.1 hc ht.2 (by omega) (by omega) (by omega)
end Go.Proofs.Ytnlnadpbbcjfdaa
