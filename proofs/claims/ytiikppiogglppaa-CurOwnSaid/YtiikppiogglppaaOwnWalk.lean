/-
  The walk of the law CurOwn.
-/
import Derived.Test.YtiikppiogglppaaNil
namespace Go.Proofs.Ytiikppiogglppaa
open Go.RowKit

set_option maxHeartbeats 4000000 in
theorem own_big (A : Option Addr) (n c : Nat) (m : Int) (w : World) (hn : 300 < n) :
    Calls Try.prog 8 #[.slice A n c, .int .i64 m] w fun e w' => e = .returned (.bool true) ∧ Below w.heap.size w w' := by
  have hn' : (300 : Int) < (n : Int) := by omega
  clear hn
  go_enter Try.func8, Try.ntmps8
  go_wp2_with fail
  refine (peek_nil _).mono ?_
  rintro e w' ⟨rfl, rfl⟩
  go_wp2_with fail
  refine (until_nil 1 _).mono ?_
  rintro e w' ⟨rfl, rfl⟩
  go_wp2_with fail
  refine (fail_nil 11 3 _).mono ?_
  rintro e w' ⟨rfl, rfl⟩
  go_wp2_with fail
  refine (must_nil _).mono ?_
  rintro e w' ⟨rfl, rfl⟩
  go_wp2_with fail
  refine (try_nil _ _).mono ?_
  rintro e w1 ⟨rfl, hb1⟩
  have B1 := Lib.hid (hb1.alloc hb1.size (.cells #[.int .i64 2, .int .i64 0] 31))
  have hf0 := heap_alloc_new w1 (.cells #[.int .i64 2, .int .i64 0] 31)
  have HF := Lib.hid hf0
  clear hb1 hf0
  go_wp2_with fail
  refine (at_nil _).mono ?_
  rintro e w' ⟨rfl, rfl⟩
  go_wp2_with fail
  refine (left_nil _).mono ?_
  rintro e w' ⟨rfl, rfl⟩
  go_wp2_with fail
  refine (byte_nil _).mono ?_
  rintro e w' ⟨rfl, rfl⟩
  go_wp2_with fail
  refine (take_nil m _).mono ?_
  rintro e w' ⟨rfl, rfl⟩
  go_wp2_with fail
  refine (fault_nil _).mono ?_
  rintro e w2 ⟨rfl, hb2⟩
  have B2 := Lib.hid (B1.out.trans (hb2.mono B1.out.size))
  have hf2 := (hb2.block w1.heap.size (by simp)).trans HF.out
  have q0 : w2.cell? ⟨w1.heap.size, 0, none⟩ = some (.int .i64 2) := by rw [cell_of_row _ _ 0 _ 31 (0, 0) hf2]; rfl
  have q1 : w2.cell? ⟨w1.heap.size, 1, none⟩ = some (.int .i64 0) := by rw [cell_of_row _ _ 1 _ 31 (0, 0) hf2]; rfl
  clear hb2 hf2 HF
  go_wp2_with fail
  refine (awake_any _).mono ?_
  rintro e w3 ⟨rfl, hb3⟩
  have B3 := Lib.hid (B2.out.trans (hb3.mono B2.out.size))
  clear hb3
  go_wp2
  go_ret
  exact ⟨rfl, B3.out⟩
theorem start_take (l : List Int) (q : Nat) (hq : q ≤ l.length) : CS.start.take l (q : Int) = (l.take q, ⟨q, 0, 0⟩) := by
  unfold CS.take CS.start
  rw [if_pos rfl, if_neg (by omega), if_neg (by show ¬ (l.length : Int) - 0 < q; omega)]
  show ((l.drop 0).take (q : Int).toNat, (⟨0 + (q : Int).toNat, 0, 0⟩ : CS)) = _
  rw [List.drop_zero, Int.toNat_natCast, Nat.zero_add]

theorem rest_take (l : List Int) (q : Nat) (hq : q ≤ l.length) : (CS.take ⟨q, 0, 0⟩ l ((l.length : Int) - (q : Int))).1 = l.drop q := by
  unfold CS.take
  rw [if_pos rfl, if_neg (by omega), if_neg (by show ¬ (l.length : Int) - (q : Int) < (l.length : Int) - (q : Int); omega)]
  show (l.drop q).take ((l.length : Int) - (q : Int)).toNat = l.drop q
  exact List.take_of_length_le (by rw [List.length_drop]; omega)

set_option maxHeartbeats 4000000 in
theorem own_main (A : Option Addr) (n c : Nat) (l : List Int) (m : Int) (w : World) (hs : Sl w A n l) (hA : A = none → c = 0) (hn : n ≤ 300) :
    Calls Try.prog 8 #[.slice A n c, .int .i64 m] w fun e w' => e = .returned (.bool true) ∧ Below w.heap.size w w' := by
  have hn' : ¬ (300 : Int) < (n : Int) := by omega
  have HS := Lib.hid hs
  clear hs
  go_enter Try.func8, Try.ntmps8
  go_wp2_with fail
  refine (peek_nil _).mono ?_
  rintro e w' ⟨rfl, rfl⟩
  go_wp2_with fail
  refine (until_nil 1 _).mono ?_
  rintro e w' ⟨rfl, rfl⟩
  go_wp2_with fail
  refine (fail_nil 11 3 _).mono ?_
  rintro e w' ⟨rfl, rfl⟩
  go_wp2_with fail
  refine (must_nil _).mono ?_
  rintro e w' ⟨rfl, rfl⟩
  go_wp2_with fail
  refine (try_nil _ _).mono ?_
  rintro e w1 ⟨rfl, hb1⟩
  have B1 := Lib.hid (hb1.alloc hb1.size (.cells #[.int .i64 2, .int .i64 0] 31))
  have hf0 := heap_alloc_new w1 (.cells #[.int .i64 2, .int .i64 0] 31)
  have HF := Lib.hid hf0
  clear hb1 hf0
  go_wp2_with fail
  refine (at_nil _).mono ?_
  rintro e w' ⟨rfl, rfl⟩
  go_wp2_with fail
  refine (left_nil _).mono ?_
  rintro e w' ⟨rfl, rfl⟩
  go_wp2_with fail
  refine (byte_nil _).mono ?_
  rintro e w' ⟨rfl, rfl⟩
  go_wp2_with fail
  refine (take_nil m _).mono ?_
  rintro e w' ⟨rfl, rfl⟩
  go_wp2_with fail
  refine (fault_nil _).mono ?_
  rintro e w2 ⟨rfl, hb2⟩
  have B2 := Lib.hid (B1.out.trans (hb2.mono B1.out.size))
  have hf2 := (hb2.block w1.heap.size (by simp)).trans HF.out
  have q0 : w2.cell? ⟨w1.heap.size, 0, none⟩ = some (.int .i64 2) := by rw [cell_of_row _ _ 0 _ 31 (0, 0) hf2]; rfl
  have q1 : w2.cell? ⟨w1.heap.size, 1, none⟩ = some (.int .i64 0) := by rw [cell_of_row _ _ 1 _ 31 (0, 0) hf2]; rfl
  clear hb2 hf2 HF
  have S2 := Lib.hid ((HS.out.below B2.out).below ((Below.refl w2.heap.size w2).alloc (Nat.le_refl _) (.cells #[] 5)))
  go_wp2_with (first | (at_builtin; refine append_bytes _ rfl _ _ rfl w2.heap.size (.slice (some ⟨w2.heap.size, 0, none⟩) 0 0) 0 [] rfl (ownB_made w2 w2.heap.size (Nat.le_refl _)) A n c l rfl S2.out hA (by omega) (by simp) ?_; intro v' w3 hown hg hat))
  have hown' : OwnB w3 w2.heap.size v' n l := by simpa using hown
  have hb3 : Below w2.heap.size w2 w3 := ((Below.refl _ _).alloc (Nat.le_refl _) _).grown hg (by simp) (fun k hk => by simp [Value.ownBlock] at hk; omega)
  obtain ⟨A', c', rfl, S3, t3, l3, k3⟩ := hown'.shape
  have B3 := Lib.hid (B2.out.trans (hb3.mono B2.out.size))
  have O3 := Lib.hid hown'
  have HS3 := Lib.hid S3
  have K3 := Lib.hid k3
  have HL : Hid (l.length = n) := Lib.hid HS.out.1
  have H23 : Hid (w2.heap.size ≤ w3.heap.size) := Lib.hid hb3.size
  clear hown hg hat hown' hb3 S3 k3
  refine (new_any A' n c' l _ HS3.out t3.nil (by omega)).mono ?_
  rintro e w4 ⟨g, A4, c4, rfl, h4, hge, hA4, hb4⟩
  have H4 := Lib.hid h4
  have O4 := Lib.hid (O3.out.kept hb4)
  have HGE := Lib.hid hge
  have HA4 := Lib.hid hA4
  have B4 := Lib.hid (B3.out.trans (hb4.mono B3.out.size))
  have HBASE := Lib.hid (show w.heap.size ≤ w2.heap.size from B2.out.size)
  clear h4 hge hA4 hb4
  go_wp2_with fail
  go_loopw [14] (fun vi wr => ∃ (k : Nat) (l' : List Int), k ≤ n ∧ vi = .int .i64 k ∧ Hid (OwnB wr w2.heap.size (.slice A' n c') n l' ∧ IsCur wr g A4 c4 l CS.start false ∧ Below w.heap.size w wr)) (fun vi _ => n - (intOf vi).toNat)
  case atStart => exact ⟨0, l, by omega, rfl, Lib.hid ⟨O4.out, H4.out, B4.out⟩⟩
  case round =>
    obtain ⟨k, l', hk, rfl, HI⟩ := hrel
    by_cases hkn : k < n
    · obtain ⟨h, cap, e, hbase, hlt, hncap, hsl⟩ := HI.out.1.form (by omega)
      cases e
      obtain ⟨b', o', e', _, hc⟩ := hsl.at k hkn
      cases e'
      rw [Nat.zero_add] at hc
      have hz := Sl.byte hsl k
      obtain ⟨z, hzz⟩ : ∃ z, z = l'.getD k 0 := ⟨_, rfl⟩
      rw [← hzz] at hc hz
      have hfz := HI.out.1.free k
      have hki : (k : Int) < (n : Int) := by omega
      have hhg : h < g := by have := (K3.out _ rfl).2; have := HGE.out; simp at *; omega
      have hkept : ∀ (d : Int), 0 ≤ d ∧ d < 256 → Hid (OwnB (wr.setCell ⟨h, k, none⟩ (.int .u8 d)) w2.heap.size (.slice (some ⟨h, 0, none⟩) n c') n (l'.set k d) ∧ IsCur (wr.setCell ⟨h, k, none⟩ (.int .u8 d)) g A4 c4 l CS.start false ∧ Below w.heap.size w (wr.setCell ⟨h, k, none⟩ (.int .u8 d))) := fun d hd => Lib.hid
        ⟨HI.out.1.store k d hd, HI.out.2.1.kept (grown_set wr h k _) (fun e => by have := Option.some.inj e; omega) (fun ad e e2 => by have := HA4.out ad e; have := Option.some.inj e2; have := (K3.out _ rfl).2; simp at *; omega),
          HI.out.2.2.setCell (p := ⟨h, k, none⟩) (Nat.le_trans HBASE.out hbase) _⟩
      go_wp2
      go_roundw
      case rel => exact ⟨k + 1, l'.set k ((l'[k]?.getD 0 + 1) % 256), by omega, by go_num, hkept _ ⟨by omega, by omega⟩⟩
      case measure => simp [intOf]; omega
    · obtain rfl : k = n := by omega
      have hq : ((k / 2 : Nat) : Int) = (k : Int) / 2 := by omega
      have hTK := take_any wr g A4 c4 l CS.start false ((k / 2 : Nat) : Int) HI.out.2.1 (CS.fits_start (by have := HL.out; omega))
      rw [start_take l (k / 2) (by have := HL.out; omega), hq] at hTK
      have HTK := Lib.hid hTK
      obtain ⟨q, hqq⟩ : ∃ q, q = k / 2 := ⟨_, rfl⟩
      have HQ := Lib.hid hqq
      rw [← hqq] at HTK
      have hg4 : w2.heap.size ≤ g := Nat.le_trans H23.out HGE.out
      clear hTK hq hqq
      go_wp2_with fail
      refine HTK.out.mono ?_
      rintro e w5 ⟨v5, rfl, o5, h5, hg5⟩
      have hql : q ≤ k := by have := HQ.out; omega
      have o5' : OwnB w5 wr.heap.size v5 q (l.take q) := by
        have e : (l.take q).length = q := by rw [List.length_take, HL.out]; omega
        have o5 : OwnB w5 wr.heap.size v5 (l.take q).length (l.take q) := o5
        rwa [e] at o5
      obtain ⟨A5, c5, rfl, S5, t5, l5, k5⟩ := o5'.shape
      have O5 := Lib.hid o5'
      have H5 := Lib.hid (show IsCur w5 g A4 c4 l ⟨q, 0, 0⟩ false from h5)
      have B5 := Lib.hid (HI.out.2.2.grown hg5 HI.out.2.2.size (fun j hj => by cases hj; exact Nat.le_trans HBASE.out hg4))
      have K5 := Lib.hid k5
      have S5' := Lib.hid (S5.below ((Below.refl w5.heap.size w5).alloc (Nat.le_refl _) (.cells #[] 5)))
      have HW5 : Hid (wr.heap.size ≤ w5.heap.size) := Lib.hid hg5.size
      clear o5 o5' h5 hg5 k5 S5
      go_wp2_with (first | (at_builtin; refine append_bytes _ rfl _ _ rfl w5.heap.size (.slice (some ⟨w5.heap.size, 0, none⟩) 0 0) 0 [] rfl (ownB_made w5 w5.heap.size (Nat.le_refl _)) A5 q c5 (l.take q) rfl S5'.out t5.nil (by omega) (by simp) ?_; intro v6 w6 hown hg hat))
      have hown' : OwnB w6 w5.heap.size v6 q (l.take q) := by simpa using hown
      have hb6 : Below w5.heap.size w5 w6 := ((Below.refl _ _).alloc (Nat.le_refl _) _).grown hg (by simp) (fun j hj => by simp [Value.ownBlock] at hj; omega)
      have O6 := Lib.hid hown'
      have P6 := Lib.hid (O5.out.kept hb6)
      have HS6 : Hid (w5.heap.size ≤ w6.heap.size) := Lib.hid hb6.size
      have H6 := Lib.hid (H5.out.below hb6)
      have B6 := Lib.hid (B5.out.trans (hb6.mono B5.out.size))
      have H75 : Hid (wr.heap.size ≤ w5.heap.size) := Lib.hid HW5.out
      have HGW : Hid (g < wr.heap.size) := Lib.hid HI.out.2.1.lt
      have HSW := Lib.hid HI.out.2.1.2.1
      have HWB : Hid (w.heap.size ≤ wr.heap.size) := Lib.hid HI.out.2.2.size
      clear hown hg hat hown' hb6 HI
      generalize wr = wo at *
      go_loopw [17] (fun vi wq => ∃ (j : Nat) (l' : List Int), j ≤ q ∧ vi = .int .i64 j ∧ Hid (OwnB wq wo.heap.size (.slice A5 q c5) q l' ∧ OwnB wq w5.heap.size v6 q (l.take q) ∧ IsCur wq g A4 c4 l ⟨q, 0, 0⟩ false ∧ Below w.heap.size w wq ∧ w5.heap.size ≤ wq.heap.size)) (fun vi _ => q - (intOf vi).toNat)
      case atStart => exact ⟨0, _, by omega, rfl, Lib.hid ⟨P6.out, O6.out, H6.out, B6.out, HS6.out⟩⟩
      case round =>
        obtain ⟨j, l', hj, rfl, HI⟩ := hrel
        by_cases hjq : j < q
        · obtain ⟨h, cap, e, hbase, hlt, hncap, hsl⟩ := HI.out.1.form (by omega)
          cases e
          obtain ⟨b', o', e', _, hc⟩ := hsl.at j hjq
          cases e'
          rw [Nat.zero_add] at hc
          have hz := Sl.byte hsl j
          have hfz := HI.out.1.free j
          have hji : (j : Int) < (q : Int) := by omega
          have hkept : ∀ (d : Int), 0 ≤ d ∧ d < 256 → Hid (OwnB (wr.setCell ⟨h, j, none⟩ (.int .u8 d)) wo.heap.size (.slice (some ⟨h, 0, none⟩) q c5) q (l'.set j d) ∧ OwnB (wr.setCell ⟨h, j, none⟩ (.int .u8 d)) w5.heap.size v6 q (l.take q) ∧ IsCur (wr.setCell ⟨h, j, none⟩ (.int .u8 d)) g A4 c4 l ⟨q, 0, 0⟩ false ∧ Below w.heap.size w (wr.setCell ⟨h, j, none⟩ (.int .u8 d)) ∧ w5.heap.size ≤ (wr.setCell ⟨h, j, none⟩ (.int .u8 d)).heap.size) := fun d hd => Lib.hid
            ⟨HI.out.1.store j d hd, ⟨HI.out.2.1.1, HI.out.2.1.2.1, HI.out.2.1.2.2.kept (grown_set wr h j _) (.inr (fun e => by have h1 := HI.out.2.1.2.2.lt h (by rw [e]); have h2 := (K5.out _ rfl).2; simp at *; omega))⟩,
              HI.out.2.2.1.kept (grown_set wr h j _) (fun e => by have := Option.some.inj e; have := HGW.out; omega) (fun ad e e2 => by
                have e3 := Option.some.inj e2
                rcases HSW.out.2.2 with h0 | ⟨b3, o3, e4, hlt3, _⟩
                · have := HL.out; omega
                · rw [e] at e4; cases e4; simp at e3; omega),
              HI.out.2.2.2.1.setCell (p := ⟨h, j, none⟩) (Nat.le_trans HWB.out hbase) _, by have := HI.out.2.2.2.2; simpa [World.setCell] using this⟩
          go_wp2
          go_roundw
          case rel => exact ⟨j + 1, l'.set j ((l'[j]?.getD 0 + 1) % 256), by omega, by go_num, hkept _ ⟨by omega, by omega⟩⟩
          case measure => simp [intOf]; omega
        · obtain rfl : j = q := by omega
          go_wp2_with fail
          refine (left_any wr g A4 c4 l ⟨j, 0, 0⟩ false HI.out.2.2.1 ⟨by show j ≤ l.length; rw [HL.out]; omega, by rw [HL.out]; omega, fun _ => rfl⟩).mono ?_
          rintro e w7 ⟨rfl, hb7⟩
          have H7 := Lib.hid (HI.out.2.2.1.below hb7)
          have O7 := Lib.hid (HI.out.2.1.kept hb7)
          have H57 : Hid (w5.heap.size ≤ w7.heap.size) := Lib.hid (Nat.le_trans HI.out.2.2.2.2 hb7.size)
          have B7 := Lib.hid (HI.out.2.2.2.1.trans (hb7.mono HI.out.2.2.2.1.size))
          have hT := take_any w7 g A4 c4 l ⟨j, 0, 0⟩ false ((l.length : Int) - (j : Int)) H7.out ⟨by show j ≤ l.length; rw [HL.out]; omega, by rw [HL.out]; omega, fun _ => rfl⟩
          have HT := Lib.hid hT
          clear hT hb7
          go_wp2_with fail
          refine HT.out.mono ?_
          rintro e w8 ⟨v8, rfl, o8, h8, hg8⟩
          rw [rest_take l j (by rw [HL.out]; omega)] at o8
          have e8 : (l.drop j).length = l.length - j := List.length_drop
          obtain ⟨m8, hm8⟩ : ∃ m, m = (l.drop j).length := ⟨_, rfl⟩
          rw [← hm8] at o8 e8
          have hl3 : j + m8 ≤ 100000 := by rw [e8, HL.out]; omega
          have E8 : Hid (j + m8 = k) := Lib.hid (by rw [e8, HL.out]; omega)
          clear hm8 e8
          obtain ⟨A8, c8, rfl, S8, t8, l8, _⟩ := o8.shape
          have O8 : OwnB w8 w5.heap.size v6 j (l.take j) := ⟨O7.out.1, O7.out.2.1, O7.out.2.2.kept hg8 (.inr (fun e => by have h1 := (O7.out.2.2.lt g e).1; have h2 := HGW.out; have h3 := H75.out; omega))⟩
          have hbb : w5.heap.size ≤ w8.heap.size := Nat.le_trans H57.out hg8.size
          have B8 := B7.out.grown hg8 B7.out.size (fun x hx => by cases hx; exact Nat.le_trans HBASE.out hg4)
          go_wp2_with (first | (at_builtin; refine append_bytes _ rfl _ _ rfl w5.heap.size v6 j (l.take j) rfl O8 A8 m8 c8 (l.drop j) rfl S8 t8.nil hl3 hbb ?_; intro v9 w9 hown hg hat))
          have hown' : OwnB w9 w5.heap.size v9 k l := by
            have e1 : l.take j ++ l.drop j = l := List.take_append_drop j l
            rwa [e1, E8.out] at hown
          have hB9 := B8.grown hg B8.size (fun x hx => Nat.le_trans (Nat.le_trans HWB.out H75.out) (O8.2.2.lt x hx).1)
          obtain ⟨A9, c9, rfl, S9, t9, l9, _⟩ := hown'.shape
          have HS9 := Lib.hid S9
          have HSB := Lib.hid (HS.out.below hB9)
          have HB9 := Lib.hid hB9
          clear hown hg hat hown' hB9 S9 O8 S8 o8 h8 hg8 B8 hbb hl3
          go_wp2_with fail
          refine (same_any A9 k c9 l A k c l _ HS9.out HSB.out (by omega)).mono ?_
          rintro e w10 ⟨rfl, hb10⟩
          rw [show (l == l) = true from by simp]
          have B10 := Lib.hid (HB9.out.trans (hb10.mono HB9.out.size))
          clear hb10
          go_wp2_with fail
          refine (awake_any _).mono ?_
          rintro e w11 ⟨rfl, hb11⟩
          have B11 := Lib.hid (B10.out.trans (hb11.mono B10.out.size))
          clear hb11
          go_wp2
          go_ret
          exact ⟨rfl, B11.out⟩

theorem own_walk (A : Option Addr) (c : Nat) (l : List Int) (m : Int) (w : World) (hs : Sl w A l.length l) (hA : A = none → c = 0) :
    Calls Try.prog 8 #[.slice A l.length c, .int .i64 m] w fun e w' => e = .returned (.bool true) ∧ Below w.heap.size w w' := by
  by_cases h : 300 < l.length
  · exact own_big A l.length c m w h
  · exact own_main A l.length c l m w hs hA (by omega)
end Go.Proofs.Ytiikppiogglppaa
