/-
  The walk of the law CurParts.
-/
import Derived.Test.YtiikppiogglppaaPartsPlain
namespace Go.Proofs.Ytiikppiogglppaa
open Go.RowKit

theorem part_of (z : Int) : ∃ (t : Int) (n : Nat), z.tmod 20 = t ∧ -20 < t ∧ t < 20 ∧ n < 20 ∧ (t + 20) % 20 = (n : Int) := by
  have h1 := Int.tmod_lt_of_pos z (show (0 : Int) < 20 by decide)
  have h2 : -20 < z.tmod 20 := by
    by_cases hz : 0 ≤ z
    · have := Int.tmod_nonneg 20 hz; omega
    · have h3 := Int.tmod_lt_of_pos (-z) (show (0 : Int) < 20 by decide)
      have h4 := Int.neg_tmod (-z) 20
      rw [Int.neg_neg] at h4
      omega
  exact ⟨_, ((z.tmod 20 + 20) % 20).toNat, rfl, h2, h1, by omega, by omega⟩

theorem Nums.at {w : World} {A : Option Addr} {n : Nat} {l : List Int} (h : Nums w A n l) (k : Nat) (hk : k < n) : ∃ b off, A = some ⟨b, off, none⟩ ∧ b < w.heap.size ∧ w.cell? ⟨b, off + k, none⟩ = some (.int .i64 (l.getD k 0)) := by
  rcases h.2.2 with h0 | ⟨b, off, rfl, hlt, hc⟩
  · omega
  · exact ⟨b, off, rfl, hlt, hc k hk⟩
theorem Nums.below {w w' : World} {A : Option Addr} {n : Nat} {l : List Int} (h : Nums w A n l) (hb : Below w.heap.size w w') : Nums w' A n l := by
  refine ⟨h.1, h.2.1, ?_⟩
  rcases h.2.2 with h0 | ⟨b, off, rfl, hlt, hc⟩
  · exact .inl h0
  · exact .inr ⟨b, off, rfl, Nat.lt_of_lt_of_le hlt hb.size, fun i hi => (hb.cell (p := ⟨b, off + i, none⟩) hlt).trans (hc i hi)⟩

theorem until_parts {l : List Int} {m : Nat} (e : Int) (hm : m < l.length) : ∃ (y : List Int) (b : Bool) (n m' : Nat), CS.until ⟨m, 0, 0⟩ l e = (y, b, ⟨m', 0, 0⟩) ∧ y.length = n ∧ m < m' ∧ m' ≤ l.length ∧ (∀ j, j < n → y.getD j 0 ≠ e) ∧ l.take m ++ y = l.take (m + n) ∧
    ((b = true ∧ m' = m + n + 1 ∧ l.take (m + n) ++ [e] = l.take m' ∧ (l.take m').count e = (l.take m).count e + 1) ∨ (b = false ∧ m' = m + n ∧ m' = l.length ∧ (l.take m').count e = (l.take m).count e)) := by
  cases hq : pos e (l.drop m) with
  | some i =>
    have hi := pos_lt hq
    have hi' := hi
    rw [List.length_drop] at hi'
    obtain ⟨h1, h2⟩ := count_some hq
    obtain ⟨h3, h4⟩ := pos_some hq
    have hy : ((l.drop m).take i).length = i := by rw [List.length_take]; omega
    refine ⟨_, _, i, m + i + 1, at_until_some hq, hy, by omega, by omega, fun j hj => ?_, take_more l m i, .inl ⟨rfl, rfl, ?_, h2⟩⟩
    · rw [getD_take _ _ _ hj]; exact h4 j hj
    · rw [← take_more, h1]
  | none =>
    have hy : (l.drop m).length = l.length - m := List.length_drop
    refine ⟨_, _, l.length - m, l.length, at_until_none hq, hy, by omega, Nat.le_refl _, fun j hj => pos_none hq j (by rw [hy]; exact hj), ?_, .inr ⟨rfl, by omega, rfl, ?_⟩⟩
    · rw [List.take_append_drop, List.take_of_length_le (by omega)]
    · rw [List.take_length]; exact count_none hq

set_option maxRecDepth 100000 in
set_option maxHeartbeats 8000000 in
theorem parts_main (A : Option Addr) (c : Nat) (l : List Int) (A2 : Option Addr) (c2 : Nat) (ps : List Int) (e : Int) (w : World) (hs : Sl w A l.length l) (hA : A = none → c = 0) (ha : Nums w A2 ps.length ps) (he : 0 ≤ e ∧ e < 256) (hn : l.length ≤ 300) (hn2 : ps.length ≤ 60) :
    Calls Try.prog 5 #[.slice A l.length c, .slice A2 ps.length c2, .int .u8 e] w fun e w' => e = .returned (.bool true) ∧ Below w.heap.size w w' := by
  have hn' : ¬ (300 : Int) < (l.length : Int) := by omega
  have hn2' : ¬ (60 : Int) < (ps.length : Int) := by omega
  have HS := Lib.hid hs
  have HA := Lib.hid ha
  clear hs ha
  go_enter Try.func5, Try.ntmps5
  go_wp2_with fail
  refine (new_any A l.length c l _ HS.out hA (by omega)).mono ?_
  rintro r w1 ⟨g, A1, c1, rfl, h1, hge, _, hb1⟩
  have HF1 := Lib.hid (PartsAt.begin h1 (by omega) hb1 hge)
  clear h1 hge hb1
  go_wp2_with fail
  obtain ⟨base, hbase⟩ : ∃ base, base = w1.heap.size := ⟨_, rfl⟩
  rw [← hbase] at HF1 ⊢
  clear hbase
  go_loopw [8, 9] (fun v vi wr => ∃ k m : Nat, k ≤ ps.length ∧ vi = .int .i64 k ∧ Hid (PartsAt w g A1 c1 l base wr m m v)) (fun _ vi _ => ps.length - (intOf vi).toNat)
  case atStart => exact ⟨0, 0, by omega, rfl, HF1⟩
  case round =>
    obtain ⟨k, m, hk, rfl, HI⟩ := hrel
    clear HF1
    by_cases hkn : k < ps.length
    · have hki : (k : Int) < (ps.length : Int) := by omega
      obtain ⟨b2, o2, rfl, _, hc⟩ := (HA.out.below HI.out.below).at k hkn
      obtain ⟨z, hz⟩ : ∃ z, z = ps.getD k 0 := ⟨_, rfl⟩
      rw [← hz] at hc
      obtain ⟨t, n, ht, ht1, ht2, hn20, htn⟩ := part_of z
      clear hz
      have hml := HI.out.le
      go_wp2_with fail
      refine (left_any _ g A1 c1 l ⟨m, 0, 0⟩ false HI.out.cur HI.out.fits).mono ?_
      rintro r w2 ⟨rfl, hb2⟩
      have H2 := Lib.hid (HI.out.later hb2)
      clear hb2 HI hc ht
      by_cases hnl : (l.length : Int) - (m : Int) < (n : Int)
      · go_wp2_with fail
        go_roundw
        case rel => exact ⟨k + 1, m, by omega, by go_num, H2⟩
        case measure => simp [intOf]; omega
      · have hT := take_any w2 g A1 c1 l ⟨m, 0, 0⟩ false (n : Int) H2.out.cur H2.out.fits
        rw [at_take n (by omega)] at hT
        have HT := Lib.hid hT
        clear hT
        go_wp2_with fail
        refine HT.out.mono ?_
        rintro r w3 ⟨x, rfl, hown, h3, hg3⟩
        have hx : ((l.drop m).take n).length = n := by rw [List.length_take, List.length_drop]; omega
        have hown' : OwnB w3 w2.heap.size x n ((l.drop m).take n) := by
          have h : OwnB w3 w2.heap.size x ((l.drop m).take n).length ((l.drop m).take n) := hown
          rwa [hx] at h
        obtain ⟨Ax, cx, rfl, Sx, tx, _, _⟩ := hown'.shape
        have H3 := Lib.hid (H2.out.step_cur h3 (by omega) hg3)
        have HSx := Lib.hid Sx
        have hmn : m + n ≤ 100000 := by omega
        clear hown hown' h3 hg3 Sx HT hx
        go_wp2_with (at_builtin; refine append_bytes _ rfl _ _ rfl base _ m (l.take m) rfl H3.out.own Ax n cx _ rfl HSx.out tx.nil hmn H3.out.bs ?_; intro v' w4 hown hg hat)
        rw [take_more] at hown
        have H4 := Lib.hid (H3.out.step_own hown hg)
        clear hown hg hat
        go_roundw
        case rel => exact ⟨k + 1, m + n, by omega, by go_num, H4⟩
        case measure => simp [intOf]; omega
    · obtain rfl : k = ps.length := by omega
      have HI0 : Hid (PartsAt w g A1 c1 l base wr (m + 0) (m + 0) _) := HI
      go_wp2_with fail
      clear HI
      obtain ⟨wo, hwo⟩ : ∃ wo : World, wo = wr := ⟨_, rfl⟩
      rw [← hwo] at HI0 ⊢
      clear hwo
      go_loopw [8, 11] (fun v vi wr => ∃ k m : Nat, k ≤ m ∧ vi = .int .i64 k ∧ Hid (PartsAt w g A1 c1 l base wr m m v)) (fun _ vi _ => l.length + 1 - (intOf vi).toNat)
      case atStart => exact ⟨0, m, by omega, rfl, HI0⟩
      case round =>
        obtain ⟨k, m', hk, rfl, HI⟩ := hrel
        clear HI0
        have hml := HI.out.le
        have hkl : (k : Int) ≤ (l.length : Int) := by omega
        go_wp2_with fail
        refine (left_any _ g A1 c1 l ⟨m', 0, 0⟩ false HI.out.cur HI.out.fits).mono ?_
        rintro r w2 ⟨rfl, hb2⟩
        have H2 := Lib.hid (HI.out.later hb2)
        clear hb2 HI
        by_cases hml2 : m' < l.length
        · have hgt : (0 : Int) < (l.length : Int) - (m' : Int) := by omega
          have hT := peek_any w2 g A1 c1 l ⟨m', 0, 0⟩ false H2.out.cur H2.out.fits
          rw [at_peek hml2] at hT
          obtain ⟨z, hz⟩ : ∃ z, z = l.getD m' 0 := ⟨_, rfl⟩
          have hzr := getD_byte H2.out.cur.2.1.2.1 m'
          have hts := take_snoc hml2
          rw [← hz] at hT hzr hts
          have HT := Lib.hid hT
          have HZ := Lib.hid hz
          have HTS := Lib.hid hts
          clear hT hz hts
          go_wp2_with fail
          refine HT.out.mono ?_
          rintro r w3 ⟨rfl, hb3⟩
          have H3 := Lib.hid (H2.out.later hb3)
          clear hb3 HT
          have hT := byte_any w3 g A1 c1 l ⟨m', 0, 0⟩ false H3.out.cur H3.out.fits
          rw [at_byte hml2, at_byte_state hml2, ← HZ.out] at hT
          have HT := Lib.hid hT
          clear hT
          go_wp2_with fail
          refine HT.out.mono ?_
          rintro r w4 ⟨rfl, h4, hg4⟩
          have H4 := Lib.hid (H3.out.step_cur h4 (by omega) hg4)
          clear h4 hg4 HT H3 H2
          have bO : Below w4.heap.size w4 (w4.alloc (.cells #[.int .u8 z] 5)) := (Below.refl _ _).alloc (Nat.le_refl _) _
          have H5 := Lib.hid (H4.out.later bO)
          have S5 := Lib.hid ((ownB_one w4 w4.heap.size (Nat.le_refl _) z hzr).slice)
          have hmn : m' + 1 ≤ 100000 := by have := H4.out.small; omega
          clear bO
          go_wp2_with (at_builtin; refine append_bytes _ rfl _ _ rfl base _ m' (l.take m') rfl H5.out.own _ 1 1 [z] rfl S5.out (fun e => by cases e) hmn H5.out.bs ?_; intro v' w6 hown hg hat)
          rw [← HTS.out] at hown
          have H6 := Lib.hid (H5.out.step_own hown hg)
          clear hown hg hat H4 H5 S5
          go_roundw
          case rel => exact ⟨k + 1, m' + 1, by omega, by go_num, H6⟩
          case measure => simp [intOf]; omega
        · obtain rfl : m' = l.length := by omega
          have hgt : ¬ (0 : Int) < (l.length : Int) - (l.length : Int) := by omega
          go_wp2_with fail
          have HALL := H2
          obtain ⟨Aa, ca, rfl, Sa, _, _, _⟩ := H2.out.own.shape
          rw [List.take_length] at Sa
          have HSa := Lib.hid Sa
          clear Sa H2
          refine (new_any A l.length c l _ (HS.out.below HALL.out.below) hA (by omega)).mono ?_
          rintro r w3 ⟨g', A1', c1', rfl, h3, hge3, _, hb3⟩
          have HF3 := Lib.hid (PartsAt.begin h3 (by omega) hb3 hge3)
          clear h3 hge3 hb3
          go_wp2_with fail
          obtain ⟨base', hbase'⟩ : ∃ base', base' = w3.heap.size := ⟨_, rfl⟩
          rw [← hbase'] at HF3 ⊢
          clear hbase'
          go_loopw [15, 16, 17] (fun v ve vi wr => ∃ k m : Nat, k ≤ m ∧ vi = .int .i64 k ∧ ve = .int .i64 ((l.take m).count e) ∧ Hid (PartsAt w2 g' A1' c1' l base' wr m m v)) (fun _ _ vi _ => l.length + 1 - (intOf vi).toNat)
          case atStart => exact ⟨0, 0, by omega, rfl, by simp, HF3⟩
          case round =>
            obtain ⟨k, m, hk, rfl, rfl, HI⟩ := hrel
            clear HF3
            have hml := HI.out.le
            have hkl : (k : Int) ≤ (l.length : Int) := by omega
            go_wp2_with fail
            refine (left_any _ g' A1' c1' l ⟨m, 0, 0⟩ false HI.out.cur HI.out.fits).mono ?_
            rintro r w4 ⟨rfl, hb4⟩
            have H4 := Lib.hid (HI.out.later hb4)
            clear hb4 HI
            by_cases hml3 : m < l.length
            · have hgt3 : (0 : Int) < (l.length : Int) - (m : Int) := by omega
              have hT := until_any w4 g' A1' c1' l ⟨m, 0, 0⟩ false e he H4.out.cur H4.out.fits
              obtain ⟨y, b, n, m', hu, hyn, hmm, hml', hne, htk, hor⟩ := until_parts e hml3
              rw [hu] at hT
              have HT := Lib.hid hT
              have HTK := Lib.hid htk
              have HOR := Lib.hid hor
              have HNE := Lib.hid hne
              have HYN := Lib.hid hyn
              clear hT hu htk hor hne hyn
              go_wp2_with fail
              refine HT.out.mono ?_
              rintro r w5 ⟨x, rfl, hown, h5, hg5⟩
              have hown' : OwnB w5 w4.heap.size x n y := by
                have h : OwnB w5 w4.heap.size x y.length y := hown
                rwa [HYN.out] at h
              obtain ⟨Ax, cx, rfl, Sx, tx, _, _⟩ := hown'.shape
              have H5 := Lib.hid (H4.out.step_cur h5 hml' hg5)
              have HSx := Lib.hid Sx
              have hmn : m + n ≤ 100000 := by have := H4.out.small; rcases HOR.out with h | h <;> omega
              clear hown hown' h5 hg5 Sx HT H4
              go_wp2_with fail
              go_loop [20] (fun vj => ∃ j : Nat, j ≤ n ∧ vj = .int .i64 j) (fun vj => n - (intOf vj).toNat)
              case atStart => exact ⟨0, by omega, rfl⟩
              case round =>
                obtain ⟨j, hj, rfl⟩ := hrel
                by_cases hjn : j < n
                · have hji : (j : Int) < (n : Int) := by omega
                  obtain ⟨b5, o5, rfl, _, hc⟩ := HSx.out.at j hjn
                  have hzne := HNE.out j hjn
                  obtain ⟨z, hz⟩ : ∃ z, z = y.getD j 0 := ⟨_, rfl⟩
                  rw [← hz] at hc hzne
                  have hze : (z == e) = false := beq_eq_false_iff_ne.2 hzne
                  clear hz hzne
                  go_wp2_with fail
                  go_round
                  case rel => exact ⟨j + 1, by omega, by go_num⟩
                  case measure => simp [intOf]; omega
                · obtain rfl : j = n := by omega
                  rcases HOR.out with ⟨rfl, hm1, h1, h2⟩ | ⟨rfl, hm1, hm2, h2⟩
                  · have HH1 := Lib.hid h1
                    have HH2 := Lib.hid h2
                    subst hm1
                    have hmn2 : m + j + 1 ≤ 100000 := by have := H5.out.small; omega
                    have hcnt : (l.take m).count e ≤ 300 := Nat.le_trans (List.count_le_length) (by rw [List.length_take]; omega)
                    clear h1 h2 HOR
                    go_wp2_with (first | (at_builtin; refine append_bytes _ rfl _ _ rfl base' _ m (l.take m) rfl H5.out.own Ax j cx y rfl HSx.out tx.nil hmn H5.out.bs ?_; intro v' w6 hown hg hat; rw [HTK.out] at hown; have H6 := Lib.hid (H5.out.step_own hown hg); have H7 := Lib.hid (H6.out.later ((Below.refl w6.heap.size w6).alloc (Nat.le_refl _) (.cells #[.int .u8 e] 5))); have S7 := Lib.hid ((ownB_one w6 w6.heap.size (Nat.le_refl _) e he).slice); clear hown hg hat H6) | (at_builtin; refine append_bytes _ rfl _ _ rfl base' _ (m + j) (l.take (m + j)) rfl H7.out.own _ 1 1 [e] rfl S7.out (fun e => by cases e) hmn2 H7.out.bs ?_; intro v'' w8 hown hg hat; rw [HH1.out] at hown; have H8 := Lib.hid (H7.out.step_own hown hg); clear hown hg hat))
                    go_roundw
                    case rel => exact ⟨k + 1, m + j + 1, by omega, by go_num, by rw [HH2.out]; go_num, H8⟩
                    case measure => simp [intOf]; omega
                  · have HH2 := Lib.hid h2
                    subst hm1
                    have hcnt : (l.take m).count e ≤ 300 := Nat.le_trans (List.count_le_length) (by rw [List.length_take]; omega)
                    have hsub : ((l.length : Int) - (l.length : Int) != 0) = false := by simp
                    have HM2 := Lib.hid hm2
                    clear h2 HOR hm2
                    go_wp2_with (at_builtin; refine append_bytes _ rfl _ _ rfl base' _ m (l.take m) rfl H5.out.own Ax j cx y rfl HSx.out tx.nil hmn H5.out.bs ?_; intro v' w6 hown hg hat; rw [HTK.out] at hown; have H6 := Lib.hid (H5.out.step_own hown hg); clear hown hg hat)
                    refine (left_any _ g' A1' c1' l ⟨m + j, 0, 0⟩ false H6.out.cur H6.out.fits).mono ?_
                    rintro r w8 ⟨rfl, hb8⟩
                    have H8 := Lib.hid (H6.out.later hb8)
                    clear hb8
                    have hsub : ((l.length : Int) - ((m + j : Nat) : Int) != 0) = false := by have := HM2.out; rw [bne_eq_false_iff_eq]; omega
                    go_wp2_with fail
                    go_roundw
                    case rel => exact ⟨k + 1, m + j, by have := HM2.out; omega, by go_num, by rw [HH2.out], H8⟩
                    case measure => simp [intOf]; omega
            · obtain rfl : m = l.length := by omega
              have hgt3 : ¬ (0 : Int) < (l.length : Int) - (l.length : Int) := by omega
              have htl : l.take l.length = l := List.take_length
              obtain ⟨Ao, co, rfl, So, _, _, _⟩ := H4.out.own.shape
              rw [htl] at So ⊢
              have HSo := Lib.hid So
              have HAL4 := Lib.hid (HALL.out.later H4.out.below)
              have HSa4 := Lib.hid (HSa.out.below H4.out.below)
              have HSb4 := Lib.hid (HS.out.below HAL4.out.below)
              have hcl : l.count e ≤ 300 := Nat.le_trans (List.count_le_length) hn
              clear So htl HALL HSa
              go_wp2_with fail
              go_loop [16, 21] (fun ve vi => ∃ k : Nat, k ≤ l.length ∧ vi = .int .i64 k ∧ ve = .int .i64 (((l.count e : Nat) : Int) - (((l.take k).count e : Nat) : Int))) (fun _ vi => l.length - (intOf vi).toNat)
              case atStart => exact ⟨0, by omega, rfl, by simp⟩
              case round =>
                obtain ⟨j, hj, rfl, rfl⟩ := hrel
                have hcj : (l.take j).count e ≤ 300 := Nat.le_trans (List.count_le_length) (by rw [List.length_take]; omega)
                by_cases hjl : j < l.length
                · have hji : (j : Int) < (l.length : Int) := by omega
                  obtain ⟨b5, o5, rfl, _, hc⟩ := HSb4.out.at j hjl
                  have hcn := count_next (e := e) hjl
                  obtain ⟨z, hz⟩ : ∃ z, z = l.getD j 0 := ⟨_, rfl⟩
                  rw [← hz] at hc hcn
                  have HCN := Lib.hid hcn
                  clear hz hcn
                  by_cases hze : z = e
                  · have hze' : (z == e) = true := beq_iff_eq.2 hze
                    have HZ := Lib.hid hze
                    clear hze
                    go_wp2_with fail
                    go_round
                    case rel => exact ⟨j + 1, by omega, by go_num, by rw [HCN.out, if_pos HZ.out]; go_num⟩
                    case measure => simp [intOf]; omega
                  · have hze' : (z == e) = false := beq_eq_false_iff_ne.2 hze
                    have HZ := Lib.hid hze
                    clear hze
                    go_wp2_with fail
                    go_round
                    case rel => exact ⟨j + 1, by omega, by go_num, by rw [HCN.out, if_neg HZ.out]; go_num⟩
                    case measure => simp [intOf]; omega
                · obtain rfl : j = l.length := by omega
                  have htl : l.take l.length = l := List.take_length
                  rw [htl]
                  clear htl
                  go_wp2_with fail
                  refine (new_any A l.length c l _ HSb4.out hA (by omega)).mono ?_
                  rintro r w9 ⟨g3, A3, c3, rfl, h9, hge9, _, hb9⟩
                  have hT := take_any w9 g3 A3 c3 l ⟨0, 0, 0⟩ false (l.length : Int) h9 (CS.fits_start (by omega))
                  rw [at_take l.length (by omega), List.drop_zero, List.take_length] at hT
                  have HT := Lib.hid hT
                  have B9 := Lib.hid hb9
                  have HG9 := Lib.hid hge9
                  clear hT h9 hge9 hb9
                  go_wp2_with fail
                  refine HT.out.mono ?_
                  rintro r w10 ⟨x, rfl, hown, _, hg10⟩
                  obtain ⟨Ax, cx, rfl, Sx, _, _, _⟩ := hown.shape
                  have B10 := Lib.hid (B9.out.grown hg10 B9.out.size (fun b e => by cases e; exact HG9.out))
                  have SX := Lib.hid Sx
                  have hmx : l.length ≤ 140737488351232 := by omega
                  clear hown hg10 Sx HT B9 HG9
                  go_wp2_with fail
                  refine (same_yes Aa _ ca _ A c _ (HSa4.out.below B10.out) (HSb4.out.below B10.out) hmx).mono ?_
                  rintro r w11 ⟨rfl, hb11⟩
                  have B11 := Lib.hid (B10.out.trans (hb11.mono B10.out.size))
                  have SX11 := Lib.hid (SX.out.below hb11)
                  clear hb11 SX
                  go_wp2_with fail
                  refine (same_yes Ao _ co _ A c _ (HSo.out.below B11.out) (HSb4.out.below B11.out) hmx).mono ?_
                  rintro r w12 ⟨rfl, hb12⟩
                  have B12 := Lib.hid (B11.out.trans (hb12.mono B11.out.size))
                  have SX12 := Lib.hid (SX11.out.below hb12)
                  clear hb12 SX11
                  go_wp2_with fail
                  refine (same_yes Ax _ cx _ A c _ SX12.out (HSb4.out.below B12.out) hmx).mono ?_
                  rintro r w13 ⟨rfl, hb13⟩
                  have B13 := Lib.hid (B12.out.trans (hb13.mono B12.out.size))
                  clear hb13 SX12
                  have hend : (((l.count e : Nat) : Int) - ((l.count e : Nat) : Int) == 0) = true := by simp
                  go_wp2_with fail
                  refine (fault_any _ g A1 c1 l ⟨l.length, 0, 0⟩ false (HAL4.out.later B13.out).cur).mono ?_
                  rintro r w14 ⟨rfl, hb14⟩
                  have B14 := Lib.hid (B13.out.trans (hb14.mono B13.out.size))
                  clear hb14
                  go_wp2_with fail
                  refine (fault_any _ g' A1' c1' l ⟨l.length, 0, 0⟩ false (H4.out.later B14.out).cur).mono ?_
                  rintro r w15 ⟨rfl, hb15⟩
                  have B15 := Lib.hid (B14.out.trans (hb15.mono B14.out.size))
                  clear hb15
                  go_wp2_with fail
                  refine (awake_any _).mono ?_
                  rintro r w16 ⟨rfl, hb16⟩
                  have B16 := Lib.hid (HAL4.out.below.trans ((B15.out.trans (hb16.mono B15.out.size)).mono HAL4.out.below.size))
                  clear hb16
                  go_wp2_with fail
                  go_ret
                  exact ⟨rfl, B16.out⟩

set_option maxRecDepth 100000 in
set_option maxHeartbeats 1000000 in
theorem parts_big (A : Option Addr) (n c : Nat) (A2 : Option Addr) (n2 c2 : Nat) (e : Int) (w : World) (hn : 300 < n ∨ 60 < n2) :
    Calls Try.prog 5 #[.slice A n c, .slice A2 n2 c2, .int .u8 e] w fun e w' => e = .returned (.bool true) ∧ Below w.heap.size w w' := by
  by_cases h : 300 < n
  · have hn' : (300 : Int) < (n : Int) := by omega
    clear hn h
    go_enter Try.func5, Try.ntmps5
    go_wp2_with fail
    refine (awake_any _).mono ?_
    rintro e w3 ⟨rfl, hb3⟩
    have B3 := Lib.hid hb3
    clear hb3
    go_wp2_with fail
    go_ret
    exact ⟨rfl, B3.out⟩
  · have hn' : ¬ (300 : Int) < (n : Int) := by omega
    have hn2' : (60 : Int) < (n2 : Int) := by omega
    clear hn h
    go_enter Try.func5, Try.ntmps5
    go_wp2_with fail
    refine (awake_any _).mono ?_
    rintro e w3 ⟨rfl, hb3⟩
    have B3 := Lib.hid hb3
    clear hb3
    go_wp2_with fail
    go_ret
    exact ⟨rfl, B3.out⟩

theorem parts_walk (A : Option Addr) (c : Nat) (l : List Int) (A2 : Option Addr) (c2 : Nat) (ps : List Int) (e : Int) (w : World) (hs : Sl w A l.length l) (hA : A = none → c = 0) (ha : Nums w A2 ps.length ps) (he : (Lit.int .u8 e).wf = true) :
    Calls Try.prog 5 #[.slice A l.length c, .slice A2 ps.length c2, .int .u8 e] w fun e w' => e = .returned (.bool true) ∧ Below w.heap.size w w' := by
  by_cases h : 300 < l.length ∨ 60 < ps.length
  · exact parts_big A _ c A2 _ c2 e w h
  · exact parts_main A c l A2 c2 ps e w hs hA ha (wf_u8 he) (by omega) (by omega)
end Go.Proofs.Ytiikppiogglppaa
