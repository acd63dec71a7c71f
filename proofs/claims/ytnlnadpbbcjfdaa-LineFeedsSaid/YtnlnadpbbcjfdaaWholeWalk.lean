/-
  The walk of 'whole'.
-/
import Derived.Test.YtnlnadpbbcjfdaaWhole
namespace Go.Proofs.Ytnlnadpbbcjfdaa
open Go.RowKit

theorem whole_wrong (A : Option Addr) (n c : Nat) (A2 : Option Addr) (n2 c2 : Nat) (x : Int) (w : World) (h : x < 1 ∨ 8192 < x) :
    Calls Try.prog 9 #[.slice A n c, .slice A2 n2 c2, .int .i64 x] w fun e w' => e = .returned (.tuple #[.slice none 0 0, .bool false, .int .i64 10]) ∧ Below w.heap.size w w' := by
  go_enter Try.func9, Try.ntmps9
  go_wp2_with fail
  refine (new_wrong x w h).mono ?_
  rintro e w1 ⟨rfl, rfl⟩
  go_wp2_with fail
  refine bodyPost_ret (results_tmp3 rfl _ _ _) rfl ⟨rfl, Below.refl _ _⟩

set_option maxRecDepth 100000 in
set_option maxHeartbeats 4000000 in
theorem whole_any (A : Option Addr) (n c : Nat) (l : List Int) (A2 : Option Addr) (c2 : Nat) (ks : List Int) (m : Nat) (w : World) (hs : Sl w A n l) (ht : Tidy A c) (hc : n ≤ c) (hn : n ≤ 700) (hA : ∀ ad, A = some ad → ad.block < w.heap.size) (hk : Nums w A2 ks.length ks) (hk2 : ks.length ≤ 1000000) (h1 : 1 ≤ m) (h2 : m ≤ 8192) :
    Calls Try.prog 9 #[.slice A n c, .slice A2 ks.length c2, .int .i64 (m : Int)] w fun e w' => ∃ v, e = .returned (.tuple #[v, .bool true, .int .i64 0]) ∧ OwnL w' w.heap.size v (allLines m l) ∧ Below w.heap.size w w' := by
  have HS := Lib.hid hs
  have HK := Lib.hid hk
  clear hs hk
  go_enter Try.func9, Try.ntmps9
  go_wp2_with fail
  refine (new_any m w h1 h2).mono ?_
  rintro e w1 ⟨rfl, f1, b1⟩
  have hz1 := f1.lt
  have b1a := (Below.refl _ w1).alloc (Nat.le_refl _) (.cells #[] 31)
  have B1 := Lib.hid (b1.trans (b1a.mono (Nat.le_of_lt hz1)))
  have F1 := Lib.hid (f1.below b1a)
  have O1 : Hid (OwnL (w1.alloc (.cells #[] 31)) w1.heap.size (.slice (some ⟨w1.heap.size, 0, none⟩) 0 0) []) := Lib.hid (World.ownsRow_made w1 #[] 0 (Nat.le_refl _) (by decide) rfl)
  have HZ := Lib.hid hz1
  clear f1 b1 hz1 b1a
  go_wp2_with fail
  refine (cuts_any A n c l A2 c2 ks _ (HS.out.below B1.out) ht hc (by omega) (HK.out.below B1.out) hk2).mono ?_
  rintro e w2 ⟨vp, ps, rfl, own, hfl, hpp, hp1, hp2, b2⟩
  have hsz : w1.heap.size + 1 ≤ w2.heap.size := by have := b2.size; rwa [World.size_alloc] at this
  have hlt1 := HZ.out
  have hfl' : Hid (flat ps = l) := Lib.hid hfl
  obtain ⟨q, cap, rfl, hcap, hcell⟩ := own.cell hp1
  have HI0 : Hid (WholeAt w ps (.slice (some ⟨q, 0, none⟩) ps.length cap) w.heap.size m w2 [] (.slice (some ⟨w1.heap.size, 0, none⟩) 0 0) none 0) := Lib.hid
    { fr := F1.out.below b2
      out := (World.ownsRow.kept (OwnL.mono O1.out (Nat.le_of_lt hlt1)) (grown_below (row := none) b2) (by simp [Value.ownBlock]) : OwnL w2 w.heap.size _ [])
      row := ⟨own.1, own.2.imp id (fun ⟨k, cp, cs, e, hb, r⟩ => ⟨k, cp, cs, e, by rw [World.size_alloc] at hb; omega, r⟩)⟩
      bO := fun ad e => by cases e
      nO := fun ad e => by cases e
      nP := fun b e e2 => by
        have e3 : w1.heap.size = b := Option.some.inj e
        have e4 := (World.ownsRow.lt own b e2).1
        rw [World.size_alloc] at e4
        omega
      below := B1.out.trans (b2.mono B1.out.size)
      ge := Nat.le_refl _ }
  have HPP := Lib.hid hpp
  clear own hfl hpp b2 hcell F1 O1 hlt1
  go_wp2_with fail
  go_loopw [11, 12, 14] (fun v vf vi wr => ∃ (k : Nat) (O : Option Addr) (co : Nat), vf = .bool true ∧ vi = .int .i64 k ∧ k ≤ ps.length ∧ Hid (WholeAt w ps (.slice (some ⟨q, 0, none⟩) ps.length cap) w.heap.size m wr (flat (ps.take k)) v O co)) (fun _ _ vi _ => ps.length - (intOf vi).toNat)
  case atStart => exact ⟨0, none, 0, rfl, rfl, Nat.zero_le _, HI0⟩
  case round =>
    obtain ⟨k, O, co, rfl, rfl, hk3, HI⟩ := hrel
    clear HI0
    by_cases hkn : k < ps.length
    · have hki : (k : Int) < (ps.length : Int) := by omega
      obtain ⟨p, hp⟩ : ∃ p, ps[k]? = some p := ⟨_, List.getElem?_eq_getElem hkn⟩
      obtain ⟨q', cap', e', _, hcell⟩ := HI.out.row.cell hp1
      cases e'
      have hc1 := hcell k p hp
      unfold Pt.v at hc1
      have hP := HPP.out p (List.mem_of_getElem? hp)
      have hfp := flat_take hp
      have hll := flat_len hp
      rw [hfl'.out] at hll
      have hfs := fin_size (flat (ps.take k)) 0 []
      have hln := HS.out.1
      have hspt := hP.sl _ (HS.out.below HI.out.below)
      have hfeed := feed_any wr w.heap.size m (fin 0 [] (flat (ps.take k))).1 (fin 0 [] (flat (ps.take k))).2 O co p.B p.k p.kc p.t HI.out.fr hspt hP.tidy hP.le
        (fun ad e => by obtain ⟨a0, e0, hb⟩ := hP.blk ad e; have := hA a0 e0; omega) (fun ad e => by obtain ⟨a0, e0, hb⟩ := hP.blk ad e; have := hA a0 e0; have := HI.out.below.size; omega) HI.out.bO (by have := hspt.1; simp at hfs; omega)
      have HFE := Lib.hid hfeed
      have HFP := Lib.hid hfp
      have HLL := Lib.hid hll
      have HFS := Lib.hid hfs
      clear hcell hP hfp hll hfs hspt hfeed hp
      go_wp2_with fail
      refine HFE.out.mono ?_
      rintro e w3 ⟨v2, O2, co2, rfl, own2, f3, far3, g3⟩
      obtain ⟨r1, r2, r3⟩ := HI.out.fed f3 far3 g3
      have HF3 := Lib.hid f3
      have HR3 := Lib.hid r3
      have HW2 := Lib.hid own2
      have HR1 := Lib.hid r1
      clear f3 far3 g3 r3 own2 r1
      go_wp2_with (at_builtin; refine append_lines w3 rfl _ _ rfl w.heap.size wr.heap.size u11 v2 _ _ rfl HR1.out rfl HW2.out (by have := HLL.out; have := lin_length m (flat (ps.take k)) 0 []; have := lin_length m p.t (fin 0 [] (flat (ps.take k))).1 (fin 0 [] (flat (ps.take k))).2; omega) r2 ?_; intro v' w4 hown hg hat)
      have M := HR3.out v' w4 hown hg hat
      rw [HFP.out] at M
      have HM := Lib.hid M
      have hle : ((opn m (fin 0 [] (flat (ps.take (k + 1)))).2).length : Int) ≤ (m : Int) := by have := opn_le m (fin 0 [] (flat (ps.take (k + 1)))).2; omega
      have hge0 : (0 : Int) ≤ ((opn m (fin 0 [] (flat (ps.take (k + 1)))).2).length : Int) := by omega
      clear M hown hg hat HFE HFP HLL HFS HF3 HR3 HW2 HR1 HI r2
      have HH := Lib.hid (held_any w4 w.heap.size m _ _ _ false O2 co2 HM.out.fr)
      generalize (opn m (fin 0 [] (flat (ps.take (k + 1)))).2).length = hq at HH hle hge0
      refine HH.out.mono ?_
      rintro e w5 ⟨rfl, rfl⟩
      go_wp2_with fail
      refine HH.out.mono ?_
      rintro e w5 ⟨rfl, rfl⟩
      go_wp2_with fail
      go_roundw
      case rel => exact ⟨k + 1, O2, co2, rfl, by go_num, by omega, HM⟩
      case measure => simp [intOf]; omega
    · obtain rfl : k = ps.length := by omega
      rw [List.take_length, hfl'.out] at HI
      have hfs := fin_size l 0 []
      have hln := HS.out.1
      have hcl := close_any wr w.heap.size m _ _ _ O co HI.out.fr rfl (by simp at hfs; omega)
      have HCL := Lib.hid hcl
      clear hcl
      go_wp2_with fail
      refine HCL.out.mono ?_
      rintro e w3 ⟨O2, co2, rfl, f3, g3⟩
      obtain ⟨r1, r2⟩ := HI.out.shut g3
      by_cases hc0 : (fin 0 [] l).2 = []
      · rw [if_pos hc0, decide_eq_false (by simpa using hc0)]
        have ha : allLines m l = lin m 0 [] l := by unfold allLines; rw [if_pos hc0, List.append_nil]
        have r1a := World.ownsRow.alloc r1 (.cells #[.int .i64 0, .int .i64 0, .string ⟨#[]⟩, .bool false] 31)
        have HE := Lib.hid (show OwnL (w3.alloc (.cells #[.int .i64 0, .int .i64 0, .string ⟨#[]⟩, .bool false] 31)) w.heap.size u11 (allLines m l) ∧ Below w.heap.size w (w3.alloc (.cells #[.int .i64 0, .int .i64 0, .string ⟨#[]⟩, .bool false] 31)) from
          ⟨by rw [ha]; exact r1a, r2.alloc r2.size _⟩)
        rw [lvv_no]
        clear r1 r2 f3 g3 r1a HCL HI
        go_wp2_with fail
        exact bodyPost_ret (results_tmp3 rfl _ _ _) rfl ⟨_, rfl, HE.out.1, HE.out.2⟩
      · rw [if_neg hc0, decide_eq_true (by simpa using hc0)]
        have ha : allLines m l = lin m 0 [] l ++ [mkLine m (fin 0 [] l).1 (fin 0 [] l).2 0] := by unfold allLines; rw [if_neg hc0]
        have HAL := Lib.hid ha
        have HR1 := Lib.hid r1
        have HR2 := Lib.hid r2
        clear ha r1 r2 f3 g3 HCL HI
        generalize mkLine m (fin 0 [] l).1 (fin 0 [] l).2 0 = ln at HAL ⊢
        simp only [lvv]
        have o1 := World.ownsRow.alloc (World.ownsRow.alloc HR1.out (.cells #[.int .i64 ln.a, .int .i64 ln.b, .string (strOfNums ln.t), .bool ln.long] 31)) (.cells #[.int .i64 ln.a, .int .i64 ln.b, .string (strOfNums ln.t), .bool ln.long] 31)
        have o2 := ownL_one (w3.alloc (.cells #[.int .i64 ln.a, .int .i64 ln.b, .string (strOfNums ln.t), .bool ln.long] 31)) ln
        unfold lvv at o2
        rw [World.size_alloc] at o2
        have HO1 : Hid (OwnL ((w3.alloc (.cells #[.int .i64 ln.a, .int .i64 ln.b, .string (strOfNums ln.t), .bool ln.long] 31)).alloc (.cells #[.int .i64 ln.a, .int .i64 ln.b, .string (strOfNums ln.t), .bool ln.long] 31)) w.heap.size u11 (lin m 0 [] l)) := Lib.hid o1
        have HO2 := Lib.hid o2
        have HBB := Lib.hid ((HR2.out.alloc HR2.out.size (.cells #[.int .i64 ln.a, .int .i64 ln.b, .string (strOfNums ln.t), .bool ln.long] 31)).alloc (by have := HR2.out.size; simp; omega) (.cells #[.int .i64 ln.a, .int .i64 ln.b, .string (strOfNums ln.t), .bool ln.long] 31))
        have hlen : (lin m 0 [] l).length + [ln].length ≤ 10000 := by have := lin_length m l 0 []; simp only [List.length_cons, List.length_nil]; omega
        have hlo := HBB.out.size
        clear o1 o2
        go_wp2_with (at_builtin; refine append_lines _ rfl _ _ rfl w.heap.size (w3.heap.size + 1) u11 (.slice (some ⟨w3.heap.size + 1, 0, none⟩) 1 1) _ [ln] rfl HO1.out rfl HO2.out hlen hlo ?_; intro v' w4 hown hg hat)
        exact bodyPost_ret (results_tmp3 rfl _ _ _) rfl ⟨_, rfl, by rw [HAL.out]; exact hown, HBB.out.grown hg hlo (fun k e => (HO1.out.lt k e).1)⟩
end Go.Proofs.Ytnlnadpbbcjfdaa
