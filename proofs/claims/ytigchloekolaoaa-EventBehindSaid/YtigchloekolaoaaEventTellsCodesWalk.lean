/-
  event.Codes, walked: the errors of rejects, sorted, and how many there are of each.
-/
import Derived.Test.YtigchloekolaoaaPEventTellsx0
import Derived.Test.YtigchloekolaoaaEventTellsCodesPlain
import Derived.Deep.RegionWith
namespace Go.Proofs.Ytigchloekolaoaa.PEventTells
open Go.RowKit Go.Maps Go.Shelf Go.Proofs.YtigchloekolaoaaW.PrintWords

theorem zero3 (w : World) : (zeroValue 3).run Try.prog w = .ok (.int .i64 0) w := by kernel_rfl

/-- A slice that reads as numbers. -/
def IntsAt (w : World) (A : Option Addr) (n : Nat) (l : List Int) : Prop := l.length = n ∧ (n = 0 ∨ ∃ b off, A = some ⟨b, off, none⟩ ∧ b < w.heap.size ∧ ∀ i, i < n → w.cell? ⟨b, off + i, none⟩ = some (.int .i64 (l.getD i 0)))

theorem IntsAt.below {w w' : World} {A : Option Addr} {n : Nat} {l : List Int} (h : IntsAt w A n l) (hb : Below w.heap.size w w') : IntsAt w' A n l := by
  refine ⟨h.1, h.2.imp id ?_⟩
  rintro ⟨b, off, e, hlt, hc⟩
  exact ⟨b, off, e, Nat.lt_of_lt_of_le hlt hb.size, fun i hi => (hb.cell (p := ⟨b, off + i, none⟩) hlt).trans (hc i hi)⟩

theorem ints_of_own {w : World} {base : Nat} {t : TypeId} {v : Value} {l : List Int} (h : w.ownsRow base t 1 v l.length (l.map encZ)) : ∃ A c, v = .slice A l.length c ∧ l.length ≤ c ∧ IntsAt w A l.length l := by
  have hl := h.lt
  have hcs := fun q e => World.ownsRow.cells h (g := q) e
  rcases h.2 with ⟨rfl, h0⟩ | ⟨q, cap, cs, rfl, hb, hg, hc, _⟩
  · exact ⟨none, 0, by rw [h0], by omega, rfl, .inl h0⟩
  · refine ⟨some ⟨q, 0, none⟩, cap, rfl, hc, rfl, .inr ⟨q, 0, rfl, (hl q rfl).2, fun i hi => ?_⟩⟩
    have e : (⟨q, 0, none⟩ : Addr).add i = ⟨q, 0 + i, none⟩ := by unfold Addr.add; split <;> simp_all
    rw [← e]
    refine hcs q rfl i _ ?_
    rw [List.getElem?_map, List.getElem?_eq_getElem hi]
    simp [hi]

/-- maps.Keys. -/
theorem keys_calls (mb : Option Nat) (W : World) : Calls Try.prog 39 #[.map mb] W fun e w' => e = .returned (.func (.func 49) #[] #[.pointer (some ⟨W.heap.size, 0, none⟩)]) ∧ w' = W.alloc (.cells #[.map mb] 76) :=
  callsIn_wide.1 (AnyZI.keys_in keysA Fence.wide 5 trivial rfl mb W)

/-- slices.Sorted of a map's keys. -/
theorem sorted_calls (b nn : Nat) (D : DataW Unit) (w : World) (hown : w.ownsMap Try.prog 44 (plainElem Try.prog 3) b nn D) (hn : nn ≤ 100000) :
    Calls Try.prog 38 #[.func (.func 49) #[] #[.pointer (some ⟨w.heap.size, 0, none⟩)]] (w.alloc (.cells #[.map (some b)] 76)) fun e w' => ∃ (v : Value) (ss : List Int), e = .returned v ∧ ss.Perm (intKeys D) ∧
      w'.ownsRow (w.alloc (.cells #[.map (some b)] 76)).heap.size 44 1 v ss.length ((ss.mergeSort leI).map encZ) ∧ (v = .slice none 0 0 ↔ ss = []) ∧ Below (w.alloc (.cells #[.map (some b)] 76)).heap.size (w.alloc (.cells #[.map (some b)] 76)) w' := by
  have hbl := hown.lt
  have hsz := hown.size_le
  have hseq : SeqGives Fence.wide 2 Try.prog 49 #[.pointer (some ⟨w.heap.size, 0, none⟩)] encZ (fun ss => ss.Perm (intKeys D)) (Maps.size D) (w.alloc (.cells #[.map (some b)] 76)) :=
    AnyZI.keys_gives (ρ := keysA_ren) { keysA with } Fence.wide _ trivial rfl (by omega) w.heap.size b nn D _ (by simp) (by simp) (by
      obtain ⟨es, clock, hb, Ft, hs, hD⟩ := hown
      exact ⟨es, clock, (Below.heap_alloc _ _ b hbl).trans hb, Ft, hs, hD⟩)
  have cS := AnyZI.sorted_in sortedA Fence.wide 5 trivial trivial trivial trivial rfl (by omega) (sortsA _) (enters_of Try.func48 (by kernel_rfl) rfl) 49 #[.pointer (some ⟨w.heap.size, 0, none⟩)] trivial (enters_of Try.func49 (by kernel_rfl) rfl) _ _ (by unfold maxLen; omega) (by omega) _ hseq
  exact callsIn_wide.1 cS

/-- While rejects are counted. -/
structure CntAt (w : World) (l : List S46) (i : Nat) (W : World) (D : DataW Unit) : Prop where
  own : W.ownsMap Try.prog 44 (plainElem Try.prog 3) w.heap.size i D
  cnt : CntMap D (l.take i)
  below : Below w.heap.size w W

theorem grown_of {w w' : World} (h : Below w.heap.size w w') : w.grownBy w' none := ⟨h.os, h.tape, h.output, h.size, fun k hk _ => h.block k hk⟩

theorem codes_w64 {l : List S46} (hw : ∀ e ∈ l, W64 e.f4) : ∀ c ∈ codesOf l, W64 c := by
  intro c hc
  have h3 : 0 < l.countP fun e => decide (e.f0 = 2 ∧ e.f4 = c) := ((codes_all l).2.1 c).1 hc
  obtain ⟨e, he, h4⟩ := List.countP_pos_iff.1 h3
  have h5 := of_decide_eq_true h4
  rw [← h5.2]
  exact hw e he

set_option maxRecDepth 100000 in
set_option maxHeartbeats 4000000 in
theorem codes_calls (A : Option Addr) (n c : Nat) (l : List S46) (w : World) (hn : l.length = n) (hr : Kd.C k46 w A n l) (hmax : n ≤ 1000) (hw : ∀ e ∈ l, W64 e.f4) :
    Calls Try.prog 23 #[.slice A n c] w fun e w' => ∃ A' c' B' d', e = .returned (.tuple #[.slice A' (codesOf l).length c', .slice B' (codesOf l).length d']) ∧ IntsAt w' A' (codesOf l).length (codesOf l) ∧
      IntsAt w' B' (codesOf l).length ((codesOf l).map fun c => (cntC l c : Int)) ∧ Below w.heap.size w w' := by
  have HR := Lib.hid hr
  have HW := Lib.hid hw
  have HN := Lib.hid hn
  have hmm := @run_makeMap Try.prog
  have law := int_keyed Try.underlying44
  have H0 : Hid (CntAt w l 0 (w.alloc (.map #[] 0)) (.map [])) := Lib.hid ⟨World.ownsMap_made _ _ _ _, cntMap_nil, (Below.refl _ _).alloc (Nat.le_refl _) _⟩
  clear hr hw hn
  go_enter Try.func23, Try.ntmps23
  go_wp2_with fail
  go_loopw [14] (fun vi wr => ∃ (i : Nat) (D : DataW Unit), vi = .int .i64 i ∧ i ≤ n ∧ Hid (CntAt w l i wr D)) (fun vi _ => n - (intOf vi).toNat)
  case atStart => exact ⟨0, _, rfl, Nat.zero_le _, H0⟩
  case round =>
    obtain ⟨i, D, rfl, hi, HI⟩ := hrel
    clear H0
    by_cases hin : i < n
    · have hii : (i : Int) < (n : Int) := by omega
      have hts := take_snoc_ev l i (by have := HN.out; omega)
      have hmem : l.getD i z46 ∈ l := by
        rw [List.getD_eq_getElem?_getD, List.getElem?_eq_getElem (by have := HN.out; omega)]
        exact List.getElem_mem _
      have hwf := HW.out _ hmem
      obtain ⟨ad, A3, e3, rfl, x0, x1, x2, x3, x4, x5, _, _⟩ := at_T46 (Kd.C_below HR.out HI.out.below) (i : Int) (by omega) hii
      rw [show rd_T46 l (i : Int) = l.getD i z46 from by unfold rd_T46; rw [Int.toNat_natCast]] at x0 x1 x2 x3 x4 x5
      rw [Int.toNat_natCast] at x0 x1 x2 x3 x4 x5
      generalize l.getD i z46 = p at hts hwf x0 x1 x2 x3 x4 x5
      have HTS := Lib.hid hts
      have hown := HI.out.own.alloc (.cells #[.int .i64 p.f0, .int .i64 p.f1, .int .i64 p.f2, .slice A3 p.f3.length e3, .int .i64 p.f4, .int .i64 p.f5] 46)
      have HB := Lib.hid (HI.out.below.alloc HI.out.below.size (.cells #[.int .i64 p.f0, .int .i64 p.f1, .int .i64 p.f2, .slice A3 p.f3.length e3, .int .i64 p.f4, .int .i64 p.f5] 46))
      have HC := Lib.hid HI.out.cnt
      clear hts hmem HI
      by_cases he : p.f0 = 2
      · have HE := Lib.hid he
        rw [he] at x0 hown HB
        clear he
        have hkey : keyOf Try.prog 44 (.int .i64 p.f4) = some (.int .i64 p.f4) := keyOf_int_mk Try.underlying44 hwf
        go_wp2_with (first
          | (at_lookup; refine wpList_lookup_own_int _ rfl _ _ 76 rfl 44 3 .i64 law Try.underlying76 Try.underlying3 (zero3 _) w.heap.size i _ rfl hown _ _ rfl hkey ?_; intro c hat hwc)
          | (at_mapUpdate; refine wpList_mapUpdate_own _ rfl _ _ _ 76 rfl 44 3 law Try.underlying76 _ w.heap.size i _ rfl hown (by unfold maxLen; omega) _ _ _ rfl rfl hkey _ [] (plainElem_int Try.underlying3 (wrap64_wf _)) ?_; intro w1 hown1 hgrow1)
          | fail)
        have hcv := hat.symm.trans (HC.out.val p.f4 hwf)
        have hcv : c = (cntC (l.take i) p.f4 : Int) := by injection hcv with h; injection h
        have hle := cnt_le (l.take i) p.f4
        rw [List.length_take] at hle
        have HM : Hid (CntAt w l (i + 1) w1 (D.put (.int .i64 p.f4) (.lit (.int .i64 (wrap64 (c + 1)))))) := Lib.hid
          { own := hown1
            cnt := by rw [HTS.out]; exact cntMap_put HC.out hown.isMap HE.out (by rw [hcv]; unfold wrap64; omega)
            below := HB.out.grown hgrow1 HB.out.size (fun j hj => by cases hj; exact Nat.le_refl _) }
        clear hown1 hgrow1 hat hwc hcv hle
        go_wp2_with fail
        go_roundw
        case rel => exact ⟨i + 1, _, by go_num, by omega, HM⟩
        case measure => simp [intOf]; omega
      · have HM : Hid (CntAt w l (i + 1) (wr.alloc (.cells #[.int .i64 p.f0, .int .i64 p.f1, .int .i64 p.f2, .slice A3 p.f3.length e3, .int .i64 p.f4, .int .i64 p.f5] 46)) D) := Lib.hid
          { own := hown.mono (Nat.le_succ i)
            cnt := by rw [HTS.out]; exact cntMap_skip HC.out he
            below := HB.out }
        clear hown HB HC
        go_wp2_with fail
        go_roundw
        case rel => exact ⟨i + 1, _, by go_num, by omega, HM⟩
        case measure => simp [intOf]; omega
    · obtain rfl : i = n := by omega
      have ht : l.take i = l := List.take_of_length_le (by rw [HN.out]; exact Nat.le_refl _)
      have hI := HI.out
      have hcm := hI.cnt
      rw [ht] at hcm
      have HC := Lib.hid hcm
      have hown := hI.own
      have HB := Lib.hid hI.below
      clear hI hcm HI ht
      go_wp2_with fail
      refine (keys_calls _ _).mono ?_
      rintro e w1 ⟨rfl, rfl⟩
      have HSC := Lib.hid (sorted_calls _ _ D wr hown (by omega))
      go_wp2_with fail
      refine HSC.out.mono ?_
      rintro e w2 ⟨v, ss, rfl, hs, hrow, _, hb2⟩
      have hks := keys_sorted hown HC.out HW.out hs
      rw [hks] at hrow
      have hlen : ss.length = (codesOf l).length := by rw [← hks]; exact (List.length_mergeSort ..).symm
      rw [hlen] at hrow
      have b1 := (Below.refl wr.heap.size wr).alloc (Nat.le_refl _) (.cells #[.map (some w.heap.size)] 76)
      have b12 := b1.trans (hb2.mono b1.size)
      have hown2 := hown.kept (grown_of b12) (by simp)
      have HO2 := Lib.hid hown2
      obtain ⟨A2, c2, rfl, hc2, hi2⟩ := ints_of_own hrow
      have HI2 := Lib.hid hi2
      have HB2 := Lib.hid (HB.out.trans (b12.mono HB.out.size))
      have hmx := (codes_all l).2.2
      rw [HN.out] at hmx
      have HCW : Hid (∀ c ∈ codesOf l, W64 c) := Lib.hid (codes_w64 HW.out)
      clear hrow hb2 hks hs hlen b1 b12 hown hown2 hi2 HSC HB
      generalize hNN : (codesOf l).length = N at hc2 hmx HI2 ⊢
      have HNN := Lib.hid hNN
      clear hNN
      go_wp2_with fail
      have HR0 : Hid (w2.ownsRow w2.heap.size 3 1 (.slice none 0 0) 0 (((codesOf l).take 0).map fun c => Value.int .i64 (cntC l c : Int))) := Lib.hid (World.ownsRow_nil w2 w2.heap.size 3 1)
      go_loopw [8, 32] (fun v vi wr => ∃ j : Nat, vi = .int .i64 j ∧ j ≤ N ∧ Hid (wr.ownsRow w2.heap.size 3 1 v j (((codesOf l).take j).map fun c => Value.int .i64 (cntC l c : Int))) ∧ Hid (Below w2.heap.size w2 wr)) (fun _ vi _ => N - (intOf vi).toNat)
      case atStart => exact ⟨0, rfl, Nat.zero_le _, HR0, Lib.hid (Below.refl _ _)⟩
      case round =>
        obtain ⟨j, rfl, hj, HV, HBW⟩ := hrel
        clear HR0
        by_cases hjn : j < N
        · have hji : (j : Int) < (N : Int) := by omega
          have hi3 := HI2.out.below HBW.out
          obtain ⟨b, off, rfl, _, hc⟩ := hi3.2.resolve_left (by omega)
          have x0 := hc j hjn
          have hmem : (codesOf l).getD j 0 ∈ codesOf l := by
            rw [List.getD_eq_getElem?_getD, List.getElem?_eq_getElem (by have := HNN.out; omega)]
            exact List.getElem_mem _
          have hts : (codesOf l).take (j + 1) = (codesOf l).take j ++ [(codesOf l).getD j 0] := by
            have hjl : j < (codesOf l).length := by have := HNN.out; omega
            rw [List.take_add_one, List.getElem?_eq_getElem hjl]
            simp [hjl]
          have hwf := HCW.out _ hmem
          generalize (codesOf l).getD j 0 = z at x0 hwf hts
          have HTS := Lib.hid hts
          have hown := HO2.out.kept (grown_of HBW.out) (by simp)
          have hkey : keyOf Try.prog 44 (.int .i64 z) = some (.int .i64 z) := keyOf_int_mk Try.underlying44 hwf
          obtain ⟨i0, hi, hz0, hz1, hz2⟩ := info_parts info3
          have hsz := HBW.out.size
          clear hi3 hc hmem hts
          go_wp2_with (first
            | (at_lookup; refine wpList_lookup_own_int _ rfl _ _ 76 rfl 44 3 .i64 law Try.underlying76 Try.underlying3 (zero3 _) w.heap.size i _ rfl hown _ _ rfl hkey ?_; intro q hat hwc)
            | (at_builtin; refine wpList_append_own_at _ rfl _ _ 43 rfl w2.heap.size 3 i0 (.int .i64 0) 1 8 Try.underlying43 hi hz0 hz1 hz2 rfl (by decide) u8 j _ rfl (HV.out.alloc _) ⟨wr.heap.size, 0, none⟩ 1 1 [.int .i64 q] rfl rfl (cell_one_new _ _ _) (ints_oneCell .i64 [q]) (by unfold maxLen; omega) (by omega) (by simp; omega) ?_; intro v' w4 hown' hgrow hnil hloc)
            | fail)
          have hcv := hat.symm.trans (HC.out.val z hwf)
          have hcv : q = (cntC l z : Int) := by injection hcv with h; injection h
          have HV2 : Hid (w4.ownsRow w2.heap.size 3 1 v' (j + 1) (((codesOf l).take (j + 1)).map fun c => Value.int .i64 (cntC l c : Int))) := Lib.hid (by
            rw [HTS.out, List.map_append]
            simp only [List.map_cons, List.map_nil]
            rw [← hcv]
            exact hown')
          have HB4 : Hid (Below w2.heap.size w2 w4) := Lib.hid ((HBW.out.alloc HBW.out.size _).grown hgrow (by simp; omega) (fun k e => (HV.out.lt k e).1))
          clear hown' hgrow hnil hloc hat hwc hcv HV HBW
          go_wp2_with fail
          go_roundw
          case rel => exact ⟨j + 1, by go_num, by omega, HV2, HB4⟩
          case measure => simp [intOf]; omega
        · obtain rfl : j = N := by omega
          have hv := HV.out
          have ht : (codesOf l).take j = codesOf l := List.take_of_length_le (by rw [HNN.out]; exact Nat.le_refl _)
          rw [ht] at hv
          have hl2 : ((codesOf l).map fun c => (cntC l c : Int)).length = j := by rw [List.length_map]; exact HNN.out
          have hv2 : wr.ownsRow w2.heap.size 3 1 u8 ((codesOf l).map fun c => (cntC l c : Int)).length (((codesOf l).map fun c => (cntC l c : Int)).map encZ) := by rw [hl2, List.map_map]; exact hv
          obtain ⟨A5, c5, rfl, hc5, hi5⟩ := ints_of_own hv2
          rw [hl2] at hc5 hi5 ⊢
          have HE : Hid (IntsAt wr A2 j (codesOf l) ∧ IntsAt wr A5 j ((codesOf l).map fun c => (cntC l c : Int)) ∧ Below w.heap.size w wr) := Lib.hid ⟨HI2.out.below HBW.out, hi5, HB2.out.trans (HBW.out.mono HB2.out.size)⟩
          clear hv hv2 hi5 HV HBW HI2 HO2
          go_wp2_with fail
          go_ret2
          rw [HNN.out]
          exact ⟨_, _, _, _, rfl, HE.out⟩
end Go.Proofs.Ytigchloekolaoaa.PEventTells
