/-
  The reference's functions, walked.
-/
import Derived.Test.YtnlnadpbbcjfdaaRefPlain
namespace Go.Proofs.Ytnlnadpbbcjfdaa
open Go.RowKit

set_option maxRecDepth 100000 in
set_option maxHeartbeats 2000000 in
theorem one_any (A : Option Addr) (n c : Nat) (l : List Int) (fr e t m : Nat) (w : World) (hs : Sl w A n l) (hc : n ≤ c) (h1 : fr ≤ e) (h2 : e ≤ n) (hn : n ≤ 100000) :
    Calls Try.prog 20 #[.slice A n c, .int .i64 (fr : Int), .int .i64 (e : Int), .int .i64 (t : Int), .int .i64 (m : Int)] w fun r w' => r = .returned (.agg (lvv (oneLine m l fr e t))) ∧ Below w.heap.size w w' := by
  obtain ⟨g, rfl⟩ : ∃ g, e = fr + g := ⟨e - fr, by omega⟩
  have hg : fr + g - fr = g := by omega
  have hw : IntKind.i64.wrap ((fr : Int) + (g : Int) - (fr : Int)) = (g : Int) := by rw [IntKind.wrap_i64]; omega
  have hsum : ((fr + g : Nat) : Int) = (fr : Int) + (g : Int) := by omega
  by_cases hm : m < g
  · have hmi : (m : Int) < (g : Int) := by omega
    have HE : Hid (oneLine m l fr (fr + g) t = ⟨fr, t, [], true⟩) := Lib.hid (by unfold oneLine; rw [hg, if_pos hm, decide_eq_true hm])
    clear hs hg
    rw [hsum]
    go_enter Try.func20, Try.ntmps20
    go_wp2_with fail
    exact bodyPost_ret (results_cell_row rfl _ _ w.heap.size 51 #[.int .i64 fr, .int .i64 t, .string ⟨#[]⟩, .bool true] (0, 0) _ rfl (heap_alloc_new w _) Try.underlying51 rfl info51) rfl ⟨by rw [HE.out]; rfl, (Below.refl _ w).alloc (Nat.le_refl _) _⟩
  · have hmi : ¬ (m : Int) < (g : Int) := by omega
    have HE : Hid (oneLine m l fr (fr + g) t = ⟨fr, t, (l.drop fr).take g, false⟩) := Lib.hid (by unfold oneLine; rw [hg, if_neg hm, decide_eq_false hm])
    obtain ⟨a', hrun, hsl⟩ := cut_run hs fr g h2 hc
    have hconv := (hsl.below ((Below.refl w.heap.size w).alloc (Nat.le_refl _) (.cells #[.int .i64 0, .int .i64 0, .string ⟨#[]⟩, .bool false] 51))).convert (c - fr)
    rw [hsum]
    clear hs hg hsl
    go_enter Try.func20, Try.ntmps20
    go_wp2_with fail
    exact bodyPost_ret (results_cell_row rfl _ _ w.heap.size 51 #[.int .i64 fr, .int .i64 t, .string (strOfNums ((l.drop fr).take g)), .bool false] (0, 0) _ rfl (heap_alloc_new w _) Try.underlying51 rfl info51) rfl ⟨by rw [HE.out]; rfl, (Below.refl _ w).alloc (Nat.le_refl _) _⟩

set_option maxRecDepth 100000 in
set_option maxHeartbeats 2000000 in
theorem open_any (A : Option Addr) (n c : Nat) (l : List Int) (w : World) (hs : Sl w A n l) (hn : n ≤ 100000) :
    Calls Try.prog 19 #[.slice A n c] w fun r w' => r = .returned (.int .i64 ((fin 0 [] l).1 : Nat)) ∧ w = w' := by
  have HS := Lib.hid hs
  clear hs
  go_enter Try.func19, Try.ntmps19
  go_wp2_with fail
  go_loopw [3, 4] (fun vf vi wr => ∃ i : Nat, vi = .int .i64 i ∧ i ≤ n ∧ vf = .int .i64 ((fin 0 [] (l.take i)).1 : Nat) ∧ wr = w) (fun _ vi _ => n - (intOf vi).toNat)
  case atStart => exact ⟨0, rfl, Nat.zero_le _, rfl, rfl⟩
  case round =>
    obtain ⟨i, rfl, hi, rfl, rfl⟩ := hrel
    by_cases hin : i < n
    · have hii : (i : Int) < (n : Int) := by omega
      obtain ⟨b, off, rfl, _, hb⟩ := HS.out.at i hin
      have hln := HS.out.1
      have hsn := take_snoc (l := l) (k := i) (by omega)
      have hst : (fin 0 [] (l.take (i + 1))).1 = if l.getD i 0 = 10 then i + 1 else (fin 0 [] (l.take i)).1 := by
        have h1 := fin_part l i (by omega)
        rw [hsn, fin_append, fin_cons, fin_nil, fin_nil]
        split
        · simp only; omega
        · rfl
      generalize l.getD i 0 = u at hb hst
      clear hln hsn
      by_cases hu : u = 10
      · subst hu
        rw [if_pos rfl] at hst
        have HST := Lib.hid hst
        clear hst
        go_wp2_with fail
        go_roundw
        case rel => exact ⟨i + 1, by go_num, by omega, by rw [HST.out]; go_num, trivial⟩
        case measure => simp [intOf]; omega
      · rw [if_neg hu] at hst
        have HST := Lib.hid hst
        clear hst
        go_wp2_with fail
        go_roundw
        case rel => exact ⟨i + 1, by go_num, by omega, by rw [HST.out], trivial⟩
        case measure => simp [intOf]; omega
    · obtain rfl : i = n := by omega
      rw [List.take_of_length_le (by rw [HS.out.1]; exact Nat.le_refl _)]
      go_wp2_with fail
      go_ret
      exact ⟨rfl, rfl⟩

set_option maxRecDepth 100000 in
set_option maxHeartbeats 2000000 in
theorem refheld_any (A : Option Addr) (n c : Nat) (l : List Int) (m : Nat) (w : World) (hs : Sl w A n l) (hn : n ≤ 100000) :
    Calls Try.prog 17 #[.slice A n c, .int .i64 (m : Int)] w fun r w' => r = .returned (.int .i64 ((opn m (fin 0 [] l).2).length : Nat)) ∧ w = w' := by
  have h1 := fin_size l 0 []
  have h2 := hs.1
  simp only [List.length_nil] at h1
  have HO := Lib.hid (open_any A n c l w hs hn)
  have HE : Hid ((opn m (fin 0 [] l).2).length = if m < (fin 0 [] l).2.length then 0 else (fin 0 [] l).2.length) := Lib.hid (by unfold opn; split <;> rfl)
  generalize (fin 0 [] l).1 = f at HO h1
  generalize (opn m (fin 0 [] l).2).length = g at HE ⊢
  generalize (fin 0 [] l).2.length = q at HE h1
  have hw : IntKind.i64.wrap ((n : Int) - (f : Int)) = (q : Int) := by rw [IntKind.wrap_i64]; omega
  clear hs h1 h2
  by_cases hm : m < q
  · have hmi : (m : Int) < (q : Int) := by omega
    have hge := HE.out
    rw [if_pos hm] at hge
    subst hge
    clear HE
    go_enter Try.func17, Try.ntmps17
    go_wp2_with fail
    refine HO.out.mono ?_
    rintro r w1 ⟨rfl, rfl⟩
    go_wp2_with fail
    go_ret
    exact ⟨rfl, rfl⟩
  · have hmi : ¬ (m : Int) < (q : Int) := by omega
    have hge := HE.out
    rw [if_neg hm] at hge
    subst hge
    clear HE
    go_enter Try.func17, Try.ntmps17
    go_wp2_with fail
    refine HO.out.mono ?_
    rintro r w1 ⟨rfl, rfl⟩
    go_wp2_with fail
    go_ret
    exact ⟨rfl, rfl⟩

/-- While the reference's lines are gathered. -/
structure RefAt (w : World) (m : Nat) (l : List Int) (i : Nat) (v : Value) (W : World) : Prop where
  own : OwnR W w.heap.size v (lin m 0 [] (l.take i))
  below : Below w.heap.size w W

set_option maxRecDepth 100000 in
set_option maxHeartbeats 2000000 in
theorem lines_any (A : Option Addr) (n c : Nat) (l : List Int) (m : Nat) (w : World) (hs : Sl w A n l) (hc : n ≤ c) (hn : n ≤ 1000) :
    Calls Try.prog 13 #[.slice A n c, .int .i64 (m : Int)] w fun r w' => ∃ v, r = .returned v ∧ OwnR w' w.heap.size v (lin m 0 [] l) ∧ Below w.heap.size w w' := by
  have HS := Lib.hid hs
  have b0 := (Below.refl w.heap.size w).alloc (Nat.le_refl _) (.cells #[] 51)
  have H0 : Hid (RefAt w m l 0 (.slice (some ⟨w.heap.size, 0, none⟩) 0 0) (w.alloc (.cells #[] 51))) := Lib.hid ⟨ownR_made w w.heap.size (Nat.le_refl _), b0⟩
  clear hs b0
  go_enter Try.func13, Try.ntmps13
  go_wp2_with fail
  go_loopw [5, 6, 7] (fun v vf vi wr => ∃ i : Nat, vi = .int .i64 i ∧ i ≤ n ∧ vf = .int .i64 ((fin 0 [] (l.take i)).1 : Nat) ∧ Hid (RefAt w m l i v wr)) (fun _ _ vi _ => n - (intOf vi).toNat)
  case atStart => exact ⟨0, rfl, Nat.zero_le _, rfl, H0⟩
  case round =>
    obtain ⟨i, rfl, hi, rfl, HI⟩ := hrel
    clear H0
    by_cases hin : i < n
    · have hii : (i : Int) < (n : Int) := by omega
      have hsw := HS.out.below HI.out.below
      obtain ⟨b, off, rfl, _, hb⟩ := hsw.at i hin
      have hln := HS.out.1
      have hsn := take_snoc (l := l) (k := i) (by omega)
      have hpt := fin_part l i (by omega)
      by_cases hu : l.getD i 0 = 10
      · rw [hu] at hb hsn
        have hst : (fin 0 [] (l.take (i + 1))).1 = i + 1 := by
          rw [hsn, fin_append, fin_cons, fin_nil, if_pos rfl]; simp only; omega
        have hli : lin m 0 [] (l.take (i + 1)) = lin m 0 [] (l.take i) ++ [oneLine m l (fin 0 [] (l.take i)).1 i (i + 1)] := by
          rw [hsn, lin_append, lin_cons, lin_nil, if_pos rfl, oneLine_mk m l i 1 (by omega)]
        have hlen := lin_length m (l.take i) 0 []
        rw [List.length_take] at hlen
        have hone := one_any (some ⟨b, off, none⟩) n c l (fin 0 [] (l.take i)).1 i (i + 1) m wr hsw hc hpt.1 (by omega) (by omega)
        have hcast : ((i + 1 : Nat) : Int) = (i : Int) + 1 := by omega
        rw [hcast] at hone
        have HST := Lib.hid hst
        have HLI := Lib.hid hli
        have HON := Lib.hid hone
        have HLE := Lib.hid hlen
        generalize (fin 0 [] (l.take i)).1 = fr at HON HLI
        clear hst hli hlen hone hsn hpt hln hsw hcast
        go_wp2_with fail
        refine HON.out.mono ?_
        rintro r w1 ⟨rfl, b1⟩
        have hI1 : Hid (RefAt w m l i u5 (w1.alloc (.cells (lvv (oneLine m l fr i (i + 1))) 51))) := Lib.hid ⟨(HI.out.own.below b1).below ((Below.refl _ w1).alloc (Nat.le_refl _) _), (HI.out.below.trans (b1.mono HI.out.below.size)).trans (((Below.refl _ w1).alloc (Nat.le_refl _) _).mono (Nat.le_trans HI.out.below.size b1.size))⟩
        have HO2 := Lib.hid (ownR_one w1 (oneLine m l fr i (i + 1)))
        generalize hx : oneLine m l fr i (i + 1) = x at HLI hI1 HO2 ⊢
        clear hx HON b1
        simp only [lvv] at HO2 hI1 ⊢
        have hlo := hI1.out.below.size
        go_wp2_with (at_builtin; refine append_refs _ rfl _ _ rfl w.heap.size w1.heap.size u5 (.slice (some ⟨w1.heap.size, 0, none⟩) 1 1) _ [x] rfl hI1.out.own rfl HO2.out (by have := HLE.out; simp only [List.length_cons, List.length_nil]; omega) hlo ?_; intro v' w4 hown hg hat)
        have HM : Hid (RefAt w m l (i + 1) v' w4) := Lib.hid ⟨by rw [HLI.out]; exact hown, hI1.out.below.grown hg hlo (fun k e => (World.ownsRow.lt hI1.out.own k e).1)⟩
        clear hown hg hat hI1 HO2 HI
        go_wp2_with fail
        go_roundw
        case rel => exact ⟨i + 1, by go_num, by omega, by rw [HST.out]; go_num, HM⟩
        case measure => simp [intOf]; omega
      · have hst : (fin 0 [] (l.take (i + 1))).1 = (fin 0 [] (l.take i)).1 := by rw [hsn, fin_append, fin_cons, if_neg hu, fin_nil]
        have hli : lin m 0 [] (l.take (i + 1)) = lin m 0 [] (l.take i) := by rw [hsn, lin_append, lin_cons, if_neg hu, lin_nil, List.append_nil]
        have HST := Lib.hid hst
        have HM : Hid (RefAt w m l (i + 1) u5 wr) := Lib.hid ⟨by rw [hli]; exact HI.out.own, HI.out.below⟩
        generalize l.getD i 0 = u at hb hu
        clear hst hli hsn hpt hln hsw HI
        go_wp2_with fail
        go_roundw
        case rel => exact ⟨i + 1, by go_num, by omega, by rw [HST.out], HM⟩
        case measure => simp [intOf]; omega
    · obtain rfl : i = n := by omega
      have hI := HI.out
      have ht : l.take i = l := List.take_of_length_le (by rw [HS.out.1]; exact Nat.le_refl _)
      have HE : Hid (OwnR wr w.heap.size u5 (lin m 0 [] l) ∧ Below w.heap.size w wr) := Lib.hid ⟨by have := hI.own; rwa [ht] at this, hI.below⟩
      clear hI ht HI
      go_wp2_with fail
      go_ret
      exact ⟨_, rfl, HE.out⟩

set_option maxRecDepth 100000 in
set_option maxHeartbeats 8000000 in
/-- Equal rows of lines are the same. -/
theorem same_any (O1 : Option Addr) (c1 : Nat) (O2 : Option Addr) (c2 : Nat) (ls : List LV) (n : Nat) (w : World) (hn : ls.length = n) (h1 : LnAt w O1 ls) (h2 : LnAt w O2 ls) (hn2 : n ≤ 100000) :
    Calls Try.prog 14 #[.slice O1 n c1, .slice O2 n c2] w fun r w' => r = .returned (.bool true) ∧ ∃ j, w' = w.drewN j := by
  have HN := Lib.hid hn
  have H1 := Lib.hid h1
  have H2 := Lib.hid h2
  clear hn h1 h2
  go_enter Try.func14, Try.ntmps14
  go_wp2_with fail
  go_loopw [5] (fun vi wr => ∃ i j : Nat, vi = .int .i64 i ∧ i ≤ n ∧ wr = w.drewN j) (fun vi _ => n - (intOf vi).toNat)
  case atStart => exact ⟨0, 0, rfl, Nat.zero_le _, (World.drewN_zero _).symm⟩
  case round =>
    obtain ⟨i, j, rfl, hi, rfl⟩ := hrel
    by_cases hin : i < n
    · have hii : (i : Int) < (n : Int) := by omega
      obtain ⟨x, hx⟩ : ∃ x, ls[i]? = some x := ⟨_, List.getElem?_eq_getElem (by have := HN.out; omega)⟩
      have hne : ls ≠ [] := by rintro rfl; cases hx
      obtain ⟨b, off, rfl, _, hb⟩ := H1.out.resolve_left hne
      obtain ⟨b2, off2, rfl, _, hb2⟩ := H2.out.resolve_left hne
      have s0 := hb i x hx 0 _ rfl
      have s1 := hb i x hx 1 _ rfl
      have s2 : w.cell? ⟨b, off + i * 4 + 2, none⟩ = some (.string (strOfNums x.t)) := hb i x hx 2 _ rfl
      have s3 := hb i x hx 3 _ rfl
      have t0 := hb2 i x hx 0 _ rfl
      have t1 := hb2 i x hx 1 _ rfl
      have t2 : w.cell? ⟨b2, off2 + i * 4 + 2, none⟩ = some (.string (strOfNums x.t)) := hb2 i x hx 2 _ rfl
      have t3 := hb2 i x hx 3 _ rfl
      rw [Nat.add_zero] at s0 t0
      generalize strOfNums x.t = st at s2 t2
      clear hb hb2 hx H1 H2
      go_wp2_with fail
      refine region_plain (fun W => (W.cell? ⟨b, off + i * 4, none⟩ = some (.int .i64 x.a) ∧ W.cell? ⟨b, off + i * 4 + 1, none⟩ = some (.int .i64 x.b) ∧ W.cell? ⟨b, off + i * 4 + 2, none⟩ = some (.string st) ∧ W.cell? ⟨b, off + i * 4 + 3, none⟩ = some (.bool x.long)) ∧
        W.cell? ⟨b2, off2 + i * 4, none⟩ = some (.int .i64 x.a) ∧ W.cell? ⟨b2, off2 + i * 4 + 1, none⟩ = some (.int .i64 x.b) ∧ W.cell? ⟨b2, off2 + i * 4 + 2, none⟩ = some (.string st) ∧ W.cell? ⟨b2, off2 + i * 4 + 3, none⟩ = some (.bool x.long)) 99 (by kernel_rfl) ?_
      have hS : ((w.drewN j).drew.cell? ⟨b, off + i * 4, none⟩ = some (.int .i64 x.a) ∧ (w.drewN j).drew.cell? ⟨b, off + i * 4 + 1, none⟩ = some (.int .i64 x.b) ∧ (w.drewN j).drew.cell? ⟨b, off + i * 4 + 2, none⟩ = some (.string st) ∧ (w.drewN j).drew.cell? ⟨b, off + i * 4 + 3, none⟩ = some (.bool x.long)) ∧
        (w.drewN j).drew.cell? ⟨b2, off2 + i * 4, none⟩ = some (.int .i64 x.a) ∧ (w.drewN j).drew.cell? ⟨b2, off2 + i * 4 + 1, none⟩ = some (.int .i64 x.b) ∧ (w.drewN j).drew.cell? ⟨b2, off2 + i * 4 + 2, none⟩ = some (.string st) ∧ (w.drewN j).drew.cell? ⟨b2, off2 + i * 4 + 3, none⟩ = some (.bool x.long) := ⟨⟨s0, s1, s2, s3⟩, t0, t1, t2, t3⟩
      refine z_take (i := 0) (v := ?_) rfl (by kernel_rfl) (by kernel_rfl) (by kernel_rfl) (by kernel_rfl) (fun _ _ _ h => h) (Or.inl ⟨by rfl, ?_⟩) hS ?_
      rotate_left
      · (rintro wS ⟨⟨s0, s1, s2, s3⟩, t0, t1, t2, t3⟩; (try simp only [List.getElem_toArray, List.getElem_cons_zero]); go_simp <;> with_reducible rfl)
      simp only [Act.put, List.getElem_toArray, List.getElem_cons_zero, List.setIfInBounds_toArray, List.set_cons_zero, List.set_cons_succ]
      refine z_take (i := 1) (v := ?_) rfl (by kernel_rfl) (by kernel_rfl) (by kernel_rfl) (by kernel_rfl) (fun _ _ _ h => h) (Or.inl ⟨by rfl, ?_⟩) hS ?_
      rotate_left
      · (rintro wS ⟨⟨s0, s1, s2, s3⟩, t0, t1, t2, t3⟩; (try simp only [List.getElem_toArray, List.getElem_cons_zero, List.getElem_cons_succ]); go_simp <;> with_reducible rfl)
      simp only [Act.put, List.getElem_toArray, List.getElem_cons_zero, List.getElem_cons_succ, List.setIfInBounds_toArray, List.set_cons_zero, List.set_cons_succ]
      refine z_take (i := 2) (v := ?_) rfl (by kernel_rfl) (by kernel_rfl) (by kernel_rfl) (by kernel_rfl) (fun _ _ _ h => h) (Or.inl ⟨by rfl, ?_⟩) hS ?_
      rotate_left
      · (rintro wS ⟨⟨s0, s1, s2, s3⟩, t0, t1, t2, t3⟩; (try simp only [List.getElem_toArray, List.getElem_cons_zero, List.getElem_cons_succ]); go_simp <;> with_reducible rfl)
      simp only [Act.put, List.getElem_toArray, List.getElem_cons_zero, List.getElem_cons_succ, List.setIfInBounds_toArray, List.set_cons_zero, List.set_cons_succ]
      refine z_take (i := 3) (v := ?_) rfl (by kernel_rfl) (by kernel_rfl) (by kernel_rfl) (by kernel_rfl) (fun _ _ _ h => h) (Or.inl ⟨by rfl, ?_⟩) hS ?_
      rotate_left
      · (rintro wS ⟨⟨s0, s1, s2, s3⟩, t0, t1, t2, t3⟩; (try simp only [List.getElem_toArray, List.getElem_cons_zero, List.getElem_cons_succ]); go_simp <;> with_reducible rfl)
      simp only [Act.put, List.getElem_toArray, List.getElem_cons_zero, List.getElem_cons_succ, List.setIfInBounds_toArray, List.set_cons_zero, List.set_cons_succ]
      refine z_take (i := 4) (v := ?_) rfl (by kernel_rfl) (by kernel_rfl) (by kernel_rfl) (by kernel_rfl) (fun _ _ _ h => h) (Or.inl ⟨by rfl, ?_⟩) hS ?_
      rotate_left
      · (rintro wS ⟨⟨s0, s1, s2, s3⟩, t0, t1, t2, t3⟩; (try simp only [List.getElem_toArray, List.getElem_cons_zero, List.getElem_cons_succ]); go_simp <;> with_reducible rfl)
      simp only [Act.put, List.getElem_toArray, List.getElem_cons_zero, List.getElem_cons_succ, List.setIfInBounds_toArray, List.set_cons_zero, List.set_cons_succ]
      refine z_take (i := 5) (v := ?_) rfl (by kernel_rfl) (by kernel_rfl) (by kernel_rfl) (by kernel_rfl) (fun _ _ _ h => h) (Or.inl ⟨by rfl, ?_⟩) hS ?_
      rotate_left
      · (rintro wS ⟨⟨s0, s1, s2, s3⟩, t0, t1, t2, t3⟩; (try simp only [List.getElem_toArray, List.getElem_cons_zero, List.getElem_cons_succ]); go_simp <;> with_reducible rfl)
      simp only [Act.put, List.getElem_toArray, List.getElem_cons_zero, List.getElem_cons_succ, List.setIfInBounds_toArray, List.set_cons_zero, List.set_cons_succ]
      refine z_take (i := 6) (v := ?_) rfl (by kernel_rfl) (by kernel_rfl) (by kernel_rfl) (by kernel_rfl) (fun _ _ _ h => h) (Or.inl ⟨by rfl, ?_⟩) hS ?_
      rotate_left
      · (rintro wS ⟨⟨s0, s1, s2, s3⟩, t0, t1, t2, t3⟩; (try simp only [List.getElem_toArray, List.getElem_cons_zero, List.getElem_cons_succ]); go_simp <;> with_reducible rfl)
      simp only [Act.put, List.getElem_toArray, List.getElem_cons_zero, List.getElem_cons_succ, List.setIfInBounds_toArray, List.set_cons_zero, List.set_cons_succ]
      refine z_take (i := 7) (v := ?_) rfl (by kernel_rfl) (by kernel_rfl) (by kernel_rfl) (by kernel_rfl) (fun _ _ _ h => h) (Or.inl ⟨by rfl, ?_⟩) hS ?_
      rotate_left
      · (rintro wS ⟨⟨s0, s1, s2, s3⟩, t0, t1, t2, t3⟩; (try simp only [List.getElem_toArray, List.getElem_cons_zero, List.getElem_cons_succ]); go_simp <;> with_reducible rfl)
      simp only [Act.put, List.getElem_toArray, List.getElem_cons_zero, List.getElem_cons_succ, List.setIfInBounds_toArray, List.set_cons_zero, List.set_cons_succ]
      refine z_take (i := 8) (v := ?_) rfl (by kernel_rfl) (by kernel_rfl) (by kernel_rfl) (by kernel_rfl) (fun _ _ _ h => h) (Or.inl ⟨by rfl, ?_⟩) hS ?_
      rotate_left
      · (rintro wS ⟨⟨s0, s1, s2, s3⟩, t0, t1, t2, t3⟩; (try simp only [List.getElem_toArray, List.getElem_cons_zero, List.getElem_cons_succ]); go_simp <;> with_reducible rfl)
      simp only [Act.put, List.getElem_toArray, List.getElem_cons_zero, List.getElem_cons_succ, List.setIfInBounds_toArray, List.set_cons_zero, List.set_cons_succ]
      refine z_take (i := 9) (v := ?_) rfl (by kernel_rfl) (by kernel_rfl) (by kernel_rfl) (by kernel_rfl) (fun _ _ _ h => h) (Or.inl ⟨by rfl, ?_⟩) hS ?_
      rotate_left
      · (rintro wS ⟨⟨s0, s1, s2, s3⟩, t0, t1, t2, t3⟩; (try simp only [List.getElem_toArray, List.getElem_cons_zero, List.getElem_cons_succ]); go_simp <;> with_reducible rfl)
      simp only [Act.put, List.getElem_toArray, List.getElem_cons_zero, List.getElem_cons_succ, List.setIfInBounds_toArray, List.set_cons_zero, List.set_cons_succ]
      refine z_take (i := 10) (v := ?_) rfl (by kernel_rfl) (by kernel_rfl) (by kernel_rfl) (by kernel_rfl) (fun _ _ _ h => h) (Or.inl ⟨by rfl, ?_⟩) hS ?_
      rotate_left
      · (rintro wS ⟨⟨s0, s1, s2, s3⟩, t0, t1, t2, t3⟩; (try simp only [List.getElem_toArray, List.getElem_cons_zero, List.getElem_cons_succ]); go_simp <;> with_reducible rfl)
      simp only [Act.put, List.getElem_toArray, List.getElem_cons_zero, List.getElem_cons_succ, List.setIfInBounds_toArray, List.set_cons_zero, List.set_cons_succ]
      refine z_take (i := 11) (v := ?_) rfl (by kernel_rfl) (by kernel_rfl) (by kernel_rfl) (by kernel_rfl) (fun _ _ _ h => h) (Or.inl ⟨by rfl, ?_⟩) hS ?_
      rotate_left
      · (rintro wS ⟨⟨s0, s1, s2, s3⟩, t0, t1, t2, t3⟩; (try simp only [List.getElem_toArray, List.getElem_cons_zero, List.getElem_cons_succ]); go_simp <;> with_reducible rfl)
      simp only [Act.put, List.getElem_toArray, List.getElem_cons_zero, List.getElem_cons_succ, List.setIfInBounds_toArray, List.set_cons_zero, List.set_cons_succ]
      refine z_take (i := 12) (v := ?_) rfl (by kernel_rfl) (by kernel_rfl) (by kernel_rfl) (by kernel_rfl) (fun _ _ _ h => h) (Or.inl ⟨by rfl, ?_⟩) hS ?_
      rotate_left
      · (rintro wS ⟨⟨s0, s1, s2, s3⟩, t0, t1, t2, t3⟩; (try simp only [List.getElem_toArray, List.getElem_cons_zero, List.getElem_cons_succ]); go_simp <;> with_reducible rfl)
      simp only [Act.put, List.getElem_toArray, List.getElem_cons_zero, List.getElem_cons_succ, List.setIfInBounds_toArray, List.set_cons_zero, List.set_cons_succ]
      refine z_take (i := 13) (v := ?_) rfl (by kernel_rfl) (by kernel_rfl) (by kernel_rfl) (by kernel_rfl) (fun _ _ _ h => h) (Or.inl ⟨by rfl, ?_⟩) hS ?_
      rotate_left
      · (rintro wS ⟨⟨s0, s1, s2, s3⟩, t0, t1, t2, t3⟩; (try simp only [List.getElem_toArray, List.getElem_cons_zero, List.getElem_cons_succ]); go_simp <;> with_reducible rfl)
      simp only [Act.put, List.getElem_toArray, List.getElem_cons_zero, List.getElem_cons_succ, List.setIfInBounds_toArray, List.set_cons_zero, List.set_cons_succ]
      refine z_take (i := 14) (v := ?_) rfl (by kernel_rfl) (by kernel_rfl) (by kernel_rfl) (by kernel_rfl) (fun _ _ _ h => h) (Or.inl ⟨by rfl, ?_⟩) hS ?_
      rotate_left
      · (rintro wS ⟨⟨s0, s1, s2, s3⟩, t0, t1, t2, t3⟩; (try simp only [List.getElem_toArray, List.getElem_cons_zero, List.getElem_cons_succ]); go_simp <;> with_reducible rfl)
      simp only [Act.put, List.getElem_toArray, List.getElem_cons_zero, List.getElem_cons_succ, List.setIfInBounds_toArray, List.set_cons_zero, List.set_cons_succ]
      refine z_take (i := 15) (v := ?_) rfl (by kernel_rfl) (by kernel_rfl) (by kernel_rfl) (by kernel_rfl) (fun _ _ _ h => h) (Or.inl ⟨by rfl, ?_⟩) hS ?_
      rotate_left
      · (rintro wS ⟨⟨s0, s1, s2, s3⟩, t0, t1, t2, t3⟩; (try simp only [List.getElem_toArray, List.getElem_cons_zero, List.getElem_cons_succ]); go_simp <;> with_reducible rfl)
      simp only [Act.put, List.getElem_toArray, List.getElem_cons_zero, List.getElem_cons_succ, List.setIfInBounds_toArray, List.set_cons_zero, List.set_cons_succ]
      refine z_take (i := 16) (v := ?_) rfl (by kernel_rfl) (by kernel_rfl) (by kernel_rfl) (by kernel_rfl) (fun _ _ _ h => h) (Or.inl ⟨by rfl, ?_⟩) hS ?_
      rotate_left
      · (rintro wS ⟨⟨s0, s1, s2, s3⟩, t0, t1, t2, t3⟩; (try simp only [List.getElem_toArray, List.getElem_cons_zero, List.getElem_cons_succ]); go_simp <;> with_reducible rfl)
      simp only [Act.put, List.getElem_toArray, List.getElem_cons_zero, List.getElem_cons_succ, List.setIfInBounds_toArray, List.set_cons_zero, List.set_cons_succ]
      refine z_take (i := 17) (v := ?_) rfl (by kernel_rfl) (by kernel_rfl) (by kernel_rfl) (by kernel_rfl) (fun _ _ _ h => h) (Or.inl ⟨by rfl, ?_⟩) hS ?_
      rotate_left
      · (rintro wS ⟨⟨s0, s1, s2, s3⟩, t0, t1, t2, t3⟩; (try simp only [List.getElem_toArray, List.getElem_cons_zero, List.getElem_cons_succ]); go_simp <;> with_reducible rfl)
      simp only [Act.put, List.getElem_toArray, List.getElem_cons_zero, List.getElem_cons_succ, List.setIfInBounds_toArray, List.set_cons_zero, List.set_cons_succ]
      refine z_take (i := 18) (v := ?_) rfl (by kernel_rfl) (by kernel_rfl) (by kernel_rfl) (by kernel_rfl) (fun _ _ _ h => h) (Or.inl ⟨by rfl, ?_⟩) hS ?_
      rotate_left
      · (rintro wS ⟨⟨s0, s1, s2, s3⟩, t0, t1, t2, t3⟩; (try simp only [List.getElem_toArray, List.getElem_cons_zero, List.getElem_cons_succ]); go_simp <;> with_reducible rfl)
      simp only [Act.put, List.getElem_toArray, List.getElem_cons_zero, List.getElem_cons_succ, List.setIfInBounds_toArray, List.set_cons_zero, List.set_cons_succ]
      refine z_take (i := 19) (v := ?_) rfl (by kernel_rfl) (by kernel_rfl) (by kernel_rfl) (by kernel_rfl) (fun _ _ _ h => h) (Or.inl ⟨by rfl, ?_⟩) hS ?_
      rotate_left
      · (rintro wS ⟨⟨s0, s1, s2, s3⟩, t0, t1, t2, t3⟩; (try simp only [List.getElem_toArray, List.getElem_cons_zero, List.getElem_cons_succ]); go_simp <;> with_reducible rfl)
      simp only [Act.put, List.getElem_toArray, List.getElem_cons_zero, List.getElem_cons_succ, List.setIfInBounds_toArray, List.set_cons_zero, List.set_cons_succ]
      refine z_take (i := 20) (v := ?_) rfl (by kernel_rfl) (by kernel_rfl) (by kernel_rfl) (by kernel_rfl) (fun _ _ _ h => h) (Or.inl ⟨by rfl, ?_⟩) hS ?_
      rotate_left
      · (rintro wS ⟨⟨s0, s1, s2, s3⟩, t0, t1, t2, t3⟩; (try simp only [List.getElem_toArray, List.getElem_cons_zero, List.getElem_cons_succ]); go_simp <;> with_reducible rfl)
      simp only [Act.put, List.getElem_toArray, List.getElem_cons_zero, List.getElem_cons_succ, List.setIfInBounds_toArray, List.set_cons_zero, List.set_cons_succ]
      refine z_take (i := 21) (v := ?_) rfl (by kernel_rfl) (by kernel_rfl) (by kernel_rfl) (by kernel_rfl) (fun _ _ _ h => h) (Or.inl ⟨by rfl, ?_⟩) hS ?_
      rotate_left
      · (rintro wS ⟨⟨s0, s1, s2, s3⟩, t0, t1, t2, t3⟩; (try simp only [List.getElem_toArray, List.getElem_cons_zero, List.getElem_cons_succ]); go_simp <;> with_reducible rfl)
      simp only [Act.put, List.getElem_toArray, List.getElem_cons_zero, List.getElem_cons_succ, List.setIfInBounds_toArray, List.set_cons_zero, List.set_cons_succ]
      refine z_take (i := 22) (v := ?_) rfl (by kernel_rfl) (by kernel_rfl) (by kernel_rfl) (by kernel_rfl) (fun _ _ _ h => h) (Or.inl ⟨by rfl, ?_⟩) hS ?_
      rotate_left
      · (rintro wS ⟨⟨s0, s1, s2, s3⟩, t0, t1, t2, t3⟩; (try simp only [List.getElem_toArray, List.getElem_cons_zero, List.getElem_cons_succ]); go_simp <;> with_reducible rfl)
      simp only [Act.put, List.getElem_toArray, List.getElem_cons_zero, List.getElem_cons_succ, List.setIfInBounds_toArray, List.set_cons_zero, List.set_cons_succ]
      refine z_take (i := 23) (v := ?_) rfl (by kernel_rfl) (by kernel_rfl) (by kernel_rfl) (by kernel_rfl) (fun _ _ _ h => h) (Or.inl ⟨by rfl, ?_⟩) hS ?_
      rotate_left
      · (rintro wS ⟨⟨s0, s1, s2, s3⟩, t0, t1, t2, t3⟩; (try simp only [List.getElem_toArray, List.getElem_cons_zero, List.getElem_cons_succ]); go_simp <;> with_reducible rfl)
      simp only [Act.put, List.getElem_toArray, List.getElem_cons_zero, List.getElem_cons_succ, List.setIfInBounds_toArray, List.set_cons_zero, List.set_cons_succ]
      refine z_take (i := 24) (v := ?_) rfl (by kernel_rfl) (by kernel_rfl) (by kernel_rfl) (by kernel_rfl) (fun _ _ _ h => h) (Or.inl ⟨by rfl, ?_⟩) hS ?_
      rotate_left
      · (rintro wS ⟨⟨s0, s1, s2, s3⟩, t0, t1, t2, t3⟩; (try simp only [List.getElem_toArray, List.getElem_cons_zero, List.getElem_cons_succ]); go_simp <;> with_reducible rfl)
      simp only [Act.put, List.getElem_toArray, List.getElem_cons_zero, List.getElem_cons_succ, List.setIfInBounds_toArray, List.set_cons_zero, List.set_cons_succ]
      refine z_take (i := 25) (v := ?_) rfl (by kernel_rfl) (by kernel_rfl) (by kernel_rfl) (by kernel_rfl) (fun _ _ _ h => h) (Or.inl ⟨by rfl, ?_⟩) hS ?_
      rotate_left
      · (rintro wS ⟨⟨s0, s1, s2, s3⟩, t0, t1, t2, t3⟩; (try simp only [List.getElem_toArray, List.getElem_cons_zero, List.getElem_cons_succ]); go_simp <;> with_reducible rfl)
      simp only [Act.put, List.getElem_toArray, List.getElem_cons_zero, List.getElem_cons_succ, List.setIfInBounds_toArray, List.set_cons_zero, List.set_cons_succ]
      refine z_take (i := 26) (v := ?_) rfl (by kernel_rfl) (by kernel_rfl) (by kernel_rfl) (by kernel_rfl) (fun _ _ _ h => h) (Or.inl ⟨by rfl, ?_⟩) hS ?_
      rotate_left
      · (rintro wS ⟨⟨s0, s1, s2, s3⟩, t0, t1, t2, t3⟩; (try simp only [List.getElem_toArray, List.getElem_cons_zero, List.getElem_cons_succ]); go_simp <;> with_reducible rfl)
      simp only [Act.put, List.getElem_toArray, List.getElem_cons_zero, List.getElem_cons_succ, List.setIfInBounds_toArray, List.set_cons_zero, List.set_cons_succ]
      refine z_take (i := 27) (v := ?_) rfl (by kernel_rfl) (by kernel_rfl) (by kernel_rfl) (by kernel_rfl) (fun _ _ _ h => h) (Or.inl ⟨by rfl, ?_⟩) hS ?_
      rotate_left
      · (rintro wS ⟨⟨s0, s1, s2, s3⟩, t0, t1, t2, t3⟩; (try simp only [List.getElem_toArray, List.getElem_cons_zero, List.getElem_cons_succ]); go_simp <;> with_reducible rfl)
      simp only [Act.put, List.getElem_toArray, List.getElem_cons_zero, List.getElem_cons_succ, List.setIfInBounds_toArray, List.set_cons_zero, List.set_cons_succ]
      refine z_take (i := 28) (v := ?_) rfl (by kernel_rfl) (by kernel_rfl) (by kernel_rfl) (by kernel_rfl) (fun _ _ _ h => h) (Or.inl ⟨by rfl, ?_⟩) hS ?_
      rotate_left
      · (rintro wS ⟨⟨s0, s1, s2, s3⟩, t0, t1, t2, t3⟩; (try simp only [List.getElem_toArray, List.getElem_cons_zero, List.getElem_cons_succ]); go_simp <;> with_reducible rfl)
      simp only [Act.put, List.getElem_toArray, List.getElem_cons_zero, List.getElem_cons_succ, List.setIfInBounds_toArray, List.set_cons_zero, List.set_cons_succ]
      refine z_take (i := 29) (v := ?_) rfl (by kernel_rfl) (by kernel_rfl) (by kernel_rfl) (by kernel_rfl) (fun _ _ _ h => h) (Or.inl ⟨by rfl, ?_⟩) hS ?_
      rotate_left
      · (rintro wS ⟨⟨s0, s1, s2, s3⟩, t0, t1, t2, t3⟩; (try simp only [List.getElem_toArray, List.getElem_cons_zero, List.getElem_cons_succ]); go_simp <;> with_reducible rfl)
      simp only [Act.put, List.getElem_toArray, List.getElem_cons_zero, List.getElem_cons_succ, List.setIfInBounds_toArray, List.set_cons_zero, List.set_cons_succ]
      refine z_take (i := 30) (v := ?_) rfl (by kernel_rfl) (by kernel_rfl) (by kernel_rfl) (by kernel_rfl) (fun _ _ _ h => h) (Or.inl ⟨by rfl, ?_⟩) hS ?_
      rotate_left
      · (rintro wS ⟨⟨s0, s1, s2, s3⟩, t0, t1, t2, t3⟩; (try simp only [List.getElem_toArray, List.getElem_cons_zero, List.getElem_cons_succ]); go_simp <;> with_reducible rfl)
      simp only [Act.put, List.getElem_toArray, List.getElem_cons_zero, List.getElem_cons_succ, List.setIfInBounds_toArray, List.set_cons_zero, List.set_cons_succ]
      refine z_take (i := 31) (v := ?_) rfl (by kernel_rfl) (by kernel_rfl) (by kernel_rfl) (by kernel_rfl) (fun _ _ _ h => h) (Or.inl ⟨by rfl, ?_⟩) hS ?_
      rotate_left
      · (rintro wS ⟨⟨s0, s1, s2, s3⟩, t0, t1, t2, t3⟩; (try simp only [List.getElem_toArray, List.getElem_cons_zero, List.getElem_cons_succ]); go_simp <;> with_reducible rfl)
      simp only [Act.put, List.getElem_toArray, List.getElem_cons_zero, List.getElem_cons_succ, List.setIfInBounds_toArray, List.set_cons_zero, List.set_cons_succ]
      refine z_take (i := 32) (v := ?_) rfl (by kernel_rfl) (by kernel_rfl) (by kernel_rfl) (by kernel_rfl) (fun _ _ _ h => h) (Or.inl ⟨by rfl, ?_⟩) hS ?_
      rotate_left
      · (rintro wS ⟨⟨s0, s1, s2, s3⟩, t0, t1, t2, t3⟩; (try simp only [List.getElem_toArray, List.getElem_cons_zero, List.getElem_cons_succ]); go_simp <;> with_reducible rfl)
      simp only [Act.put, List.getElem_toArray, List.getElem_cons_zero, List.getElem_cons_succ, List.setIfInBounds_toArray, List.set_cons_zero, List.set_cons_succ]
      refine z_take (i := 33) (v := ?_) rfl (by kernel_rfl) (by kernel_rfl) (by kernel_rfl) (by kernel_rfl) (fun _ _ _ h => h) (Or.inl ⟨by rfl, ?_⟩) hS ?_
      rotate_left
      · (rintro wS ⟨⟨s0, s1, s2, s3⟩, t0, t1, t2, t3⟩; (try simp only [List.getElem_toArray, List.getElem_cons_zero, List.getElem_cons_succ]); go_simp <;> with_reducible rfl)
      simp only [Act.put, List.getElem_toArray, List.getElem_cons_zero, List.getElem_cons_succ, List.setIfInBounds_toArray, List.set_cons_zero, List.set_cons_succ]
      refine z_take (i := 34) (v := ?_) rfl (by kernel_rfl) (by kernel_rfl) (by kernel_rfl) (by kernel_rfl) (fun _ _ _ h => h) (Or.inl ⟨by rfl, ?_⟩) hS ?_
      rotate_left
      · (rintro wS ⟨⟨s0, s1, s2, s3⟩, t0, t1, t2, t3⟩; (try simp only [List.getElem_toArray, List.getElem_cons_zero, List.getElem_cons_succ]); go_simp <;> with_reducible rfl)
      simp only [Act.put, List.getElem_toArray, List.getElem_cons_zero, List.getElem_cons_succ, List.setIfInBounds_toArray, List.set_cons_zero, List.set_cons_succ]
      refine z_take (i := 35) (v := ?_) rfl (by kernel_rfl) (by kernel_rfl) (by kernel_rfl) (by kernel_rfl) (fun _ _ _ h => h) (Or.inl ⟨by rfl, ?_⟩) hS ?_
      rotate_left
      · (rintro wS ⟨⟨s0, s1, s2, s3⟩, t0, t1, t2, t3⟩; (try simp only [List.getElem_toArray, List.getElem_cons_zero, List.getElem_cons_succ]); go_simp <;> with_reducible rfl)
      simp only [Act.put, List.getElem_toArray, List.getElem_cons_zero, List.getElem_cons_succ, List.setIfInBounds_toArray, List.set_cons_zero, List.set_cons_succ]
      refine z_take (i := 36) (v := ?_) rfl (by kernel_rfl) (by kernel_rfl) (by kernel_rfl) (by kernel_rfl) (fun _ _ _ h => h) (Or.inl ⟨by rfl, ?_⟩) hS ?_
      rotate_left
      · (rintro wS ⟨⟨s0, s1, s2, s3⟩, t0, t1, t2, t3⟩; (try simp only [List.getElem_toArray, List.getElem_cons_zero, List.getElem_cons_succ]); go_simp <;> with_reducible rfl)
      simp only [Act.put, List.getElem_toArray, List.getElem_cons_zero, List.getElem_cons_succ, List.setIfInBounds_toArray, List.set_cons_zero, List.set_cons_succ]
      refine z_take (i := 37) (v := ?_) rfl (by kernel_rfl) (by kernel_rfl) (by kernel_rfl) (by kernel_rfl) (fun _ _ _ h => h) (Or.inl ⟨by rfl, ?_⟩) hS ?_
      rotate_left
      · (rintro wS ⟨⟨s0, s1, s2, s3⟩, t0, t1, t2, t3⟩; (try simp only [List.getElem_toArray, List.getElem_cons_zero, List.getElem_cons_succ]); go_simp <;> with_reducible rfl)
      simp only [Act.put, List.getElem_toArray, List.getElem_cons_zero, List.getElem_cons_succ, List.setIfInBounds_toArray, List.set_cons_zero, List.set_cons_succ]
      refine z_take (i := 38) (v := ?_) rfl (by kernel_rfl) (by kernel_rfl) (by kernel_rfl) (by kernel_rfl) (fun _ _ _ h => h) (Or.inl ⟨by rfl, ?_⟩) hS ?_
      rotate_left
      · (rintro wS ⟨⟨s0, s1, s2, s3⟩, t0, t1, t2, t3⟩; (try simp only [List.getElem_toArray, List.getElem_cons_zero, List.getElem_cons_succ]); go_simp <;> with_reducible rfl)
      simp only [Act.put, List.getElem_toArray, List.getElem_cons_zero, List.getElem_cons_succ, List.setIfInBounds_toArray, List.set_cons_zero, List.set_cons_succ]
      refine z_take (i := 39) (v := ?_) rfl (by kernel_rfl) (by kernel_rfl) (by kernel_rfl) (by kernel_rfl) (fun _ _ _ h => h) (Or.inl ⟨by rfl, ?_⟩) hS ?_
      rotate_left
      · (rintro wS ⟨⟨s0, s1, s2, s3⟩, t0, t1, t2, t3⟩; (try simp only [List.getElem_toArray, List.getElem_cons_zero, List.getElem_cons_succ]); go_simp <;> with_reducible rfl)
      simp only [Act.put, List.getElem_toArray, List.getElem_cons_zero, List.getElem_cons_succ, List.setIfInBounds_toArray, List.set_cons_zero, List.set_cons_succ]
      refine z_take (i := 40) (v := ?_) rfl (by kernel_rfl) (by kernel_rfl) (by kernel_rfl) (by kernel_rfl) (fun _ _ _ h => h) (Or.inl ⟨by rfl, ?_⟩) hS ?_
      rotate_left
      · (rintro wS ⟨⟨s0, s1, s2, s3⟩, t0, t1, t2, t3⟩; (try simp only [List.getElem_toArray, List.getElem_cons_zero, List.getElem_cons_succ]); go_simp <;> with_reducible rfl)
      simp only [Act.put, List.getElem_toArray, List.getElem_cons_zero, List.getElem_cons_succ, List.setIfInBounds_toArray, List.set_cons_zero, List.set_cons_succ]
      refine z_take (i := 41) (v := ?_) rfl (by kernel_rfl) (by kernel_rfl) (by kernel_rfl) (by kernel_rfl) (fun _ _ _ h => h) (Or.inl ⟨by rfl, ?_⟩) hS ?_
      rotate_left
      · (rintro wS ⟨⟨s0, s1, s2, s3⟩, t0, t1, t2, t3⟩; (try simp only [List.getElem_toArray, List.getElem_cons_zero, List.getElem_cons_succ]); go_simp <;> with_reducible rfl)
      simp only [Act.put, List.getElem_toArray, List.getElem_cons_zero, List.getElem_cons_succ, List.setIfInBounds_toArray, List.set_cons_zero, List.set_cons_succ]
      refine z_take (i := 42) (v := ?_) rfl (by kernel_rfl) (by kernel_rfl) (by kernel_rfl) (by kernel_rfl) (fun _ _ _ h => h) (Or.inl ⟨by rfl, ?_⟩) hS ?_
      rotate_left
      · (rintro wS ⟨⟨s0, s1, s2, s3⟩, t0, t1, t2, t3⟩; (try simp only [List.getElem_toArray, List.getElem_cons_zero, List.getElem_cons_succ]); go_simp <;> with_reducible rfl)
      simp only [Act.put, List.getElem_toArray, List.getElem_cons_zero, List.getElem_cons_succ, List.setIfInBounds_toArray, List.set_cons_zero, List.set_cons_succ]
      refine z_take (i := 43) (v := ?_) rfl (by kernel_rfl) (by kernel_rfl) (by kernel_rfl) (by kernel_rfl) (fun _ _ _ h => h) (Or.inl ⟨by rfl, ?_⟩) hS ?_
      rotate_left
      · (rintro wS ⟨⟨s0, s1, s2, s3⟩, t0, t1, t2, t3⟩; (try simp only [List.getElem_toArray, List.getElem_cons_zero, List.getElem_cons_succ]); go_simp <;> with_reducible rfl)
      simp only [Act.put, List.getElem_toArray, List.getElem_cons_zero, List.getElem_cons_succ, List.setIfInBounds_toArray, List.set_cons_zero, List.set_cons_succ]
      refine z_take (i := 44) (v := ?_) rfl (by kernel_rfl) (by kernel_rfl) (by kernel_rfl) (by kernel_rfl) (fun _ _ _ h => h) (Or.inl ⟨by rfl, ?_⟩) hS ?_
      rotate_left
      · (rintro wS ⟨⟨s0, s1, s2, s3⟩, t0, t1, t2, t3⟩; (try simp only [List.getElem_toArray, List.getElem_cons_zero, List.getElem_cons_succ]); go_simp <;> with_reducible rfl)
      simp only [Act.put, List.getElem_toArray, List.getElem_cons_zero, List.getElem_cons_succ, List.setIfInBounds_toArray, List.set_cons_zero, List.set_cons_succ]
      refine z_take (i := 45) (v := ?_) rfl (by kernel_rfl) (by kernel_rfl) (by kernel_rfl) (by kernel_rfl) (fun _ _ _ h => h) (Or.inl ⟨by rfl, ?_⟩) hS ?_
      rotate_left
      · (rintro wS ⟨⟨s0, s1, s2, s3⟩, t0, t1, t2, t3⟩; (try simp only [List.getElem_toArray, List.getElem_cons_zero, List.getElem_cons_succ]); go_simp <;> with_reducible rfl)
      simp only [Act.put, List.getElem_toArray, List.getElem_cons_zero, List.getElem_cons_succ, List.setIfInBounds_toArray, List.set_cons_zero, List.set_cons_succ]
      refine z_take (i := 46) (v := ?_) rfl (by kernel_rfl) (by kernel_rfl) (by kernel_rfl) (by kernel_rfl) (fun _ _ _ h => h) (Or.inl ⟨by rfl, ?_⟩) hS ?_
      rotate_left
      · (rintro wS ⟨⟨s0, s1, s2, s3⟩, t0, t1, t2, t3⟩; (try simp only [List.getElem_toArray, List.getElem_cons_zero, List.getElem_cons_succ]); go_simp <;> with_reducible rfl)
      simp only [Act.put, List.getElem_toArray, List.getElem_cons_zero, List.getElem_cons_succ, List.setIfInBounds_toArray, List.set_cons_zero, List.set_cons_succ]
      refine z_take (i := 47) (v := ?_) rfl (by kernel_rfl) (by kernel_rfl) (by kernel_rfl) (by kernel_rfl) (fun _ _ _ h => h) (Or.inl ⟨by rfl, ?_⟩) hS ?_
      rotate_left
      · (rintro wS ⟨⟨s0, s1, s2, s3⟩, t0, t1, t2, t3⟩; (try simp only [List.getElem_toArray, List.getElem_cons_zero, List.getElem_cons_succ]); go_simp <;> with_reducible rfl)
      simp only [Act.put, List.getElem_toArray, List.getElem_cons_zero, List.getElem_cons_succ, List.setIfInBounds_toArray, List.set_cons_zero, List.set_cons_succ]
      refine z_take (i := 48) (v := ?_) rfl (by kernel_rfl) (by kernel_rfl) (by kernel_rfl) (by kernel_rfl) (fun _ _ _ h => h) (Or.inl ⟨by rfl, ?_⟩) hS ?_
      rotate_left
      · (rintro wS ⟨⟨s0, s1, s2, s3⟩, t0, t1, t2, t3⟩; (try simp only [List.getElem_toArray, List.getElem_cons_zero, List.getElem_cons_succ]); go_simp <;> with_reducible rfl)
      simp only [Act.put, List.getElem_toArray, List.getElem_cons_zero, List.getElem_cons_succ, List.setIfInBounds_toArray, List.set_cons_zero, List.set_cons_succ]
      refine z_take (i := 49) (v := ?_) rfl (by kernel_rfl) (by kernel_rfl) (by kernel_rfl) (by kernel_rfl) (fun _ _ _ h => h) (Or.inl ⟨by rfl, ?_⟩) hS ?_
      rotate_left
      · (rintro wS ⟨⟨s0, s1, s2, s3⟩, t0, t1, t2, t3⟩; (try simp only [List.getElem_toArray, List.getElem_cons_zero, List.getElem_cons_succ]); go_simp <;> with_reducible rfl)
      simp only [Act.put, List.getElem_toArray, List.getElem_cons_zero, List.getElem_cons_succ, List.setIfInBounds_toArray, List.set_cons_zero, List.set_cons_succ]
      refine z_done (by kernel_rfl) ?_ _
      go_wp2_with fail
      go_roundw
      case rel => exact ⟨i + 1, j + 1, by go_num, by omega, rfl⟩
      case measure => simp [intOf]; omega
    · obtain rfl : i = n := by omega
      clear H1 H2
      go_wp2_with fail
      go_ret
      exact ⟨rfl, j, rfl⟩
end Go.Proofs.Ytnlnadpbbcjfdaa
