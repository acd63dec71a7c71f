/-
  Events behind others, in plain words.
-/
import Derived.Test.YtigchloekolaoaaEventTellsEqual
import Derived.Test.YtigchloekolaoaaEventTellsCnt
import Derived.Test.YtigchloekolaoaaEventTellsCodesPlain
namespace Go.Proofs.Ytigchloekolaoaa.PEventTells
open Go.RowKit Go.Proofs.YtigchloekolaoaaW.PrintWords Go.Proofs.YtigchloekolaoaaW.PrintLast Go.Proofs.YtigchloekolaoaaW.PrintMore

theorem wrap_assoc (a b c : Int) : wrap64 (wrap64 (a + b) + c) = wrap64 (a + wrap64 (b + c)) := by unfold wrap64; omega
theorem wrap_twice (a b : Int) : wrap64 (wrap64 (a + b) + 0) = wrap64 (a + b) := by unfold wrap64; omega
theorem wrap_front (a b : Int) : wrap64 (0 + wrap64 (a + b)) = wrap64 (a + b) := by unfold wrap64; omega

theorem add7_assoc (a b c : C7) : add7 (add7 a b) c = add7 a (add7 b c) := by
  unfold add7; simp only [wrap_assoc]
theorem add7_zero (a b : C7) : add7 (add7 a b) zero7 = add7 a b := by
  unfold add7 zero7; simp only [wrap_twice]
theorem zero_add7 (a b : C7) : add7 zero7 (add7 a b) = add7 a b := by
  unfold add7 zero7; simp only [wrap_front]

theorem cnt_from : ∀ (l : List S46) (a b : C7), cnt l (add7 a b) = add7 (add7 a b) (cnt l zero7)
  | [], a, b => (add7_zero a b).symm
  | e :: l, a, b => by
    show cnt l (add7 (add7 a b) (one7 e)) = add7 (add7 a b) (cnt l (add7 zero7 (one7 e)))
    rw [cnt_from l (add7 a b) (one7 e), cnt_from l zero7 (one7 e)]
    rw [add7_assoc (add7 a b) (one7 e), add7_assoc zero7 (one7 e)]
    cases l with
    | nil =>
      show add7 (add7 a b) (add7 (one7 e) zero7) = add7 (add7 a b) (add7 zero7 (add7 (one7 e) zero7))
      rw [zero_add7]
    | cons x t => rw [zero_add7]

theorem cnt_append (a b : List S46) : cnt (a ++ b) zero7 = add7 (cnt a zero7) (cnt b zero7) := by
  show (a ++ b).foldl _ _ = _
  rw [List.foldl_append]
  show cnt b (cnt a zero7) = _
  rcases List.eq_nil_or_concat a with rfl | ⟨t, x, rfl⟩
  · show cnt b zero7 = add7 zero7 (cnt b zero7)
    rcases List.eq_nil_or_concat b with rfl | ⟨t, x, rfl⟩
    · show zero7 = add7 zero7 zero7
      decide +kernel
    · have : cnt (t ++ [x]) zero7 = add7 (cnt t zero7) (one7 x) := by
        show (t ++ [x]).foldl _ _ = _
        rw [List.foldl_append]; rfl
      rw [List.concat_eq_append, this, zero_add7]
  · have : cnt (t ++ [x]) zero7 = add7 (cnt t zero7) (one7 x) := by
      show (t ++ [x]).foldl _ _ = _
      rw [List.foldl_append]; rfl
    rw [List.concat_eq_append, this, cnt_from]

theorem evmets_loop2 (l : List S46) (hl : l.length ≤ 1000) (hs : ∀ e ∈ l, e.f3.length ≤ 40 ∧ ∀ m ∈ e.f3, Sm m) : ∀ (d i : Nat) (x : List S36), i + d = l.length → x.length + (mets (l.drop i)).length ≤ 5000 →
    Ev (fun k => event_Metrics.l0 k x l (l.length : Int) i) (x ++ mets (l.drop i)) := by
  intro d
  induction d with
  | zero =>
    intro i x hi _
    rw [List.drop_eq_nil_of_le (by omega)]
    refine Ev.step (f := fun _ => some (x ++ mets [])) (fun k => ?_) (Ev.now _)
    simp only [event_Metrics.l0]
    rw [if_neg (by omega)]
    simp [mets]
  | succ d ih =>
    intro i x hi hb
    have hlt : i < l.length := by omega
    have hrd : rd_T46 l (i : Int) = l.getD i z46 := by unfold rd_T46; rw [Int.toNat_natCast]
    have hmem : l.getD i z46 ∈ l := by
      rw [List.getD_eq_getElem?_getD, List.getElem?_eq_getElem hlt]
      exact List.getElem_mem hlt
    rw [drop_step l i z46 hlt, mets_cons] at hb ⊢
    rw [List.length_append] at hb
    by_cases h1 : (l.getD i z46).f0 = 1
    · rw [if_pos h1] at hb ⊢
      rw [← List.append_assoc]
      have h2 := ih (i + 1) (x ++ (l.getD i z46).f3) (by omega) (by rw [List.length_append]; omega)
      have hin := evmets_inner l i (l.getD i z46).f3 (hs _ hmem).2 (hs _ hmem).1 _ 5000 (Nat.le_refl _) (l.getD i z46).f3.length 0 x (by omega) (by omega) (by
        rw [List.drop_zero, w_succ (by omega) (by omega)]
        exact h2)
      refine Ev.step (fun k => ?_) hin
      simp only [event_Metrics.l0]
      rw [if_pos (by omega), if_pos (by omega), if_pos (by omega), hrd, if_pos h1]
      rfl
    · rw [if_neg h1] at hb ⊢
      rw [List.nil_append]
      refine Ev.step (fun k => ?_) (ih (i + 1) x (by omega) (by simp at hb; omega))
      simp only [event_Metrics.l0]
      rw [if_pos (by omega), if_pos (by omega), if_pos (by omega), hrd, if_neg h1, w_succ (by omega) (by omega)]
      rfl

theorem evmets_ev2 (l : List S46) (hl : l.length ≤ 1000) (hs : ∀ e ∈ l, e.f3.length ≤ 40 ∧ ∀ m ∈ e.f3, Sm m) (hm : (mets l).length ≤ 5000) : Ev (fun k => event_Metrics.f k l) (mets l) := by
  have := evmets_loop2 l hl hs l.length 0 [] (by omega) (by rw [List.drop_zero]; simpa using hm)
  exact this

theorem wrap_comm (a b : Int) : wrap64 (a + b) = wrap64 (b + a) := by rw [Int.add_comm]
theorem add7_comm (a b : C7) : add7 a b = add7 b a := by
  unfold add7
  simp only [Int.add_comm]

theorem cnt_other (a b : List S46) : cnt (a ++ b) zero7 = cnt (b ++ a) zero7 := by rw [cnt_append, cnt_append, add7_comm]

theorem wrap_both (a b : Int) : wrap64 (wrap64 a + wrap64 b) = wrap64 (a + b) := by unfold wrap64; omega

theorem one7_mets (e : S46) : (one7 e).2.1 = ((if e.f0 = 1 then e.f3 else []).length : Int) := by
  unfold one7
  by_cases e1 : e.f0 = 1
  · rw [if_pos e1, if_pos e1]
  · rw [if_neg e1, if_neg e1]
    split
    · rfl
    · split <;> rfl

theorem one7_rejs (e : S46) : (one7 e).2.2.2.1 = ((if decide (e.f0 = 2) = true then 1 else 0 : Nat) : Int) := by
  unfold one7
  by_cases e1 : e.f0 = 1
  · rw [if_pos e1, if_neg (by rw [e1]; decide)]
    rfl
  · rw [if_neg e1]
    by_cases e2 : e.f0 = 2
    · rw [if_pos e2, if_pos (decide_eq_true e2)]
      rfl
    · have e4 : ¬ decide (e.f0 = 2) = true := by simpa using e2
      rw [if_neg e2, if_neg e4]
      split <;> rfl

/-- How many metrics, and rejects, are counted. -/
theorem cnt_parts : ∀ l : List S46, (cnt l zero7).2.1 = wrap64 ((mets l).length : Int) ∧ (cnt l zero7).2.2.2.1 = wrap64 ((l.countP fun e => decide (e.f0 = 2) : Nat) : Int)
  | [] => ⟨by decide +kernel, by decide +kernel⟩
  | e :: l => by
    obtain ⟨h1, h2⟩ := cnt_parts l
    have h := cnt_append [e] l
    rw [List.singleton_append] at h
    have k1 : (cnt (e :: l) zero7).2.1 = wrap64 (wrap64 (0 + (one7 e).2.1) + (cnt l zero7).2.1) := by rw [h]; rfl
    have k2 : (cnt (e :: l) zero7).2.2.2.1 = wrap64 (wrap64 (0 + (one7 e).2.2.2.1) + (cnt l zero7).2.2.2.1) := by rw [h]; rfl
    refine ⟨?_, ?_⟩
    · rw [k1, h1, wrap_both, one7_mets, mets_cons, List.length_append]
      congr 1
      omega
    · rw [k2, h2, wrap_both, one7_rejs, List.countP_cons]
      congr 1
      omega

theorem mets_append (a b : List S46) : mets (a ++ b) = mets a ++ mets b := by unfold mets; rw [List.flatMap_append]

theorem sum_add (f g : Int → Nat) : ∀ cs : List Int, (cs.map fun c => f c + g c).sum = (cs.map f).sum + (cs.map g).sum
  | [] => rfl
  | c :: cs => by
    simp only [List.map_cons, List.sum_cons, sum_add f g cs]
    omega

theorem sum_zero (f : Int → Nat) : ∀ cs : List Int, (∀ c ∈ cs, f c = 0) → (cs.map f).sum = 0
  | [], _ => rfl
  | c :: cs, h => by
    rw [List.map_cons, List.sum_cons, h c List.mem_cons_self, sum_zero f cs (fun x hx => h x (List.mem_cons_of_mem _ hx))]

theorem sum_one (x : Int) : ∀ cs : List Int, cs.Pairwise (· < ·) → x ∈ cs → (cs.map fun c => if x = c then 1 else 0).sum = 1
  | [], _, h => by cases h
  | c :: cs, hp, h => by
    obtain ⟨h1, h2⟩ := List.pairwise_cons.1 hp
    rw [List.map_cons, List.sum_cons]
    rcases List.mem_cons.1 h with rfl | h
    · rw [if_pos rfl, sum_zero _ cs (fun y hy => if_neg (by have := h1 y hy; omega))]
    · have := h1 x h
      rw [if_neg (by omega), sum_one x cs h2 h]

/-- The rejects of all errors are all rejects. -/
theorem sum_codes (cs : List Int) (hp : cs.Pairwise (· < ·)) : ∀ l : List S46, (∀ e ∈ l, e.f0 = 2 → e.f4 ∈ cs) → (cs.map (cntC l)).sum = l.countP fun e => decide (e.f0 = 2)
  | [], _ => by
    rw [List.countP_nil]
    exact sum_zero _ cs (fun _ _ => rfl)
  | e :: l, h => by
    have ih := sum_codes cs hp l (fun x hx => h x (List.mem_cons_of_mem _ hx))
    have hc : ∀ c, cntC (e :: l) c = cntC l c + (if e.f0 = 2 ∧ e.f4 = c then 1 else 0) := fun c => by
      unfold cntC
      rw [List.countP_cons]
      simp only [decide_eq_true_eq]
    rw [List.countP_cons, ← ih, List.map_congr_left (fun c _ => hc c), sum_add]
    by_cases h2 : e.f0 = 2
    · have hq : (cs.map fun c => if e.f0 = 2 ∧ e.f4 = c then 1 else 0) = cs.map fun c => if e.f4 = c then 1 else 0 := List.map_congr_left (fun c _ => by simp [h2])
      rw [hq, sum_one e.f4 cs hp (h e List.mem_cons_self h2), if_pos (by rw [h2]; decide)]
    · rw [if_neg (by simpa using h2), sum_zero _ cs (fun c _ => if_neg (fun h => h2 h.1))]

theorem sum_all (l : List S46) : ((codesOf l).map (cntC l)).sum = l.countP fun e => decide (e.f0 = 2) := by
  obtain ⟨h1, h2, _⟩ := codes_all l
  refine sum_codes _ h1 l (fun e he h0 => (h2 _).2 ?_)
  unfold cntC
  exact List.countP_pos_iff.2 ⟨e, he, decide_eq_true ⟨h0, rfl⟩⟩

theorem eq8_ev2 (l : List S36) (hl : l.length ≤ 5000) (hs : ∀ m ∈ l, Sm m) : Ev (fun k => forebayref08_Equal.f k l l) true := eq8_ev l hl hs
end Go.Proofs.Ytigchloekolaoaa.PEventTells
