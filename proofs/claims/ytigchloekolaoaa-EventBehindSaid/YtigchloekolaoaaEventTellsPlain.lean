/-
  The plain laws of EventTells's functions: which metrics events have, copies, and what is the same.
-/
import Derived.Test.YtigchloekolaoaaEventTellsFew
namespace Go.Proofs.Ytigchloekolaoaa.PEventTells
open Go.RowKit Go.Proofs.YtigchloekolaoaaW.PrintWords Go.Proofs.YtigchloekolaoaaW.PrintLast Go.Proofs.YtigchloekolaoaaW.PrintMore

theorem drop_step {α : Type} (l : List α) (i : Nat) (z : α) (hi : i < l.length) : l.drop i = l.getD i z :: l.drop (i + 1) := by
  rw [List.drop_eq_getElem_cons hi]
  simp [hi]

/-- The metrics that were accepted. -/
def mets (l : List S46) : List S36 := l.flatMap fun e => if e.f0 = 1 then e.f3 else []

/-- A metric that is not too great. -/
def Sm (m : S36) : Prop := m.f0.size ≤ 300 ∧ m.f2.length ≤ 80 ∧ m.f4.length ≤ 50 ∧ ∀ t ∈ m.f4, t.f0.size ≤ 200 ∧ t.f1.size ≤ 200

theorem small_sm {m : S36} (h : smallB m.f0 m.f2 m.f4 = true) : Sm m := by
  unfold smallB at h
  simp only [Bool.and_eq_true, decide_eq_true_eq, List.all_eq_true] at h
  obtain ⟨ht, h0, h2, h4⟩ := h
  refine ⟨h0, h2, h4, fun t h => ?_⟩
  have := ht t (by rw [List.take_of_length_le (by omega)]; exact h)
  unfold tagSmall at this
  simpa using this

theorem few13_sm {l : List S36} (h : few13B l = true) : l.length ≤ 40 ∧ ∀ m ∈ l, Sm m := by
  unfold few13B at h
  simp only [Bool.and_eq_true, decide_eq_true_eq, List.all_eq_true] at h
  exact ⟨h.2, fun m hm => small_sm (h.1 m (by rw [List.take_of_length_le (by omega)]; exact hm))⟩

theorem few21_sm {l : List S46} (h : few21B l = true) : l.length ≤ 60 ∧ ∀ e ∈ l, e.f3.length ≤ 40 ∧ ∀ m ∈ e.f3, Sm m := by
  unfold few21B at h
  simp only [Bool.and_eq_true, decide_eq_true_eq, List.all_eq_true] at h
  exact ⟨h.2, fun e he => few13_sm (h.1 e (by rw [List.take_of_length_le (by omega)]; exact he))⟩

theorem mets_len : ∀ (l : List S46), (∀ e ∈ l, e.f3.length ≤ 40) → (mets l).length ≤ l.length * 40
  | [], _ => Nat.le_refl _
  | e :: l, h => by
    have ih := mets_len l (fun x hx => h x (List.mem_cons_of_mem _ hx))
    have he := h e List.mem_cons_self
    unfold mets at *
    rw [List.flatMap_cons, List.length_append, List.length_cons]
    split
    · omega
    · simp only [List.length_nil]; omega

theorem mets_sm {l : List S46} (h : ∀ e ∈ l, ∀ m ∈ e.f3, Sm m) : ∀ m ∈ mets l, Sm m := by
  intro m hm
  unfold mets at hm
  obtain ⟨e, he, hx⟩ := List.mem_flatMap.1 hm
  split at hx
  · exact h e he m hx
  · cases hx

theorem mets_cons (e : S46) (l : List S46) : mets (e :: l) = (if e.f0 = 1 then e.f3 else []) ++ mets l := by unfold mets; rw [List.flatMap_cons]

theorem refmets_loop (l : List S46) (hl : l.length ≤ 60) : ∀ (d i : Nat) (x : List S36), i + d = l.length → x.length + (mets (l.drop i)).length ≤ 5000 →
    Ev (fun k => forebayref21_Metrics.l0 k l x i) (x ++ mets (l.drop i)) := by
  intro d
  induction d with
  | zero =>
    intro i x hi _
    rw [List.drop_eq_nil_of_le (by omega)]
    refine Ev.step (f := fun _ => some (x ++ mets [])) (fun k => ?_) (Ev.now _)
    simp only [forebayref21_Metrics.l0]
    rw [if_neg (by omega)]
    simp [mets]
  | succ d ih =>
    intro i x hi hb
    have hlt : i < l.length := by omega
    have hrd : rd_T46 l (i : Int) = l.getD i z46 := by unfold rd_T46; rw [Int.toNat_natCast]
    rw [drop_step l i z46 hlt, mets_cons] at hb ⊢
    rw [List.length_append] at hb
    by_cases h1 : (l.getD i z46).f0 = 1
    · rw [if_pos h1] at hb ⊢
      rw [← List.append_assoc]
      refine Ev.step (fun k => ?_) (ih (i + 1) (x ++ (l.getD i z46).f3) (by omega) (by rw [List.length_append]; omega))
      simp only [forebayref21_Metrics.l0]
      rw [if_pos (by omega), if_pos (by omega), hrd, if_pos h1, if_pos (by omega), w_succ (by omega) (by omega)]
      rfl
    · rw [if_neg h1] at hb ⊢
      rw [List.nil_append]
      refine Ev.step (fun k => ?_) (ih (i + 1) x (by omega) (by simp at hb; omega))
      simp only [forebayref21_Metrics.l0]
      rw [if_pos (by omega), if_pos (by omega), hrd, if_neg h1, w_succ (by omega) (by omega)]
      rfl

theorem refmets_ev (l : List S46) (hl : l.length ≤ 60) (hm : (mets l).length ≤ 5000) : Ev (fun k => forebayref21_Metrics.f k l) (mets l) := by
  have := refmets_loop l hl l.length 0 [] (by omega) (by rw [List.drop_zero]; simpa using hm)
  exact this

theorem clone_is (m : S36) (h : Sm m) : metric_Clone.f m.f0 m.f1 m.f2 m.f3 m.f4 m.f5 = some (m.f0, m.f1, m.f2, m.f3, m.f4, m.f5) := by
  unfold metric_Clone.f api_Dec_41.f api_Tag_42.f
  have h2 := h.2.1
  have h4 := h.2.2.1
  simp only [Option.bind_some, List.length_nil, List.nil_append, Nat.zero_add]
  rw [if_pos (by omega), if_pos (by omega)]
  rfl

/-- One event's metrics, taken over. -/
theorem evmets_inner (l : List S46) (i : Nat) (ms : List S36) (hs : ∀ m ∈ ms, Sm m) (hml : ms.length ≤ 40) (r : List S36) (B : Nat) (hB : B ≤ 5000) : ∀ (d j : Nat) (x : List S36), j + d = ms.length → x.length + d ≤ B →
    Ev (fun k => event_Metrics.l0 k (x ++ ms.drop j) l (l.length : Int) (wrap64 ((i : Int) + 1))) r → Ev (fun k => event_Metrics.l1 k x l (l.length : Int) i ms (ms.length : Int) j) r := by
  intro d
  induction d with
  | zero =>
    intro j x hj _ hr
    rw [List.drop_eq_nil_of_le (by omega), List.append_nil] at hr
    refine Ev.step (fun k => ?_) hr
    simp only [event_Metrics.l1]
    rw [if_neg (by omega)]
  | succ d ih =>
    intro j x hj hb hr
    have hlt : j < ms.length := by omega
    have hrd : rd_T36 ms (j : Int) = ms.getD j z36 := by unfold rd_T36; rw [Int.toNat_natCast]
    rw [drop_step ms j z36 hlt] at hr
    have hsm : Sm (ms.getD j z36) := hs _ (by
      rw [List.getD_eq_getElem?_getD, List.getElem?_eq_getElem hlt]
      exact List.getElem_mem hlt)
    have hr2 := ih (j + 1) (x ++ [ms.getD j z36]) (by omega) (by simp; omega) (by simpa using hr)
    refine Ev.step (fun k => ?_) hr2
    simp only [event_Metrics.l1]
    rw [if_pos (by omega), if_pos (by omega), if_pos (by omega), hrd, clone_is _ hsm, Option.bind_some]
    simp only
    rw [if_pos (by omega), w_succ (by omega) (by omega)]
    rfl

theorem evmets_loop (l : List S46) (hl : l.length ≤ 60) (hs : ∀ e ∈ l, e.f3.length ≤ 40 ∧ ∀ m ∈ e.f3, Sm m) : ∀ (d i : Nat) (x : List S36), i + d = l.length → x.length + (mets (l.drop i)).length ≤ 5000 →
    Ev (fun k => event_Metrics.l0 k x l (l.length : Int) i) (x ++ mets (l.drop i)) := by
  intro d
  induction d with
  | zero =>
    intro i x hi _
    rw [List.drop_eq_nil_of_le (by omega)]
    refine Ev.step (f := fun _ => some (x ++ mets [])) (fun k => ?_) (Ev.now _)
    simp only [event_Metrics.l0]
    rw [if_neg (by omega)]
    simp [mets]
  | succ d ih =>
    intro i x hi hb
    have hlt : i < l.length := by omega
    have hrd : rd_T46 l (i : Int) = l.getD i z46 := by unfold rd_T46; rw [Int.toNat_natCast]
    have hmem : l.getD i z46 ∈ l := by
      rw [List.getD_eq_getElem?_getD, List.getElem?_eq_getElem hlt]
      exact List.getElem_mem hlt
    rw [drop_step l i z46 hlt, mets_cons] at hb ⊢
    rw [List.length_append] at hb
    by_cases h1 : (l.getD i z46).f0 = 1
    · rw [if_pos h1] at hb ⊢
      rw [← List.append_assoc]
      have h2 := ih (i + 1) (x ++ (l.getD i z46).f3) (by omega) (by rw [List.length_append]; omega)
      have hin := evmets_inner l i (l.getD i z46).f3 (hs _ hmem).2 (hs _ hmem).1 _ 5000 (Nat.le_refl _) (l.getD i z46).f3.length 0 x (by omega) (by omega) (by
        rw [List.drop_zero, w_succ (by omega) (by omega)]
        exact h2)
      refine Ev.step (fun k => ?_) hin
      simp only [event_Metrics.l0]
      rw [if_pos (by omega), if_pos (by omega), if_pos (by omega), hrd, if_pos h1]
      rfl
    · rw [if_neg h1] at hb ⊢
      rw [List.nil_append]
      refine Ev.step (fun k => ?_) (ih (i + 1) x (by omega) (by simp at hb; omega))
      simp only [event_Metrics.l0]
      rw [if_pos (by omega), if_pos (by omega), if_pos (by omega), hrd, if_neg h1, w_succ (by omega) (by omega)]
      rfl

theorem evmets_ev (l : List S46) (hl : l.length ≤ 60) (hs : ∀ e ∈ l, e.f3.length ≤ 40 ∧ ∀ m ∈ e.f3, Sm m) (hm : (mets l).length ≤ 5000) : Ev (fun k => event_Metrics.f k l) (mets l) := by
  have := evmets_loop l hl hs l.length 0 [] (by omega) (by rw [List.drop_zero]; simpa using hm)
  exact this

section
variable (a0 : ByteArray) (a1 : Int) (l2 : List S39) (a3 : Int) (l4 : List S41) (a5 : Int)
theorem eq7_tags (h4 : l4.length ≤ 50) : ∀ (d i : Nat), i + d = l4.length → Ev (fun k => forebayref07_Equal.l1 k i a0 a1 l2 a3 l4 a5 a0 a1 l2 a3 l4 a5) true := by
  intro d
  induction d with
  | zero =>
    intro i hi
    refine Ev.step (f := fun _ => some true) (fun k => ?_) (Ev.now _)
    simp only [forebayref07_Equal.l1]
    rw [if_neg (by omega)]
  | succ d ih =>
    intro i hi
    refine Ev.step (fun k => ?_) (ih (i + 1) (by omega))
    simp only [forebayref07_Equal.l1]
    rw [if_pos (by omega), if_pos (by omega), if_pos (by omega), if_neg (by simp), w_succ (by omega) (by omega)]
    rfl
theorem eq7_decs (h2 : l2.length ≤ 80) (h4 : l4.length ≤ 50) : ∀ (d i : Nat), i + d = l2.length → Ev (fun k => forebayref07_Equal.l0 k i a0 a1 l2 a3 l4 a5 a0 a1 l2 a3 l4 a5) true := by
  intro d
  induction d with
  | zero =>
    intro i hi
    refine Ev.step (fun k => ?_) (eq7_tags a0 a1 l2 a3 l4 a5 h4 l4.length 0 (by omega))
    simp only [forebayref07_Equal.l0]
    rw [if_neg (by omega)]
    rfl
  | succ d ih =>
    intro i hi
    refine Ev.step (fun k => ?_) (ih (i + 1) (by omega))
    simp only [forebayref07_Equal.l0]
    rw [if_pos (by omega), if_pos (by omega), if_pos (by omega), if_neg (by simp), w_succ (by omega) (by omega)]
    rfl
theorem eq7_ev (h2 : l2.length ≤ 80) (h4 : l4.length ≤ 50) : Ev (fun k => forebayref07_Equal.f k a0 a1 l2 a3 l4 a5 a0 a1 l2 a3 l4 a5) true := by
  refine Ev.congr (f := fun k => forebayref07_Equal.j0 k ((l4.length : Int) != (l4.length : Int)) a0 a1 l2 a3 l4 a5 a0 a1 l2 a3 l4 a5) (fun k => ?_) ?_
  · unfold forebayref07_Equal.f
    rw [if_pos rfl, if_pos rfl, if_pos rfl, if_pos rfl, if_pos rfl]
  · refine Ev.step (fun k => ?_) (eq7_decs a0 a1 l2 a3 l4 a5 h2 h4 l2.length 0 (by omega))
    simp only [forebayref07_Equal.j0]
    rw [if_neg (by simp)]
    rfl
end

theorem eq8_loop (l : List S36) (hl : l.length ≤ 5000) (hs : ∀ m ∈ l, Sm m) : ∀ (d i : Nat), i + d = l.length → Ev (fun k => forebayref08_Equal.l0 k l l i) true := by
  intro d
  induction d with
  | zero =>
    intro i hi
    refine Ev.step (f := fun _ => some true) (fun k => ?_) (Ev.now _)
    simp only [forebayref08_Equal.l0]
    rw [if_neg (by omega)]
  | succ d ih =>
    intro i hi
    have hlt : i < l.length := by omega
    have hrd : rd_T36 l (i : Int) = l.getD i z36 := by unfold rd_T36; rw [Int.toNat_natCast]
    have hsm : Sm (l.getD i z36) := hs _ (by
      rw [List.getD_eq_getElem?_getD, List.getElem?_eq_getElem hlt]
      exact List.getElem_mem hlt)
    refine Ev.step (f := fun k => (forebayref07_Equal.f k (l.getD i z36).f0 (l.getD i z36).f1 (l.getD i z36).f2 (l.getD i z36).f3 (l.getD i z36).f4 (l.getD i z36).f5 (l.getD i z36).f0 (l.getD i z36).f1 (l.getD i z36).f2 (l.getD i z36).f3 (l.getD i z36).f4 (l.getD i z36).f5).bind fun t => if t = true then forebayref08_Equal.l0 k l l ((i + 1 : Nat) : Int) else some false) (fun k => ?_) ?_
    · simp only [forebayref08_Equal.l0]
      rw [if_pos (by omega), if_pos (by omega), if_pos (by omega), hrd, w_succ (by omega) (by omega)]
      rfl
    · refine Ev.bind (eq7_ev _ _ _ _ _ _ hsm.2.1 hsm.2.2.1) ?_
      simp only [if_true]
      exact ih (i + 1) (by omega)

theorem eq8_ev (l : List S36) (hl : l.length ≤ 5000) (hs : ∀ m ∈ l, Sm m) : Ev (fun k => forebayref08_Equal.f k l l) true := by
  refine Ev.congr (f := fun k => forebayref08_Equal.l0 k l l ((0 : Nat) : Int)) (fun k => ?_) (eq8_loop l hl hs l.length 0 (by omega))
  unfold forebayref08_Equal.f
  rw [if_pos rfl]
  rfl
end Go.Proofs.Ytigchloekolaoaa.PEventTells
