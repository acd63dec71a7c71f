/-
  The reference's errors of rejects, and how many: in plain words.
-/
import Derived.Test.YtigchloekolaoaaEventTellsPlain
import Derived.Test.YtigchloekolaoaaEventTellsCodesPlain
namespace Go.Proofs.Ytigchloekolaoaa.PEventTells
open Go.RowKit Go.Proofs.YtigchloekolaoaaW.PrintWords Go.Proofs.YtigchloekolaoaaW.PrintLast Go.Proofs.YtigchloekolaoaaW.PrintMore

theorem drop_int (l : List Int) (i : Nat) (hi : i < l.length) : l.drop i = l.getD i 0 :: l.drop (i + 1) := by
  rw [List.drop_eq_getElem_cons hi]
  simp [hi]

section
variable (l : List S46) (hl : l.length ≤ 1000)
include hl

theorem rc_put (cs : List Int) (hcs : cs.length ≤ 9000) (i : Nat) (hi : i < l.length) (r : List Int × List Int) : ∀ (d j : Nat) (more : List Int), j + d = cs.length → more.length + d ≤ 10000 →
    Ev (fun k => forebayref21_Codes.l0 k l (more ++ cs.drop j) ((i + 1 : Nat) : Int)) r → Ev (fun k => forebayref21_Codes.l1 k l cs (i : Int) more true (j : Int)) r := by
  intro d
  induction d with
  | zero =>
    intro j more hj _ hr
    rw [List.drop_eq_nil_of_le (by omega), List.append_nil] at hr
    refine Ev.step (fun k => ?_) hr
    simp only [forebayref21_Codes.l1]
    rw [if_neg (by omega), if_pos trivial, w_succ (by omega) (by omega)]
    rfl
  | succ d ih =>
    intro j more hj hb hr
    have hrd : rd cs (j : Int) = cs.getD j 0 := by unfold rd; rw [Int.toNat_natCast]
    rw [drop_int cs j (by omega)] at hr
    have h2 := ih (j + 1) (more ++ [cs.getD j 0]) (by omega) (by simp; omega) (by simpa using hr)
    refine Ev.step (f := fun k => forebayref21_Codes.j2 k l cs (i : Int) more true (j : Int) false) (fun k => ?_) (Ev.step (fun k => ?_) h2)
    · simp only [forebayref21_Codes.l1]
      rw [if_pos (by omega), if_pos trivial]
    · simp only [forebayref21_Codes.j2]
      rw [if_neg (by decide), if_pos (by omega), if_pos (by omega), if_pos (by omega), hrd, w_succ (by omega) (by omega)]
      rfl

theorem rc_ins (cs : List Int) (hcs : cs.length ≤ 9000) (i : Nat) (hi : i < l.length) (r : List Int × List Int) : ∀ (d j : Nat) (more : List Int), j + d = cs.length → more.length + d ≤ 9000 →
    Ev (fun k => forebayref21_Codes.l0 k l (more ++ ins (l.getD i z46).f4 (cs.drop j)) ((i + 1 : Nat) : Int)) r → Ev (fun k => forebayref21_Codes.l1 k l cs (i : Int) more false (j : Int)) r := by
  have hri : rd_T46 l (i : Int) = l.getD i z46 := by unfold rd_T46; rw [Int.toNat_natCast]
  intro d
  induction d with
  | zero =>
    intro j more hj hb hr
    rw [List.drop_eq_nil_of_le (by omega)] at hr
    refine Ev.step (fun k => ?_) hr
    simp only [forebayref21_Codes.l1]
    rw [if_neg (by omega), if_neg (by decide), if_pos (by omega), if_pos (by omega), if_pos (by omega), hri, w_succ (by omega) (by omega)]
    rfl
  | succ d ih =>
    intro j more hj hb hr
    have hrd : rd cs (j : Int) = cs.getD j 0 := by unfold rd; rw [Int.toNat_natCast]
    rw [drop_int cs j (by omega)] at hr
    unfold ins at hr
    by_cases h1 : (l.getD i z46).f4 < cs.getD j 0
    · rw [if_pos h1] at hr
      have h2 := rc_put l hl cs hcs i hi r d (j + 1) (more ++ [(l.getD i z46).f4] ++ [cs.getD j 0]) (by omega) (by simp; omega) (by simpa using hr)
      refine Ev.step (f := fun k => forebayref21_Codes.j2 k l cs (i : Int) more false (j : Int) true) (fun k => ?_) (Ev.step (fun k => ?_) h2)
      · simp only [forebayref21_Codes.l1]
        rw [if_pos (by omega), if_neg (by decide), if_pos (by omega), if_pos (by omega), if_pos (by omega), hrd, hri, decide_eq_true (by omega)]
      · simp only [forebayref21_Codes.j2]
        rw [if_pos trivial, if_pos (by omega), if_pos (by omega), if_pos (by omega), if_pos (by omega), hrd, hri, if_pos (by omega), if_pos (by omega), Option.bind_some, if_pos (by simp; omega), w_succ (by omega) (by omega)]
        rfl
    · rw [if_neg h1] at hr
      by_cases h2 : (l.getD i z46).f4 = cs.getD j 0
      · rw [if_pos h2] at hr
        have h3 := rc_put l hl cs hcs i hi r d (j + 1) (more ++ [cs.getD j 0]) (by omega) (by simp; omega) (by simpa using hr)
        refine Ev.step (f := fun k => forebayref21_Codes.j2 k l cs (i : Int) more false (j : Int) true) (fun k => ?_) (Ev.step (fun k => ?_) h3)
        · simp only [forebayref21_Codes.l1]
          rw [if_pos (by omega), if_neg (by decide), if_pos (by omega), if_pos (by omega), if_pos (by omega), hrd, hri, decide_eq_true (by omega)]
        · simp only [forebayref21_Codes.j2]
          rw [if_pos trivial, if_pos (by omega), if_pos (by omega), if_pos (by omega), if_pos (by omega), hrd, hri, if_neg (by omega), if_pos (by omega), w_succ (by omega) (by omega)]
          rfl
      · rw [if_neg h2] at hr
        have h3 := ih (j + 1) (more ++ [cs.getD j 0]) (by omega) (by simp; omega) (by simpa using hr)
        refine Ev.step (f := fun k => forebayref21_Codes.j2 k l cs (i : Int) more false (j : Int) false) (fun k => ?_) (Ev.step (fun k => ?_) h3)
        · simp only [forebayref21_Codes.l1]
          rw [if_pos (by omega), if_neg (by decide), if_pos (by omega), if_pos (by omega), if_pos (by omega), hrd, hri, decide_eq_false (by omega)]
        · simp only [forebayref21_Codes.j2]
          rw [if_neg (by decide), if_pos (by omega), if_pos (by omega), if_pos (by omega), hrd, w_succ (by omega) (by omega)]
          rfl

theorem rc_count (cs out : List Int) (j : Nat) (hj : j < cs.length) (hb : out.length ≤ 9000) (hj2 : cs.length ≤ 9000) (r : List Int × List Int) : ∀ (d i : Nat) (acc : Nat), i + d = l.length → acc ≤ i →
    Ev (fun k => forebayref21_Codes.l2 k l cs (out ++ [((acc + cntC (l.drop i) (cs.getD j 0) : Nat) : Int)]) ((j + 1 : Nat) : Int)) r → Ev (fun k => forebayref21_Codes.l3 k l cs out (j : Int) (acc : Int) (i : Int)) r := by
  have hrd : rd cs (j : Int) = cs.getD j 0 := by unfold rd; rw [Int.toNat_natCast]
  intro d
  induction d with
  | zero =>
    intro i acc hi ha hr
    rw [List.drop_eq_nil_of_le (by omega)] at hr
    refine Ev.step (fun k => ?_) hr
    simp only [forebayref21_Codes.l3]
    rw [if_neg (by omega), if_pos (by omega), w_succ (by omega) (by omega)]
    rfl
  | succ d ih =>
    intro i acc hi ha hr
    have hri : rd_T46 l (i : Int) = l.getD i z46 := by unfold rd_T46; rw [Int.toNat_natCast]
    have hcn : cntC (l.drop i) (cs.getD j 0) = (if (l.getD i z46).f0 = 2 ∧ (l.getD i z46).f4 = cs.getD j 0 then 1 else 0) + cntC (l.drop (i + 1)) (cs.getD j 0) := by
      rw [drop_step l i z46 (by omega)]
      unfold cntC
      rw [List.countP_cons]
      simp only [decide_eq_true_eq]
      omega
    rw [hcn] at hr
    by_cases h0 : (l.getD i z46).f0 = 2
    · by_cases h4 : (l.getD i z46).f4 = cs.getD j 0
      · rw [if_pos ⟨h0, h4⟩] at hr
        have h2 := ih (i + 1) (acc + 1) (by omega) (by omega) (by rw [← Nat.add_assoc] at hr; exact hr)
        refine Ev.step (fun k => ?_) h2
        simp only [forebayref21_Codes.l3]
        rw [if_pos (by omega), if_pos (by omega), hri, if_pos h0, if_pos (by omega), if_pos (by omega), hrd, if_pos h4, w_succ (by omega) (by omega), w_succ (by omega) (by omega)]
        rfl
      · rw [if_neg (fun h => h4 h.2), Nat.zero_add] at hr
        have h2 := ih (i + 1) acc (by omega) (by omega) hr
        refine Ev.step (fun k => ?_) h2
        simp only [forebayref21_Codes.l3]
        rw [if_pos (by omega), if_pos (by omega), hri, if_pos h0, if_pos (by omega), if_pos (by omega), hrd, if_neg h4, w_succ (by omega) (by omega)]
        rfl
    · rw [if_neg (fun h => h0 h.1), Nat.zero_add] at hr
      have h2 := ih (i + 1) acc (by omega) (by omega) hr
      refine Ev.step (fun k => ?_) h2
      simp only [forebayref21_Codes.l3]
      rw [if_pos (by omega), if_pos (by omega), hri, if_neg h0, w_succ (by omega) (by omega)]
      rfl

theorem rc_many (cs : List Int) (hc : cs.length ≤ 1000) : ∀ (d j : Nat) (out : List Int), j + d = cs.length → out.length = j →
    Ev (fun k => forebayref21_Codes.l2 k l cs out (j : Int)) (cs, out ++ (cs.drop j).map fun c => (cntC l c : Int)) := by
  intro d
  induction d with
  | zero =>
    intro j out hj _
    rw [List.drop_eq_nil_of_le (by omega), List.map_nil, List.append_nil]
    refine Ev.step (f := fun _ => some (cs, out)) (fun k => ?_) (Ev.now _)
    simp only [forebayref21_Codes.l2]
    rw [if_neg (by omega)]
  | succ d ih =>
    intro j out hj ho
    have h2 := ih (j + 1) (out ++ [(cntC l (cs.getD j 0) : Int)]) (by omega) (by simp; omega)
    rw [drop_int cs j (by omega), List.map_cons]
    rw [List.append_assoc, List.singleton_append] at h2
    have h3 := rc_count l hl cs out j (by omega) (by omega) (by omega) _ l.length 0 0 (by omega) (by omega) (by rw [List.drop_zero, Nat.zero_add]; exact h2)
    refine Ev.step (fun k => ?_) h3
    simp only [forebayref21_Codes.l2]
    rw [if_pos (by omega)]
    rfl

theorem rc_loop (r : List Int × List Int) (hr : Ev (fun k => forebayref21_Codes.l2 k l (codesOf l) [] ((0 : Nat) : Int)) r) : ∀ (d i : Nat), i + d = l.length →
    Ev (fun k => forebayref21_Codes.l0 k l (codesOf (l.take i)) (i : Int)) r := by
  intro d
  induction d with
  | zero =>
    intro i hi
    rw [List.take_of_length_le (by omega)]
    refine Ev.step (fun k => ?_) hr
    simp only [forebayref21_Codes.l0]
    rw [if_neg (by omega)]
    rfl
  | succ d ih =>
    intro i hi
    have hri : rd_T46 l (i : Int) = l.getD i z46 := by unfold rd_T46; rw [Int.toNat_natCast]
    have h2 := ih (i + 1) (by omega)
    have hlen := (codes_spec l i (by omega)).2.2
    rw [take_snoc_ev l i (by omega), codes_snoc] at h2
    by_cases h0 : (l.getD i z46).f0 = 2
    · rw [if_pos h0] at h2
      have h3 := rc_ins l hl (codesOf (l.take i)) (by omega) i (by omega) r _ 0 [] (Nat.zero_add _) (by simp; omega) (by rw [List.nil_append, List.drop_zero]; exact h2)
      refine Ev.step (fun k => ?_) h3
      simp only [forebayref21_Codes.l0]
      rw [if_pos (by omega), if_pos (by omega), hri, if_pos h0]
      rfl
    · rw [if_neg h0] at h2
      refine Ev.step (fun k => ?_) h2
      simp only [forebayref21_Codes.l0]
      rw [if_pos (by omega), if_pos (by omega), hri, if_neg h0, w_succ (by omega) (by omega)]
      rfl

theorem refcodes_ev : Ev (fun k => forebayref21_Codes.f k l) (codesOf l, (codesOf l).map fun c => (cntC l c : Int)) := by
  have hc := (codes_all l).2.2
  have h1 := rc_many l hl (codesOf l) (by omega) _ 0 [] (Nat.zero_add _) rfl
  rw [List.nil_append, List.drop_zero] at h1
  exact rc_loop l hl _ h1 l.length 0 (by omega)
end
end Go.Proofs.Ytigchloekolaoaa.PEventTells
