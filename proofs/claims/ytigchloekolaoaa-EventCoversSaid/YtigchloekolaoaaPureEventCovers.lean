/-
  The plain law of EventCovers: what the printed law computes is true.
-/
import Derived.Test.YtigchloekolaoaaEventCoversCnt
namespace Go.Proofs.Ytigchloekolaoaa.PEventCovers
open Go.RowKit Go.Proofs.YtigchloekolaoaaW.PrintWords Go.Proofs.YtigchloekolaoaaW.PrintLast Go.Proofs.YtigchloekolaoaaW.PrintMore

/-- Do events have all bytes from one to another? -/
def coversB : List S46 → Int → Int → Bool
  | [], a, zz => a == zz
  | e :: l, a, zz => if e.f1 = a then (if e.f2 ≤ a then false else coversB l e.f2 zz) else false

theorem covers_loop (l : List S46) (zz : Int) (hl : l.length ≤ 1000) : ∀ (d i : Nat) (a : Int), i + d = l.length →
    Ev (fun k => event_Covers.l0 k zz a l (l.length : Int) (i : Int)) (coversB (l.drop i) a zz) := by
  intro d
  induction d with
  | zero =>
    intro i a hi
    rw [List.drop_eq_nil_of_le (by omega)]
    refine Ev.step (f := fun _ => some (a == zz)) (fun k => ?_) (Ev.now _)
    simp only [event_Covers.l0]
    rw [if_neg (by omega)]
  | succ d ih =>
    intro i a hi
    have hlt : i < l.length := by omega
    have hrd : rd_T46 l (i : Int) = l.getD i z46 := by unfold rd_T46; rw [Int.toNat_natCast]
    rw [drop_step l i z46 hlt]
    unfold coversB
    by_cases h1 : (l.getD i z46).f1 = a
    · by_cases h2 : (l.getD i z46).f2 ≤ a
      · rw [if_pos h1, if_pos h2]
        refine Ev.step (f := fun _ => some false) (fun k => ?_) (Ev.now _)
        simp only [event_Covers.l0]
        rw [if_pos (by omega), if_pos (by omega), if_pos (by omega), hrd, if_pos h1, if_pos h2]
      · rw [if_pos h1, if_neg h2]
        refine Ev.step (fun k => ?_) (ih (i + 1) (l.getD i z46).f2 (by omega))
        simp only [event_Covers.l0]
        rw [if_pos (by omega), if_pos (by omega), if_pos (by omega), hrd, if_pos h1, if_neg h2, w_succ (by omega) (by omega)]
        rfl
    · rw [if_neg h1]
      refine Ev.step (f := fun _ => some false) (fun k => ?_) (Ev.now _)
      simp only [event_Covers.l0]
      rw [if_pos (by omega), if_pos (by omega), if_pos (by omega), hrd, if_neg h1]

theorem covers_ev (l : List S46) (zz : Int) (hl : l.length ≤ 1000) : Ev (fun k => event_Covers.f k l zz) (coversB l 0 zz) :=
  covers_loop l zz hl l.length 0 0 (by omega)

/-- Events that follow one another. -/
def Chain : List S46 → Int → Int → Prop
  | [], a, b => a = b
  | e :: l, a, b => e.f1 = a ∧ a < e.f2 ∧ Chain l e.f2 b

theorem chain_covers : ∀ (l : List S46) (a b zz : Int), Chain l a b → coversB l a zz = (b == zz)
  | [], a, b, zz, h => by cases h; rfl
  | e :: l, a, b, zz, h => by
    unfold coversB
    rw [if_pos h.1, if_neg (by have := h.2.1; omega)]
    exact chain_covers l e.f2 b zz h.2.2

theorem chain_snoc : ∀ (l : List S46) (a b : Int) (e : S46), Chain l a b → e.f1 = b → b < e.f2 → Chain (l ++ [e]) a e.f2
  | [], a, b, e, h, h1, h2 => by cases h; exact ⟨h1, h2, rfl⟩
  | x :: l, a, b, e, h, h1, h2 => ⟨h.1, h.2.1, chain_snoc l x.f2 b e h.2.2 h1 h2⟩

theorem chain_le : ∀ (l : List S46) (a b : Int), Chain l a b → a ≤ b
  | [], a, b, h => by cases h; exact Int.le_refl _
  | e :: l, a, b, h => by have := chain_le l e.f2 b h.2.2; have := h.2.1; omega

theorem chain_less : ∀ (l : List S46) (a b : Int) (i : Nat), Chain l a b → i < l.length → coversB (l.take i ++ l.drop (i + 1)) a b = false
  | [], _, _, _, _, hi => by simp at hi
  | e :: l, a, b, 0, h, _ => by
    show coversB l a b = false
    cases l with
    | nil =>
      have h1 : e.f2 = b := h.2.2
      have h2 := h.2.1
      show (a == b) = false
      exact beq_eq_false_iff_ne.mpr (by omega)
    | cons x t =>
      unfold coversB
      have h1 := h.2.2.1
      have h2 := h.2.1
      rw [if_neg (by omega)]
  | e :: l, a, b, i + 1, h, hi => by
    show coversB (e :: (l.take i ++ l.drop (i + 1))) a b = false
    unfold coversB
    rw [if_pos h.1, if_neg (by have := h.2.1; omega)]
    exact chain_less l e.f2 b i h.2.2 (by simpa using hi)

/-- What the loop keeps: the events follow one another up to here, and their counts are whole. -/
structure Inv (n : Nat) (l : List S46) (at' : Int) : Prop where
  len : l.length = n
  chain : Chain l 0 at'
  lo : 0 ≤ at'
  hi : at' ≤ 50 * n
  many : (cnt l zero7).1 + (cnt l zero7).2.2.2.1 + (cnt l zero7).2.2.2.2.2.1 = n
  bytes : (cnt l zero7).2.2.1 + (cnt l zero7).2.2.2.2.1 + (cnt l zero7).2.2.2.2.2.2 = at'
  p0 : 0 ≤ (cnt l zero7).1
  p2 : 0 ≤ (cnt l zero7).2.2.1
  p3 : 0 ≤ (cnt l zero7).2.2.2.1
  p4 : 0 ≤ (cnt l zero7).2.2.2.2.1
  p5 : 0 ≤ (cnt l zero7).2.2.2.2.2.1
  p6 : 0 ≤ (cnt l zero7).2.2.2.2.2.2

theorem wrap_is {x : Int} (h0 : -1000000 ≤ x) (h1 : x ≤ 1000000) : wrap64 x = x := by unfold wrap64; omega

theorem inv_step (n : Nat) (l : List S46) (a d : Int) (kind : Int) (hn : n ≤ 60) (hk : kind = 1 ∨ kind = 2 ∨ kind = 3) (hd0 : 0 ≤ d) (hd1 : d < 50) (h : Inv n l a) :
    Inv (n + 1) (l ++ [(⟨kind, a, a + d + 1, ([] : List (S36)), 0, 0⟩ : S46)]) (a + d + 1) := by
  obtain ⟨h1, h2, h3, h4, h5, h6, p0, p2, p3, p4, p5, p6⟩ := h
  have hc : cnt (l ++ [(⟨kind, a, a + d + 1, ([] : List (S36)), 0, 0⟩ : S46)]) zero7 = add7 (cnt l zero7) (one7 (⟨kind, a, a + d + 1, ([] : List (S36)), 0, 0⟩ : S46)) := by
    unfold cnt; rw [List.foldl_append]; rfl
  have hone : wrap64 (a + d + 1 - a) = d + 1 := by rw [show a + d + 1 - a = d + 1 from by omega]; exact wrap_is (by omega) (by omega)
  have hch : Chain (l ++ [(⟨kind, a, a + d + 1, ([] : List (S36)), 0, 0⟩ : S46)]) 0 (a + d + 1) := chain_snoc l 0 a _ h2 rfl (by show a < a + d + 1; omega)
  generalize cnt l zero7 = c at *
  obtain ⟨c0, c1, c2, c3, c4, c5, c6⟩ := c
  simp only at h5 h6 p0 p2 p3 p4 p5 p6
  have hlen : (l ++ [(⟨kind, a, a + d + 1, ([] : List (S36)), 0, 0⟩ : S46)]).length = n + 1 := by rw [List.length_append, h1]; rfl
  rcases hk with rfl | rfl | rfl
  · have e : add7 (c0, c1, c2, c3, c4, c5, c6) (one7 (⟨1, a, a + d + 1, ([] : List (S36)), 0, 0⟩ : S46)) = (c0 + 1, wrap64 (c1 + 0), c2 + (d + 1), c3, c4, c5, c6) := by
      unfold add7 one7
      simp only [if_true, hone, List.length_nil, Int.natCast_zero, Int.add_zero]
      rw [wrap_is (x := c0 + 1) (by omega) (by omega), wrap_is (x := c2 + (d + 1)) (by omega) (by omega), wrap_is (x := c3) (by omega) (by omega), wrap_is (x := c4) (by omega) (by omega), wrap_is (x := c5) (by omega) (by omega), wrap_is (x := c6) (by omega) (by omega)]
    rw [e] at hc
    exact ⟨hlen, hch, by omega, by omega, by rw [hc]; simp only; omega, by rw [hc]; simp only; omega, by rw [hc]; simp only; omega, by rw [hc]; simp only; omega, by rw [hc]; simp only; omega, by rw [hc]; simp only; omega, by rw [hc]; simp only; omega, by rw [hc]; simp only; omega⟩
  · have e : add7 (c0, c1, c2, c3, c4, c5, c6) (one7 (⟨2, a, a + d + 1, ([] : List (S36)), 0, 0⟩ : S46)) = (c0, wrap64 c1, c2, c3 + 1, c4 + (d + 1), c5, c6) := by
      unfold add7 one7
      simp only [if_true, show ¬ (2 : Int) = 1 from by decide, if_false, hone, Int.add_zero]
      rw [wrap_is (x := c0) (by omega) (by omega), wrap_is (x := c2) (by omega) (by omega), wrap_is (x := c3 + 1) (by omega) (by omega), wrap_is (x := c4 + (d + 1)) (by omega) (by omega), wrap_is (x := c5) (by omega) (by omega), wrap_is (x := c6) (by omega) (by omega)]
    rw [e] at hc
    exact ⟨hlen, hch, by omega, by omega, by rw [hc]; simp only; omega, by rw [hc]; simp only; omega, by rw [hc]; simp only; omega, by rw [hc]; simp only; omega, by rw [hc]; simp only; omega, by rw [hc]; simp only; omega, by rw [hc]; simp only; omega, by rw [hc]; simp only; omega⟩
  · have e : add7 (c0, c1, c2, c3, c4, c5, c6) (one7 (⟨3, a, a + d + 1, ([] : List (S36)), 0, 0⟩ : S46)) = (c0, wrap64 c1, c2, c3, c4, c5 + 1, c6 + (d + 1)) := by
      unfold add7 one7
      simp only [if_true, show ¬ (3 : Int) = 1 from by decide, show ¬ (3 : Int) = 2 from by decide, if_false, hone, Int.add_zero]
      rw [wrap_is (x := c0) (by omega) (by omega), wrap_is (x := c2) (by omega) (by omega), wrap_is (x := c3) (by omega) (by omega), wrap_is (x := c4) (by omega) (by omega), wrap_is (x := c5 + 1) (by omega) (by omega), wrap_is (x := c6 + (d + 1)) (by omega) (by omega)]
    rw [e] at hc
    exact ⟨hlen, hch, by omega, by omega, by rw [hc]; simp only; omega, by rw [hc]; simp only; omega, by rw [hc]; simp only; omega, by rw [hc]; simp only; omega, by rw [hc]; simp only; omega, by rw [hc]; simp only; omega, by rw [hc]; simp only; omega, by rw [hc]; simp only; omega⟩

theorem inv_start : Inv 0 [] 0 := ⟨rfl, rfl, by decide, by decide, by decide, by decide, by decide, by decide, by decide, by decide, by decide, by decide⟩

theorem equal_less (l : List S46) (i : Nat) (h : i < l.length) : event_Equal.f (l.take i ++ l.drop (i + 1)) l = some false := by
  unfold event_Equal.f
  rw [if_neg]
  rw [List.length_append, List.length_take, List.length_drop]
  omega

theorem less_is (k : Nat) (l : List S46) (i : Nat) (a : Int) (hi : i < l.length) (hl : l.length ≤ 60) :
    forebaylaw21_EventCovers.j3 (k + 1) (i : Int) l a false = (event_Covers.f k (l.take i ++ l.drop (i + 1)) a).bind fun t => if t = true then some false else (event_Equal.f (l.take i ++ l.drop (i + 1)) l).bind fun t191 => if t191 = true then some false else (forebaylaw21_awake.f k).bind fun t192 => some t192 := by
  have e1 : (wrap64 ((i : Int) + 1)).toNat = i + 1 := by rw [w_succ (by omega) (by omega)]; omega
  have e2 : ((i : Int)).toNat = i := Int.toNat_natCast i
  have c1 : 0 ≤ wrap64 ((i : Int) + 1) := by rw [w_succ (by omega) (by omega)]; omega
  have c2 : wrap64 ((i : Int) + 1) ≤ (l.length : Int) := by rw [w_succ (by omega) (by omega)]; omega
  have c3 : ([] : List S46).length + (l.take i).length < 2199023255552 := by rw [List.length_take, List.length_nil]; omega
  have c4 : (([] : List S46) ++ l.take i).length + (l.drop (i + 1)).length < 2199023255552 := by rw [List.length_append, List.length_take, List.length_nil, List.length_drop]; omega
  rw [forebaylaw21_EventCovers.j3, if_neg (by simp), Option.bind_some, if_pos (by omega), if_pos (by omega), e2, Option.bind_some, if_pos c3, Option.bind_some, if_pos c1, if_pos c2, e1, Option.bind_some, if_pos c4, Option.bind_some, List.nil_append]

theorem end_ev (n : Nat) (l : List S46) (a x2 : Int) (hn : n ≤ 60) (h : Inv n l a) (w2 : (Lit.int .i64 x2).wf = true) : Ev (fun k => forebaylaw21_EventCovers.j2 k x2 l a false) true := by
  have h3t : Ev (fun k => forebaylaw21_EventCovers.j3 k x2 l a true) true := by
    refine Ev.step (fun k => ?_) (Ev.bind awake_ev (Ev.now _))
    simp only [forebaylaw21_EventCovers.j3, if_true]
  by_cases h0 : x2 < 0
  · refine Ev.step (fun k => ?_) h3t
    simp only [forebaylaw21_EventCovers.j2]
    rw [if_neg (by simp), if_pos h0]
  · by_cases h1 : x2 ≥ (l.length : Int)
    · refine Ev.step (fun k => ?_) h3t
      simp only [forebaylaw21_EventCovers.j2]
      rw [if_neg (by simp), if_neg h0, decide_eq_true h1]
    · have hl := h.len
      obtain ⟨i, rfl⟩ := Int.eq_ofNat_of_zero_le (show 0 ≤ x2 by omega)
      have hi : i < l.length := by omega
      refine Ev.step (f := fun k => forebaylaw21_EventCovers.j3 k (i : Int) l a false) (fun k => ?_) ?_
      · simp only [forebaylaw21_EventCovers.j2]
        rw [if_neg (by simp), if_neg h0, decide_eq_false h1]
      · have hcov : coversB (l.take i ++ l.drop (i + 1)) 0 a = false := chain_less l 0 a i h.chain hi
        have hless : (l.take i ++ l.drop (i + 1)).length ≤ 1000 := by rw [List.length_append, List.length_take, List.length_drop]; omega
        refine Ev.step (fun k => less_is k l i a hi (by omega)) (Ev.bind (covers_ev (l.take i ++ l.drop (i + 1)) a hless) (f := fun k t => if t = true then some false else (event_Equal.f (l.take i ++ l.drop (i + 1)) l).bind fun t191 => if t191 = true then some false else (forebaylaw21_awake.f k).bind fun t192 => some t192) ?_)
        · rw [hcov]
          simp only [Bool.false_eq_true, if_false]
          rw [equal_less l i hi]
          simp only [Option.bind_some, Bool.false_eq_true, if_false]
          exact Ev.bind awake_ev (Ev.now _)

theorem done_ev (n : Nat) (x0 x1 : List Int) (l : List S46) (a x2 : Int) (hx : x0.length = n) (hn : n ≤ 60) (h : Inv n l a) (w2 : (Lit.int .i64 x2).wf = true) : Ev (fun k => forebaylaw21_EventCovers.l0 k x0 x1 x2 l a (n : Int)) true := by
  have hl := h.len
  have hlo := h.lo
  have hhi := h.hi
  refine Ev.step (fun k => ?_) (Ev.bind (count_ev l (by omega)) (f := fun k bt159 => (event_Covers.f k l a).bind fun t167 => (if t167 = true then ((event_Covers.f k l (wrap64 (a + 1))).bind fun t168 => (if t168 = true then (forebaylaw21_EventCovers.j2 k x2 l a true) else ((event_Covers.f k l (wrap64 (a - 1))).bind fun t169 => (if t169 = true then (forebaylaw21_EventCovers.j2 k x2 l a true) else (if (wrap64 ((wrap64 (bt159.2.2.1 + bt159.2.2.2.2.1)) + bt159.2.2.2.2.2.2)) = a then (forebaylaw21_EventCovers.j2 k x2 l a ((wrap64 ((wrap64 (bt159.1 + bt159.2.2.2.1)) + bt159.2.2.2.2.2.1)) != (l.length : Int))) else (forebaylaw21_EventCovers.j2 k x2 l a true)))))) else (forebaylaw21_EventCovers.j2 k x2 l a true))) ?_)
  · simp only [forebaylaw21_EventCovers.l0]
    rw [if_neg (by omega)]
  · refine Ev.bind (covers_ev l a (by omega)) ?_
    rw [chain_covers l 0 a a h.chain]
    simp only [beq_self_eq_true, if_true]
    refine Ev.bind (covers_ev l _ (by omega)) ?_
    rw [chain_covers l 0 a _ h.chain, wrap_is (x := a + 1) (by omega) (by omega)]
    have e1 : (a == a + 1) = false := beq_eq_false_iff_ne.mpr (by omega)
    simp only [e1, Bool.false_eq_true, if_false]
    refine Ev.bind (covers_ev l _ (by omega)) ?_
    rw [chain_covers l 0 a _ h.chain, wrap_is (x := a - 1) (by omega) (by omega)]
    have e2 : (a == a - 1) = false := beq_eq_false_iff_ne.mpr (by omega)
    simp only [e2, Bool.false_eq_true, if_false]
    have b1 := h.many
    have b2 := h.bytes
    have q0 := h.p0
    have q2 := h.p2
    have q3 := h.p3
    have q4 := h.p4
    have q5 := h.p5
    have q6 := h.p6
    rw [wrap_is (x := (cnt l zero7).2.2.1 + (cnt l zero7).2.2.2.2.1) (by omega) (by omega), wrap_is (x := (cnt l zero7).2.2.1 + (cnt l zero7).2.2.2.2.1 + (cnt l zero7).2.2.2.2.2.2) (by omega) (by omega),
      wrap_is (x := (cnt l zero7).1 + (cnt l zero7).2.2.2.1) (by omega) (by omega), wrap_is (x := (cnt l zero7).1 + (cnt l zero7).2.2.2.1 + (cnt l zero7).2.2.2.2.2.1) (by omega) (by omega)]
    simp only [b2, b1, hl, if_true, bne_self_eq_false]
    exact end_ev n l a x2 hn h w2

theorem modq (z m : Int) (h0 : 0 < m) (h1 : m < 100000) : ∃ q : Nat, Int.tmod (wrap64 (Int.tmod z m + m)) m = (q : Int) ∧ (q : Int) < m := by
  have h2 : z.tmod m < m := Int.tmod_lt_of_pos z h0
  have h3 : -m < z.tmod m := by
    have := Int.tmod_lt_of_pos (-z) h0
    rw [Int.neg_tmod] at this
    omega
  have hw : wrap64 (z.tmod m + m) = z.tmod m + m := by unfold wrap64; omega
  rw [hw, Int.tmod_eq_emod_of_nonneg (by omega)]
  have h4 := Int.emod_nonneg (z.tmod m + m) (show m ≠ 0 by omega)
  have h5 := Int.emod_lt_of_pos (z.tmod m + m) h0
  exact ⟨((z.tmod m + m) % m).toNat, by omega, by omega⟩

theorem kind_is (q : Nat) (h : (q : Int) < 3) : rd ([1, 2, 3] : List Int) (q : Int) = 1 ∨ rd ([1, 2, 3] : List Int) (q : Int) = 2 ∨ rd ([1, 2, 3] : List Int) (q : Int) = 3 := by
  have : q = 0 ∨ q = 1 ∨ q = 2 := by omega
  rcases this with rfl | rfl | rfl
  · exact .inl rfl
  · exact .inr (.inl rfl)
  · exact .inr (.inr rfl)

theorem loop_ev (x0 x1 : List Int) (x2 : Int) (hx : x0.length ≤ 60) (w2 : (Lit.int .i64 x2).wf = true) : ∀ (d i : Nat) (l : List S46) (a : Int), i + d = x0.length → Inv i l a →
    Ev (fun k => forebaylaw21_EventCovers.l0 k x0 x1 x2 l a (i : Int)) true := by
  intro d
  induction d with
  | zero =>
    intro i l a hi h
    exact done_ev i x0 x1 l a x2 (by omega) (by omega) h w2
  | succ d ih =>
    intro i l a hi h
    have hl := h.len
    have hlo := h.lo
    have hhi := h.hi
    obtain ⟨q, hq, hq1⟩ := modq (rd x0 (i : Int)) 50 (by decide) (by decide)
    have e1 : wrap64 (a + (q : Int)) = a + q := wrap_is (by omega) (by omega)
    have e2 : wrap64 (a + (q : Int) + 1) = a + q + 1 := wrap_is (by omega) (by omega)
    by_cases h1 : (x1.length : Int) > 0
    · obtain ⟨q3, hq3, hq31⟩ := modq (rd x1 (Int.tmod (i : Int) (x1.length : Int))) 3 (by decide) (by decide)
      refine Ev.step (fun k => ?_) (ih (i + 1) _ _ (by omega) (inv_step i l a q (rd ([1, 2, 3] : List Int) (q3 : Int)) (by omega) (kind_is q3 hq31) (by omega) hq1 h))
      have t0 : 0 ≤ Int.tmod (i : Int) (x1.length : Int) := Int.tmod_nonneg _ (by omega)
      have t1 : Int.tmod (i : Int) (x1.length : Int) < (x1.length : Int) := Int.tmod_lt_of_pos _ h1
      simp only [forebaylaw21_EventCovers.l0, Option.bind_some]
      rw [if_pos (by omega), if_pos h1, if_neg (by omega), if_pos t0, if_pos t1, hq3, if_pos (by omega), if_pos (show (q3 : Int) < (([1, 2, 3] : List Int).length : Int) from hq31), if_pos (by omega), if_pos (by omega), hq, e1, e2, w_succ (by omega) (by omega)]
      rfl
    · refine Ev.step (fun k => ?_) (ih (i + 1) _ _ (by omega) (inv_step i l a q 1 (by omega) (.inl rfl) (by omega) hq1 h))
      simp only [forebaylaw21_EventCovers.l0]
      rw [if_pos (by omega), if_neg h1, if_pos (by omega), if_pos (by omega), hq, e1, e2, w_succ (by omega) (by omega)]
      rfl

end Go.Proofs.Ytigchloekolaoaa.PEventCovers
namespace Go.Proofs.Ytigchloekolaoaa.Pure
open Go.RowKit Go.Proofs.Ytigchloekolaoaa.PEventCovers Go.Proofs.YtigchloekolaoaaW.PrintWords Go.Proofs.YtigchloekolaoaaW.PrintLast

theorem EventCovers : forebaylaw21_EventCovers.Pure := by
  intro l0 l1 a2 _ _ _ _ _ _ w2
  refine Ev.rounds ?_
  have big : Ev (fun k => forebaylaw21_EventCovers.j0 k l0 l1 a2 true) true := by
    refine Ev.step (fun k => ?_) (Ev.bind awake_ev (Ev.now _))
    simp only [forebaylaw21_EventCovers.j0, if_true]
  unfold forebaylaw21_EventCovers.f
  by_cases h0 : (l0.length : Int) > 60
  · simp only [if_pos h0]
    exact big
  · simp only [if_neg h0]
    by_cases h1 : (l1.length : Int) > 60
    · simp only [decide_eq_true h1]
      exact big
    · simp only [decide_eq_false h1]
      refine Ev.step (fun k => ?_) (loop_ev l0 l1 a2 (by omega) w2 l0.length 0 [] 0 (by omega) inv_start)
      simp only [forebaylaw21_EventCovers.j0]
      rw [if_neg (by simp)]
      rfl
end Go.Proofs.Ytigchloekolaoaa.Pure
