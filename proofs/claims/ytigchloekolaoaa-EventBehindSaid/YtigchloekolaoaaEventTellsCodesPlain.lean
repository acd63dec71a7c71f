/-
  Which errors rejects had, and how many: in plain words; and the map that counts them.
-/
import Derived.Test.YtigchloekolaoaaPEventTellsx0
import Derived.Test.YtigchloekolaoaaLays
import Derived.Lib.Hide
import Derived.Lib.SlKeysI
import Derived.Maps.OwnOps
import Derived.Maps.OwnSet
namespace Go.Proofs.Ytigchloekolaoaa.PEventTells
open Go.RowKit Go.Maps Go.Proofs.YtigchloekolaoaaW.PrintWords

/-- A number of 64 bits. -/
def W64 (c : Int) : Prop := (Lit.int .i64 c).wf = true

/-- How many rejects of an error there are. -/
def cntC (l : List S46) (c : Int) : Nat := l.countP fun e => decide (e.f0 = 2 ∧ e.f4 = c)

/-- A number put into a row of rising numbers. -/
def ins (c : Int) : List Int → List Int
  | [] => [c]
  | x :: xs => if c < x then c :: x :: xs else if c = x then x :: xs else x :: ins c xs

/-- The errors of rejects, each once, rising. -/
def codesOf (l : List S46) : List Int := l.foldl (fun cs e => if e.f0 = 2 then ins e.f4 cs else cs) []

theorem mem_ins (c y : Int) : ∀ cs : List Int, y ∈ ins c cs ↔ y = c ∨ y ∈ cs
  | [] => by simp [ins]
  | x :: xs => by
    unfold ins
    split
    · simp
    · split
      · rename_i h
        subst h
        simp
      · rw [List.mem_cons, mem_ins c y xs, List.mem_cons]
        constructor
        · rintro (h | h | h)
          · exact .inr (.inl h)
          · exact .inl h
          · exact .inr (.inr h)
        · rintro (h | h | h)
          · exact .inr (.inl h)
          · exact .inl h
          · exact .inr (.inr h)

theorem rise_ins (c : Int) : ∀ cs : List Int, cs.Pairwise (· < ·) → (ins c cs).Pairwise (· < ·)
  | [], _ => by simp [ins]
  | x :: xs, h => by
    obtain ⟨h1, h2⟩ := List.pairwise_cons.1 h
    unfold ins
    split
    · rename_i hc
      refine List.pairwise_cons.2 ⟨fun y hy => ?_, h⟩
      rcases List.mem_cons.1 hy with rfl | hy
      · exact hc
      · exact Int.lt_trans hc (h1 y hy)
    · split
      · exact h
      · refine List.pairwise_cons.2 ⟨fun y hy => ?_, rise_ins c xs h2⟩
        rcases (mem_ins c y xs).1 hy with rfl | hy
        · omega
        · exact h1 y hy

theorem ins_length (c : Int) : ∀ cs : List Int, (ins c cs).length ≤ cs.length + 1
  | [] => by simp [ins]
  | x :: xs => by
    have := ins_length c xs
    unfold ins
    split
    · simp
    · split
      · simp
      · simp only [List.length_cons]; omega

theorem codes_snoc (l : List S46) (e : S46) : codesOf (l ++ [e]) = if e.f0 = 2 then ins e.f4 (codesOf l) else codesOf l := by
  unfold codesOf
  rw [List.foldl_append]
  rfl

theorem cnt_snoc (l : List S46) (e : S46) (c : Int) : cntC (l ++ [e]) c = cntC l c + if e.f0 = 2 ∧ e.f4 = c then 1 else 0 := by
  unfold cntC
  rw [List.countP_append, List.countP_cons, List.countP_nil]
  simp

theorem cnt_le (l : List S46) (c : Int) : cntC l c ≤ l.length := List.countP_le_length

theorem take_snoc_ev (l : List S46) (k : Nat) (h : k < l.length) : l.take (k + 1) = l.take k ++ [l.getD k z46] := by
  rw [List.take_add_one, List.getElem?_eq_getElem h]
  simp [h]

/-- What codesOf is, all in all. -/
theorem codes_spec (l : List S46) : ∀ k, k ≤ l.length → (codesOf (l.take k)).Pairwise (· < ·) ∧ (∀ c, c ∈ codesOf (l.take k) ↔ 0 < cntC (l.take k) c) ∧ (codesOf (l.take k)).length ≤ k
  | 0, _ => by simp [codesOf, cntC]
  | k + 1, h => by
    obtain ⟨h1, h2, h3⟩ := codes_spec l k (by omega)
    rw [take_snoc_ev l k (by omega), codes_snoc]
    refine ⟨?_, fun c => ?_, ?_⟩
    · split
      · exact rise_ins _ _ h1
      · exact h1
    · rw [cnt_snoc]
      split
      · rename_i he
        rw [mem_ins, h2 c]
        by_cases hc : c = (l.getD k z46).f4
        · rw [if_pos ⟨he, hc.symm⟩]
          constructor
          · intro _; omega
          · intro _; exact .inl hc
        · rw [if_neg (fun h => hc h.2.symm)]
          constructor
          · rintro (h | h)
            · exact absurd h hc
            · exact h
          · exact fun h => .inr h
      · rename_i he
        rw [h2 c, if_neg (fun h => he h.1)]
        rfl
    · split
      · have := ins_length (l.getD k z46).f4 (codesOf (l.take k))
        omega
      · omega

theorem codes_all (l : List S46) : (codesOf l).Pairwise (· < ·) ∧ (∀ c, c ∈ codesOf l ↔ 0 < cntC l c) ∧ (codesOf l).length ≤ l.length := by
  have := codes_spec l l.length (Nat.le_refl _)
  rwa [List.take_length] at this

/-- Rising numbers are sorted. -/
theorem sorted_rise {cs : List Int} (h : cs.Pairwise (· < ·)) : cs.mergeSort leI = cs :=
  List.mergeSort_of_pairwise (h.imp (fun hxy => by simp only [leI, decide_eq_true_eq]; exact Int.le_of_lt hxy))

/-- The map that counts. -/
structure CntMap (D : DataW Unit) (l : List S46) : Prop where
  val : ∀ c, W64 c → D.atKey (.int .i64 c) (.lit (.int .i64 0)) = .lit (.int .i64 (cntC l c : Int))
  has : ∀ c, W64 c → Maps.has D (.int .i64 c) = decide (0 < cntC l c)

theorem key_lit (c : Int) : WideAt.IsKeyLit (.int .i64 c) := trivial

theorem cntMap_nil : CntMap (.map []) [] := ⟨fun _ _ => rfl, fun _ _ => rfl⟩

theorem cntMap_skip {D : DataW Unit} {l : List S46} {e : S46} (h : CntMap D l) (he : ¬ e.f0 = 2) : CntMap D (l ++ [e]) := by
  refine ⟨fun c hc => ?_, fun c hc => ?_⟩
  · rw [h.val c hc, cnt_snoc, if_neg (fun h => he h.1)]; rfl
  · rw [h.has c hc, cnt_snoc, if_neg (fun h => he h.1)]; rfl

theorem cntMap_put {D : DataW Unit} {l : List S46} {e : S46} (h : CntMap D l) (hD : IsMap D) (he : e.f0 = 2) {x : Int} (hx : x = (cntC l e.f4 : Int) + 1) : CntMap (D.put (.int .i64 e.f4) (.lit (.int .i64 x))) (l ++ [e]) := by
  refine ⟨fun c hc => ?_, fun c hc => ?_⟩
  · by_cases h1 : c = e.f4
    · subst h1
      rw [atKey_put_same hD (key_lit _), cnt_snoc, if_pos ⟨he, rfl⟩, hx]
      rfl
    · rw [atKey_put_other (by intro h2; cases h2; exact h1 rfl), h.val c hc, cnt_snoc, if_neg (fun h2 => h1 h2.2.symm)]; rfl
  · by_cases h1 : c = e.f4
    · subst h1
      rw [has_put_same hD (key_lit _), cnt_snoc, if_pos ⟨he, rfl⟩]
      simp
    · rw [has_put_other (by intro h2; cases h2; exact h1 rfl), h.has c hc, cnt_snoc, if_neg (fun h2 => h1 h2.2.symm)]; rfl

/-- The keys of the map, sorted. -/
theorem keys_sorted {w : World} {b n : Nat} {D : DataW Unit} {l : List S46} (hown : w.ownsMap Try.prog 44 (plainElem Try.prog 3) b n D) (h : CntMap D l) (hw : ∀ e ∈ l, W64 e.f4) {ss : List Int} (hs : ss.Perm (intKeys D)) : ss.mergeSort leI = codesOf l := by
  obtain ⟨c1, c2, _⟩ := codes_all l
  obtain ⟨es, rfl, hap⟩ := hown.tidy (int_keyed Try.underlying44)
  have hk : ∀ p ∈ es, ∃ x, p.1 = .int .i64 x ∧ W64 x := by
    obtain ⟨es', clock, _, F, _, e⟩ := hown
    intro p hp
    cases e
    have hp2 := (Go.WideShapes.sorted_perm _).mem_iff.1 hp
    obtain ⟨v, hv⟩ := Maps.fit_keys F p hp2
    obtain ⟨x, _, hx, hwx⟩ := Maps.keyOf_i64 Try.underlying44 hv
    exact ⟨x, hx, hwx⟩
  have hm : ∀ x, x ∈ codesOf l ↔ Maps.has (.map es) (.int .i64 x) = true := by
    intro x
    rw [c2 x]
    constructor
    · intro hx
      have hwx : W64 x := by
        have h3 : 0 < l.countP fun e => decide (e.f0 = 2 ∧ e.f4 = x) := hx
        obtain ⟨e, he, h4⟩ := List.countP_pos_iff.1 h3
        have h5 := of_decide_eq_true h4
        rw [← h5.2]
        exact hw e he
      rw [h.has x hwx]
      exact decide_eq_true hx
    · intro hx
      have hwx : W64 x := by
        rw [Maps.has_eq, List.any_eq_true] at hx
        obtain ⟨p, hp, hsk⟩ := hx
        obtain ⟨y, hy, hwy⟩ := hk p hp
        rw [hy] at hsk
        have : y = x := by simpa [Lit.sameKey] using hsk
        rw [← this]
        exact hwy
      rw [h.has x hwx] at hx
      exact of_decide_eq_true hx
  have hp := perm_intKeys (ss := codesOf l) hap (fun p hp => (hk p hp).imp fun _ h => h.1) (c1.imp (fun h => Int.ne_of_lt h)) hm
  rw [mergeSort_of_perm_i (hs.trans hp.symm), sorted_rise c1]
end Go.Proofs.Ytigchloekolaoaa.PEventTells
