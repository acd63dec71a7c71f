/-
  What an argument's reading as data gives of its cells: whole numbers, bools, strings, slices, structs of one-cell fields, in the printed words' kinds.
-/
import Derived.Test.YtigchloekolaoaaWWords
import Derived.ProofKit
import Derived.Deep.Slices
import Derived.Deep.Fields
import Derived.ChangeSame
namespace Go.Proofs.Ytigchloekolaoaa
open Go.RowKit Go.Proofs.YtigchloekolaoaaW.PrintWords
open Go.ChangeShapes Go.WideShapes Go.Deep

/-- Whatever reads as data at type t is of the kind d. -/
def Opens {α : Type} (P : Program) (d : Kd α) (t : TypeId) : Prop :=
  ∀ (H : Type) (enc : TypeId × Value → H) (w : World) (base : Nat) (spare : Nat → Bool) (held : Bool) (fuel : Nat) (cs : List Value) (x : DataW H × List MemPlace),
    DataW.trod enc P w base spare held fuel t cs = some x → ∃ a : α, d.K w a cs

/-- The same of a struct's one-cell fields. -/
def OpensF {α : Type} (P : Program) (d : Kd α) (fs : List TypeId) : Prop :=
  ∀ (H : Type) (enc : TypeId × Value → H) (w : World) (base : Nat) (spare : Nat → Bool) (held : Bool) (fuel : Nat) (cs : List Value), cs.length = fs.length →
    (∀ (j : Nat) (t : TypeId) (v : Value), fs[j]? = some t → cs[j]? = some v → ∃ x : DataW H × List MemPlace, DataW.trod enc P w base spare held fuel t [v] = some x) → ∃ a : α, d.K w a cs

theorem opens_int {P : Program} {k : IntKind} {t : TypeId} (ht : P.underlying t = some (.int k)) : Opens P (Kd.int k) t := by
  intro H enc w base spare held fuel cs x h
  obtain ⟨n, rfl, _, _⟩ := DataW.trod_int ht h
  exact ⟨n, rfl⟩

theorem opens_bool {P : Program} {t : TypeId} (ht : P.underlying t = some .bool) : Opens P Kd.bool t := by
  intro H enc w base spare held fuel cs x h
  obtain ⟨n, rfl, _⟩ := DataW.trod_bool ht h
  exact ⟨n, rfl⟩

theorem opens_string {P : Program} {t : TypeId} (ht : P.underlying t = some .string) : Opens P Kd.string t := by
  intro H enc w base spare held fuel cs x h
  obtain ⟨n, rfl, _⟩ := DataW.trod_string ht h
  exact ⟨n, rfl⟩

theorem exists_list {α : Type} {Q : Nat → α → Prop} : ∀ n : Nat, (∀ i, i < n → ∃ a, Q i a) → ∃ xs : List α, xs.length = n ∧ ∀ j p, xs[j]? = some p → Q j p
  | 0, _ => ⟨[], rfl, by intro j p h; simp at h⟩
  | n + 1, h => by
    obtain ⟨xs, hl, hq⟩ := exists_list n (fun i hi => h i (by omega))
    obtain ⟨a, ha⟩ := h n (by omega)
    refine ⟨xs ++ [a], by simp [hl], fun j p hj => ?_⟩
    by_cases e : j < n
    · rw [List.getElem?_append_left (by omega)] at hj
      exact hq j p hj
    · rw [List.getElem?_append_right (by omega)] at hj
      by_cases e2 : j = n
      · subst e2
        rw [hl, Nat.sub_self] at hj
        have : a = p := by simpa using hj
        exact this ▸ ha
      · rw [List.getElem?_eq_none (by simp; omega)] at hj
        cases hj

theorem opens_slice {α : Type} {P : Program} {d : Kd α} {e t : TypeId} (ht : P.underlying t = some (.slice e)) (hsz : d.sz = P.cellsOf e) (hd : Opens P d e) : Opens P (Kd.slice e d) t := by
  intro H enc w base spare held fuel cs x h
  rcases open_slice ht h with ⟨rfl, _⟩ | ⟨a, len, cap, m, n, D, Pl, rfl, hb, hl, hm, hmm, _, hi⟩
  · exact ⟨[], none, 0, rfl, Nat.le_refl _, Kd.C_nil d w⟩
  · have hlm : len ≤ m := by rw [hmm]; split <;> omega
    obtain ⟨xs, hxl, hq⟩ := exists_list (Q := fun i (p : α) => ∃ cs', w.cells? base (a.add (i * P.cellsOf e)) (P.cellsOf e) = some cs' ∧ d.K w p cs') len (fun i hil => by
      obtain ⟨cs', hc, ht'⟩ := hi i (by omega)
      obtain ⟨p, hp⟩ := hd H enc w base spare held n cs' _ ht'
      exact ⟨p, cs', hc, hp⟩)
    refine ⟨xs, some a, cap, by rw [hxl], by rw [hxl]; exact hl, rfl, ?_, fun _ => ⟨a, rfl, fun j p hj => ?_⟩⟩
    · unfold maxLen at hm; omega
    · obtain ⟨cs', hc, hp⟩ := hq j p hj
      obtain ⟨_, hcl, hat⟩ := World.cells?_some hc
      refine ⟨cs', by rw [hcl, hsz], hp, fun i u hu => ?_⟩
      have hil : i < P.cellsOf e := by
        rcases Nat.lt_or_ge i cs'.length with h | h
        · omega
        · rw [List.getElem?_eq_none h] at hu; cases hu
      rw [hsz, ← Go.Deep.add_add, hat i hil, hu]

theorem opensF_one {α : Type} {P : Program} {d : Kd α} {t : TypeId} (h : Opens P d t) : OpensF P d [t] := by
  intro H enc w base spare held fuel cs hl hf
  match cs, hl with
  | [v], _ =>
    obtain ⟨x, hx⟩ := hf 0 t v rfl rfl
    exact h H enc w base spare held fuel [v] x hx

theorem opensF_cons {α β : Type} {P : Program} {d : Kd α} {d' : Kd β} {t : TypeId} {fs : List TypeId} (h : Opens P d t) (h' : OpensF P d' fs) : OpensF P (Kd.pair d d') (t :: fs) := by
  intro H enc w base spare held fuel cs hl hf
  match cs, hl with
  | v :: cs, hl =>
    obtain ⟨x, hx⟩ := hf 0 t v rfl rfl
    obtain ⟨a, ha⟩ := h H enc w base spare held fuel [v] x hx
    obtain ⟨b, hb⟩ := h' H enc w base spare held fuel cs (by simpa using hl) (fun j t v hj hv => hf (j + 1) t v (by simpa using hj) (by simpa using hv))
    exact ⟨(a, b), [v], cs, rfl, ha, hb⟩

theorem opens_struct {α β : Type} {P : Program} {d : Kd α} {f : β → α} {t : TypeId} {fs : Array Field} (ht : P.underlying t = some (.struct fs)) (hone : oneCellFields P fs = true) (hC : P.cellsOf t = fs.size)
    (hsur : ∀ a, ∃ b, f b = a) (h : OpensF P d (fs.toList.map (·.type))) : Opens P (Kd.iso d f) t := by
  intro H enc w base spare held fuel cs x hx
  obtain ⟨ys, n, _, _, hlen, hyl, hf⟩ := DataW.trod_struct ht hx
  have hcl : cs.length = fs.size := by rw [hlen, hC]
  obtain ⟨a, ha⟩ := h H enc w base spare held n cs (by simp [hcl]) (fun j ty v hj hv => by
    rw [List.getElem?_map, Array.getElem?_toList] at hj
    obtain ⟨fd, hfd, rfl⟩ := Option.map_eq_some_iff.1 hj
    obtain ⟨ho, hk⟩ := hone_of hone j fd hfd
    have hjl : j < fs.size := (Array.getElem?_eq_some_iff.1 hfd).1
    have h1 := hf j fd hfd
    rw [ho, hk] at h1
    have hone' : (cs.drop j).take 1 = [v] := by
      rw [List.drop_eq_getElem_cons (by omega)]
      have : cs[j]'(by omega) = v := by
        have := List.getElem?_eq_getElem (l := cs) (i := j) (by omega)
        rw [hv] at this
        exact (Option.some.inj this).symm
      rw [this]; rfl
    rw [hone'] at h1
    have hys : ys[j]? = some (ys[j]'(by omega)) := List.getElem?_eq_getElem (by omega)
    exact ⟨_, h1.trans hys⟩)
  obtain ⟨b, rfl⟩ := hsur a
  exact ⟨b, ha⟩
end Go.Proofs.Ytigchloekolaoaa
