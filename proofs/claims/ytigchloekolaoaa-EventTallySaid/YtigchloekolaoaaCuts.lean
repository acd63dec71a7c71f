/-
  A slice of structs cut: where the part lies, and what it reads as.
-/
import Derived.Test.YtigchloekolaoaaWMore
import Derived.Test.YtigchloekolaoaaPEventTallyx0
namespace Go.Proofs.Ytigchloekolaoaa
open Go.RowKit Go.Proofs.YtigchloekolaoaaW.PrintWords Go.Proofs.YtigchloekolaoaaW.PrintLast Go.Proofs.YtigchloekolaoaaW.PrintMore

theorem add_add (ad : Addr) (i j : Nat) : (ad.add i).add j = ad.add (i + j) := by
  unfold Addr.add
  by_cases h1 : i = 0 <;> by_cases h2 : j = 0 <;> simp [h1, h2, Nat.add_assoc]

theorem row_cut {α : Type} {R : α → List Value → Prop} {size : Nat} {w : World} {A : Option Addr} {n cap : Nat} {ps : List α} (h : ReadsRow R size w A n ps) (p m : Nat) (hp : p + m ≤ n) (hc : n ≤ cap) :
    ReadsRow R size w (if cap = p then A else A.map (·.add (p * size))) m ((ps.drop p).take m) := by
  refine ⟨by rw [List.length_take, List.length_drop, h.1]; omega, by have := h.2.1; omega, fun hm => ?_⟩
  obtain ⟨ad, rfl, hcell⟩ := h.2.2 (by omega)
  rw [if_neg (by omega)]
  refine ⟨ad.add (p * size), rfl, fun j q hq => ?_⟩
  have hj : j < m := by
    have := (List.getElem?_eq_some_iff.1 hq).1
    rw [List.length_take] at this
    omega
  rw [List.getElem?_take, if_pos hj, List.getElem?_drop] at hq
  obtain ⟨c, hs, hr, hcc⟩ := hcell (p + j) q hq
  refine ⟨c, hs, hr, fun i u hu => ?_⟩
  rw [add_add, show p * size + (j * size + i) = (p + j) * size + i from by rw [Nat.add_mul]; omega]
  exact hcc i u hu

theorem cut_mid {P : Program} {α : Type} (d : Kd α) (t e : TypeId) (ht : P.underlying t = some (.slice e)) (hinfo : (P.info? e).map (·.size) = some d.sz) (A : Option Addr) (n cap p m : Nat) (hp : p + m ≤ n) (hc : n ≤ cap) :
    ∃ A', (∀ W : World, (Instr.slice t (.slice A n cap) (some (.int .i64 (p : Int))) (some (.int .i64 ((p : Int) + (m : Int)))) none).run P W = .ok (.slice A' m (cap - p)) W) ∧
      ∀ (w : World) (xs : List α), d.C w A n xs → d.C w A' m ((xs.drop p).take m) := by
  obtain ⟨i, hi, hsz⟩ := Option.map_eq_some_iff.1 hinfo
  have hel : P.elem t = e := by simp [Program.elem, ht]
  have hu : P.underlying t = some (.slice (P.elem t)) := by rw [hel]; exact ht
  have e1 : ((p : Int) + (m : Int)).toNat = p + m := by omega
  refine ⟨(if cap = p then A else Option.map (fun x : Addr => Addr.add x (p * d.sz)) A), fun W => ?_, fun w xs h => row_cut h p m hp hc⟩
  rw [run_slice_lh W t A n cap hu .i64 .i64 (p : Int) ((p : Int) + (m : Int)) (by omega) (by omega) (by omega), hel]
  simp [sizeOf, typeInfo, hi, hsz, sliced, Result.andThen, e1]

theorem cut_low {P : Program} {α : Type} (d : Kd α) (t e : TypeId) (ht : P.underlying t = some (.slice e)) (hinfo : (P.info? e).map (·.size) = some d.sz) (A : Option Addr) (n cap m : Nat) (hp : m ≤ n) (hc : n ≤ cap) :
    ∃ A', (∀ W : World, (Instr.slice t (.slice A n cap) none (some (.int .i64 (m : Int))) none).run P W = .ok (.slice A' m cap) W) ∧
      ∀ (w : World) (xs : List α), d.C w A n xs → d.C w A' m (xs.take m) := by
  obtain ⟨i, hi, hsz⟩ := Option.map_eq_some_iff.1 hinfo
  have hel : P.elem t = e := by simp [Program.elem, ht]
  have hu : P.underlying t = some (.slice (P.elem t)) := by rw [hel]; exact ht
  refine ⟨(if cap = 0 then A else Option.map (fun x : Addr => Addr.add x (0 * d.sz)) A), fun W => ?_, fun w xs h => by
    have := row_cut h 0 m (by omega) hc
    rw [List.drop_zero] at this
    exact this⟩
  rw [run_slice_h W t A n cap hu .i64 (m : Int) (by omega) (by omega), hel]
  simp [sizeOf, typeInfo, hi, hsz, sliced, Result.andThen]

theorem cutInfo46 : (Try.prog.info? 46).map (·.size) = some PEventTally.k46.sz := by kernel_rfl

theorem modq (z m : Int) (h0 : 0 < m) (h1 : m < 100000) : ∃ q : Nat, (wrap64 (z.tmod m + m)).tmod m = (q : Int) ∧ (q : Int) < m := by
  have h2 : z.tmod m < m := Int.tmod_lt_of_pos z h0
  have h3 : -m < z.tmod m := by
    have := Int.tmod_lt_of_pos (-z) h0
    rw [Int.neg_tmod] at this
    omega
  have hw : wrap64 (z.tmod m + m) = z.tmod m + m := by unfold wrap64; omega
  rw [hw, Int.tmod_eq_emod_of_nonneg (by omega)]
  have h4 := Int.emod_nonneg (z.tmod m + m) (show m ≠ 0 by omega)
  have h5 := Int.emod_lt_of_pos (z.tmod m + m) h0
  exact ⟨((z.tmod m + m) % m).toNat, by omega, by omega⟩
end Go.Proofs.Ytigchloekolaoaa
