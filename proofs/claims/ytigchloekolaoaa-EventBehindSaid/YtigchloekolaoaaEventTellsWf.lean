/-
  An argument's errors are numbers of 64 bits.
-/
import Derived.Test.YtigchloekolaoaaOpens
import Derived.Test.YtigchloekolaoaaEventTellsCodesPlain
namespace Go.Proofs.Ytigchloekolaoaa.PEventTells
open Go.RowKit Go.Proofs.YtigchloekolaoaaW.PrintWords
open Go.ChangeShapes Go.WideShapes Go.Deep

theorem cells46b : Try.prog.cellsOf 46 = 6 := by kernel_rfl
theorem cells44b : Try.prog.cellsOf 44 = 1 := by kernel_rfl

theorem codes_wf {H : Type} {enc : TypeId × Value → H} {w : World} {base : Nat} {spare : Nat → Bool} {held : Bool} {fuel n c : Nat} {A : Option Addr} {x : DataW H × List MemPlace} {l : List S46}
    (h : DataW.trod enc Try.prog w base spare held fuel 22 [.slice A n c] = some x) (hl : l.length = n) (hC : Kd.C k46 w A n l) : ∀ e ∈ l, W64 e.f4 := by
  intro e he
  obtain ⟨i, hi, rfl⟩ := List.getElem_of_mem he
  obtain ⟨ad, A3, c3, e1, _, _, _, _, x4, _⟩ := at_T46 hC (i : Int) (by omega) (by omega)
  rw [Int.toNat_natCast, show rd_T46 l (i : Int) = l[i] from by unfold rd_T46; rw [Int.toNat_natCast]; simp [hi]] at x4
  rcases open_slice Try.underlying22 h with ⟨e2, _⟩ | ⟨a, len, cap, m, n', D, Pl, e2, hb, hlc, hm, hmm, _, hrow⟩
  · simp only [List.cons.injEq, Value.slice.injEq] at e2
    omega
  · simp only [List.cons.injEq, Value.slice.injEq, and_true] at e2
    obtain ⟨e3, rfl, rfl⟩ := e2
    rw [e1] at e3
    obtain rfl := Option.some.inj e3
    obtain ⟨cs', hc, ht⟩ := hrow i (by have : n ≤ m := by rw [hmm]; split <;> omega
                                       omega)
    rw [cells46b] at hc
    obtain ⟨_, hcl, hat⟩ := World.cells?_some hc
    obtain ⟨ys, k, _, _, hlen, hyl, hf⟩ := DataW.trod_struct Try.underlying46 ht
    have hcl6 : cs'.length = 6 := hcl
    have h4 : DataW.trod enc Try.prog w base spare held k 44 ((cs'.drop 4).take (Try.prog.cellsOf 44)) = ys[4]? := hf 4 _ rfl
    rw [cells44b] at h4
    have hys : ys[4]? = some (ys[4]'(by rw [hyl]; decide)) := List.getElem?_eq_getElem _
    have ht4 : DataW.trod enc Try.prog w base spare held k 44 ((cs'.drop 4).take 1) = some (ys[4]'(by rw [hyl]; decide)) := h4.trans hys
    obtain ⟨z, hz, _, hw⟩ := DataW.trod_int Try.underlying44 ht4
    have hc4 : cs'[4]? = some (.int .i64 z) := by
      have h5 := congrArg (fun t => t[0]?) hz
      simpa using h5
    have h6 := hat 4 (by omega)
    rw [hc4] at h6
    have h7 : (ad.add (i * 6)).add 4 = ⟨(ad.add (i * 6)).block, (ad.add (i * 6)).off + 4, none⟩ := rfl
    rw [h7, x4] at h6
    have h8 := Option.some.inj h6
    injection h8 with _ h9
    unfold W64
    rw [h9]
    exact hw
end Go.Proofs.Ytigchloekolaoaa.PEventTells
