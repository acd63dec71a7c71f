/-
  Try, where another Cur's Must stops the read: it panics anew.
-/
import Derived.Test.YtiikppiogglppaaNestsInner
namespace Go.Proofs.Ytiikppiogglppaa
open Go.RowKit

/-- What Try leaves of a read that another Cur's Must stopped. -/
def PassedOn (base g0 : Nat) (Φ : Nat → CS → World → Prop) (e : Ending) (w' : World) : Prop :=
  ∃ g s w3 older, Plain older ∧ e = .panicked ({ v := stopOf g0, recovered := false } :: older) ∧ Φ g s w3 ∧ Below base w3 w'

set_option maxHeartbeats 4000000 in
theorem try_passed (B : Option Addr) (nb cb : Nat) (l : List Int) (f : Nat) (cap : Array Value) (w : World) (Φ : Nat → CS → World → Prop) (g0 : Nat) (hg0 : g0 < w.heap.size) (hcell : ∀ g s w3, Φ g s w3 → ∃ (ca : Array Value) (ta : TypeId), w3.heap[g0]? = some (.cells ca ta (0, 0))) (hs : Sl w B nb l) (hB : B = none → cb = 0) (hn : nb ≤ 1000)
    (hnf : ∀ w : World, (binOp .eql 34 (.func (.func f) #[] cap) .nilFunc).run Try.prog w = .ok (.bool false) w)
    (hent : ∀ (args : Array Value) (w : World), (callFunc f args).run Try.prog w = .ok (.enter f args) w)
    (hread : ∀ (g : Nat) (A : Option Addr) (c : Nat) (w1 : World), w.heap.size + 2 ≤ g → Below w.heap.size w w1 → IsCur w1 g A c l CS.start true → (∀ ad, A = some ad → w.heap.size ≤ ad.block) → Calls Try.prog f (#[.pointer (some ⟨g, 0, none⟩)] ++ cap) w1 (Passed w.heap.size w1 g g0 A c l (Φ g))) :
    Calls Try.prog 13 #[.slice B nb cb, .func (.func f) #[] cap] w (PassedOn w.heap.size g0 Φ) := by
  have hmf : ∀ (fn : Fn) (first cap : Array Value) (w : World), (Instr.makeFunc fn first cap).run Try.prog w = .ok (.func fn first cap) w := fun _ _ _ _ => rfl
  have hb0 := ((Below.refl w.heap.size w).alloc (Nat.le_refl _) (.cells #[.int .i64 0] 3)).alloc (by simp) (.cells #[.int .i64 0, .int .i64 0] 31)
  have HS := Lib.hid (hs.below hb0)
  have HB0 := Lib.hid hb0
  have HR := Lib.hid hread
  clear hs hb0 hread
  go_enter_defers Try.func13, Try.ntmps13
  go_wp2_with fail
  refine (new_any B nb cb l _ HS.out hB hn).mono ?_
  rintro e w1 ⟨g, A, c, rfl, h1, hge, hA, hb1⟩
  have hsz : w.heap.size + 2 ≤ w1.heap.size := by have := hb1.size; simpa using this
  have hgs : w.heap.size + 2 ≤ g := by simpa using hge
  have hN : w1.heap[w.heap.size]? = some (.cells #[.int .i64 0] 3 (0, 0)) := by
    rw [hb1.block w.heap.size (by simp; omega), Below.heap_alloc _ _ _ (by simp)]
    exact heap_alloc_new w _
  have hF : w1.heap[w.heap.size + 1]? = some (.cells #[.int .i64 0, .int .i64 0] 31 (0, 0)) := by
    rw [hb1.block (w.heap.size + 1) (by simp)]
    have := heap_alloc_new (w.alloc (.cells #[.int .i64 0] 3)) (.cells #[.int .i64 0, .int .i64 0] 31)
    rw [World.size_alloc] at this
    exact this
  have hglt := h1.lt
  have hss : (w1.setCell ⟨g, 4, none⟩ (.bool true)).heap.size = w1.heap.size := by simp [World.setCell]
  have hbV := (Below.refl (w1.setCell ⟨g, 4, none⟩ (.bool true)).heap.size (w1.setCell ⟨g, 4, none⟩ (.bool true))).alloc (Nat.le_refl _) (.cells #[.pointer (some ⟨g, 0, none⟩)] 26)
  have hnew := heap_alloc_new (w1.setCell ⟨g, 4, none⟩ (.bool true)) (.cells #[.pointer (some ⟨g, 0, none⟩)] 26)
  rw [hss] at hnew
  have hV1 : Vars ((w1.setCell ⟨g, 4, none⟩ (.bool true)).alloc (.cells #[.pointer (some ⟨g, 0, none⟩)] 26)) w1.heap.size w.heap.size (w.heap.size + 1) g :=
    ⟨hnew, ⟨0, (hbV.block _ (by rw [hss]; omega)).trans ((heap_setCell_other _ _ _ _ (by show w.heap.size ≠ g; omega)).trans hN)⟩,
      ⟨0, 0, (hbV.block _ (by rw [hss]; omega)).trans ((heap_setCell_other _ _ _ _ (by show w.heap.size + 1 ≠ g; omega)).trans hF)⟩, by omega, by omega, by omega, by omega, by omega, by omega⟩
  have HV := Lib.hid hV1
  have P1 := Lib.hid ((h1.put_tried true).below hbV)
  have HB1 := Lib.hid ((((HB0.out.trans (hb1.mono HB0.out.size)).setCell (p := ⟨g, 4, none⟩) (by show w.heap.size ≤ g; omega) (.bool true))).trans (hbV.mono (by rw [hss]; omega)))
  obtain ⟨x0, x1, x2, x3, x4⟩ := h1.cells
  have f4 := h1.free 4
  have HGL := Lib.hid hgs
  have HSZ := Lib.hid hsz
  have HAD : Hid (∀ ad, A = some ad → w.heap.size ≤ ad.block) := Lib.hid (fun ad e => by have := hA ad e; simp at this; omega)
  clear h1 hV1 hbV hb1 hN hF hnew hss hge hgs hsz hA
  go_wp2_with fail
  refine (HR.out g A c _ HGL.out HB1.out P1.out HAD.out).mono ?_
  rintro e w3 ⟨s, older, hpl, rfl, h3, hΦ, hsz3, hk3⟩
  have hss2 : ((w1.setCell ⟨g, 4, none⟩ (.bool true)).alloc (.cells #[.pointer (some ⟨g, 0, none⟩)] 26)).heap.size = w1.heap.size + 1 := by simp [World.setCell]
  have V3 : Vars w3 w1.heap.size w.heap.size (w.heap.size + 1) g := HV.out.across (fun k hk => by
    have h1 := HSZ.out
    have h2 := HGL.out
    refine hk3 k (by omega) (by rw [hss2]; omega) (by omega))
  have hne0 : g0 ≠ g := by have := HGL.out; omega
  go_wp2_with fail
  refine leaves_cons (f := 30) (args := #[.pointer (some ⟨w1.heap.size, 0, none⟩), .pointer (some ⟨w.heap.size, 0, none⟩), .pointer (some ⟨w.heap.size + 1, 0, none⟩)]) (by simp) (by simp [go_sem]) ?_
  refine (catch_pass w3 w1.heap.size w.heap.size (w.heap.size + 1) g A c l s true older g0 hne0 (hcell g s w3 hΦ) V3 h3).mono ?_
  rintro e u' w4 ⟨rfl, rfl, h4, hg4⟩
  simp [Leaves, raised]
  have h1 := HSZ.out
  have h2 := HGL.out
  refine ⟨g, s, w3, _, ?_, rfl, hΦ, ?_⟩
  · unfold Plain at hpl ⊢
    rw [List.dropWhile_cons_of_pos (by rfl)]
    exact hpl
  · exact ⟨hg4.os, hg4.tape, hg4.output, by have := (Array.getElem?_eq_some_iff.1 V3.v).1; have := hg4.size; omega, fun k hk => hg4.block k (by have := (Array.getElem?_eq_some_iff.1 V3.v).1; omega) (fun e => by have := Option.some.inj e; omega)⟩
end Go.Proofs.Ytiikppiogglppaa
