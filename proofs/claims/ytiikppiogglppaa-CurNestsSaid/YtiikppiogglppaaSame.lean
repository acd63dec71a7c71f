/-
  The walk of forebaylaw01.same: are two slices of bytes the same, byte by byte.
-/
import Derived.Test.YtiikppiogglppaaBase
namespace Go.Proofs.Ytiikppiogglppaa
open Go.RowKit

set_option maxHeartbeats 400000 in
theorem same_any (a1 : Option Addr) (len1 cap1 : Nat) (l1 : List Int) (a2 : Option Addr) (len2 cap2 : Nat) (l2 : List Int) (w : World) (h1 : Sl w a1 len1 l1) (h2 : Sl w a2 len2 l2) (hm : len1 ≤ 140737488351232) :
    Calls Try.prog 23 #[.slice a1 len1 cap1, .slice a2 len2 cap2] w fun e w' => e = .returned (.bool (l1 == l2)) ∧ Below w.heap.size w w' := by
  have H1 := Lib.hid h1
  have H2 := Lib.hid h2
  clear h1 h2
  by_cases hlen : len1 = len2
  · subst hlen
    go_enter Try.func23, Try.ntmps23
    go_wp2
    go_loopw [5] (fun i wr => ∃ (k : Nat), k ≤ len1 ∧ i = .int .i64 k ∧ Hid (∀ j, j < k → l1.getD j 0 = l2.getD j 0) ∧ ∃ n, wr = w.drewN n) (fun i _ => len1 - (intOf i).toNat)
    case atStart => exact ⟨0, by omega, rfl, Lib.hid (fun j hj => by omega), 0, rfl⟩
    case round =>
      obtain ⟨k, hk, rfl, HY, n, rfl⟩ := hrel
      by_cases hkl : k < len1
      · obtain ⟨b1, o1, rfl, hb1, hc1⟩ := H1.out.at k hkl
        obtain ⟨b2, o2, rfl, hb2, hc2⟩ := H2.out.at k hkl
        obtain ⟨z1, hz1⟩ : ∃ z, z = l1.getD k 0 := ⟨_, rfl⟩
        obtain ⟨z2, hz2⟩ : ∃ z, z = l2.getD k 0 := ⟨_, rfl⟩
        rw [← hz1] at hc1
        rw [← hz2] at hc2
        have HZ1 := Lib.hid hz1
        have HZ2 := Lib.hid hz2
        clear hz1 hz2
        have hki : (k : Int) < (len1 : Int) := by omega
        by_cases he : z1 = z2
        · subst he
          go_wp2_with fail
          go_quiet (fail)
          go_wp2
          go_roundw
          case rel => exact ⟨k + 1, by omega, by go_num, Lib.hid (fun j hj => by
            by_cases e : j = k
            · subst e; rw [← HZ1.out, ← HZ2.out]
            · exact HY.out j (by omega)), ⟨_, rfl⟩⟩
          case measure => simp [intOf]; omega
        · have hne : (z1 != z2) = true := bne_iff_ne.2 he
          have hl : (l1 == l2) = false := beq_eq_false_iff_ne.2 (fun h => he (by rw [HZ1.out, HZ2.out, h]))
          have HL := Lib.hid hl
          clear hl he
          go_wp2_with fail
          go_quiet (fail)
          go_wp2
          go_ret
          exact ⟨by rw [HL.out]; rfl, below_drewN' (below_drewN' (Below.refl _ _) _) _⟩
      · have hkl' : k = len1 := by omega
        subst hkl'
        have hl : (l1 == l2) = true := by
          rw [beq_iff_eq]
          refine List.ext_getElem (by rw [H1.out.1, H2.out.1]) fun i h1 h2 => ?_
          have := HY.out i (by rw [← H1.out.1]; exact h1)
          rwa [getD_lt h1, getD_lt h2] at this
        have HL := Lib.hid hl
        clear hl
        go_wp2
        go_ret
        exact ⟨by rw [HL.out]; rfl, below_drewN' (Below.refl _ _) _⟩
  · have hl : (l1 == l2) = false := beq_eq_false_iff_ne.2 (fun h => hlen (by rw [← H1.out.1, ← H2.out.1, h]))
    have HL := Lib.hid hl
    clear hl
    have hb : ((len1 : Int) != (len2 : Int)) = true := bne_iff_ne.2 (by omega)
    clear hlen
    go_enter Try.func23, Try.ntmps23
    go_wp2
    go_ret
    exact ⟨by rw [HL.out]; rfl, Below.refl _ _⟩
end Go.Proofs.Ytiikppiogglppaa
