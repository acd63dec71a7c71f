/-
  bytes.Cut at a separator of one byte: where it first stands.
-/
import Derived.Test.YtnlnadpbbcjfdaaAppend
namespace Go.Proofs.Ytnlnadpbbcjfdaa
open Go.RowKit

/-- Where a byte first stands. -/
def pos (e : Int) : List Int → Option Nat
  | [] => none
  | z :: l => if z = e then some 0 else (pos e l).map (· + 1)
def posInt (e : Int) (l : List Int) : Int := match pos e l with
  | some i => i
  | none => -1

theorem pos_lt {e : Int} : ∀ {l : List Int} {i : Nat}, pos e l = some i → i < l.length
  | [], i, h => by cases h
  | z :: l, i, h => by
    unfold pos at h
    split at h
    · cases h; simp
    · cases hp : pos e l with
      | none => rw [hp] at h; cases h
      | some j =>
        rw [hp] at h
        have := pos_lt hp
        cases h
        simp; omega

theorem byte_eq {z e : Int} (hz : 0 ≤ z ∧ z < 256) (he : 0 ≤ e ∧ e < 256) : (UInt8.ofNat z.toNat == e.toNat.toUInt8) = decide (z = e) := by
  rw [Bool.eq_iff_iff, beq_iff_eq, decide_eq_true_eq]
  constructor
  · intro h
    have h1 := congrArg UInt8.toNat h
    have h2 : (UInt8.ofNat z.toNat).toNat = z.toNat := by simp; omega
    have h3 : (e.toNat.toUInt8).toNat = e.toNat := by simp; omega
    omega
  · rintro rfl; rfl

theorem index_pos {e : Int} (he : 0 ≤ e ∧ e < 256) : ∀ {l : List Int}, (∀ z ∈ l, 0 ≤ z ∧ z < 256) → Lib.indexByte (Lib.bytesOf l) e.toNat.toUInt8 = posInt e l
  | [], _ => rfl
  | z :: l, h => by
    have ih := index_pos he (l := l) (fun x hx => h x (List.mem_cons_of_mem _ hx))
    have hb := byte_eq (h z (List.mem_cons_self ..)) he
    show Lib.indexByte (UInt8.ofNat z.toNat :: Lib.bytesOf l) e.toNat.toUInt8 = posInt e (z :: l)
    unfold Lib.indexByte
    rw [hb, ih]
    have hp : pos e (z :: l) = if z = e then some 0 else (pos e l).map (· + 1) := rfl
    by_cases h0 : z = e
    · rw [if_pos (decide_eq_true h0)]
      unfold posInt
      rw [hp, if_pos h0]; rfl
    · rw [if_neg (by rw [decide_eq_false h0]; decide)]
      unfold posInt
      rw [hp, if_neg h0]
      cases pos e l with
      | none => rfl
      | some i =>
        show (if (((i : Nat) : Int) == -1) = true then (-1 : Int) else (i : Int) + 1) = ((i + 1 : Nat) : Int)
        rw [if_neg (by rw [beq_iff_eq]; omega)]; omega

set_option maxHeartbeats 1000000 in
theorem indexbyte_any (A : Option Addr) (n c : Nat) (l : List Int) (e : Int) (w : World) (hs : Sl w A n l) (ht : Tidy A c) (he : 0 ≤ e ∧ e < 256) :
    Calls Try.prog 28 #[.slice A n c, .int .u8 e] w fun r w' => r = .returned (.int .i64 (posInt e l)) ∧ w = w' := by
  have hi := index_pos he hs.2.1
  rcases ht with ⟨rfl, rfl⟩ | ⟨b, o, rfl⟩
  · have h0 : n = 0 := hs.none_nil
    subst h0
    obtain rfl : l = [] := List.length_eq_zero_iff.1 hs.1
    go_enter Try.func28, Try.ntmps28
    go_wp2
    rw [run_callFunc_extern Try.func33 (by kernel_rfl) (by kernel_rfl) (by kernel_rfl) (e := Extern.BytealgIndexByte.indexByte) (by kernel_rfl), Lib.run_indexByteNil w 0 0 e]
    simp only [Result.andThen]
    rw [Oper.upon_value]
    go_wp2
    go_ret
    exact ⟨rfl, rfl⟩
  · have hc : ∀ i, i < n → w.cell? ⟨b, o + i, none⟩ = some (.int .u8 (l.getD i 0)) := by
      intro i hi
      obtain ⟨b', o', e', _, h⟩ := hs.at i hi
      cases e'
      exact h
    have hrun := Lib.run_indexByteSlice (P := Try.prog) w b o n c l hs.1 hc e
    rw [hi] at hrun
    have HR := Lib.hid hrun
    clear hrun hi hc
    go_enter Try.func28, Try.ntmps28
    go_wp2
    rw [run_callFunc_extern Try.func33 (by kernel_rfl) (by kernel_rfl) (by kernel_rfl) (e := Extern.BytealgIndexByte.indexByte) (by kernel_rfl), HR.out]
    simp only [Result.andThen]
    rw [Oper.upon_value]
    go_wp2
    go_ret
    exact ⟨rfl, rfl⟩

set_option maxRecDepth 100000 in
/-- bytes.Index at a separator of one byte. -/
theorem index_one (A : Option Addr) (n c : Nat) (l : List Int) (e : Int) (b o c2 : Nat) (w : World) (hs : Sl w A n l) (ht : Tidy A c) (he : 0 ≤ e ∧ e < 256) (hb : w.cell? ⟨b, o, none⟩ = some (.int .u8 e)) :
    Calls Try.prog 27 #[.slice A n c, .slice (some ⟨b, o, none⟩) 1 c2] w fun r w' => r = .returned (.int .i64 (posInt e l)) ∧ w = w' := by
  have HS := Lib.hid hs
  clear hs
  go_enter Try.func27, Try.ntmps27
  go_wp2_with fail
  refine (indexbyte_any A n c l e w HS.out ht he).mono ?_
  rintro r w' ⟨rfl, rfl⟩
  go_wp2
  go_ret
  exact ⟨rfl, rfl⟩

/-- Where a cut begins does not hang on the world. -/
theorem cut_to_all {w : World} {A : Option Addr} {n c : Nat} {l : List Int} (h : Sl w A n l) (p : Nat) (hp : p ≤ n) (hc : n ≤ c) (ht : Tidy A c) :
    ∃ a', (∀ w' : World, (Instr.slice 22 (.slice A n c) none (some (.int .i64 p)) none).run Try.prog w' = .ok (.slice a' p c) w') ∧ (∀ X, Sl X A n l → Sl X a' p (l.take p)) ∧ Tidy a' c := by
  obtain ⟨a1, h1, s1, t1⟩ := cut_to h p hp hc ht
  refine ⟨a1, h1, fun X hX => ?_, t1⟩
  obtain ⟨a2, h2, s2, t2⟩ := cut_to hX p hp hc ht
  have := (h1 w).symm.trans (h2 w)
  cases this
  exact s2
theorem cut_from_all {w : World} {A : Option Addr} {n c : Nat} {l : List Int} (h : Sl w A n l) (p : Nat) (hp : p ≤ n) (hc : n ≤ c) (ht : Tidy A c) :
    ∃ a', (∀ w' : World, (Instr.slice 22 (.slice A n c) (some (.int .i64 p)) none none).run Try.prog w' = .ok (.slice a' (n - p) (c - p)) w') ∧ (∀ X, Sl X A n l → Sl X a' (n - p) (l.drop p)) ∧ Tidy a' (c - p) := by
  obtain ⟨a1, h1, s1, t1⟩ := cut_from h p hp hc ht
  refine ⟨a1, h1, fun X hX => ?_, t1⟩
  obtain ⟨a2, h2, s2, t2⟩ := cut_from hX p hp hc ht
  have := (h1 w).symm.trans (h2 w)
  cases this
  exact s2

/-- bytes.Cut at a separator of one byte. -/
def CutIn (w : World) (A : Option Addr) (n c : Nat) (l : List Int) (e : Int) (r : Ending) (w' : World) : Prop :=
  Below w.heap.size w w' ∧ match pos e l with
    | some i => ∃ A1 A2 c2, r = .returned (.tuple #[.slice A1 i c, .slice A2 (n - (i + 1)) c2, .bool true]) ∧ (∀ X, Sl X A n l → Sl X A1 i (l.take i)) ∧ Tidy A1 c ∧ (∀ X, Sl X A n l → Sl X A2 (n - (i + 1)) (l.drop (i + 1))) ∧ Tidy A2 c2 ∧ n - (i + 1) ≤ c2
    | none => r = .returned (.tuple #[.slice A n c, .slice none 0 0, .bool false])

set_option maxHeartbeats 1000000 in
theorem cut_one (A : Option Addr) (n c : Nat) (l : List Int) (e : Int) (b o c2 : Nat) (w : World) (hs : Sl w A n l) (ht : Tidy A c) (hc : n ≤ c) (hn : n ≤ 1000000) (he : 0 ≤ e ∧ e < 256) (hb : w.cell? ⟨b, o, none⟩ = some (.int .u8 e)) :
    Calls Try.prog 26 #[.slice A n c, .slice (some ⟨b, o, none⟩) 1 c2] w (CutIn w A n c l e) := by
  have HS := Lib.hid hs
  obtain ⟨p, hp⟩ : ∃ p, p = posInt e l := ⟨_, rfl⟩
  cases hq : pos e l with
  | some i =>
    have hi := pos_lt hq
    rw [hs.1] at hi
    have hpi : posInt e l = (i : Int) := by unfold posInt; rw [hq]
    obtain ⟨A1, h1, s1, t1⟩ := cut_to_all hs i (by omega) hc ht
    obtain ⟨A2, h2, s2, t2⟩ := cut_from_all hs (i + 1) (by omega) hc ht
    rw [Int.natCast_add, Int.natCast_one] at h2
    have HE : Hid (∀ w', Below w.heap.size w w' → CutIn w A n c l e (.returned (.tuple #[.slice A1 i c, .slice A2 (n - (i + 1)) (c - (i + 1)), .bool true])) w') := Lib.hid (fun w' hb => by
      unfold CutIn
      rw [hq]
      exact ⟨hb, A1, A2, c - (i + 1), rfl, s1, t1, s2, t2, by omega⟩)
    clear s1 t1 s2 t2 hs hq
    go_enter Try.func26, Try.ntmps26
    go_wp2_with fail
    refine (index_one A n c l e b o c2 w HS.out ht he hb).mono ?_
    rintro r w' ⟨rfl, rfl⟩
    rw [hpi]
    clear hpi
    go_wp2
    go_quiet (fail)
    go_wp2
    go_ret3
    exact HE.out _ (below_drewN' (Below.refl _ _) _)
  | none =>
    have hpi : posInt e l = -1 := by unfold posInt; rw [hq]
    have HE : Hid (∀ w', Below w.heap.size w w' → CutIn w A n c l e (.returned (.tuple #[.slice A n c, .slice none 0 0, .bool false])) w') := Lib.hid (fun w' hb => by
      unfold CutIn
      rw [hq]
      exact ⟨hb, rfl⟩)
    clear hs hq
    go_enter Try.func26, Try.ntmps26
    go_wp2_with fail
    refine (index_one A n c l e b o c2 w HS.out ht he hb).mono ?_
    rintro r w' ⟨rfl, rfl⟩
    rw [hpi]
    clear hpi
    go_wp2
    go_ret3
    exact HE.out _ (Below.refl _ _)
end Go.Proofs.Ytnlnadpbbcjfdaa
