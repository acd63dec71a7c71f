/-
  An append of bytes as a step of a region that draws its order.
-/
import Derived.Test.YtnlnadpbbcjfdaaBase
namespace Go.Proofs.Ytnlnadpbbcjfdaa
open Go.RowKit

theorem run_append_bytes (w : World) (ty : TypeId) (base : Nat) (v : Value) (n : Nat) (l : List Int) (hown : OwnB w base v n l)
    (A : Option Addr) (m c : Nat) (l2 : List Int) (hr : Sl w A m l2) (hc : A = none → c = 0) (hlt : n + m ≤ 100000) (hbase : base ≤ w.heap.size) :
    ∃ v' w', (Builtin.append_ #[22, 22] ty #[v, .slice A m c]).run Try.prog w = .ok v' w' ∧ OwnB w' base v' (n + m) (l ++ l2) ∧ w.grownBy w' v.ownBlock ∧ (v'.ownBlock = v.ownBlock ∨ v'.ownBlock = some w.heap.size) := by
  obtain ⟨i0, hi, hz0, hz1, hz2⟩ := info_parts info5
  have hall : ∀ z ∈ l ++ l2, 0 ≤ z ∧ z < 256 := fun z hz => (List.mem_append.1 hz).elim (hown.2.1 z) (hr.2.1 z)
  have hlen : (l ++ l2).length = n + m := by rw [List.length_append, hown.1, hr.1]
  have hmax : n + m ≤ maxLen := by unfold maxLen; omega
  cases A with
  | none =>
    have hm : m = 0 := hr.none_nil
    subst hm
    obtain rfl := hc rfl
    have hl2 : l2 = [] := List.length_eq_zero_iff.1 hr.1
    subst hl2
    exact ⟨v, w, run_append_owned_none (P := Try.prog) (w := w) base 22 ty 5 i0 1 Try.underlying22 hi v n _ hown.2.2, by simpa using hown, World.grownBy.refl _ _, .inl rfl⟩
  | some ad =>
    obtain ⟨v', w', h1, h2, h3, _, h5⟩ := run_append_own_at (P := Try.prog) w base 22 ty 5 i0 (.int .u8 0) 1 1 Try.underlying22 hi hz0 hz1 hz2 rfl (by decide) v n (l.map (Value.int .u8)) hown.2.2 ad m c (l2.map (Value.int .u8))
      (by rw [List.length_map, hr.1, Nat.mul_one]) (by
        intro j u hj
        rw [List.getElem?_map] at hj
        have hjl : j < l2.length := by
          rcases Nat.lt_or_ge j l2.length with h | h
          · exact h
          · rw [List.getElem?_eq_none h] at hj; cases hj
        obtain ⟨b, off, e, _, hcell⟩ := hr.at j (by rw [← hr.1]; exact hjl)
        cases e
        rw [List.getElem?_eq_getElem hjl] at hj
        have hu : Value.int .u8 l2[j] = u := by simpa using hj
        rw [← hu, ← getD_lt hjl, ← hcell]
        congr 1
        unfold Addr.add
        by_cases h0 : j = 0
        · subst h0; simp
        · simp [h0]) (by
        intro u hu
        obtain ⟨z, _, rfl⟩ := List.mem_map.1 hu
        rfl) hmax (by omega) hbase
    exact ⟨v', w', h1, ⟨hlen, hall, by rw [List.map_append]; exact h2⟩, h3, h5⟩

theorem step_append_bytes {w : World} {ops : Array Oper} {o : Oper} {a : Act} {K : Act → World → Prop} {Q : Exit → Act → World → Prop} {E : Prop} (hg : o.guard = none) (s x : Operand)
    (ho : o.op = .call { callee := .builtin .append, args := #[s, x], argTypes := #[22, 22] })
    (base : Nat) (v : Value) (n : Nat) (l : List Int) (hs : a.eval s = v) (hown : OwnB w base v n l)
    (A : Option Addr) (m c : Nat) (l2 : List Int) (hx : a.eval x = .slice A m c) (hr : Sl w A m l2) (hc : A = none → c = 0) (hlt : n + m ≤ 100000) (hbase : base ≤ w.heap.size)
    (hK : ∀ v' w', OwnB w' base v' (n + m) (l ++ l2) → w.grownBy w' v.ownBlock → (v'.ownBlock = v.ownBlock ∨ v'.ownBlock = some w.heap.size) → K (a.put o.dst v') w') :
    if Region.wanted o (yielded ops a.tmps) = true then Oper.wp Try.prog o a w K Q else E := by
  have hw : Region.wanted o (yielded ops a.tmps) = true := by simp [Region.wanted, hg]
  rw [if_pos hw]
  obtain ⟨v', w', hrun, h1, h2, h3⟩ := run_append_bytes w o.type base v n l hown A m c l2 hr hc hlt hbase
  unfold Oper.wp
  simp [execOp, ho, resolve, invoke, builtin, hs, hx, hrun, Result.andThen]
  exact hK v' w' h1 h2 h3
end Go.Proofs.Ytnlnadpbbcjfdaa
