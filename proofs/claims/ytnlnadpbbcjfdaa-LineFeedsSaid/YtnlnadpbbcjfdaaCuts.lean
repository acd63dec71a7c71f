/-
  The chunks of bytes.
-/
import Derived.Test.YtnlnadpbbcjfdaaAwake
namespace Go.Proofs.Ytnlnadpbbcjfdaa
open Go.RowKit

/-- A slice of whole numbers that reads as l. -/
def Nums (w : World) (A : Option Addr) (n : Nat) (l : List Int) : Prop :=
  l.length = n ∧ (∀ z ∈ l, -9223372036854775808 ≤ z ∧ z < 9223372036854775808) ∧ (n = 0 ∨ ∃ b off, A = some ⟨b, off, none⟩ ∧ b < w.heap.size ∧ ∀ i, i < n → w.cell? ⟨b, off + i, none⟩ = some (.int .i64 (l.getD i 0)))
theorem Nums.at {w : World} {A : Option Addr} {n : Nat} {l : List Int} (h : Nums w A n l) (k : Nat) (hk : k < n) : ∃ b off, A = some ⟨b, off, none⟩ ∧ b < w.heap.size ∧ w.cell? ⟨b, off + k, none⟩ = some (.int .i64 (l.getD k 0)) := by
  rcases h.2.2 with h0 | ⟨b, off, rfl, hlt, hc⟩
  · omega
  · exact ⟨b, off, rfl, hlt, hc k hk⟩
theorem Nums.below {w w' : World} {A : Option Addr} {n : Nat} {l : List Int} (h : Nums w A n l) (hb : Below w.heap.size w w') : Nums w' A n l := by
  refine ⟨h.1, h.2.1, ?_⟩
  rcases h.2.2 with h0 | ⟨b, off, rfl, hlt, hc⟩
  · exact .inl h0
  · exact .inr ⟨b, off, rfl, Nat.lt_of_lt_of_le hlt hb.size, fun i hi => (hb.cell (p := ⟨b, off + i, none⟩) hlt).trans (hc i hi)⟩

theorem part_of (z : Int) : ∃ (t : Int) (n : Nat), z.tmod 20 = t ∧ -20 < t ∧ t < 20 ∧ n < 20 ∧ (t + 20) % 20 = (n : Int) := by
  have h1 := Int.tmod_lt_of_pos z (show (0 : Int) < 20 by decide)
  have h2 : -20 < z.tmod 20 := by
    by_cases hz : 0 ≤ z
    · have := Int.tmod_nonneg 20 hz; omega
    · have h3 := Int.tmod_lt_of_pos (-z) (show (0 : Int) < 20 by decide)
      have h4 := Int.neg_tmod (-z) 20
      rw [Int.neg_neg] at h4
      omega
  exact ⟨_, ((z.tmod 20 + 20) % 20).toNat, rfl, h2, h1, by omega, by omega⟩

/-- A slice that is a part of another one. -/
structure PartOf (A : Option Addr) (n : Nat) (l : List Int) (B : Option Addr) (k kc : Nat) (t : List Int) : Prop where
  sl : ∀ X, Sl X A n l → Sl X B k t
  tidy : Tidy B kc
  le : k ≤ kc
  blk : ∀ ad, B = some ad → ∃ ad0, A = some ad0 ∧ ad.block = ad0.block

theorem part_cut {A : Option Addr} {n c : Nat} {l : List Int} (p k : Nat) (hp : p + k ≤ n) (hc : n ≤ c) (ht : Tidy A c) :
    ∃ B, (∀ w' : World, (Instr.slice 22 (.slice A n c) (some (.int .i64 p)) (some (.int .i64 ((p : Int) + (k : Int)))) none).run Try.prog w' = .ok (.slice B k (c - p)) w') ∧ PartOf A n l B k (c - p) ((l.drop p).take k) := by
  refine ⟨_, fun w' => run_cut A n c p k hp hc w', fun X hX => ?_, ?_, by omega, fun ad e => ?_⟩
  · by_cases h : c = p
    · rw [if_pos h]
      obtain rfl : k = 0 := by omega
      rw [List.take_zero]
      exact sl_nil _ _
    · rw [if_neg h]; exact sl_sub hX p k hp
  · by_cases h : c = p
    · rw [if_pos h]; exact ht.same h
    · rw [if_neg h]; exact ht.add p
  · by_cases h : c = p
    · rw [if_pos h] at e; exact ⟨ad, e, rfl⟩
    · rw [if_neg h] at e
      cases A with
      | none => cases e
      | some ad0 => cases e; exact ⟨ad0, rfl, by unfold Addr.add; split <;> rfl⟩

theorem part_from {A : Option Addr} {n c : Nat} {l : List Int} (p : Nat) (hp : p ≤ n) (hc : n ≤ c) (ht : Tidy A c) (hl : l.length = n) :
    ∃ B, (∀ w' : World, (Instr.slice 22 (.slice A n c) (some (.int .i64 p)) none none).run Try.prog w' = .ok (.slice B (n - p) (c - p)) w') ∧ PartOf A n l B (n - p) (c - p) (l.drop p) := by
  obtain ⟨B, h1, h2⟩ := part_cut (l := l) p (n - p) (by omega) hc ht
  have e : (l.drop p).take (n - p) = l.drop p := List.take_of_length_le (by rw [List.length_drop, hl]; exact Nat.le_refl _)
  rw [e] at h2
  refine ⟨B, fun w' => ?_, h2⟩
  have h3 := h1 w'
  rw [run_cut A n c p (n - p) (by omega) hc w'] at h3
  rw [run_slice_l (P := Try.prog) w' 22 A n c (by rw [elem22]; exact Try.underlying22) .i64 (p : Int) (by omega) (by omega)]
  rw [elem22, size5]
  simp only [Result.andThen, sliced, Int.toNat_natCast, Nat.mul_one]
  exact h3

structure Pt where
  B : Option Addr
  k : Nat
  kc : Nat
  t : List Int
def Pt.v (p : Pt) : Value := .slice p.B p.k p.kc
def flat (ps : List Pt) : List Int := ps.flatMap Pt.t
theorem flat_snoc (ps : List Pt) (p : Pt) : flat (ps ++ [p]) = flat ps ++ p.t := by unfold flat; rw [List.flatMap_append]; simp

theorem info22 : (Try.prog.info? 22).map (fun i => (i.zero, i.size, i.bytes)) = some (some (.slice none 0 0), 1, 24) := by kernel_rfl

/-- The call's own row of slices. -/
def OwnP (w : World) (base : Nat) (v : Value) (ps : List Pt) : Prop := w.ownsRow base 22 1 v ps.length (ps.map Pt.v)
theorem OwnP.below {w w' : World} {base : Nat} {v : Value} {ps : List Pt} (h : OwnP w base v ps) (hb : Below w.heap.size w w') : OwnP w' base v ps := World.ownsRow.kept h (grown_below (row := none) hb) (by cases v.ownBlock <;> simp)
theorem ownP_made (w : World) (base : Nat) (hb : base ≤ w.heap.size) : OwnP (w.alloc (.cells #[] 22)) base (.slice (some ⟨w.heap.size, 0, none⟩) 0 0) [] := World.ownsRow_made w #[] 0 hb (by decide) rfl

/-- 'append(v, x)': one slice more. -/
theorem append_part (w : World) {ops : Array Oper} {rest : List Oper} {o : Oper} {a : Act} {Q : Exit → Act → World → Prop} (hgd : o.guard = none) (s x : Operand)
    (ho : o.op = .call { callee := .builtin .append, args := #[s, x], argTypes := #[39, 39] }) (base : Nat) (v : Value) (ps : List Pt) (hs : a.eval s = v) (p : Pt) (hown : OwnP (w.alloc (.cells #[p.v] 22)) base v ps)
    (hx : a.eval x = .slice (some ⟨w.heap.size, 0, none⟩) 1 1) (hlt : ps.length ≤ 10000) (hbase : base ≤ w.heap.size)
    (h : ∀ v' w', OwnP w' base v' (ps ++ [p]) → (w.alloc (.cells #[p.v] 22)).grownBy w' v.ownBlock → wpList Try.prog ops Q rest (a.put o.dst v') w') :
    wpList Try.prog ops Q (o :: rest) a (w.alloc (.cells #[p.v] 22)) := by
  obtain ⟨i0, hi, hz0, hz1, hz2⟩ := info_parts info22
  refine wpList_append_own_at _ hgd s x 39 ho base 22 i0 (.slice none 0 0) 1 24 Try.underlying39 hi hz0 hz1 hz2 rfl (by decide) v ps.length _ hs hown ⟨w.heap.size, 0, none⟩ 1 1 [p.v] hx rfl ?_ ?_ (by unfold maxLen; omega) (by omega) (by simp; omega) ?_
  · intro j u hj
    cases j with
    | zero => cases hj; rw [show (⟨w.heap.size, 0, none⟩ : Addr).add 0 = ⟨w.heap.size, 0, none⟩ from rfl, cell_of_row _ _ _ _ 22 (0, 0) (heap_alloc_new w _)]; rfl
    | succ j => simp at hj
  · intro u hu
    obtain rfl := List.mem_singleton.1 hu
    rfl
  · intro v' w' hown' hg _ _
    refine h v' w' ?_ hg
    unfold OwnP
    rw [List.length_append, List.map_append]
    exact hown'

/-- Between two cuts. -/
structure CutsAt (w : World) (A : Option Addr) (n : Nat) (l : List Int) (W : World) (p : Nat) (ps : List Pt) (v : Value) : Prop where
  own : OwnP W w.heap.size v ps
  flat : flat ps = l.take p
  parts : ∀ x ∈ ps, PartOf A n l x.B x.k x.kc x.t
  le : p ≤ n
  below : Below w.heap.size w W

theorem take_more (l : List Int) (m n : Nat) : l.take m ++ (l.drop m).take n = l.take (m + n) := by rw [List.take_add]

theorem CutsAt.step {w W w4 : World} {A : Option Addr} {n p : Nat} {l : List Int} {ps : List Pt} {v v' : Value} (h : CutsAt w A n l W p ps v) {x : Pt} {q : Nat} (hown : OwnP w4 w.heap.size v' (ps ++ [x])) (hg : (W.alloc (.cells #[x.v] 22)).grownBy w4 v.ownBlock)
    (hp : PartOf A n l x.B x.k x.kc x.t) (hpq : p + q ≤ n) (hx : x.t = (l.drop p).take q := by rfl) : CutsAt w A n l w4 (p + q) (ps ++ [x]) v' :=
  ⟨hown, by rw [flat_snoc, h.flat, hx]; exact take_more l p q, fun y hy => by
    rcases List.mem_append.1 hy with hy | hy
    · exact h.parts y hy
    · obtain rfl := List.mem_singleton.1 hy; exact hp, hpq,
   (h.below.alloc h.below.size _).grown hg (by have := h.below.size; simp; omega) (fun k e => by have := (h.own.lt k e).1; exact this)⟩

theorem CutsAt.last {w W w4 : World} {A : Option Addr} {n p : Nat} {l : List Int} {ps : List Pt} {v v' : Value} (h : CutsAt w A n l W p ps v) {x : Pt} (hown : OwnP w4 w.heap.size v' (ps ++ [x])) (hg : (W.alloc (.cells #[x.v] 22)).grownBy w4 v.ownBlock)
    (hp : PartOf A n l x.B x.k x.kc x.t) (hps : ps.length ≤ 100) (hx : x.t = l.drop p := by rfl) : ∃ u qs, Ending.returned v' = .returned u ∧ OwnP w4 w.heap.size u qs ∧ Ytnlnadpbbcjfdaa.flat qs = l ∧ (∀ y ∈ qs, PartOf A n l y.B y.k y.kc y.t) ∧ 1 ≤ qs.length ∧ qs.length ≤ 101 ∧ Below w.heap.size w w4 :=
  ⟨v', ps ++ [x], rfl, hown, by rw [flat_snoc, h.flat, hx]; exact List.take_append_drop p l, fun y hy => by
    rcases List.mem_append.1 hy with hy | hy
    · exact h.parts y hy
    · obtain rfl := List.mem_singleton.1 hy; exact hp, by simp, by simp; omega,
   (h.below.alloc h.below.size _).grown hg (by have := h.below.size; simp; omega) (fun k e => by have := (h.own.lt k e).1; exact this)⟩

set_option maxRecDepth 100000 in
set_option maxHeartbeats 2000000 in
theorem cuts_any (A : Option Addr) (n c : Nat) (l : List Int) (A2 : Option Addr) (c2 : Nat) (ks : List Int) (w : World) (hs : Sl w A n l) (ht : Tidy A c) (hc : n ≤ c) (hn : n ≤ 10000) (hk : Nums w A2 ks.length ks) (hk2 : ks.length ≤ 1000000) :
    Calls Try.prog 11 #[.slice A n c, .slice A2 ks.length c2] w fun e w' => ∃ v ps, e = .returned v ∧ OwnP w' w.heap.size v ps ∧ flat ps = l ∧ (∀ x ∈ ps, PartOf A n l x.B x.k x.kc x.t) ∧ 1 ≤ ps.length ∧ ps.length ≤ 101 ∧ Below w.heap.size w w' := by
  have HS := Lib.hid hs
  have HK := Lib.hid hk
  have b0 := (Below.refl w.heap.size w).alloc (Nat.le_refl _) (.cells #[] 22)
  have HI0 : Hid (CutsAt w A n l (w.alloc (.cells #[] 22)) 0 [] (.slice (some ⟨w.heap.size, 0, none⟩) 0 0)) := Lib.hid ⟨ownP_made w _ (Nat.le_refl _), rfl, (fun x hx => by cases hx), Nat.zero_le _, b0⟩
  clear hs hk b0
  go_enter Try.func11, Try.ntmps11
  go_wp2_with fail
  go_loopw [5, 6, 7] (fun v va vi wr => ∃ (k p : Nat) (ps : List Pt), va = .int .i64 p ∧ vi = .int .i64 k ∧ k ≤ 100 ∧ k ≤ ks.length ∧ ps.length = k ∧ Hid (CutsAt w A n l wr p ps v)) (fun _ _ vi _ => 100 - (intOf vi).toNat)
  case atStart => exact ⟨0, 0, [], rfl, rfl, by omega, by omega, rfl, HI0⟩
  case round =>
    obtain ⟨k, p, ps, rfl, rfl, hk1, hk3, hps, HI⟩ := hrel
    clear HI0
    have hpn := HI.out.le
    by_cases hkn : k < ks.length ∧ k < 100
    · have hki : (k : Int) < (ks.length : Int) := by omega
      have hki2 : (k : Int) < 100 := by omega
      obtain ⟨b2, o2, rfl, _, hcz⟩ := (HK.out.below HI.out.below).at k hkn.1
      obtain ⟨z, hz⟩ : ∃ z, z = ks.getD k 0 := ⟨_, rfl⟩
      rw [← hz] at hcz
      obtain ⟨t, q0, ht', ht1, ht2, hq20, htq⟩ := part_of z
      clear hz
      by_cases hnl : (n : Int) - (p : Int) < (q0 : Int)
      · obtain ⟨q, hq⟩ : ∃ q, q = n - p := ⟨_, rfl⟩
        have hqi : (n : Int) - (p : Int) = (q : Int) := by omega
        have hpq : p + q ≤ n := by omega
        clear hq
        obtain ⟨B, hB, hP⟩ := part_cut (l := l) p q hpq hc ht
        have HP := Lib.hid hP
        have HNX := Lib.hid (HI.out.below)
        have hown0 := (HI.out.own).below ((Below.refl _ wr).alloc (Nat.le_refl _) (.cells #[Pt.v ⟨B, q, c - p, (l.drop p).take q⟩] 22))
        have hbs := HI.out.below.size
        have hwq : IntKind.i64.wrap ((p : Int) + (q : Int)) = (p : Int) + (q : Int) := by rw [IntKind.wrap_i64]; omega
        have HO := Lib.hid hown0
        clear hP hown0
        go_wp2_with (at_builtin; refine append_part wr rfl _ _ rfl w.heap.size u5 ps rfl ⟨B, q, c - p, (l.drop p).take q⟩ HO.out rfl (by omega) hbs ?_; intro v' w4 hown hg)
        have H4 := Lib.hid (HI.out.step hown hg HP.out hpq)
        clear hown hg HO HP HNX HI
        go_roundw
        case rel => exact ⟨k + 1, p + q, _, by go_num, by go_num, by omega, by omega, by simp [hps], H4⟩
        case measure => simp [intOf]; omega
      · obtain ⟨q, hq⟩ : ∃ q, q = q0 := ⟨_, rfl⟩
        subst hq
        have hpq : p + q ≤ n := by omega
        obtain ⟨B, hB, hP⟩ := part_cut (l := l) p q hpq hc ht
        have HP := Lib.hid hP
        have HNX := Lib.hid (HI.out.below)
        have hown0 := (HI.out.own).below ((Below.refl _ wr).alloc (Nat.le_refl _) (.cells #[Pt.v ⟨B, q, c - p, (l.drop p).take q⟩] 22))
        have hbs := HI.out.below.size
        have hwq : IntKind.i64.wrap ((p : Int) + (q : Int)) = (p : Int) + (q : Int) := by rw [IntKind.wrap_i64]; omega
        have HO := Lib.hid hown0
        clear hP hown0
        go_wp2_with (at_builtin; refine append_part wr rfl _ _ rfl w.heap.size u5 ps rfl ⟨B, q, c - p, (l.drop p).take q⟩ HO.out rfl (by omega) hbs ?_; intro v' w4 hown hg)
        have H4 := Lib.hid (HI.out.step hown hg HP.out hpq)
        clear hown hg HO HP HNX HI
        go_roundw
        case rel => exact ⟨k + 1, p + q, _, by go_num, by go_num, by omega, by omega, by simp [hps], H4⟩
        case measure => simp [intOf]; omega
    · obtain ⟨B, hB, hP⟩ := part_from p hpn hc ht HS.out.1
      have HP := Lib.hid hP
      clear hP
      by_cases hk4 : k < ks.length
      · have hki : (k : Int) < (ks.length : Int) := by omega
        obtain rfl : k = 100 := by omega
        have hown0 := (HI.out.own).below ((Below.refl _ wr).alloc (Nat.le_refl _) (.cells #[Pt.v ⟨B, n - p, c - p, l.drop p⟩] 22))
        have hbs := HI.out.below.size
        have HO := Lib.hid hown0
        clear hown0
        go_wp2_with (at_builtin; refine append_part wr rfl _ _ rfl w.heap.size u5 ps rfl ⟨B, n - p, c - p, l.drop p⟩ HO.out rfl (by omega) hbs ?_; intro v' w4 hown hg)
        go_ret
        exact HI.out.last hown hg HP.out (by omega)
      · have hki : ¬ (k : Int) < (ks.length : Int) := by omega
        have hown0 := (HI.out.own).below ((Below.refl _ wr).alloc (Nat.le_refl _) (.cells #[Pt.v ⟨B, n - p, c - p, l.drop p⟩] 22))
        have hbs := HI.out.below.size
        have HO := Lib.hid hown0
        clear hown0
        go_wp2_with (at_builtin; refine append_part wr rfl _ _ rfl w.heap.size u5 ps rfl ⟨B, n - p, c - p, l.drop p⟩ HO.out rfl (by omega) hbs ?_; intro v' w4 hown hg)
        go_ret
        obtain ⟨u, qs, e1, e2⟩ := HI.out.last hown hg HP.out (by omega)
        exact ⟨u, e1, qs, e2⟩
end Go.Proofs.Ytnlnadpbbcjfdaa
