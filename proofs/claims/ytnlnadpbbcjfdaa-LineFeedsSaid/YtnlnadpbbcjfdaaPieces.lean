/-
  The iterator over the pieces of a chunk, each behind a line feed.
-/
import Derived.Test.YtnlnadpbbcjfdaaRound
namespace Go.Proofs.Ytnlnadpbbcjfdaa
open Go.RowKit Go.Shelf
attribute [local go_sem] Oper.semAt_some

/-- A piece: its bytes, where they lie, and whether a line feed stands behind them. -/
structure Pc where
  A : Option Addr
  n : Nat
  c : Nat
  t : List Int
  e : Bool

def Pc.enc (x : Pc) : Array Value := #[.slice x.A x.n x.c, .bool x.e]
def Pc.all (x : Pc) : List Int := x.t ++ if x.e then [10] else []
def joined (p : List Pc) : List Int := p.flatMap Pc.all
theorem joined_snoc (p : List Pc) (x : Pc) : joined (p ++ [x]) = joined p ++ x.all := by unfold joined; rw [List.flatMap_append]; simp
/-- What is known of a piece as it comes. -/
def PcOk (l0 : List Int) (pre : List Pc) (x : Pc) (W : World) : Prop :=
  Sl W x.A x.n x.t ∧ Tidy x.A x.c ∧ x.n ≤ x.c ∧ (∀ z ∈ x.t, z ≠ 10) ∧ ∃ more, joined (pre ++ [x]) ++ more = l0

def boxLen (W : World) (c : Nat) : Nat := match W.cell? ⟨c, 0, none⟩ with
  | some (.slice _ n _) => n
  | _ => 0

theorem boxLen_of {W : World} {c n k : Nat} {A : Option Addr} (h : W.heap[c]? = some (.cells #[.slice A n k] 22 (0, 0))) : boxLen W c = n := by
  unfold boxLen
  rw [cell_of_row _ _ _ _ 22 (0, 0) h]
  rfl

set_option maxHeartbeats 2000000 in
theorem pieces_stops {Kp : World → World → Prop} {c : Nat} {A0 : Option Addr} {n0 c0 : Nat} {l0 : List Int} {w : World} (hbox : w.heap[c]? = some (.cells #[.slice A0 n0 c0] 22 (0, 0)))
    (hs : Sl w A0 n0 l0) (ht : Tidy A0 c0) (hc : n0 ≤ c0) (hn : n0 ≤ 1000000)
    (hcA : ∀ ad, A0 = some ad → some c ≠ some ad.block)
    (hKc : ∀ {W W'}, Kp W W' → W'.heap[c]? = W.heap[c]?) (hKs : ∀ {W W'}, Kp W W' → Sl W A0 n0 l0 → Sl W' A0 n0 l0) :
    SeqBox Try.prog 25 #[.pointer (some ⟨c, 0, none⟩)] Pc.enc Kp (PcOk l0) (fun xs => joined xs = l0) c w := by
  intro l J W hW hJ hJc hY h0
  have hclt : c < w.heap.size := (Array.getElem?_eq_some_iff.1 hbox).1
  have hW1 : W.heap[c]? = some (.cells #[.slice A0 n0 c0] 22 (0, 0)) := (hW.block c hclt).trans hbox
  have hW2 := hs.below hW
  refine callsIn_of_wp Try.func25 rfl trivial ?_ rfl
  simp only [Try.ntmps25, List.size_toArray, List.length_cons, List.length_nil, Nat.reduceAdd, Nat.reduceSub, Array.replicate_succ, Array.replicate_zero, List.push_toArray, List.append_toArray, List.nil_append, List.cons_append]
  gi_wp2
  gi_loopw [] (fun wr => ∃ (pre : List Pc) (rest : List Int) (A : Option Addr) (n k : Nat), wr.heap[c]? = some (.cells #[.slice A n k] 22 (0, 0)) ∧ (∀ X, Sl X A0 n0 l0 → Sl X A n rest) ∧ Tidy A k ∧ n ≤ k ∧ joined pre ++ rest = l0 ∧ Sl wr A0 n0 l0 ∧ J pre wr) (fun wr => boxLen wr c)
  case atStart => exact ⟨[], l0, A0, n0, c0, hW1, fun X h => h, ht, hc, rfl, hW2, h0⟩
  case round =>
    obtain ⟨pre, rest, A, n, k, hb, hA, hT, hk, hj, hS, hJs⟩ := hrel
    have hcell : wr.cell? ⟨c, 0, none⟩ = some (.slice A n k) := by rw [cell_of_row _ _ _ _ 22 (0, 0) hb]; rfl
    have hfz := frozen_of_row wr c 0 _ 22 hb
    have hSr := hA _ hS
    have hnl : rest.length = n := hSr.1
    by_cases h0n : n = 0
    · subst h0n
      gi_wp2
      go_end0
      have hr : rest = [] := List.length_eq_zero_iff.1 hnl
      subst hr
      exact ⟨⟨_, rfl⟩, pre, by rw [List.append_nil] at hj; exact hj, hJs⟩
    · have hpos : (0 : Int) < (n : Int) := by omega
      have hle : n ≤ n0 := by have := congrArg List.length hj; rw [List.length_append, hnl, hS.1] at this; omega
      have hSz := hS.1
      have ba := (Below.refl wr.heap.size wr).alloc (Nat.le_refl _) (.cells #[.int .u8 10] 5)
      have hcut := cut_one A n k rest 10 wr.heap.size 0 1 (wr.alloc (.cells #[.int .u8 10] 5)) (hSr.below ba) hT hk (by omega) (by decide) (by rw [cell_of_row _ _ _ _ 5 (0, 0) (heap_alloc_new wr _)]; rfl)
      have HC := Lib.hid hcut
      have HB := Lib.hid ba
      have HJ := Lib.hid hJs
      have hA' := hA
      clear hcut ba hJs hA
      gi_wp2_with fail
      refine ⟨trivial, (callsIn_wide.2 HC.out).mono ?_⟩
      rintro e w2 he
      unfold CutIn at he
      have hclr : c < wr.heap.size := (Array.getElem?_eq_some_iff.1 hb).1
      have b2 : Below wr.heap.size wr w2 := HB.out.trans (he.1.mono (by simp))
      have hb2 : w2.heap[c]? = some (.cells #[.slice A n k] 22 (0, 0)) := (b2.block c hclr).trans hb
      have hS2 := hS.below b2
      have hJ2 : J pre w2 := hJ pre wr w2 none HJ.out (grown_below b2) (fun r e => by cases e)
      cases hp : pos 10 rest with
      | some i =>
        rw [hp] at he
        obtain ⟨A1, A2, k2, rfl, s1, t1, s2, t2, hk2⟩ := he.2
        have hi := pos_lt hp
        obtain ⟨q1, q2⟩ := pos_split hp
        rw [hnl] at hi
        have hx : PcOk l0 pre ⟨A1, i, k, rest.take i, true⟩ w2 := ⟨s1 _ (hA' _ hS2), t1, by show i ≤ k; omega, q2, rest.drop (i + 1), by rw [joined_snoc, ← hj, List.append_assoc]; congr 1; show (rest.take i ++ [10]) ++ _ = _; rw [List.append_assoc]; exact q1.symm⟩
        obtain ⟨fn, tmps, assign, body, hy, hR⟩ := hY pre _ w2 hJ2 hx
        dsimp only [Pc.enc] at hy
        have HR := Lib.hid hR
        have S2' := Lib.hid (fun X hX => s2 X (hA' X hX))
        clear hR hx s1 s2 he
        gi_wp2
        refine HR.out.mono ?_
        rintro e W3 ⟨rfl, hJ3, hk3⟩
        have hb3 := (hKc hk3).trans hb2
        have hc3 : W3.cell? ⟨c, 0, none⟩ = some (.slice A n k) := by rw [cell_of_row _ _ _ _ 22 (0, 0) hb3]; rfl
        have hf3 := frozen_of_row W3 c 0 _ 22 hb3
        have hS3 := hKs hk3 hS2
        have HJ3 := Lib.hid (hJc _ _ (.slice A2 (n - (i + 1)) k2) hJ3)
        have hb4 := heap_setCell_same _ c 0 _ 22 (.slice A2 (n - (i + 1)) k2) hb3
        have HB4 := Lib.hid hb4
        have HS4 := Lib.hid (hS3.grown (grown_set W3 c 0 (.slice A2 (n - (i + 1)) k2)) hcA)
        clear hJ3 hb4 hS3 HR hy
        gi_wp2
        go_roundw
        case rel => exact ⟨_, rest.drop (i + 1), _, _, _, HB4.out, S2'.out, t2, hk2, by rw [joined_snoc, ← hj, List.append_assoc]; congr 1; show (rest.take i ++ [10]) ++ _ = _; rw [List.append_assoc]; exact q1.symm, HS4.out, HJ3.out⟩
        case measure => rw [boxLen_of HB4.out, boxLen_of hb]; omega
      | none =>
        rw [hp] at he
        obtain ⟨_, rfl⟩ := he
        have hfree := pos_free hp
        have hx : PcOk l0 pre ⟨A, n, k, rest, false⟩ w2 := ⟨hA' _ hS2, hT, hk, hfree, [], by rw [joined_snoc, ← hj, List.append_nil]; congr 1; show rest ++ [] = _; rw [List.append_nil]⟩
        obtain ⟨fn, tmps, assign, body, hy, hR⟩ := hY pre _ w2 hJ2 hx
        dsimp only [Pc.enc] at hy
        have HR := Lib.hid hR
        clear hR hx
        gi_wp2
        refine HR.out.mono ?_
        rintro e W3 ⟨rfl, hJ3, hk3⟩
        have hb3 := (hKc hk3).trans hb2
        have hc3 : W3.cell? ⟨c, 0, none⟩ = some (.slice A n k) := by rw [cell_of_row _ _ _ _ 22 (0, 0) hb3]; rfl
        have hf3 := frozen_of_row W3 c 0 _ 22 hb3
        have hS3 := hKs hk3 hS2
        have HJ3 := Lib.hid (hJc _ _ (.slice none 0 0) hJ3)
        have hb4 := heap_setCell_same _ c 0 _ 22 (.slice none 0 0) hb3
        have HB4 := Lib.hid hb4
        have HS4 := Lib.hid (hS3.grown (grown_set W3 c 0 (.slice none 0 0)) hcA)
        clear hJ3 hb4 hS3 HR hy
        gi_wp2
        go_roundw
        case rel => exact ⟨_, [], _, _, _, HB4.out, fun X hX => sl_nil _ _, .inl ⟨rfl, rfl⟩, Nat.le_refl _, by rw [joined_snoc, ← hj, List.append_nil]; congr 1; show rest ++ [] = _; rw [List.append_nil], HS4.out, HJ3.out⟩
        case measure => rw [boxLen_of HB4.out, boxLen_of hb]; omega

theorem pieces_any (v : Value) (w : World) (hv : v.oneCell' = true) : Calls Try.prog 22 #[v] w fun e w' => e = .returned (.func (.func 25) #[] #[.pointer (some ⟨w.heap.size, 0, none⟩)]) ∧ w' = w.alloc (.cells #[v] 22) := by
  cases v <;> first
    | (cases hv; done)
    | (go_enter Try.func22, Try.ntmps22
       go_wp2
       go_ret
       exact ⟨rfl, rfl⟩)
end Go.Proofs.Ytnlnadpbbcjfdaa
