/-
  The outer read of the law CurNests.
-/
import Derived.Test.YtiikppiogglppaaNestsTry
namespace Go.Proofs.Ytiikppiogglppaa
open Go.RowKit

/-- What the outer read leaves in the law's variables. -/
def AfterOuter (w0 : World) (p : NP) (l l1 : List Int) (k0 k1 : Nat) (g : Nat) (s : CS) (w' : World) : Prop :=
  s = CS.bytes l k0 ∧ ∃ inn f1 f2 re be, Nest w0 w' p (some ⟨g, 0, none⟩) inn f1 f2 re be ∧
    ((p.w = 1 ∧ (CS.bytes l k0).code ≠ 0 ∧ inn = -1 ∧ re = false ∧ be = false) ∨
     (¬ (p.w = 1 ∧ (CS.bytes l k0).code ≠ 0) ∧ inn = ((CS.bytes l1 k1).n : Int) ∧ f1 = (CS.bytes l1 k1).code ∧ f2 = (CS.bytes l1 k1).fat ∧ re = innerDone p.w l1 k1 ∧ be = true))

set_option maxHeartbeats 4000000 in
theorem outer_read (w0 w1 : World) (p : NP) (base g : Nat) (A : Option Addr) (c : Nat) (l l1 : List Int) (k0 k1 : Nat) (kp : Option Addr) (f1 f2 : Int)
    (hk0 : p.t0 = (k0 : Int)) (hk0' : k0 ≤ 120) (hk1 : p.t1 = (k1 : Int)) (hk1' : k1 ≤ 120) (hl : l.length ≤ 1000) (hl1 : l1.length ≤ 1000) (hn1 : p.n1 = l1.length) (hs1 : Sl w0 p.A1 l1.length l1) (hc1 : p.A1 = none → p.c1 = 0)
    (hN : Nest w0 w1 p kp (-1) f1 f2 false false) (hc : IsCur w1 g A c l CS.start true) (ho : p.BE < base ∧ base ≤ g) (hA : ∀ ad, A = some ad → base ≤ ad.block) :
    Calls Try.prog 14 #[.pointer (some ⟨g, 0, none⟩), .pointer (some ⟨p.K, 0, none⟩), .pointer (some ⟨p.TK, 0, none⟩), .pointer (some ⟨p.TW, 0, none⟩), .pointer (some ⟨p.WH, 0, none⟩), .pointer (some ⟨p.OT, 0, none⟩), .pointer (some ⟨p.RE, 0, none⟩), .pointer (some ⟨p.IN, 0, none⟩), .pointer (some ⟨p.FA, 0, none⟩), .pointer (some ⟨p.BE, 0, none⟩)] w1
      (Read base w1 g A c l (AfterOuter w0 p l l1 k0 k1 g)) := by
  have hmf : ∀ (fn : Fn) (first cap : Array Value) (w : World), (Instr.makeFunc fn first cap).run Try.prog w = .ok (.func fn first cap) w := fun _ _ _ _ => rfl
  have b1 := (Below.refl w1.heap.size w1).alloc (Nat.le_refl _) (.cells #[.pointer (some ⟨g, 0, none⟩)] 26)
  have hlt := hc.lt
  have hold := hc.2.1.old
  have D0 : Deep w0 w1 p base g A c l CS.start w1.heap.size kp (-1) f1 f2 false false (w1.alloc (.cells #[.pointer (some ⟨g, 0, none⟩)] 26)) :=
    { nest := hN.later b1 (by omega), cur := hc.below b1, cb := heap_alloc_new w1 _, same := fun k _ h2 _ => b1.block k h2, size := b1.size, ord := by omega, ab := fun h0 ad e => ⟨hA ad e, hold h0 ad e⟩ }
  have D1 := D0.put_k (some ⟨g, 0, none⟩)
  rw [← bytes_start l] at D0 D1
  have HD0 := Lib.hid D0
  have HD1 := Lib.hid D1
  have HK0 := Lib.hid hk0
  have HK1 := Lib.hid hk1
  have HN1 := Lib.hid hn1
  have HS1 := Lib.hid hs1
  have HC1 := Lib.hid hc1
  have HO := Lib.hid ho
  obtain ⟨_, _, _, _, _, _, x6, _⟩ := D0.nest.cells
  have f6 := D0.nest.free.1
  have cbc := D0.cbcell
  clear hk0 hk1 hn1 hs1 hc1 hN hc D0 D1 b1 hA hlt hold ho
  go_enter Try.func14, Try.ntmps14
  go_wp2_with fail
  go_loopw [11] (fun vi wr => ∃ k : Nat, k ≤ k0 ∧ vi = .int .i64 k ∧ Hid (Deep w0 w1 p base g A c l (CS.bytes l k) w1.heap.size (some ⟨g, 0, none⟩) (-1) f1 f2 false false wr)) (fun vi _ => k0 - (intOf vi).toNat)
  case atStart => exact ⟨0, by omega, rfl, HD1⟩
  case round =>
    obtain ⟨k, hk, rfl, HI⟩ := hrel
    clear x6 f6 cbc HD0 HD1
    obtain ⟨q0, q1, q2, q3, q4, q5, q6, q7, q8, q9, q10, q11⟩ := HI.out.nest.cells
    rw [HK0.out] at q2
    have cbc := HI.out.cbcell
    by_cases hkn : k < k0
    · have hki : (k : Int) < (k0 : Int) := by omega
      have hT := byte_any wr g A c l (CS.bytes l k) true HI.out.cur (bytes_fits hl k)
      rw [bytes_next] at hT
      have HT := Lib.hid hT
      clear hT
      go_wp2_with fail
      refine HT.out.mono ?_
      rintro e w3 ⟨rfl, h3, hg3⟩
      have H3 := Lib.hid (HI.out.step h3 hg3)
      clear h3 hg3
      go_wp2_with fail
      go_roundw
      case rel => exact ⟨k + 1, by omega, by go_num, H3⟩
      case measure => simp [intOf]; omega
    · obtain rfl : k = k0 := by omega
      go_wp2_with fail
      have hne15 : ∀ (a b c d e : Value) (w : World), (binOp .eql 34 (.func (.func 15) #[] #[a, b, c, d, e]) .nilFunc).run Try.prog w = .ok (.bool false) w := fun _ _ _ _ _ _ => by kernel_rfl
      have hord := HI.out.ord
      have hlt := (Array.getElem?_eq_some_iff.1 HI.out.cb).1
      have hsl : Sl wr p.A1 p.n1 l1 := by rw [HN1.out]; exact HS1.out.below HI.out.nest.below
      have hin : ∀ (g' : Nat) (A' : Option Addr) (c' : Nat) (w2 : World), wr.heap.size + 2 ≤ g' → Below wr.heap.size wr w2 → IsCur w2 g' A' c' l1 CS.start true → (∀ ad, A' = some ad → wr.heap.size ≤ ad.block) →
          InnerAt w0 w1 w2 p base g A c l (CS.bytes l k) w1.heap.size (some ⟨g, 0, none⟩) (-1) f1 f2 false false wr.heap.size g' A' c' l1 CS.start w2 := fun g' A' c' w2 hg' hb2 hc2 hA2 =>
        { deep := HI.out.later hb2 hlt, cur := hc2, same := fun _ _ _ _ => rfl, size := Nat.le_refl _, ord := by omega, ab := fun _ ad e => hA2 ad e }
      by_cases hP : p.w = 1 ∧ (CS.bytes l k).code ≠ 0
      · refine (try_passed p.A1 p.n1 p.c1 l1 15 #[.pointer (some ⟨p.TK, 0, none⟩), .pointer (some ⟨p.WH, 0, none⟩), .pointer (some ⟨w1.heap.size, 0, none⟩), .pointer (some ⟨p.OT, 0, none⟩), .pointer (some ⟨p.RE, 0, none⟩)] wr
          (fun _ _ => Deep w0 w1 p base g A c l (CS.bytes l k) w1.heap.size (some ⟨g, 0, none⟩) (-1) f1 f2 false false) g (by omega) (fun _ _ w3 h3 => ⟨_, _, h3.cur.1⟩) hsl HC1.out (by rw [HN1.out]; omega) (hne15 _ _ _ _ _) (fun args w => by simp [go_sem])
          (fun g' A' c' w2 hg' hb2 hc2 hA2 => ?_)).mono ?_
        · exact inner_passed w0 w1 w2 p base g A c l (CS.bytes l k) w1.heap.size _ (-1) f1 f2 false wr.heap.size g' A' c' l1 k1 HK1.out hk1' hl1 (bytes_fits hl k) hP.1 hP.2 (hin g' A' c' w2 hg' hb2 hc2 hA2)
        rintro e w5 ⟨g', s', w3, older, hpl, rfl, hD, hb⟩
        have D5 := hD.later hb hlt
        clear hne15 hin hsl
        go_wp2_with fail
        exact ⟨rfl, CS.bytes l k, .inr ⟨older, hpl, rfl⟩, D5.cur, ⟨rfl, _, _, _, _, _, D5.nest, .inl ⟨hP.1, hP.2, rfl, rfl, rfl⟩⟩, D5.size, D5.same⟩
      · refine (try_any p.A1 p.n1 p.c1 l1 15 #[.pointer (some ⟨p.TK, 0, none⟩), .pointer (some ⟨p.WH, 0, none⟩), .pointer (some ⟨w1.heap.size, 0, none⟩), .pointer (some ⟨p.OT, 0, none⟩), .pointer (some ⟨p.RE, 0, none⟩)] wr
          (fun _ => AfterInner w0 w1 p base g A c l (CS.bytes l k) w1.heap.size (some ⟨g, 0, none⟩) (-1) f1 f2 (innerDone p.w l1 k1) false l1 k1) hsl HC1.out (by rw [HN1.out]; omega) (hne15 _ _ _ _ _) (fun args w => by simp [go_sem])
          (fun g' A' c' w2 hg' hb2 hc2 hA2 => ?_)).mono ?_
        · exact inner_read w0 w1 w2 p base g A c l (CS.bytes l k) w1.heap.size _ (-1) f1 f2 false wr.heap.size g' A' c' l1 k1 HK1.out hk1' hl1 (bytes_fits hl k) hP (hin g' A' c' w2 hg' hb2 hc2 hA2)
        rintro e w5 ⟨g', A', c', s', w3, rfl, _, ⟨rfl, hD⟩, hb, _⟩
        have D5 := hD.later hb hlt
        have HD5 := Lib.hid D5
        have D6 := D5.put_in (((CS.bytes l1 k1).n : Nat) : Int)
        have D7 := D6.put_f1 (CS.bytes l1 k1).code
        have D8 := D7.put_f2 (CS.bytes l1 k1).fat
        have HD9 := Lib.hid (D8.put_be true)
        obtain ⟨_, _, _, _, _, _, _, y7, y8, y9, _, y11⟩ := D5.nest.cells
        obtain ⟨f1', f2', f3', f4', f5', f6'⟩ := D5.nest.free
        obtain ⟨_, _, _, _, _, _, _, _, _, _, _, z11⟩ := D8.nest.cells
        obtain ⟨_, _, _, _, _, z6⟩ := D8.nest.free
        have hnn := D5.nest.ord
        obtain ⟨S, hS⟩ : ∃ S, S = CS.bytes l1 k1 := ⟨_, rfl⟩
        rw [← hS] at HD9 z11 z6
        have HS := Lib.hid hS
        have HPP := Lib.hid hP
        rw [← hS]
        clear hne15 hin hsl D5 D6 D7 D8 hD hb q0 q1 q2 q3 q4 q5 q6 q7 q8 q9 q10 q11 hS hP
        go_wp2_with fail
        (first | go_end0 | ((try simp only [Exit.inBlock, Exit.then]); refine bodyPost_ret (results_none rfl _ _ _) rfl ?_))
        exact ⟨_, .inl rfl, HD9.out.cur, ⟨rfl, _, _, _, _, _, HD9.out.nest, .inr ⟨HPP.out, by rw [HS.out], by rw [HS.out], by rw [HS.out], rfl, rfl⟩⟩, HD9.out.size, HD9.out.same⟩
end Go.Proofs.Ytiikppiogglppaa
