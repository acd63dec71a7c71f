/-
 What stands ahead of a line, and behind it, in a text: the plain law. Cuts of rows of events. The events of a text: small numbers; the one between; forms of rows.
-/
import Derived.Test.YtngmgpmkjdacaaaGreatDoorMSb
import Derived.Test.YtngmgpmkjdacaaaGreatDoorMEq
set_option linter.unusedSimpArgs false
set_option linter.unusedVariables false
namespace Go.Eng
set_option maxRecDepth 100000
open Go Go.Proofs Go.RowKit Go.Shelf Go.Proofs.YtngmgpmkjdacaaaGreatDoor

/-- A line, so many bytes later. -/
def lvLater (k : Nat) (x : LV) : LV := ⟨x.a + k, x.b + k, x.t, x.long⟩

theorem mkLine_later (m f k : Nat) (cur : List Int) (j : Nat) : mkLine m (f + k) cur j = lvLater k (mkLine m f cur j) := by
 unfold mkLine lvLater
 split
 ·simp only [LV.mk.injEq, and_true, true_and]; omega
 ·simp only [LV.mk.injEq, and_true, true_and]; omega

theorem lin_later (m k : Nat) : ∀ (l : List Int) (f : Nat) (cur : List Int), lin m (f + k) cur l = (lin m f cur l).map (lvLater k)
 | [], _, _ => rfl
 | z :: l, f, cur => by
  rw [lin_cons, lin_cons]
  split
  ·rw [List.map_cons, mkLine_later, ← lin_later m k l (f + cur.length + 1) []]
   congr 2
   omega
  ·exact lin_later m k l f (cur ++ [z])
theorem fin_later (k : Nat) : ∀ (l : List Int) (f : Nat) (cur : List Int), fin (f + k) cur l = ((fin f cur l).1 + k, (fin f cur l).2)
 | [], _, _ => rfl
 | z :: l, f, cur => by
  rw [fin_cons, fin_cons]
  split
  ·rw [← fin_later k l (f + cur.length + 1) []]
   congr 1
   omega
  ·exact fin_later k l f (cur ++ [z])

/-- Bytes that end with a line feed leave nothing. -/
theorem fin_feed (l : List Int) (f : Nat) (cur : List Int) : fin f cur (l ++ [10]) = (f + cur.length + l.length + 1, []) := by
 have h := fin_size l f cur
 rw [fin_append, fin_cons, if_pos rfl, fin_nil, Prod.mk.injEq]
 exact ⟨by omega, rfl⟩


theorem wrap_add (x y : Int) : IntKind.i64.wrap (IntKind.i64.wrap x + y) = IntKind.i64.wrap (x + y) := by
 simp only [IntKind.wrap_i64]
 omega
/-- an event, so many bytes later -/
def evLater (k : Nat) (x : EV) : EV := ⟨x.kind, x.a + k, x.b + k, x.met, x.code, if x.kind = 1 then x.pos else IntKind.i64.wrap (x.pos + k)⟩
theorem evOf_later (k : Nat) (x : LV) (out : Value) (hk : x.a + k ≤ 1000000) : evOf (lvLater k x) out = evLater k (evOf x out) := by
 have hs : IntKind.i64.wrap ((x.a : Int) + (k : Int)) = (x.a : Int) + (k : Int) := by rw [IntKind.wrap_i64]; omega
 unfold evOf lvLater evLater
 simp only [Int.natCast_add]
 split
 ·simp [hs]
 ·split
  ·simp
  ·simp only [EV.mk.injEq, true_and]
   rw [if_neg (by decide), wrap_add]
   congr 1
   omega
theorem evsOf_later (fmt : Int) (k : Nat) (ls : List LV) (h : ∀ x ∈ ls, x.a + k ≤ 1000000) : evsOf (rdF fmt) (ls.map (lvLater k)) = (evsOf (rdF fmt) ls).map (evLater k) := by
 unfold evsOf
 rw [List.map_map, List.map_map]
 refine List.map_congr_left fun x hx => ?_
 show evOf (lvLater k x) (rdF fmt (lvLater k x)) = evLater k (evOf x (rdF fmt x))
 rw [show rdF fmt (lvLater k x) = rdF fmt x from rfl]
 exact evOf_later k x _ (h x hx)
theorem tailEv_later (m fr k : Nat) (cur : List Int) (hk : fr + k ≤ 1000000) : tailEv m (fr + k) cur = (tailEv m fr cur).map (evLater k) := by
 have hs : IntKind.i64.wrap ((fr : Int) + (k : Int)) = (fr : Int) + (k : Int) := by rw [IntKind.wrap_i64]; omega
 unfold tailEv
 split
 ·rfl
 ·simp only [List.map_cons, List.map_nil, evLater, List.cons.injEq, and_true, EV.mk.injEq, true_and, Int.natCast_add]
  rw [if_neg (by decide), hs]
  exact ⟨by omega, rfl⟩
/-- where the lines of bytes begin -/
theorem lin_bound (m : Nat) : ∀ (l : List Int) (fr : Nat) (cur : List Int), ∀ x ∈ lin m fr cur l, x.a ≤ fr + cur.length + l.length
 | [], fr, cur, x, hx => by simp [lin] at hx
 | z :: l, fr, cur, x, hx => by
  rw [lin_cons] at hx
  split at hx
  ·rcases List.mem_cons.1 hx with rfl | hx
   ·have : (mkLine m fr cur 1).a = fr := by unfold mkLine; split <;> rfl
    rw [this]
    omega
   ·have := lin_bound m l _ _ x hx
    simp only [List.length_nil, List.length_cons] at this ⊢
    omega
  ·have := lin_bound m l _ _ x hx
   simp only [List.length_append, List.length_nil, List.length_cons] at this ⊢
   omega
/-- what a line between two texts does -/
noncomputable def oneEv (fmt : Int) (n : Nat) (b : List Int) : EV := evOf (mkLine 100 n b 1) (rdF fmt (mkLine 100 n b 1))
theorem evs_between (fmt : Int) (t b u : List Int) (hb : ∀ z ∈ b, z ≠ 10) (hlen : t.length + b.length + u.length ≤ 10000) :
  evsAll fmt (t ++ [10] ++ b ++ [10] ++ u) = evsAll fmt (t ++ [10]) ++ oneEv fmt (t.length + 1) b :: (evsAll fmt u).map (evLater (t.length + 1 + b.length + 1)) := by
 have f1 := fin_feed t 0 []
 have f2 : fin 0 [] (t ++ [10] ++ b) = (t.length + 1, b) := by
  rw [fin_append, f1, (lin_free 100 b _ _ hb).2]
  simp
 have f3 : fin 0 [] (t ++ [10] ++ b ++ [10]) = (t.length + 1 + b.length + 1, []) := by
  rw [fin_append, f2, fin_cons, if_pos rfl, fin_nil]
 have l2 : lin 100 0 [] (t ++ [10] ++ b) = lin 100 0 [] (t ++ [10]) := by
  rw [lin_append, f1, (lin_free 100 b _ _ hb).1, List.append_nil]
 have l3 : lin 100 0 [] (t ++ [10] ++ b ++ [10]) = lin 100 0 [] (t ++ [10]) ++ [mkLine 100 (t.length + 1) b 1] := by
  rw [lin_append, l2, f2, lin_cons, if_pos rfl, lin_nil]
 have hk : ∀ n : Nat, fin (t.length + 1 + b.length + 1) [] u = ((fin 0 [] u).1 + (t.length + 1 + b.length + 1), (fin 0 [] u).2) := fun _ => by
  have := fin_later (t.length + 1 + b.length + 1) u 0 []
  rwa [Nat.zero_add] at this
 have hl := lin_later 100 (t.length + 1 + b.length + 1) u 0 []
 rw [Nat.zero_add] at hl
 have hfs := fin_size u 0 []
 simp only [List.length_nil, Nat.zero_add] at hfs
 have e1 : tailEv 100 (fin 0 [] (t ++ [10])).1 (fin 0 [] (t ++ [10])).2 = [] := by rw [f1]; rfl
 unfold evsAll
 rw [e1, List.append_nil, fin_append, f3, hk 0, lin_append, l3, f3, hl]
 simp only [evsOf, List.map_append, List.map_cons, List.map_nil, List.append_assoc, List.singleton_append, List.cons_append, List.nil_append]
 refine congrArg _ (congrArg _ ?_)
 rw [tailEv_later _ _ _ _ (by omega)]
 refine congrArg (· ++ _) ?_
 exact evsOf_later fmt _ _ fun x hx => by
  have := lin_bound 100 u 0 [] x hx
  simp only [List.length_nil, Nat.zero_add] at this
  omega
end Go.Eng
namespace Go.Eng
set_option maxRecDepth 100000
open Go Go.Proofs Go.RowKit Go.Shelf Go.Proofs.YtngmgpmkjdacaaaGreatDoor

theorem EvSl.below {w w' : World} {V : Value} {xs : List EV} (h : EvSl w V xs) (hb : RowKit.Below w.heap.size w w') : EvSl w' V xs := by
 obtain ⟨A, c, Ms, rfl, h1, h2, h3⟩ := h
 refine ⟨A, c, Ms, rfl, h1, fun hne => ?_, fun i M ev hM hx => (h3 i M ev hM hx).km (Km.below hb)⟩
 obtain ⟨b, o, rfl, hc⟩ := h2 hne
 exact ⟨b, o, rfl, fun k u hk => (hb.cell (p := ⟨b, o + k, none⟩) (lt_of_cell (hc k u hk))).trans (hc k u hk)⟩
theorem EvSl.cut {w : World} {A : Option Addr} {n c : Nat} {xs : List EV} (h : EvSl w (.slice A n c) xs) {lo hi : Nat} (h1 : lo ≤ hi) (h2 : hi ≤ n) {A' : Option Addr} {c' : Nat} (hA : lo < hi → ∀ b o, A = some ⟨b, o, none⟩ → A' = some ⟨b, o + lo * 6, none⟩) :
  EvSl w (.slice A' (hi - lo) c') ((xs.drop lo).take (hi - lo)) := by
 obtain ⟨A0, c0, Ms, e, g1, g2, g3⟩ := h
 cases e
 have hl : ((xs.drop lo).take (hi - lo)).length = hi - lo := by rw [List.length_take, List.length_drop]; omega
 have hlM : ((Ms.drop lo).take (hi - lo)).length = hi - lo := by rw [List.length_take, List.length_drop]; omega
 refine ⟨A', c', (Ms.drop lo).take (hi - lo), by rw [hl], by rw [hl, hlM], fun hne => ?_, fun i M ev hM hx => ?_⟩
 ·have hlt : lo < hi := by
   rcases Nat.lt_or_ge lo hi with h | h
   ·exact h
   ·exact absurd (List.length_eq_zero_iff.1 (by rw [hl]; omega)) hne
  obtain ⟨b, o, rfl, hc⟩ := g2 (by rintro rfl; simp at hne)
  refine ⟨b, o + lo * 6, hA hlt b o rfl, fun k u hk => ?_⟩
  have hkl : k < (hi - lo) * 6 := by
   have := (List.getElem?_eq_some_iff.1 hk).1
   rwa [ecells_length _ _ (by rw [hl, hlM]), hl] at this
  have hi6 : k / 6 < hi - lo := by omega
  obtain ⟨ev, hev⟩ : ∃ ev, xs[lo + k / 6]? = some ev := ⟨_, List.getElem?_eq_getElem (by omega)⟩
  obtain ⟨M, hM⟩ : ∃ M, Ms[lo + k / 6]? = some M := ⟨_, List.getElem?_eq_getElem (by omega)⟩
  have e1 : ((xs.drop lo).take (hi - lo))[k / 6]? = some ev := by rw [List.getElem?_take_of_lt hi6, List.getElem?_drop]; exact hev
  have e2 : ((Ms.drop lo).take (hi - lo))[k / 6]? = some M := by rw [List.getElem?_take_of_lt hi6, List.getElem?_drop]; exact hM
  have a1 := ecells_at _ _ (k / 6) (k % 6) ev M (by rw [hl, hlM]) e1 e2 (by omega)
  have a2 := ecells_at xs Ms (lo + k / 6) (k % 6) ev M g1 hev hM (by omega)
  rw [show k / 6 * 6 + k % 6 = k by omega, hk] at a1
  have := hc ((lo + k / 6) * 6 + k % 6) u (a2.trans a1.symm)
  rwa [show o + ((lo + k / 6) * 6 + k % 6) = o + lo * 6 + k by omega] at this
 ·have hil : i < hi - lo := by rw [← hl]; exact (List.getElem?_eq_some_iff.1 hx).1
  rw [List.getElem?_take_of_lt hil, List.getElem?_drop] at hM hx
  exact g3 (lo + i) M ev hM hx
end Go.Eng
namespace Go.Eng
set_option maxRecDepth 100000
open Go Go.Proofs Go.RowKit Go.Shelf Go.Proofs.YtngmgpmkjdacaaaGreatDoor

theorem OwnE.form {w : World} {base : Nat} {v : Value} {xs : List EV} (h : OwnE w base v xs) : ∃ A n c, v = .slice A n c ∧ n = xs.length ∧ n ≤ c ∧ c ≤ maxLen ∧ (0 < n → ∃ q o, A = some ⟨q, o, none⟩) := by
 obtain ⟨Ms, g1, ⟨g2, g3⟩, g4⟩ := h
 rcases g3 with ⟨rfl, h0⟩ | ⟨q, cap, cur, rfl, _, _, q4, q5, _⟩
 ·exact ⟨none, 0, 0, rfl, h0.symm, Nat.le_refl _, Nat.zero_le _, fun hne => absurd hne (Nat.lt_irrefl _)⟩
 ·exact ⟨_, _, cap, rfl, rfl, q4, q5, fun _ => ⟨q, 0, rfl⟩⟩
theorem cut_front {w : World} {q o n c : Nat} {zs xs rest : List EV} (h : EvSl w (.slice (some ⟨q, o, none⟩) n c) zs) (hz : zs = xs ++ rest) {k : Nat} (hk : k = xs.length) (hn : k ≤ n) (c' : Nat) : EvSl w (.slice (some ⟨q, o, none⟩) k c') xs := by
 subst hk
 have := h.cut (lo := 0) (hi := xs.length) (Nat.zero_le _) hn (A' := some ⟨q, o, none⟩) (c' := c') (fun _ b o' e => by cases e; rw [Nat.zero_mul, Nat.add_zero])
 rwa [Nat.sub_zero, List.drop_zero, hz, List.take_left] at this
theorem cut_one {w : World} {q o n c : Nat} {zs : List EV} (h : EvSl w (.slice (some ⟨q, o, none⟩) n c) zs) {i : Nat} {ev : EV} (hi : zs[i]? = some ev) (hn : i < n) (c' : Nat) : EvSl w (.slice (some ⟨q, o + i * 6, none⟩) 1 c') [ev] := by
 have := h.cut (lo := i) (hi := i + 1) (Nat.le_succ _) hn (A' := some ⟨q, o + i * 6, none⟩) (c' := c') (fun _ b o' e => by cases e; rfl)
 rw [show i + 1 - i = 1 by omega] at this
 have e : (zs.drop i).take 1 = [ev] := by
  obtain ⟨hlt, he⟩ := List.getElem?_eq_some_iff.1 hi
  rw [List.drop_eq_getElem_cons hlt, he]
  rfl
 rwa [e] at this
theorem lin_length (m : Nat) : ∀ (l : List Int) (fr : Nat) (cur : List Int), (lin m fr cur l).length ≤ l.length
 | [], _, _ => Nat.le_refl _
 | z :: l, fr, cur => by
  rw [lin_cons]
  split
  ·have := lin_length m l (fr + cur.length + 1) []
   simp only [List.length_cons]
   omega
  ·have := lin_length m l fr (cur ++ [z])
   simp only [List.length_cons]
   omega
theorem evs_length (fmt : Int) (l : List Int) : (evsAll fmt l).length ≤ l.length + 1 := by
 have h1 := lin_length 100 l 0 []
 have h2 : (tailEv 100 (fin 0 [] l).1 (fin 0 [] l).2).length ≤ 1 := by unfold tailEv; split <;> simp
 unfold evsAll evsOf
 rw [List.length_append, List.length_map]
 omega
theorem lin_bound2 (m : Nat) : ∀ (l : List Int) (fr : Nat) (cur : List Int), ∀ x ∈ lin m fr cur l, x.b ≤ fr + cur.length + l.length
 | [], fr, cur, x, hx => by simp [lin] at hx
 | z :: l, fr, cur, x, hx => by
  rw [lin_cons] at hx
  split at hx
  ·rcases List.mem_cons.1 hx with rfl | hx
   ·have : (mkLine m fr cur 1).b = fr + cur.length + 1 := by unfold mkLine; split <;> rfl
    rw [this]
    simp only [List.length_cons]
    omega
   ·have := lin_bound2 m l _ _ x hx
    simp only [List.length_nil, List.length_cons] at this ⊢
    omega
  ·have := lin_bound2 m l _ _ x hx
   simp only [List.length_append, List.length_nil, List.length_cons] at this ⊢
   omega
theorem evOf_ab (x : LV) (out : Value) : (evOf x out).a = x.a ∧ (evOf x out).b = x.b ∧ ((evOf x out).kind = 1 ∨ (evOf x out).kind = 2) := by
 unfold evOf
 split
 ·exact ⟨rfl, rfl, .inr rfl⟩
 ·split
  ·exact ⟨rfl, rfl, .inl rfl⟩
  ·exact ⟨rfl, rfl, .inr rfl⟩
theorem evs_bound (fmt : Int) (l : List Int) : ∀ ev ∈ evsAll fmt l, 0 ≤ ev.a ∧ ev.a ≤ l.length ∧ 0 ≤ ev.b ∧ ev.b ≤ l.length := fun ev h => by
 unfold evsAll at h
 rcases List.mem_append.1 h with h | h
 ·unfold evsOf at h
  obtain ⟨x, hx, rfl⟩ := List.mem_map.1 h
  have h1 := lin_bound 100 l 0 [] x hx
  have h2 := lin_bound2 100 l 0 [] x hx
  obtain ⟨e1, e2, _⟩ := evOf_ab x (rdF fmt x)
  rw [e1, e2]
  simp only [List.length_nil] at h1 h2
  omega
 ·unfold tailEv at h
  split at h
  ·cases h
  ·rw [List.mem_singleton] at h
   subst h
   have := fin_size l 0 []
   simp only [List.length_nil] at this
   show (0 : Int) ≤ ((fin 0 [] l).1 : Int) ∧ ((fin 0 [] l).1 : Int) ≤ l.length ∧ (0 : Int) ≤ (((fin 0 [] l).1 + (fin 0 [] l).2.length : Nat) : Int) ∧ (((fin 0 [] l).1 + (fin 0 [] l).2.length : Nat) : Int) ≤ l.length
   omega
theorem oneEv_is (fmt : Int) (n : Nat) (b : List Int) : (oneEv fmt n b).a = n ∧ (oneEv fmt n b).b = (n + b.length + 1 : Nat) ∧ ((oneEv fmt n b).kind = 1 ∨ (oneEv fmt n b).kind = 2) := by
 unfold oneEv
 obtain ⟨e1, e2, e3⟩ := evOf_ab (mkLine 100 n b 1) (rdF fmt (mkLine 100 n b 1))
 rw [e1, e2]
 refine ⟨?_, ?_, e3⟩
 ·unfold mkLine; split <;> rfl
 ·unfold mkLine; split <;> rfl
end Go.Eng
