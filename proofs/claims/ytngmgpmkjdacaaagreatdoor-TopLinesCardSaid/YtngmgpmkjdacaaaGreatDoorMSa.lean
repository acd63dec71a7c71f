/-
 What stands while a session's iterator goes on. sess.text's iterator: the events of the lines that end in a chunk. Rows of events that the call itself gathers. A session's Feed: the events of the lines that end in a chunk.
-/
import Derived.Test.YtngmgpmkjdacaaaGreatDoorMOf
import Derived.Test.YtngmgpmkjdacaaaGreatDoorMRt
import Derived.Test.YtngmgpmkjdacaaaGreatDoorMLnD
import Derived.Sort.LoopGhostIn
set_option linter.unusedSimpArgs false
set_option linter.unusedVariables false
namespace Go.Eng
set_option maxRecDepth 100000
open Go Go.Proofs Go.RowKit Go.Shelf Go.Proofs.YtngmgpmkjdacaaaGreatDoor

/-- a session in memory -/
def SessAt (w : World) (p g : Nat) (fmt : Int) (cl : Bool) : Prop := w.heap[p]? = some (.cells #[.int .i64 fmt, .pointer (some ⟨g, 0, none⟩), .pointer none, .func (.func 28) #[.pointer (some ⟨p, 0, none⟩)] #[], .bool false, .bool cl] 77 (0, 0))

/-- a cell's block is a row -/
theorem cells_of {w : World} {b o : Nat} {v : Value} (h : w.cell? ⟨b, o, none⟩ = some v) : ∃ c t fz, w.heap[b]? = some (.cells c t fz) := by
 unfold World.cell? at h
 split at h
 ·rename_i c t fz hb
  exact ⟨c, t, fz, hb⟩
 ·cases h
theorem Sl.ka {o n : Nat} {w w' : World} {A : Option Addr} {k : Nat} {l : List Int} (h : Sl w A k l) (hk : Ka o n w w') (hA : ∀ ad, A = some ad → ad.block < n ∧ ad.block ≠ o) : Sl w' A k l := by
 refine ⟨h.1, h.2.1, ?_⟩
 rcases h.2.2 with h0 | ⟨b, off, rfl, hb, hc⟩
 ·exact .inl h0
 ·rcases Nat.eq_zero_or_pos k with e | e
  ·exact .inl e
  ·obtain ⟨c, t, fz, hr⟩ := cells_of (hc 0 e)
   obtain ⟨q1, q2⟩ := hA _ rfl
   have := hk.2 b c t fz q1 q2 hr
   exact .inr ⟨b, off, rfl, Nat.lt_of_lt_of_le hb hk.1, fun i hi => (World.cell?_of_block (w := w) this).trans (hc i hi)⟩
theorem IsFr.ka {o n : Nat} {w w' : World} {g m at_ fr : Nat} {cur : List Int} {cl : Bool} {O : Option Addr} {co : Nat} (h : IsFr w g m at_ fr cur cl O co) (hk : Ka o n w w') (hg : g < n) (hgo : g ≠ o) (hO : ∀ ad, O = some ad → ad.block < n ∧ ad.block ≠ o) : IsFr w' g m at_ fr cur cl O co :=
 { h with row := (hk.2 g _ _ _ hg hgo h.row).trans h.row, sl := Sl.ka h.sl hk hO }
theorem OwnL.ka {o n base : Nat} {w w' : World} {v : Value} {ls : List LV} (h : OwnL w base v ls) (hk : Ka o n w w') (hv : ∀ b, v.ownBlock = some b → b < n ∧ b ≠ o) : OwnL w' base v ls := by
 refine ⟨h.1, ?_⟩
 rcases h.2 with h0 | ⟨g, cap, cur, rfl, h1, h2, h3⟩
 ·exact .inl h0
 ·obtain ⟨q1, q2⟩ := hv g rfl
  exact .inr ⟨g, cap, cur, rfl, h1, (hk.2 g _ _ _ q1 q2 h2).trans h2, h3⟩
theorem OwnL.below' {base : Nat} {w w' : World} {v : Value} {ls : List LV} (h : OwnL w base v ls) (hb : RowKit.Below w.heap.size w w') : OwnL w' base v ls := by
 refine ⟨h.1, ?_⟩
 rcases h.2 with h0 | ⟨g, cap, cur, rfl, h1, h2, h3⟩
 ·exact .inl h0
 ·exact .inr ⟨g, cap, cur, rfl, h1, (hb.block g (Array.getElem?_eq_some_iff.1 h2).1).trans h2, h3⟩
theorem ErrAt.ka {o n k : Nat} {w w' : World} (h : ErrAt w k) (hk : Ka o n w w') (h1 : k < n) (h2 : k ≠ o) : ErrAt w' k := by
 obtain ⟨c, fz, pe, h3, h4⟩ := h
 exact ⟨c, fz, pe, (hk.2 k _ _ _ h1 h2 h3).trans h3, h4⟩

/-- what stands within the iterator's loop -/
structure TSt (o n p g cs m at_ fr : Nat) (fmt : Int) (cur : List Int) (O : Option Addr) (co : Nat) (base : Nat) (v : Value) (ls : List LV) (w : World) : Prop where
 W : W w
 sess : SessAt w p g fmt false
 box : w.heap[cs]? = some (.cells #[.pointer (some ⟨p, 0, none⟩)] 50 (0, 0))
 own : OwnL w base v ls
 fr : IsFr w g m at_ fr cur false O co
 old : n ≤ w.heap.size
theorem TSt.below {o n p g cs m at_ fr : Nat} {fmt : Int} {cur : List Int} {O : Option Addr} {co base : Nat} {v : Value} {ls : List LV} {w w' : World} (h : TSt o n p g cs m at_ fr fmt cur O co base v ls w) (hb : RowKit.Below w.heap.size w w') : TSt o n p g cs m at_ fr fmt cur O co base v ls w' :=
 ⟨h.W.below hb, (hb.block p (Array.getElem?_eq_some_iff.1 h.sess).1).trans h.sess, (hb.block cs (Array.getElem?_eq_some_iff.1 h.box).1).trans h.box, OwnL.below' h.own hb, h.fr.below hb, Nat.le_trans h.old hb.size⟩
theorem TSt.ka {o n p g cs m at_ fr : Nat} {fmt : Int} {cur : List Int} {O : Option Addr} {co base : Nat} {v : Value} {ls : List LV} {w w' : World} (h : TSt o n p g cs m at_ fr fmt cur O co base v ls w) (hk : Ka o n w w')
  (h6 : 7 < n ∧ o ≠ 6 ∧ o ≠ 7) (hp : p < n ∧ p ≠ o) (hg : g < n ∧ g ≠ o) (hcs : cs < n ∧ cs ≠ o) (hv : ∀ b, v.ownBlock = some b → b < n ∧ b ≠ o) (hO : ∀ ad, O = some ad → ad.block < n ∧ ad.block ≠ o) : TSt o n p g cs m at_ fr fmt cur O co base v ls w' :=
 ⟨⟨h.W.1.ka hk (by omega) (Ne.symm h6.2.1), h.W.2.ka hk h6.1 (Ne.symm h6.2.2)⟩, (hk.2 p _ _ _ hp.1 hp.2 h.sess).trans h.sess, (hk.2 cs _ _ _ hcs.1 hcs.2 h.box).trans h.box, OwnL.ka h.own hk hv, IsFr.ka h.fr hk hg.1 hg.2 hO, Nat.le_trans h.old hk.1⟩
end Go.Eng
namespace Go.Eng
set_option maxRecDepth 100000
open Go Go.Proofs Go.RowKit Go.Shelf Go.Proofs.YtngmgpmkjdacaaaGreatDoor
attribute [local go_sem] Oper.semAt_some

/-- an event as it comes -/
structure XE where
 V : Value
 ev : EV
def XE.enc (x : XE) : Array Value := #[x.V]
def XOk (pre : List XE) (x : XE) (W : World) : Prop := EvAt W x.V x.ev ∧ pre.length ≤ 100000
/-- the events of lines -/
def evsOf (rd : LV → Value) (ls : List LV) : List EV := ls.map fun x => evOf x (rd x)
/-- what stands as the iterator ends -/
def SEnd (rd : LV → Value) (fmt : Int) (p g m fr : Nat) (cur l0 : List Int) (xs : List XE) (W : World) : Prop :=
 xs.map (·.ev) = evsOf rd (lin m fr cur l0) ∧ SessAt W p g fmt false ∧ ∃ O co, IsFr W g m ((fin fr cur l0).1 + (fin fr cur l0).2.length) (fin fr cur l0).1 (fin fr cur l0).2 false O co ∧ ∀ ad, O = some ad → ad.block < W.heap.size ∧ ad.block ≠ p

set_option maxHeartbeats 4000000 in
theorem text_seq {w : World} {p g m fr cs cb o : Nat} {fmt : Int} {cur : List Int} {O : Option Addr} {co : Nat} {A0 : Option Addr} {n0 c0 : Nat} {l0 : List Int} {rd : LV → Value} (hW : W w) (hp : SessAt w p g fmt false)
  (hcs : w.heap[cs]? = some (.cells #[.pointer (some ⟨p, 0, none⟩)] 50 (0, 0))) (hcb : w.heap[cb]? = some (.cells #[.slice A0 n0 c0] 22 (0, 0)))
  (h : IsFr w g m (fr + cur.length) fr cur false O co) (hs : Sl w A0 n0 l0) (ht : Tidy A0 c0) (hc : n0 ≤ c0) (hA : ∀ ad, A0 = some ad → ad.block ≠ g) (hA2 : ∀ ad, A0 = some ad → ad.block < w.heap.size)
  (hO : ∀ ad, O = some ad → ad.block < w.heap.size) (hb : fr + cur.length + n0 ≤ 99000) (ho : o ≠ g ∧ o ≠ p ∧ o ≠ cs ∧ o ≠ cb) (hoO : ∀ ad, O = some ad → ad.block ≠ o) (hOp : ∀ ad, O = some ad → ad.block ≠ p) (hol : o < w.heap.size) (h67 : o ≠ 6 ∧ o ≠ 7)
  (hrd : ∀ x ∈ lin m fr cur l0, x.long = false → FnT 88 [.string (strOfNums x.t), .int .i64 fmt] (rd x)) :
  SeqFr Tryz.prog 51 #[.pointer (some ⟨cs, 0, none⟩), .pointer (some ⟨cb, 0, none⟩)] XE.enc XOk (SEnd rd fmt p g m fr cur l0) g o w := by
 intro l J W hWw hAb hJc hJn hY h0
 have hcs2 := (hWw.block cs (Array.getElem?_eq_some_iff.1 hcs).1).trans hcs
 have hcb2 := (hWw.block cb (Array.getElem?_eq_some_iff.1 hcb).1).trans hcb
 have hp2 : SessAt W p g fmt false := (hWw.block p (Array.getElem?_eq_some_iff.1 hp).1).trans hp
 have s0 : W.cell? ⟨cs, 0, none⟩ = some (.pointer (some ⟨p, 0, none⟩)) := by rw [cell_of_row _ _ _ _ _ _ hcs2]; rfl
 have b0 : W.cell? ⟨cb, 0, none⟩ = some (.slice A0 n0 c0) := by rw [cell_of_row _ _ _ _ _ _ hcb2]; rfl
 have p1 : W.cell? ⟨p, 1, none⟩ = some (.pointer (some ⟨g, 0, none⟩)) := by rw [cell_of_row _ _ _ _ _ _ hp2]; rfl
 have HF := hidden (And.intro (h.below hWw) (hs.below hWw))
 have HJ := hidden h0
 have HP := hidden hp2
 have HCS := hidden hcs2
 have HCB := hidden hcb2
 have HW0 := hidden (hW.below hWw)
 have HO1 := hidden (fun (ad : Addr) e => Nat.lt_of_lt_of_le (hO ad e) hWw.size)
 clear h0 hp2 hcs2 hcb2 hW
 refine callsIn_of_wp Tryz.func51 rfl trivial ?_ rfl
 simp only [Tryz.ntmps51, List.size_toArray, List.length_cons, List.length_nil, Nat.reduceAdd, Nat.reduceSub, Array.replicate_succ, Array.replicate_zero, List.push_toArray, List.append_toArray, List.nil_append, List.cons_append]
 gi_wp2_with fail
 obtain ⟨Wd, hWd⟩ : ∃ Y, Y = W.drew := ⟨_, rfl⟩
 refine region_wide (fun X => X.cell? ⟨cs, 0, none⟩ = some (.pointer (some ⟨p, 0, none⟩)) ∧ X.cell? ⟨cb, 0, none⟩ = some (.slice A0 n0 c0) ∧ X.cell? ⟨p, 1, none⟩ = some (.pointer (some ⟨g, 0, none⟩))) 99 (by kernel_rfl) ?_ ?_
 ·rintro ⟨a, w, ⟨v, hv⟩, _⟩
  cases hv
 rw [← hWd]
 have hS : Wd.cell? ⟨cs, 0, none⟩ = some (.pointer (some ⟨p, 0, none⟩)) ∧ Wd.cell? ⟨cb, 0, none⟩ = some (.slice A0 n0 c0) ∧ Wd.cell? ⟨p, 1, none⟩ = some (.pointer (some ⟨g, 0, none⟩)) := by rw [hWd]; exact ⟨s0, b0, p1⟩
 have hfd := feed_any Wd g m fr cur O co A0 n0 c0 l0 (by rw [hWd]; exact HF.out.1.below (Below.refl _ W).drew) (by rw [hWd]; exact HF.out.2.below (Below.refl _ W).drew) ht hc hA (fun ad e => by rw [hWd]; exact Nat.lt_of_lt_of_le (hA2 ad e) hWw.size) (fun ad e => by rw [hWd]; exact HO1.out ad e) hb
 have HFD := hidden hfd
 have HD := hidden hWd
 clear hfd hWd s0 b0 p1
 refine z_t 0 (v := ?_) hS ?_ ?_
 rotate_left
 ·(rintro wS ⟨s0, b0, p1⟩; go_simp <;> with_reducible rfl)
 simp only [Act.put, List.setIfInBounds_toArray, List.set_cons_zero, List.set_cons_succ]
 refine z_t 1 (v := ?_) hS ?_ ?_
 rotate_left
 ·(rintro wS ⟨s0, b0, p1⟩; go_simp <;> with_reducible rfl)
 simp only [Act.put, List.setIfInBounds_toArray, List.set_cons_zero, List.set_cons_succ]
 refine z_t 2 (v := ?_) hS ?_ ?_
 rotate_left
 ·(rintro wS ⟨s0, b0, p1⟩; go_simp <;> with_reducible rfl)
 simp only [Act.put, List.setIfInBounds_toArray, List.set_cons_zero, List.set_cons_succ]
 refine z_t 3 (v := ?_) hS ?_ ?_
 rotate_left
 ·(rintro wS ⟨s0, b0, p1⟩; go_simp <;> with_reducible rfl)
 simp only [Act.put, List.setIfInBounds_toArray, List.set_cons_zero, List.set_cons_succ]
 refine z_t 4 (v := ?_) hS ?_ ?_
 rotate_left
 ·(rintro wS ⟨s0, b0, p1⟩; go_simp <;> with_reducible rfl)
 simp only [Act.put, List.setIfInBounds_toArray, List.set_cons_zero, List.set_cons_succ]
 refine z_one (i := 5) (by kernel_rfl) rfl rfl ?_
 go_simp
 refine HFD.out.mono ?_
 rintro e W1 ⟨v, O', co', rfl, hown, hfr, hO', hgr⟩
 have hgd : Wd.heap[g]? = some (.cells (frCells m (fr + cur.length) fr O (opn m cur).length co false) 122 (0, 0)) := by rw [HD.out]; exact HF.out.1.row
 have hkeep : ∀ (k : Nat) (c : Array Value) (t : TypeId) (fz : Nat × Nat), t ≠ 122 → W.heap[k]? = some (.cells c t fz) → W1.heap[k]? = W.heap[k]? := fun k c t fz h1 hk => by
  have hkd : Wd.heap[k]? = W.heap[k]? := by rw [HD.out]; rfl
  refine (hgr.block k (Array.getElem?_eq_some_iff.1 (hkd.trans hk)).1 (fun e => ?_)).trans hkd
  have e := Option.some.inj e
  subst e
  rw [hkd, hk] at hgd
  cases hgd
  exact h1 rfl
 have w1 : Go.Eng.W W1 := by
  obtain ⟨⟨c6, z6, e6, a6, d6⟩, ⟨c7, z7, e7, a7, d7⟩⟩ := HW0.out
  exact ⟨⟨c6, z6, e6, (hkeep 6 _ _ _ (by decide) a6).trans a6, d6⟩, ⟨c7, z7, e7, (hkeep 7 _ _ _ (by decide) a7).trans a7, d7⟩⟩
 have pp : SessAt W1 p g fmt false := (hkeep p _ _ _ (by decide) HP.out).trans HP.out
 have cc := (hkeep cs _ _ _ (by decide) HCS.out).trans HCS.out
 have hcb3 := (hkeep cb _ _ _ (by decide) HCB.out).trans HCB.out
 have hS : W1.cell? ⟨cs, 0, none⟩ = some (.pointer (some ⟨p, 0, none⟩)) ∧ W1.cell? ⟨cb, 0, none⟩ = some (.slice A0 n0 c0) ∧ W1.cell? ⟨p, 1, none⟩ = some (.pointer (some ⟨g, 0, none⟩)) := ⟨by rw [cell_of_row _ _ _ _ _ _ cc]; rfl, by rw [cell_of_row _ _ _ _ _ _ hcb3]; rfl, by rw [cell_of_row _ _ _ _ _ _ pp]; rfl⟩
 refine ⟨hS, ?_⟩
 have hsz : W.heap.size ≤ W1.heap.size := by have := hgr.size; rw [HD.out] at this; exact this
 have hj : J W1.heap.size [] W1 := hJn 0 _ W1 (hJc 0 Wd W1 (hJc 0 W Wd HJ.out (by rw [HD.out]; exact grown_drew (grown_below (Below.refl _ W)))) hgr) (Nat.le_refl _)
 have hT : TSt o W1.heap.size p g cs m ((fin fr cur l0).1 + (fin fr cur l0).2.length) (fin fr cur l0).1 fmt (fin fr cur l0).2 O' co' Wd.heap.size v (lin m fr cur l0) W1 := ⟨w1, pp, cc, hown, hfr, Nat.le_refl _⟩
 have hWds : Wd.heap.size = W.heap.size := by rw [HD.out]; rfl
 have side6 : 7 < W1.heap.size ∧ o ≠ 6 ∧ o ≠ 7 := ⟨w1.2.lt, h67⟩
 have sidep : p < W1.heap.size ∧ p ≠ o := ⟨(Array.getElem?_eq_some_iff.1 pp).1, Ne.symm ho.2.1⟩
 have sideg : g < W1.heap.size ∧ g ≠ o := ⟨hfr.lt, Ne.symm ho.1⟩
 have sidecs : cs < W1.heap.size ∧ cs ≠ o := ⟨(Array.getElem?_eq_some_iff.1 cc).1, Ne.symm ho.2.2.1⟩
 have hoW : o < W.heap.size := Nat.lt_of_lt_of_le hol hWw.size
 have sidev : ∀ b, v.ownBlock = some b → b < W1.heap.size ∧ b ≠ o := fun b e => by
  have := World.ownsRow.lt hown b e
  exact ⟨this.2, by omega⟩
 have sideO : ∀ ad, O' = some ad → ad.block < W1.heap.size ∧ ad.block ≠ o := fun ad e => by
  obtain ⟨h1, h2, h3⟩ := hO' ad e
  refine ⟨h3, ?_⟩
  rcases h2 with rfl | h2
  ·exact hoO ad e
  ·omega
 have hpW : p < W.heap.size := (Array.getElem?_eq_some_iff.1 HP.out).1
 have sideP : ∀ ad, O' = some ad → ad.block ≠ p := fun ad e => by
  obtain ⟨h1, h2, h3⟩ := hO' ad e
  rcases h2 with rfl | h2
  ·exact hOp ad e
  ·omega
 have HSideP := hidden sideP
 have HT := hidden hT
 have HJ1 := hidden hj
 have HSide := hidden (And.intro side6 (And.intro sidep (And.intro sideg (And.intro sidecs (And.intro sidev sideO)))))
 obtain ⟨Ov, vc, rfl, hvc, hvO, hvq⟩ := hown.form
 have HVQ := hidden hvq
 clear sideP hpW hkeep hgd w1 pp cc hcb3 hsz hj hT hWds side6 sidep sideg sidecs sidev sideO hown hfr hO' hgr hvO hvq hoW
 refine z_t 6 (v := ?_) hS ?_ ?_
 rotate_left
 ·(rintro wS ⟨s0, b0, p1⟩; go_simp <;> with_reducible rfl)
 simp only [Act.put, List.setIfInBounds_toArray, List.set_cons_zero, List.set_cons_succ]
 refine z_t 7 (v := ?_) hS ?_ ?_
 rotate_left
 ·(rintro wS ⟨s0, b0, p1⟩; go_simp <;> with_reducible rfl)
 simp only [Act.put, List.setIfInBounds_toArray, List.set_cons_zero, List.set_cons_succ]
 refine z_t 8 (v := ?_) hS ?_ ?_
 rotate_left
 ·(rintro wS ⟨s0, b0, p1⟩; go_simp <;> with_reducible rfl)
 simp only [Act.put, List.setIfInBounds_toArray, List.set_cons_zero, List.set_cons_succ]
 refine z_t 9 (v := ?_) hS ?_ ?_
 rotate_left
 ·(rintro wS ⟨s0, b0, p1⟩; go_simp <;> with_reducible rfl)
 simp only [Act.put, List.setIfInBounds_toArray, List.set_cons_zero, List.set_cons_succ]
 refine z_t 10 (v := ?_) hS ?_ ?_
 rotate_left
 ·(rintro wS ⟨s0, b0, p1⟩; go_simp <;> with_reducible rfl)
 simp only [Act.put, List.setIfInBounds_toArray, List.set_cons_zero, List.set_cons_succ]
 refine z_done (by kernel_rfl) ?_ _
 clear hS
 gi_wp2_with fail
 obtain ⟨N, hN⟩ : ∃ N, N = (lin m fr cur l0).length := ⟨_, rfl⟩
 rw [← hN]
 have HN := hidden hN
 have hN2 : N ≤ 99000 := by have := lin_length m l0 fr cur; have := hs.1; omega
 have hvc' : N ≤ vc := by omega
 gi_loopg [19] N (fun kk s19 wr => ∃ (i : Nat) (pre : List XE), s19 = .int .i64 i ∧ i ≤ N ∧ kk = N - i ∧ Hid (pre.map (·.ev) = evsOf rd ((lin m fr cur l0).take i)) ∧ Hid (J W1.heap.size pre wr) ∧ Hid (TSt o W1.heap.size p g cs m ((fin fr cur l0).1 + (fin fr cur l0).2.length) (fin fr cur l0).1 fmt (fin fr cur l0).2 O' co' Wd.heap.size (.slice Ov N vc) (lin m fr cur l0) wr))
 case atStart => exact ⟨0, [], rfl, Nat.zero_le _, rfl, hidden rfl, HJ1, by rw [hN]; exact HT⟩
 case round =>
  obtain ⟨i, pre, rfl, hi, rfl, HE, HJ2, HT2⟩ := hrel
  clear hN
  by_cases hlt : i < N
  ·have hltz : (i : Int) < (N : Int) := by omega
   have hil : i < (lin m fr cur l0).length := by rw [← HN.out]; exact hlt
   obtain ⟨x, hx⟩ : ∃ x, (lin m fr cur l0)[i]? = some x := ⟨_, List.getElem?_eq_getElem hil⟩
   have hxm : x ∈ lin m fr cur l0 := List.mem_of_getElem? hx
   obtain ⟨q, rfl, _⟩ := HVQ.out (by intro e; rw [e] at hil; simp at hil)
   obtain ⟨l0', l1, l2, l3⟩ := OwnL.cell HT2.out.own hx
   rw [Nat.add_zero] at l0'
   have sp : wr.cell? ⟨cs, 0, none⟩ = some (.pointer (some ⟨p, 0, none⟩)) := by rw [cell_of_row _ _ _ _ _ _ HT2.out.box]; rfl
   have HX := hidden hx
   have HXM := hidden hxm
   have hba : RowKit.Below wr.heap.size wr (wr.alloc (.cells #[.int .i64 x.a, .int .i64 x.b, .string (strOfNums x.t), .bool x.long] 119)) := (Below.refl _ wr).alloc (Nat.le_refl _) _
   have sp2 : (wr.alloc (.cells #[.int .i64 x.a, .int .i64 x.b, .string (strOfNums x.t), .bool x.long] 119)).cell? ⟨cs, 0, none⟩ = some (.pointer (some ⟨p, 0, none⟩)) := by rw [cell_of_row _ _ _ _ _ _ (HT2.out.below hba).box]; rfl
   have hT3 := HT2.out.below hba
   have HT3 := hidden hT3
   have HBA := hidden hba
   have hof := of_calls fmt p _ _ _ _ _ x (rd x) (wr.alloc (.cells #[.int .i64 x.a, .int .i64 x.b, .string (strOfNums x.t), .bool x.long] 119)) hT3.W hT3.sess (hrd x hxm)
   have HOF := hidden hof
   clear hil hx hxm hT3 hba hof
   gi_wp2_with fail
   refine ⟨trivial, (callsIn_wide.2 HOF.out).mono ?_⟩
   rintro e w2 ⟨V, rfl, hev, hb2⟩
   have hb4 : RowKit.Below wr.heap.size wr w2 := HBA.out.trans (hb2.mono HBA.out.size)
   have hJ4 : J W1.heap.size pre w2 := hAb _ pre wr w2 none HJ2.out (grown_below hb4) (fun r e => by cases e)
   have hT4 := HT2.out.below hb4
   obtain ⟨fn, tmps, assign, body, hy, hR⟩ := hY W1.heap.size pre ⟨V, evOf x (rd x)⟩ w2 hJ4 hT4.old ⟨hev, by have e := congrArg List.length HE.out; simp only [List.length_map, evsOf, List.length_take] at e; omega⟩
   dsimp only [XE.enc] at hy
   have HR := hidden hR
   have HT4 := hidden hT4
   have hpre : (pre ++ [(⟨V, evOf x (rd x)⟩ : XE)]).map (·.ev) = evsOf rd ((lin m fr cur l0).take (i + 1)) := by
    rw [List.map_append, HE.out, List.take_add_one, HX.out]
    simp [evsOf]
   have HPRE := hidden hpre
   clear hR hev hb2 hb4 hJ4 hT4 hpre l0' l1 l2 l3 sp sp2
   gi_wp2
   refine HR.out.mono ?_
   rintro e W3 ⟨rfl, hJ3, hk3⟩
   have hT5 := HT4.out.ka hk3 HSide.out.1 HSide.out.2.1 HSide.out.2.2.1 HSide.out.2.2.2.1 HSide.out.2.2.2.2.1 HSide.out.2.2.2.2.2
   have HT5 := hidden hT5
   have HJ5 := hidden hJ3
   clear hT5 hJ3 hk3 HR hy
   gi_wp2
   gi_roundg (N - (i + 1))
   ·exact ⟨i + 1, _, by rw [Int.natCast_add]; rfl, by omega, rfl, HPRE, HJ5, HT5⟩
   all_goals omega
  ·have hge : ¬ (i : Int) < (N : Int) := by omega
   gi_wp2_with fail
   go_end0
   obtain rfl : i = N := by omega
   refine ⟨⟨_, rfl⟩, W1.heap.size, pre, ⟨?_, HT2.out.sess, O', co', HT2.out.fr, fun ad e => ⟨Nat.lt_of_lt_of_le (HSide.out.2.2.2.2.2 ad e).1 HT2.out.old, HSideP.out ad e⟩⟩, HJ2.out⟩
   rw [HE.out, HN.out, List.take_length]
end Go.Eng
namespace Go.Eng
set_option maxRecDepth 100000
open Go Go.Proofs Go.RowKit Go.Shelf Go.Proofs.YtngmgpmkjdacaaaGreatDoor

/-- rows of metrics, values and tags are kept -/
def Km (w w' : World) : Prop := ∀ (k : Nat) (c : Array Value) (t : TypeId) (fz : Nat × Nat), t = 36 ∨ t = 39 ∨ t = 42 → w.heap[k]? = some (.cells c t fz) → w'.heap[k]? = w.heap[k]?
theorem Km.below {w w' : World} (h : RowKit.Below w.heap.size w w') : Km w w' := fun k _ _ _ _ hk => h.block k (Array.getElem?_eq_some_iff.1 hk).1
theorem Km.trans {a b c : World} (h1 : Km a b) (h2 : Km b c) : Km a c := fun k x t fz ht hk => by
 have e := h1 k x t fz ht hk
 exact (h2 k x t fz ht (e.trans hk)).trans e
theorem MetAt.km {w w' : World} {cs : List Value} {out : Value} (h : MetAt w cs out) (hk : Km w w') : MetAt w' cs out := by
 obtain ⟨x0, x1, V, x3, T, x5, f0, f1, cells, tags, h1, h2, h3, h4, h5, h6⟩ := h
 exact ⟨x0, x1, V, x3, T, x5, f0, f1, cells, tags, h1, h2, SlAt.kept h3 fun k c fz hc => hk k c 36 fz (.inl rfl) hc, SlAt.kept h4 fun k c fz hc => hk k c 39 fz (.inr (.inl rfl)) hc, h5, h6⟩
theorem MetsAt.km {w w' : World} {M : Value} {met : Option Value} (h : MetsAt w M met) (hk : Km w w') : MetsAt w' M met := by
 cases met with
 | none => exact h
 | some out =>
  obtain ⟨g, cs, h1, h2, h3⟩ := h
  exact ⟨g, cs, h1, (hk g _ 42 _ (.inr (.inr rfl)) h2).trans h2, h3.km hk⟩
theorem MetsAt.one {w : World} {M : Value} {met : Option Value} (h : MetsAt w M met) : M.oneCell' = true := by
 cases met with
 | none => rw [show M = _ from h]; rfl
 | some out =>
  obtain ⟨g, cs, rfl, _⟩ := h
  rfl

def evCells (x : EV) (M : Value) : List Value := [.int .i64 x.kind, .int .i64 x.a, .int .i64 x.b, M, .int .i64 x.code, .int .i64 x.pos]
def ecells : List EV → List Value → List Value
 | x :: xs, M :: Ms => evCells x M ++ ecells xs Ms
 | _, _ => []
theorem ecells_length : ∀ (xs : List EV) (Ms : List Value), Ms.length = xs.length → (ecells xs Ms).length = xs.length * 6
 | [], [], _ => rfl
 | x :: xs, M :: Ms, h => by
  rw [ecells, List.length_append, ecells_length xs Ms (by simpa using h), List.length_cons]
  show 6 + _ = _
  omega
 | [], _ :: _, h => by simp at h
 | _ :: _, [], h => by simp at h
theorem ecells_append : ∀ (xs : List EV) (Ms : List Value) (x : EV) (M : Value), Ms.length = xs.length → ecells (xs ++ [x]) (Ms ++ [M]) = ecells xs Ms ++ evCells x M
 | [], [], x, M, _ => by simp [ecells]
 | a :: xs, b :: Ms, x, M, h => by
  simp only [List.cons_append, ecells, List.append_assoc]
  rw [ecells_append xs Ms x M (by simpa using h)]
 | [], _ :: _, _, _, h => by simp at h
 | _ :: _, [], _, _, h => by simp at h
theorem ecells_at : ∀ (xs : List EV) (Ms : List Value) (i j : Nat) (x : EV) (M : Value), Ms.length = xs.length → xs[i]? = some x → Ms[i]? = some M → j < 6 → (ecells xs Ms)[i * 6 + j]? = (evCells x M)[j]?
 | [], _, i, j, x, M, _, h, _, _ => by simp at h
 | a :: xs, [], i, j, x, M, h, _, _, _ => by simp at h
 | a :: xs, b :: Ms, 0, j, x, M, h, hx, hM, hj => by
  simp only [List.getElem?_cons_zero, Option.some.injEq] at hx hM
  subst hx hM
  rw [Nat.zero_mul, Nat.zero_add, ecells, List.getElem?_append_left (by show j < 6; exact hj)]
 | a :: xs, b :: Ms, i + 1, j, x, M, h, hx, hM, hj => by
  simp only [List.getElem?_cons_succ] at hx hM
  rw [ecells, List.getElem?_append_right (by show 6 ≤ _; omega)]
  show (ecells xs Ms)[(i + 1) * 6 + j - 6]? = _
  rw [show (i + 1) * 6 + j - 6 = i * 6 + j by omega]
  exact ecells_at xs Ms i j x M (by simpa using h) hx hM hj

/-- The slice value v is the call's own row of events. -/
def OwnE (w : World) (base : Nat) (v : Value) (xs : List EV) : Prop := ∃ Ms : List Value, Ms.length = xs.length ∧ w.ownsRow base 32 6 v xs.length (ecells xs Ms) ∧ ∀ (i : Nat) (M : Value) (ev : EV), Ms[i]? = some M → xs[i]? = some ev → MetsAt w M ev.met
theorem ownE_nil (w : World) (base : Nat) : OwnE w base (.slice none 0 0) [] := ⟨[], rfl, World.ownsRow_nil w base 32 6, fun i M ev h => by simp at h⟩
theorem OwnE.km {w w' : World} {base : Nat} {v : Value} {xs : List EV} (h : OwnE w base v xs) (hk : Km w w') (hv : ∀ b, v.ownBlock = some b → w'.heap[b]? = w.heap[b]?) : OwnE w' base v xs := by
 obtain ⟨Ms, h1, ⟨h2, h3⟩, h4⟩ := h
 refine ⟨Ms, h1, ⟨h2, ?_⟩, fun i M ev hM hx => (h4 i M ev hM hx).km hk⟩
 rcases h3 with h3 | ⟨g, cap, cur, rfl, q1, q2, q3⟩
 ·exact .inl h3
 ·exact .inr ⟨g, cap, cur, rfl, q1, (hv g rfl).trans q2, q3⟩
theorem OwnE.below {w w' : World} {base : Nat} {v : Value} {xs : List EV} (h : OwnE w base v xs) (hb : RowKit.Below w.heap.size w w') : OwnE w' base v xs := by
 refine h.km (Km.below hb) fun b hv => ?_
 obtain ⟨Ms, h1, h2, h4⟩ := h
 exact hb.block b (World.ownsRow.lt h2 b hv).2
theorem OwnE.lt {w : World} {base : Nat} {v : Value} {xs : List EV} (h : OwnE w base v xs) {b : Nat} (hv : v.ownBlock = some b) : base ≤ b ∧ b < w.heap.size := by
 obtain ⟨Ms, h1, h2, h4⟩ := h
 exact World.ownsRow.lt h2 b hv

theorem info32b : (Tryz.prog.info? 32).map (fun i => (i.zero, i.size, i.bytes)) = some (some (.agg #[.int .i64 0, .int .i64 0, .int .i64 0, .slice none 0 0, .int .i64 0, .int .i64 0]), 6, 64) := by kernel_rfl
theorem ecells_one {w : World} : ∀ (xs : List EV) (Ms : List Value), (∀ (i : Nat) (M : Value) (ev : EV), Ms[i]? = some M → xs[i]? = some ev → MetsAt w M ev.met) → ∀ u ∈ ecells xs Ms, u.oneCell' = true
 | [], Ms, _, u, hu => by simp [ecells] at hu
 | x :: xs, [], _, u, hu => by simp [ecells] at hu
 | x :: xs, M :: Ms, h, u, hu => by
  rw [ecells, List.mem_append] at hu
  rcases hu with hu | hu
  ·have hM := (h 0 M x rfl rfl).one
   simp only [evCells, List.mem_cons, List.not_mem_nil, or_false] at hu
   rcases hu with rfl | rfl | rfl | rfl | rfl | rfl <;> first | rfl | exact hM
  ·exact ecells_one xs Ms (fun i M ev h1 h2 => h (i + 1) M ev h1 h2) u hu
/-- an event put behind a row -/
theorem run_append_event (w : World) (ty : TypeId) (base : Nat) (v : Value) (xs : List EV) (hown : OwnE w base v xs) (ad : Addr) (c : Nat) (x : EV) (M : Value) (hM : MetsAt w M x.met)
  (hnews : ∀ j u, (evCells x M)[j]? = some u → w.cell? (ad.add j) = some u) (hb : xs.length + 1 ≤ 200000) (hbase : base ≤ w.heap.size) :
  ∃ v' w', (Builtin.append_ #[25, 25] ty #[v, .slice (some ad) 1 c]).run Tryz.prog w = .ok v' w' ∧ OwnE w' base v' (xs ++ [x]) ∧ w.grownBy w' v.ownBlock ∧ (v'.ownBlock = v.ownBlock ∨ v'.ownBlock = some w.heap.size) := by
 obtain ⟨Ms, g1, g2, g3⟩ := hown
 obtain ⟨i0, hi, hz0, hz1, hz2⟩ := info_parts info32b
 have h1 : ∀ u ∈ evCells x M, u.oneCell' = true := fun u hu => by
  have hm := hM.one
  simp only [evCells, List.mem_cons, List.not_mem_nil, or_false] at hu
  rcases hu with rfl | rfl | rfl | rfl | rfl | rfl <;> first | rfl | exact hm
 obtain ⟨v', w', q1, q2, q3, _, q5⟩ := run_append_own_at (P := Tryz.prog) w base 25 ty 32 i0 _ 6 64 Tryz.underlying25 hi hz0 hz1 hz2 rfl (by decide) v xs.length _ g2 ad 1 c (evCells x M) rfl hnews h1 (by unfold maxLen; omega) (by omega) hbase
 have hk : Km w w' := fun k cc t fz ht hk => by
  refine q3.block k (Array.getElem?_eq_some_iff.1 hk).1 (fun e => ?_)
  rcases g2.2 with ⟨h0, _⟩ | ⟨b, cap, cur, h0, _, h2, _⟩
  ·rw [h0] at e; cases e
  ·rw [h0] at e
   have e := Option.some.inj e
   subst e
   rw [h2] at hk
   cases hk
   exact absurd ht (by decide)
 refine ⟨v', w', q1, ⟨Ms ++ [M], by simp [g1], by rw [List.length_append, ecells_append _ _ _ _ g1]; exact q2, fun i M' ev h1 h2 => ?_⟩, q3, q5⟩
 rcases Nat.lt_or_ge i xs.length with h | h
 ·rw [List.getElem?_append_left (by omega)] at h1
  rw [List.getElem?_append_left h] at h2
  exact (g3 i M' ev h1 h2).km hk
 ·rw [List.getElem?_append_right (by omega)] at h1
  rw [List.getElem?_append_right h] at h2
  have e1 : i - xs.length = 0 := by
   rcases Nat.eq_zero_or_pos (i - xs.length) with e | e
   ·exact e
   ·rw [List.getElem?_eq_none (by simp; omega)] at h2; cases h2
  rw [e1] at h2
  rw [g1, e1] at h1
  cases h1
  cases h2
  exact hM.km hk
end Go.Eng
namespace Go.Eng
set_option maxRecDepth 100000
open Go Go.Proofs Go.RowKit Go.Shelf Go.Proofs.YtngmgpmkjdacaaaGreatDoor
attribute [local go_sem] Oper.semAt_some

theorem text_any (p : Nat) (b : Value) (hb : b.oneCell' = true) (w : World) : Calls Tryz.prog 28 #[.pointer (some ⟨p, 0, none⟩), b] w fun e w' => e = .returned (.func (.func 51) #[] #[.pointer (some ⟨w.heap.size, 0, none⟩), .pointer (some ⟨w.heap.size + 1, 0, none⟩)]) ∧
  w' = (w.alloc (.cells #[.pointer (some ⟨p, 0, none⟩)] 50)).alloc (.cells #[b] 22) := by
 cases b <;> first | (cases hb; done) | skip
 all_goals
  go_enter Tryz.func28, Tryz.ntmps28
  go_wp2
  go_ret
  exact ⟨by simp, rfl⟩

/-- what stands as a session is fed -/
structure FeedE (w : World) (g o n : Nat) (pre : List XE) (W : World) : Prop where
 out : ∃ v, W.heap[o]? = some (.cells #[v] 25 (0, 0)) ∧ (pre = [] → v = .slice none 0 0) ∧ OwnE W w.heap.size v (pre.map (·.ev)) ∧ (∀ b, v.ownBlock = some b → n ≤ b ∧ b ≠ o)
 grown : w.grownBy W (some g)

theorem heap_putObj_row {W : World} {l : Nat} {o o' : Obj} (hl : W.heap[l]? = some o) (hc : o.isCells = false) {k : Nat} {c : Array Value} {t : TypeId} {fz : Nat × Nat} (h : W.heap[k]? = some (.cells c t fz)) : (W.putObj l o').heap[k]? = W.heap[k]? := by
 refine World.putObj_heap_other fun e => ?_
 subst e
 rw [hl] at h
 cases h
 cases hc
theorem Km.putObj {W : World} {l : Nat} {o : Obj} (hl : W.heap[l]? = some o) (hc : o.isCells = false) (o' : Obj) : Km W (W.putObj l o') := fun k c t fz _ hk => heap_putObj_row hl hc hk
theorem EvAt.km {w w' : World} {V : Value} {ev : EV} (h : EvAt w V ev) (hk : Km w w') : EvAt w' V ev := by
 obtain ⟨M, h1, h2⟩ := h
 exact ⟨M, h1, h2.km hk⟩
theorem wpListIn_run {P : Program} {l n : Nat} {ops : Array Oper} {rest : List Oper} {o : Oper} {a : Act} {w : World} {Q : Exit → Act → World → Prop} (hg : o.guard = none) (hd : ∀ c, o.op ≠ .defer c)
  (h : o.wp P a w (fun a' w' => wpListIn (Fence.wide.inRound l) n P ops Q rest a' w') Q) : wpListIn (Fence.wide.inRound l) n P ops Q (o :: rest) a w := by
 unfold wpListIn
 rw [if_pos (by simp [Region.wanted, hg])]
 exact oper_round hd h
theorem OwnE.slice {w : World} {base : Nat} {v : Value} {xs : List EV} (h : OwnE w base v xs) : ∃ A c, v = .slice A xs.length c := by
 obtain ⟨Ms, _, g2, _⟩ := h
 rcases g2.2 with ⟨h0, h1⟩ | ⟨b', cap, cur, h0, _, _, _⟩
 ·exact ⟨_, _, by rw [h0, h1]⟩
 ·exact ⟨_, _, h0⟩
theorem MetsAt.slice {w : World} {M : Value} {met : Option Value} (h : MetsAt w M met) : ∃ A n c, M = .slice A n c := by
 cases met with
 | none => exact ⟨_, _, _, h⟩
 | some out =>
  obtain ⟨g, cs, h1, _⟩ := h
  exact ⟨_, _, _, h1⟩
theorem XOk.km {pre : List XE} {x : XE} {W W' : World} (h : XOk pre x W) (hk : Km W W') : XOk pre x W' := ⟨EvAt.km h.1 hk, h.2⟩
/-- an event in its box -/
def BoxE (x : XE) (b : Nat) (W : World) : Prop := ∃ M, x.V = .agg (List.toArray (evCells x.ev M)) ∧ W.heap[b]? = some (.cells (List.toArray (evCells x.ev M)) 32 (0, 0)) ∧ MetsAt W M x.ev.met
theorem BoxE.putObj {x : XE} {b : Nat} {W : World} {l : Nat} {o : Obj} (h : BoxE x b W) (hl : W.heap[l]? = some o) (hc : o.isCells = false) (o' : Obj) : BoxE x b (W.putObj l o') := by
 obtain ⟨M, h1, h2, h3⟩ := h
 exact ⟨M, h1, (heap_putObj_row hl hc h2).trans h2, h3.km (Km.putObj hl hc o')⟩
theorem FeedE.other {w : World} {g o n : Nat} {pre : List XE} {X Y : World} {row : Option Nat} (h : FeedE w g o n pre X) (hg : X.grownBy Y row) (hr : ∀ r, row = some r → w.heap.size ≤ r ∧ ∃ o : Obj, X.heap[r]? = some o ∧ o.isCells = false) : FeedE w g o n pre Y := by
 have hrow : ∀ (k : Nat) (c : Array Value) (t : TypeId) (fz : Nat × Nat), X.heap[k]? = some (.cells c t fz) → Y.heap[k]? = X.heap[k]? := fun k c t fz hk => hg.block k (Array.getElem?_eq_some_iff.1 hk).1 (fun e => by
  obtain ⟨_, q, h1, h2⟩ := hr k e.symm
  rw [hk] at h1
  cases h1
  cases h2)
 obtain ⟨v, h1, h2, h3, h4⟩ := h.out
 refine ⟨⟨v, (hrow o _ _ _ h1).trans h1, h2, h3.km (fun k c t fz _ hk => hrow k c t fz hk) fun b hv => ?_, h4⟩, ?_⟩
 ·obtain ⟨Ms, _, g2, _⟩ := h3
  rcases g2.2 with ⟨h0, _⟩ | ⟨b', cap, cur, h0, _, g3, _⟩
  ·rw [h0] at hv; cases hv
  ·rw [h0] at hv
   have e := Option.some.inj hv
   subst e
   exact hrow _ _ _ _ g3
 ·refine ⟨hg.os.trans h.grown.os, hg.tape.trans h.grown.tape, hg.output.trans h.grown.output, Nat.le_trans h.grown.size hg.size, fun k hk hne => ?_⟩
  refine (hg.block k (Nat.lt_of_lt_of_le hk h.grown.size) (fun e => ?_)).trans (h.grown.block k hk hne)
  have := (hr k e.symm).1
  omega
theorem FeedE.turn {w : World} {g o n : Nat} {X X' : World} (h : FeedE w g o n [] X) (hg : X.grownBy X' (some g)) (hne : o ≠ g) : FeedE w g o n [] X' := by
 obtain ⟨v, h1, h2, h3, h4⟩ := h.out
 have e := h2 rfl
 subst e
 refine ⟨⟨_, (hg.block o (Array.getElem?_eq_some_iff.1 h1).1 (fun e => hne (Option.some.inj e))).trans h1, fun _ => rfl, ownE_nil _ _, fun b e => by cases e⟩, ?_⟩
 exact ⟨hg.os.trans h.grown.os, hg.tape.trans h.grown.tape, hg.output.trans h.grown.output, Nat.le_trans h.grown.size hg.size, fun k hk hne => (hg.block k (Nat.lt_of_lt_of_le hk h.grown.size) hne).trans (h.grown.block k hk hne)⟩
theorem FeedE.young {w : World} {g o n m : Nat} {X : World} (h : FeedE w g o n [] X) : FeedE w g o m [] X := by
 obtain ⟨v, h1, h2, h3, h4⟩ := h.out
 have e := h2 rfl
 subst e
 exact ⟨⟨_, h1, fun _ => rfl, ownE_nil _ _, fun b e => by cases e⟩, h.grown⟩

set_option maxHeartbeats 4000000 in
theorem sfeed_any {w : World} {p g m fr : Nat} {fmt : Int} {cur : List Int} {O : Option Addr} {co : Nat} {A0 : Option Addr} {n0 c0 : Nat} {l0 : List Int} {rd : LV → Value} (hW : Go.Eng.W w) (hp : SessAt w p g fmt false)
  (h : IsFr w g m (fr + cur.length) fr cur false O co) (hs : Sl w A0 n0 l0) (ht : Tidy A0 c0) (hc : n0 ≤ c0) (hA : ∀ ad, A0 = some ad → ad.block ≠ g) (hA2 : ∀ ad, A0 = some ad → ad.block < w.heap.size)
  (hO : ∀ ad, O = some ad → ad.block < w.heap.size) (hb : fr + cur.length + n0 ≤ 99000) (hOp : ∀ ad, O = some ad → ad.block ≠ p)
  (hrd : ∀ x ∈ lin m fr cur l0, x.long = false → FnT 88 [.string (strOfNums x.t), .int .i64 fmt] (rd x)) :
  Calls Tryz.prog 14 #[.pointer (some ⟨p, 0, none⟩), .slice A0 n0 c0] w fun e w' => ∃ v, e = .returned (.tuple #[v, .int .i64 0]) ∧ OwnE w' w.heap.size v (evsOf rd (lin m fr cur l0)) ∧ SessAt w' p g fmt false ∧
   (∃ O co, IsFr w' g m ((fin fr cur l0).1 + (fin fr cur l0).2.length) (fin fr cur l0).1 (fin fr cur l0).2 false O co ∧ ∀ ad, O = some ad → ad.block < w'.heap.size ∧ ad.block ≠ p) ∧ w.grownBy w' (some g) := by
 refine (callsIn_wide (n := 3)).1 ?_
 have p3 : w.cell? ⟨p, 3, none⟩ = some (.func (.func 28) #[.pointer (some ⟨p, 0, none⟩)] #[]) := by rw [cell_of_row _ _ _ _ _ _ hp]; rfl
 have p4 : w.cell? ⟨p, 4, none⟩ = some (.bool false) := by rw [cell_of_row _ _ _ _ _ _ hp]; rfl
 have p5 : w.cell? ⟨p, 5, none⟩ = some (.bool false) := by rw [cell_of_row _ _ _ _ _ _ hp]; rfl
 have hb0 : RowKit.Below w.heap.size w (w.alloc (.cells #[.slice none 0 0] 25)) := (Below.refl _ w).alloc (Nat.le_refl _) _
 have p3' : (w.alloc (.cells #[.slice none 0 0] 25)).cell? ⟨p, 3, none⟩ = some (.func (.func 28) #[.pointer (some ⟨p, 0, none⟩)] #[]) := by rw [cell_of_row _ _ _ _ _ _ ((hb0.block p (Array.getElem?_eq_some_iff.1 hp).1).trans hp)]; rfl
 have HP := hidden hp
 have HF := hidden h
 have HS := hidden hs
 have HB0 := hidden hb0
 clear hp h hs hb0
 refine callsIn_of_wp_marks Tryz.func14 rfl trivial ?_ rfl
 simp only [Tryz.ntmps14, List.size_toArray, List.length_cons, List.length_nil, Nat.reduceAdd, Nat.reduceSub, Array.replicate_succ, Array.replicate_zero, List.push_toArray, List.append_toArray, List.nil_append, List.cons_append]
 gi_wp2_with fail
 refine ⟨trivial, (callsIn_wide.2 (text_any p _ rfl _)).mono ?_⟩
 rintro e w1 ⟨rfl, hw1⟩
 obtain ⟨o, ho⟩ : ∃ o, o = w.heap.size := ⟨_, rfl⟩
 have hsz : w1.heap.size = o + 3 := by rw [hw1, ho]; simp
 have hbW : RowKit.Below w.heap.size w w1 := by rw [hw1]; exact ((HB0.out).alloc (by simp) _).alloc (by simp; omega) _
 have ro : w1.heap[o]? = some (.cells #[.slice none 0 0] 25 (0, 0)) := by
  rw [hw1, ho]
  exact (Below.heap_alloc _ _ _ (by simp only [World.size_alloc]; omega)).trans ((Below.heap_alloc _ _ _ (by simp only [World.size_alloc]; omega)).trans (heap_alloc_new _ _))
 have rs : w1.heap[o + 1]? = some (.cells #[.pointer (some ⟨p, 0, none⟩)] 50 (0, 0)) := by
  rw [hw1, ho]
  refine (Below.heap_alloc _ _ _ (by simp only [World.size_alloc]; omega)).trans ?_
  have := heap_alloc_new (w.alloc (.cells #[.slice none 0 0] 25)) (.cells #[.pointer (some ⟨p, 0, none⟩)] 50)
  rwa [World.size_alloc] at this
 have rb : w1.heap[o + 2]? = some (.cells #[.slice A0 n0 c0] 22 (0, 0)) := by
  rw [hw1, ho]
  have := heap_alloc_new ((w.alloc (.cells #[.slice none 0 0] 25)).alloc (.cells #[.pointer (some ⟨p, 0, none⟩)] 50)) (.cells #[.slice A0 n0 c0] 22)
  rwa [World.size_alloc, World.size_alloc] at this
 have hgl := HF.out.lt
 have hpl := (Array.getElem?_eq_some_iff.1 HP.out).1
 have hseq := text_seq (w := w1) (o := o) (cs := o + 1) (cb := o + 2) (rd := rd) (hW.below hbW) ((hbW.block p hpl).trans HP.out) rs rb (HF.out.below hbW) (HS.out.below hbW) ht hc hA (fun ad e => Nat.lt_of_lt_of_le (hA2 ad e) hbW.size) (fun ad e => Nat.lt_of_lt_of_le (hO ad e) hbW.size) hb
  ⟨by omega, by omega, by omega, by omega⟩ (fun ad e => by have := hO ad e; omega) hOp (by omega) ⟨by have := hW.1.lt; omega, by have := hW.2.lt; omega⟩ hrd
 have hstart : FeedE w g o 0 [] w1 := ⟨⟨_, ro, fun _ => rfl, ownE_nil _ _, fun b e => by cases e⟩, grown_below hbW⟩
 have HW1 := hidden hw1
 have HSQ := hidden hseq
 have HST := hidden hstart
 have HBW := hidden hbW
 have HR := hidden (And.intro ro (And.intro rs rb))
 clear hw1 hseq hstart ro rs rb p3 p4 p5 p3' hbW
 simp only [World.size_alloc]
 rw [show w.heap.size + 1 + 1 = w.heap.size + 2 from rfl, ← ho]
 have hgo : g < o := by omega
 have hgw1 : g < w1.heap.size := by omega
 have HOo := hidden ho
 clear ho
 gi_wp2_with fail
 refine wpIn_rangeFunc_fr (gf := 51) rfl (enters_of Tryz.func51 (by kernel_rfl) rfl) HSQ.out hgw1 (Below.refl _ _) (fun _ => rfl) ?ok ?sk (fun n pre W => FeedE w g o n pre W) ?own ?ic ?inn HST.out
  (fun x b => { tmps := #[.pointer (some ⟨p, 0, none⟩), .slice A0 n0 c0, undef, undef, .slice none 0 0, .int .i64 0, .pointer (some ⟨o, 0, none⟩), .pointer (some ⟨b, 0, none⟩), .bool false, .pointer (some ⟨p, 0, none⟩), .bool false, .bool false, .pointer (some ⟨p, 0, none⟩), .pointer (some ⟨p, 0, none⟩), .pointer (some ⟨p, 4, none⟩), .bool false, .bool false, .pointer (some ⟨p, 0, none⟩), .pointer (some ⟨p, 0, none⟩), .pointer (some ⟨p, 5, none⟩), .bool false, .bool false, .pointer (some ⟨p, 0, none⟩), .pointer (some ⟨p, 0, none⟩), .pointer (some ⟨p, 3, none⟩), .func (.func 28) #[.pointer (some ⟨p, 0, none⟩)] #[], .slice A0 n0 c0, .func (.func 51) #[] #[.pointer (some ⟨o + 1, 0, none⟩), .pointer (some ⟨o + 2, 0, none⟩)], x.V, undef, undef, undef, undef, undef, undef, undef, undef, undef, undef, undef, undef, undef, undef], defers := [] }) BoxE ?okb ?bk ?assign ?body ?done
 case ok => exact fun pre x W l o o' hx hl hc => hx.km (Km.putObj hl hc o')
 case okb => exact fun pre x W W' hx hb => hx.km (Km.below hb)
 case bk => exact fun x b W l o o' hx hl hc => hx.putObj hl hc o'
 case sk => exact fun xs W l o o' hx hl hc => ⟨hx.1, (heap_putObj_row hl hc hx.2.1).trans hx.2.1, by
  obtain ⟨O, co, h1, h2⟩ := hx.2.2
  exact ⟨O, co, h1.other (grownBy_putObj' W l o') (fun r e => by cases e; exact ⟨o, hl, hc⟩), fun ad e => by have := h2 ad e; simpa [World.putObj] using this⟩⟩
 case own => exact fun n s X Y row hx hg hr => hx.other hg (fun r e => ⟨by have := (hr r e).1; have := HBW.out.size; omega, (hr r e).2⟩)
 case ic => exact fun n X X' hx hg => hx.turn hg (by omega)
 case inn => exact fun n m X hx hm => hx.young
 case assign =>
  intro l pre x W K hok hK
  obtain ⟨⟨M, hV, hM⟩, _⟩ := hok
  have hk := hK (W.alloc (.cells (List.toArray (evCells x.ev M)) 32)) ((Below.refl _ W).alloc (Nat.le_refl _) _) ⟨M, hV, heap_alloc_new W _, hM.km (Km.below ((Below.refl _ W).alloc (Nat.le_refl _) _))⟩
  obtain ⟨MA, Mn, Mc, rfl⟩ := hM.slice
  rw [hV] at hk
  simp only [evCells] at hk hV
  simp only [XE.enc, hV]
  clear hK hV
  have HM := hidden hM
  clear hM
  have HK := hidden hk
  clear hk
  gi_wp2
  exact HK.out
 case body =>
  rintro l n pre x b W hF hn hok ⟨M, hV, hbx, hM⟩
  obtain ⟨v, r1, r2, r3, r4⟩ := hF.out
  obtain ⟨MA, Mn, Mc, rfl⟩ := hM.slice
  obtain ⟨VA, Vc, rfl⟩ := r3.slice
  have ov : W.cell? ⟨o, 0, none⟩ = some (.slice VA (pre.map (·.ev)).length Vc) := by rw [cell_of_row _ _ _ _ _ _ r1]; rfl
  have hbs : RowKit.Below W.heap.size W (W.alloc (.cells (List.toArray (evCells x.ev (.slice MA Mn Mc))) 32)) := (Below.refl _ W).alloc (Nat.le_refl _) _
  have hrow := heap_alloc_new W (.cells (List.toArray (evCells x.ev (.slice MA Mn Mc))) 32)
  have hwW : w.heap.size ≤ W.heap.size := hF.grown.size
  have hlen : (pre.map (·.ev)).length + 1 ≤ 200000 := by rw [List.length_map]; have := hok.2; omega
  obtain ⟨v', W', q1, q2, q3, q4⟩ := run_append_event (W.alloc (.cells (List.toArray (evCells x.ev (.slice MA Mn Mc))) 32)) 25 w.heap.size _ _ (r3.below hbs) ⟨W.heap.size, 0, none⟩ 1 x.ev _ (hM.km (Km.below hbs)) (fun j u hj => by
   rw [show (⟨W.heap.size, 0, none⟩ : Addr).add j = ⟨W.heap.size, j, none⟩ by unfold Addr.add; by_cases h0 : j = 0 <;> simp [h0], cell_of_row _ _ _ _ _ _ hrow]
   simpa using hj) hlen (Nat.le_trans hwW hbs.size)
  simp only [evCells, List.length_map] at q1
  have hko : W'.heap[o]? = W.heap[o]? := (q3.block o (by have := hbs.size; have := (Array.getElem?_eq_some_iff.1 r1).1; omega) (fun e => (r4 o e.symm).2 rfl)).trans (hbs.block o (Array.getElem?_eq_some_iff.1 r1).1)
  have ro' := hko.trans r1
  obtain ⟨VA', Vc', rfl⟩ := q2.slice
  have ov' : W'.cell? ⟨o, 0, none⟩ = some (.slice VA (pre.map (·.ev)).length Vc) := by rw [cell_of_row _ _ _ _ _ _ ro']; rfl
  have of' := frozen_of_row W' o 0 _ 25 ro'
  have HRO := hidden ro'
  clear ro' hko
  rw [List.length_map] at ov'
  rw [List.length_map] at ov
  have e0 : W.cell? ⟨b, 0, none⟩ = some (.int .i64 x.ev.kind) := by rw [cell_of_row _ _ _ _ _ _ hbx]; rfl
  have e1 : W.cell? ⟨b, 1, none⟩ = some (.int .i64 x.ev.a) := by rw [cell_of_row _ _ _ _ _ _ hbx]; rfl
  have e2 : W.cell? ⟨b, 2, none⟩ = some (.int .i64 x.ev.b) := by rw [cell_of_row _ _ _ _ _ _ hbx]; rfl
  have e3 : W.cell? ⟨b, 3, none⟩ = some (.slice MA Mn Mc) := by rw [cell_of_row _ _ _ _ _ _ hbx]; rfl
  have e4 : W.cell? ⟨b, 4, none⟩ = some (.int .i64 x.ev.code) := by rw [cell_of_row _ _ _ _ _ _ hbx]; rfl
  have e5 : W.cell? ⟨b, 5, none⟩ = some (.int .i64 x.ev.pos) := by rw [cell_of_row _ _ _ _ _ _ hbx]; rfl
  have HV := hidden hV
  have HF2 := hidden hF
  have HQ := hidden (And.intro q2 (And.intro q3 (And.intro q4 hbs)))
  clear q2 q3 q4 hbs hrow hwW hlen
  have HR4 := hidden (And.intro r1 (And.intro r2 (And.intro r3 (And.intro r4 (And.intro hM hbx)))))
  clear hV hF r1 r2 r3 r4 hM hbx hok
  gi_wp2_with (gi_at_builtin; refine wpListIn_run rfl (fun c h => by cases h) (wp_append_run rfl rfl rfl q1 ?_); clear q1)
  obtain ⟨r1, r2, r3, r4, hM, hbx⟩ := HR4.out
  obtain ⟨q2, q3, q4, hbs⟩ := HQ.out
  have hF := HF2.out
  have hoW : o < W.heap.size := (Array.getElem?_eq_some_iff.1 r1).1
  have hOo := HOo.out
  have hsA : (W.alloc (.cells (List.toArray (evCells x.ev (.slice MA Mn Mc))) 32)).heap.size = W.heap.size + 1 := by simp
  have hro := HRO.out
  obtain ⟨Z, hZ⟩ : ∃ Z, Z = W'.setCell ⟨o, 0, none⟩ (.slice VA' (pre.length + 1) Vc') := ⟨_, rfl⟩
  rw [← hZ]
  have z1 : Z.heap[o]? = some (.cells #[.slice VA' (pre.length + 1) Vc'] 25 (0, 0)) := by
   rw [hZ]
   exact heap_setCell_same _ o 0 _ 25 (.slice VA' (pre.length + 1) Vc') hro
  have z2 : ∀ k, k ≠ o → Z.heap[k]? = W'.heap[k]? := fun k hk => by rw [hZ]; exact heap_setCell_other _ _ _ _ hk
  have zs : Z.heap.size = W'.heap.size := by rw [hZ]; simp [World.setCell]
  have zg : Z.os = W'.os ∧ Z.tape = W'.tape ∧ Z.output = W'.output := by rw [hZ]; exact ⟨rfl, rfl, rfl⟩
  clear hZ hro
  have hkeep : ∀ k, k < W.heap.size → k ≠ o → (∀ b, (Value.slice VA (pre.map (·.ev)).length Vc).ownBlock = some b → k ≠ b) → Z.heap[k]? = W.heap[k]? := fun k hk h1 h2 => by
   rw [z2 k h1]
   exact (q3.block k (by rw [hsA]; omega) (fun e => h2 k e.symm rfl)).trans (hbs.block k hk)
  have hsz : W.heap.size ≤ Z.heap.size := by rw [zs]; exact Nat.le_trans hbs.size q3.size
  have hv4 : ∀ b, (Value.slice VA' (pre.length + 1) Vc').ownBlock = some b → n ≤ b ∧ b ≠ o := fun b hb => by
   rw [List.length_append, List.length_singleton, List.length_map] at q4
   rcases q4 with e | e
   ·rw [e] at hb
    exact r4 b (by rw [List.length_map]; exact hb)
   ·rw [e] at hb
    have := Option.some.inj hb
    rw [hsA] at this
    exact ⟨by omega, by omega⟩
  have hown : OwnE Z w.heap.size (.slice VA' (pre.length + 1) Vc') ((pre ++ [x]).map (·.ev)) := by
   rw [List.map_append]
   rw [List.length_append, List.length_singleton, List.length_map] at q2
   refine q2.km (fun k c t fz ht hk => z2 k (fun e => ?_)) fun b hb => z2 b (hv4 b hb).2
   subst e
   have := HRO.out
   rw [hk] at this
   cases this
   exact absurd ht (by decide)
  refine ⟨⟨hsz, fun k ob hB hk hob => ?_⟩, ⟨hsz, fun k c t fz hk hko hc => ?_⟩, ⟨⟨_, z1, fun e => by simp at e, hown, hv4⟩, ?_⟩⟩
  ·rw [hkeep k (Array.getElem?_eq_some_iff.1 hk).1 (fun e => by subst e; rw [r1] at hk; cases hk; cases hob) (fun b hb e => by
    subst e
    obtain ⟨Ms, _, g2, _⟩ := r3
    rcases g2.2 with ⟨h0, _⟩ | ⟨b', cap, cur, h0, _, g3, _⟩
    ·rw [h0] at hb; cases hb
    ·rw [h0] at hb
     have e := Option.some.inj hb
     subst e
     rw [g3] at hk
     cases hk
     cases hob)]
   exact hk
  ·exact hkeep k (Array.getElem?_eq_some_iff.1 hc).1 hko (fun b hb e => by have := (r4 b hb).1; omega)
  ·have hg := hF.grown
   have hq3 := q3
   refine ⟨zg.1.trans (hq3.os.trans (hbs.os.trans hg.os)), zg.2.1.trans (hq3.tape.trans (hbs.tape.trans hg.tape)), zg.2.2.trans (hq3.output.trans (hbs.output.trans hg.output)), Nat.le_trans hg.size hsz, fun k hk hne => ?_⟩
   refine (hkeep k (Nat.lt_of_lt_of_le hk hg.size) (by omega) (fun b hb e => ?_)).trans (hg.block k hk hne)
   have := (r3.lt hb).1
   omega
 case done =>
  rintro D n xs W hD ⟨hS1, hS2, hS3⟩ hF hK
  have hF2 := hF.other (grownBy_putObj' W D (.deferred none)) (fun r e => by cases e; exact ⟨by have := HBW.out.size; omega, _, hK, rfl⟩)
  obtain ⟨v, q1, q2, q3, q4⟩ := hF2.out
  obtain ⟨VA, Vc, rfl⟩ := q3.slice
  have r1 : W.heap[o]? = some (.cells #[.slice VA (xs.map (·.ev)).length Vc] 25 (0, 0)) := by
   obtain ⟨v1, p1, _⟩ := hF.out
   have := (heap_putObj_row (o' := .deferred none) hK rfl p1).trans p1
   rw [q1] at this
   cases this
   exact p1
  have ov : W.cell? ⟨o, 0, none⟩ = some (.slice VA (xs.map (·.ev)).length Vc) := by rw [cell_of_row _ _ _ _ _ _ r1]; rfl
  have p4 : W.cell? ⟨p, 4, none⟩ = some (.bool false) := by rw [cell_of_row _ _ _ _ _ _ hS2]; rfl
  have hfr : ∃ O co, IsFr (W.putObj D (.deferred none)) g m ((fin fr cur l0).1 + (fin fr cur l0).2.length) (fin fr cur l0).1 (fin fr cur l0).2 false O co ∧ ∀ ad, O = some ad → ad.block < (W.putObj D (.deferred none)).heap.size ∧ ad.block ≠ p := by
   obtain ⟨O, co, h1, h2⟩ := hS3
   exact ⟨O, co, h1.other (grownBy_putObj' W D (.deferred none)) (fun r e => by cases e; exact ⟨_, hK, rfl⟩), fun ad e => by have := h2 ad e; simpa [World.putObj] using this⟩
  rw [List.length_map] at q3
  rw [hS1] at q3
  have HE := hidden (And.intro q3 (And.intro ((heap_putObj_row (o' := .deferred none) hK rfl hS2).trans hS2) (And.intro hfr hF2.grown)))
  have HK := hidden hK
  clear q1 q2 q3 q4 hF hF2 hS1 hS2 hS3 hfr r1 hK
  rw [List.length_map] at ov
  gi_wp2
  refine ⟨by simp, .inl ⟨_, _, rfl, run_takeDeferred HK.out, ?_⟩⟩
  exact ⟨_, by simp [results, Tryz.results14, asAddr], _, rfl, HE.out.1, HE.out.2.1, HE.out.2.2.1, HE.out.2.2.2⟩
end Go.Eng
