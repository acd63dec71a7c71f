/-
 The library's strconv.Atoi at this program: the shelf's contracts, laid in plain words. strconv.Atoi: its number and whether it tells an error, by names. Contracts whose answers are new rows, as oracles: strings.Split, tag.Normal. Contracts as oracles: a function of plain values whose answer is not said, but for what its callers need. Contracts as oracles: they are true. What is said of the functions that a line's reading calls.
-/
import Derived.Shelf.Strconv.AtoiAll
import Derived.Test.YtngmgpmkjdacaaaGreatDoorProg
import Derived.Test.YtngmgpmkjdacaaaGreatDoorMGraph
import Derived.Lib.AtoiErrMem
import Derived.Lib.Split
import Derived.Lib.Strings
import Derived.Test.YtngmgpmkjdacaaaGreatDoorMIs
set_option linter.unusedSimpArgs false
set_option linter.unusedVariables false
namespace Go.Proofs.YtngmgpmkjdacaaaGreatDoor
open Go.Shelf Go.Proofs

set_option maxRecDepth 1000000
def atoiA_ren : Go.Shelf.Ren := ⟨fun | 172 => 267 | 244 => 289 | 245 => 290 | 247 => 297 | 279 => 298 | 280 => 299 | 281 => 300 | 282 => 301 | 287 => 302 | 316 => 303 | 171 => 157 | 205 => 304 | 321 => 305 | 322 => 306 | 243 => 207 | 246 => 256 | 283 => 250 | 284 => 251 | 285 => 252 | 286 => 253 | 129 => 236 | 317 => 279 | 318 => 280 | 319 => 281 | 320 => 282 | 337 => 293 | 338 => 294 | n => n, fun | 9 => 9 | 3 => 3 | 75 => 197 | 76 => 198 | 4 => 4 | 5 => 5 | 167 => 374 | 37 => 22 | 0 => 0 | 85 => 375 | 2 => 2 | 168 => 377 | 53 => 34 | 175 => 382 | 46 => 101 | 210 => 386 | 127 => 264 | 145 => 391 | 143 => 389 | 21 => 21 | 171 => 337 | 173 => 339 | 212 => 361 | 51 => 68 | 20 => 20 | 213 => 362 | 232 => 380 | 233 => 381 | 80 => 203 | n => n, fun | 15 => 6 | 16 => 7 | 17 => 1 | 18 => 4 | 19 => 5 | n => n⟩
theorem atoiA : Go.Proofs.LaysC.n172 Tryz.prog atoiA_ren :=
 {mixed := by kernel_rfl,
  f129 := Tryz.func236.trans (congrArg some (by kernel_rfl)),
  f171 := Tryz.func157.trans (congrArg some (by kernel_rfl)),
  f172 := Tryz.func267.trans (congrArg some (by kernel_rfl)),
  f205 := Tryz.func304.trans (congrArg some (by kernel_rfl)),
  f243 := Tryz.func207.trans (congrArg some (by kernel_rfl)),
  f244 := Tryz.func289.trans (congrArg some (by kernel_rfl)),
  f245 := Tryz.func290.trans (congrArg some (by kernel_rfl)),
  f246 := Tryz.func256.trans (congrArg some (by kernel_rfl)),
  f247 := Tryz.func297.trans (congrArg some (by kernel_rfl)),
  f279 := Tryz.func298.trans (congrArg some (by kernel_rfl)),
  f280 := Tryz.func299.trans (congrArg some (by kernel_rfl)),
  f281 := Tryz.func300.trans (congrArg some (by kernel_rfl)),
  f282 := Tryz.func301.trans (congrArg some (by kernel_rfl)),
  f283 := Tryz.func250.trans (congrArg some (by kernel_rfl)),
  f284 := Tryz.func251.trans (congrArg some (by kernel_rfl)),
  f285 := Tryz.func252.trans (congrArg some (by kernel_rfl)),
  f286 := Tryz.func253.trans (congrArg some (by kernel_rfl)),
  f287 := Tryz.func302.trans (congrArg some (by kernel_rfl)),
  f316 := Tryz.func303.trans (congrArg some (by kernel_rfl)),
  f317 := Tryz.func279.trans (congrArg some (by kernel_rfl)),
  f318 := Tryz.func280.trans (congrArg some (by kernel_rfl)),
  f319 := Tryz.func281.trans (congrArg some (by kernel_rfl)),
  f320 := Tryz.func282.trans (congrArg some (by kernel_rfl)),
  f321 := Tryz.func305.trans (congrArg some (by kernel_rfl)),
  f322 := Tryz.func306.trans (congrArg some (by kernel_rfl)),
  f337 := Tryz.func293.trans (congrArg some (by kernel_rfl)),
  f338 := Tryz.func294.trans (congrArg some (by kernel_rfl)),
  t0 := Tryz.underlying0,
  a0 := Tryz.isAgg0,
  z0 := Tryz.sizeOf0,
  v0 := Tryz.zeroValue0,
  t2 := Tryz.underlying2,
  a2 := Tryz.isAgg2,
  z2 := Tryz.sizeOf2,
  v2 := Tryz.zeroValue2,
  t3 := Tryz.underlying3,
  a3 := Tryz.isAgg3,
  z3 := Tryz.sizeOf3,
  v3 := Tryz.zeroValue3,
  t4 := Tryz.underlying4,
  a4 := Tryz.isAgg4,
  z4 := Tryz.sizeOf4,
  v4 := Tryz.zeroValue4,
  t5 := Tryz.underlying5,
  a5 := Tryz.isAgg5,
  z5 := Tryz.sizeOf5,
  v5 := Tryz.zeroValue5,
  t9 := Tryz.underlying9,
  a9 := Tryz.isAgg9,
  z9 := Tryz.sizeOf9,
  v9 := Tryz.zeroValue9,
  t20 := Tryz.underlying20,
  a20 := Tryz.isAgg20,
  z20 := Tryz.sizeOf20,
  v20 := Tryz.zeroValue20,
  t21 := Tryz.underlying21,
  a21 := Tryz.isAgg21,
  z21 := Tryz.sizeOf21,
  v21 := Tryz.zeroValue21,
  t37 := Tryz.underlying22,
  a37 := Tryz.isAgg22,
  z37 := Tryz.sizeOf22,
  v37 := Tryz.zeroValue22,
  t46 := Tryz.underlying101,
  a46 := Tryz.isAgg101,
  z46 := Tryz.sizeOf101,
  v46 := Tryz.zeroValue101,
  t51 := Tryz.underlying68,
  a51 := Tryz.isAgg68,
  z51 := Tryz.sizeOf68,
  v51 := Tryz.zeroValue68,
  t53 := Tryz.underlying34,
  a53 := Tryz.isAgg34,
  z53 := Tryz.sizeOf34,
  v53 := Tryz.zeroValue34,
  t75 := Tryz.underlying197,
  a75 := Tryz.isAgg197,
  z75 := Tryz.sizeOf197,
  v75 := Tryz.zeroValue197,
  t76 := Tryz.underlying198,
  a76 := Tryz.isAgg198,
  z76 := Tryz.sizeOf198,
  v76 := Tryz.zeroValue198,
  t85 := Tryz.underlying375,
  a85 := Tryz.isAgg375,
  z85 := Tryz.sizeOf375,
  v85 := Tryz.zeroValue375,
  t127 := Tryz.underlying264,
  a127 := Tryz.isAgg264,
  z127 := Tryz.sizeOf264,
  v127 := Tryz.zeroValue264,
  t143 := Tryz.underlying389,
  a143 := Tryz.isAgg389,
  z143 := Tryz.sizeOf389,
  v143 := Tryz.zeroValue389,
  t145 := Tryz.underlying391,
  a145 := Tryz.isAgg391,
  z145 := Tryz.sizeOf391,
  v145 := Tryz.zeroValue391,
  t167 := Tryz.underlying374,
  a167 := Tryz.isAgg374,
  z167 := Tryz.sizeOf374,
  v167 := Tryz.zeroValue374,
  t168 := Tryz.underlying377,
  a168 := Tryz.isAgg377,
  z168 := Tryz.sizeOf377,
  v168 := Tryz.zeroValue377,
  t171 := Tryz.underlying337,
  a171 := Tryz.isAgg337,
  z171 := Tryz.sizeOf337,
  v171 := Tryz.zeroValue337,
  t173 := Tryz.underlying339,
  a173 := Tryz.isAgg339,
  z173 := Tryz.sizeOf339,
  v173 := Tryz.zeroValue339,
  t175 := Tryz.underlying382,
  a175 := Tryz.isAgg382,
  z175 := Tryz.sizeOf382,
  v175 := Tryz.zeroValue382,
  t210 := Tryz.underlying386,
  a210 := Tryz.isAgg386,
  z210 := Tryz.sizeOf386,
  v210 := Tryz.zeroValue386,
  t212 := Tryz.underlying361,
  a212 := Tryz.isAgg361,
  z212 := Tryz.sizeOf361,
  v212 := Tryz.zeroValue361,
  t213 := Tryz.underlying362,
  a213 := Tryz.isAgg362,
  z213 := Tryz.sizeOf362,
  t232 := Tryz.underlying380,
  a232 := Tryz.isAgg380,
  z232 := Tryz.sizeOf380,
  v232 := Tryz.zeroValue380,
  t233 := Tryz.underlying381,
  a233 := Tryz.isAgg381,
  z233 := Tryz.sizeOf381,
  v233 := Tryz.zeroValue381,
  g15 := by kernel_rfl,
  g16 := by kernel_rfl,
  g17 := by kernel_rfl,
  g18 := by kernel_rfl,
  g19 := by kernel_rfl,
  t80 := Tryz.underlying203,
  a80 := Tryz.isAgg203,
  z80 := Tryz.sizeOf203,
  v80 := Tryz.zeroValue203,
  i0 := by kernel_rfl,
  i2 := by kernel_rfl,
  i3 := by kernel_rfl,
  i4 := by kernel_rfl,
  i5 := by kernel_rfl,
  i9 := by kernel_rfl,
  i20 := by kernel_rfl,
  i21 := by kernel_rfl,
  i37 := by kernel_rfl,
  i46 := by kernel_rfl,
  i51 := by kernel_rfl,
  i53 := by kernel_rfl,
  i75 := by kernel_rfl,
  i76 := by kernel_rfl,
  i80 := by kernel_rfl,
  i85 := by kernel_rfl,
  i127 := by kernel_rfl,
  i143 := by kernel_rfl,
  i145 := by kernel_rfl,
  i167 := by kernel_rfl,
  i168 := by kernel_rfl,
  i171 := by kernel_rfl,
  i173 := by kernel_rfl,
  i175 := by kernel_rfl,
  i210 := by kernel_rfl,
  i212 := by kernel_rfl,
  i232 := by kernel_rfl,
  i233 := by kernel_rfl,
  m15 := by kernel_rfl,
  m16 := by kernel_rfl,
  m17 := by kernel_rfl,
  m18 := by kernel_rfl,
  m19 := by kernel_rfl,
  c0 := by kernel_rfl,
  c2 := by kernel_rfl,
  c3 := by kernel_rfl,
  c4 := by kernel_rfl,
  c5 := by kernel_rfl,
  c9 := by kernel_rfl,
  c20 := by kernel_rfl,
  c21 := by kernel_rfl,
  c37 := by kernel_rfl,
  c46 := by kernel_rfl,
  c51 := by kernel_rfl,
  c53 := by kernel_rfl,
  c75 := by kernel_rfl,
  c76 := by kernel_rfl,
  c80 := by kernel_rfl,
  c85 := by kernel_rfl,
  c127 := by kernel_rfl,
  c143 := by kernel_rfl,
  c145 := by kernel_rfl,
  c167 := by kernel_rfl,
  c168 := by kernel_rfl,
  c171 := by kernel_rfl,
  c173 := by kernel_rfl,
  c175 := by kernel_rfl,
  c210 := by kernel_rfl,
  c212 := by kernel_rfl,
  c213 := by kernel_rfl,
  c232 := by kernel_rfl,
  c233 := by kernel_rfl }
end Go.Proofs.YtngmgpmkjdacaaaGreatDoor
namespace Go.Eng
open Go Go.Proofs

def atoiOk (a : Val) : Bool := match Lib.atoiAll a.toS with
 | .ok _ => true
 | _ => false
def atoiV (a : Val) : Int := match Lib.atoiAll a.toS with
 | .ok v => v
 | .range => Lib.atoiSat a.toS
 | _ => 0
def orcAtoi (dbg : Bool) : Orc1 := fun A H f args =>
 bif Nat.beq f 267 && (errAt H 6 && errAt H 7) then (match args with
  | [.sym s] => bif isStrK s.ty then need dbg A (.cmp 3 (.len s) (.ki .i64 1000000)) (match known A (.fn .bool 6 s (.ki .i64 0)) with
   | some true => some (.tup [.sym (.fn (.int .i64) 7 s (.ki .i64 0)), .at .nilIface])
   | some false => some (.tup [.sym (.fn (.int .i64) 7 s (.ki .i64 0)), .iface 377 .unk])
   | none => miss dbg (.fn .bool 6 s (.ki .i64 0))) else none
  | _ => none) else none

theorem err_cell {w : World} {k : Nat} (h : ErrAt w k) : ∃ pe, w.cell? ⟨k, 0, none⟩ = some (.iface 389 pe) := by
 obtain ⟨c, fz, pe, h1, h2⟩ := h
 exact ⟨pe, by simp [World.cell?, h1, h2]⟩
theorem kp_of_below {w w' : World} (h : RowKit.Below w.heap.size w w') : Kp (fun k => w.heap.size ≤ k) w w' :=
 ⟨h.tape, h.os, h.output, h.size, fun k hk _ => h.block k hk⟩

theorem atoi_calls (l : List UInt8) (hl : l.length ≤ 1000000) (w : World) (hW : W w) : Calls Tryz.prog 267 #[.string ⟨l.toArray⟩] w fun e w' =>
  ((atoiOk (.s l) = true ∧ e = .returned (.tuple #[.int .i64 (atoiV (.s l)), .nilIface])) ∨ (atoiOk (.s l) = false ∧ ∃ pe, e = .returned (.tuple #[.int .i64 (atoiV (.s l)), .iface 377 pe]))) ∧ Kp (fun k => w.heap.size ≤ k) w w' := by
 have hd : (ByteArray.mk l.toArray).data.toList = l := by simp
 have hs : (ByteArray.mk l.toArray).size = l.length := by simp [ByteArray.size]
 cases h : Lib.atoiAll l with
 | ok v =>
  have e1 : atoiOk (.s l) = true := by simp [atoiOk, Val.toS, h]
  have e2 : atoiV (.s l) = v := by simp [atoiV, Val.toS, h]
  refine (Any.strconv_Atoi_ok YtngmgpmkjdacaaaGreatDoor.atoiA ⟨l.toArray⟩ (by rw [hs]; omega) v (by rw [hd]; exact h) w).mono ?_
  rintro e w' ⟨rfl, hw⟩
  refine ⟨.inl ⟨e1, by rw [e2]⟩, ?_⟩
  rcases hw with rfl | ⟨t, rfl⟩
  ·exact Kp.refl _ _
  ·exact kp_of_below (Lib.bytesWorld_below _ _ _)
 | range =>
  have e1 : atoiOk (.s l) = false := by simp [atoiOk, Val.toS, h]
  have e2 : atoiV (.s l) = Lib.atoiSat l := by simp [atoiV, Val.toS, h]
  obtain ⟨pe, hc⟩ := err_cell hW.2
  refine (Any.strconv_Atoi_range YtngmgpmkjdacaaaGreatDoor.atoiA ⟨l.toArray⟩ (by rw [hs]; omega) (by rw [hd]; exact h) _ w hc (.inr ⟨_, _, rfl⟩)).mono ?_
  rintro e w' ⟨N, rfl, _, _, hb⟩
  exact ⟨.inr ⟨e1, _, by rw [e2, hd]; rfl⟩, kp_of_below hb⟩
 | _ =>
  have e1 : atoiOk (.s l) = false := by simp [atoiOk, Val.toS, h]
  have e2 : atoiV (.s l) = 0 := by simp [atoiV, Val.toS, h]
  obtain ⟨pe, hc⟩ := err_cell hW.1
  refine (Any.strconv_Atoi_syntax YtngmgpmkjdacaaaGreatDoor.atoiA ⟨l.toArray⟩ (by rw [hs]; omega) (by rw [hd]; exact h) _ w hc (.inr ⟨_, _, rfl⟩)).mono ?_
  rintro e w' ⟨N, rfl, _, _, hb⟩
  exact ⟨.inr ⟨e1, _, by rw [e2]; rfl⟩, kp_of_below hb⟩

theorem orcAtoi_is {F : Nat → Val → Val → Val} (h6 : F 6 = fun a _ => .b (atoiOk a)) (h7 : F 7 = fun a _ => .i (atoiV a)) : OrcIs1 F (orcAtoi false) := fun ι A hf hA H f args v h ρ own args' w hr hg hargs => by
 replace h : (bif Nat.beq f 267 && (errAt H 6 && errAt H 7) then (match args with
  | [.sym s] => bif isStrK s.ty then need false A (.cmp 3 (.len s) (.ki .i64 1000000)) (match known A (.fn .bool 6 s (.ki .i64 0)) with
   | some true => some (.tup [.sym (.fn (.int .i64) 7 s (.ki .i64 0)), .at .nilIface])
   | some false => some (.tup [.sym (.fn (.int .i64) 7 s (.ki .i64 0)), .iface 377 .unk])
   | none => miss false (.fn .bool 6 s (.ki .i64 0))) else none
  | _ => none) else none) = some v := h
 cases hm : (Nat.beq f 267 && (errAt H 6 && errAt H 7)) with
 | false => rw [hm] at h; cases h
 | true =>
  rw [hm] at h
  simp only [cond_true] at h
  rw [Bool.and_eq_true] at hm
  have hW := there_ok hr hg hm.2
  obtain rfl := Nat.eq_of_beq_eq_true hm.1
  split at h
  ·rename_i s
   cases hk : isStrK s.ty with
   | false => rw [hk] at h; cases h
   | true =>
    rw [hk] at h
    simp only [cond_true] at h
    obtain ⟨g1, h⟩ := need_inv hA h
    have g1 : ((s.eval ι).toS.length : Int) ≤ 1000000 := le_of g1
    have e1 : sg ι s = .string ⟨(s.eval ι).toS.toArray⟩ := by unfold sg; rw [isStrK_inv hk]; rfl
    have e7 : sg ι (.fn (.int .i64) 7 s (.ki .i64 0)) = .int .i64 (atoiV (s.eval ι)) := by
     show Value.int .i64 ((ι.fn 7 (s.eval ι) (.i 0)).toI) = _
     rw [hf, h7]; rfl
    have ev : ∀ a : Val, atoiOk (.s a.toS) = atoiOk a ∧ atoiV (.s a.toS) = atoiV a := fun a => ⟨rfl, rfl⟩
    have ask : ∀ b, known A (.fn .bool 6 s (.ki .i64 0)) = some b → atoiOk (s.eval ι) = b := fun b hb => by
     have := known_so hA hb
     rw [ev_fn, hf, h6] at this
     exact this
    rw [VRs.vals_eq (l := [.sym s]) rfl hargs]
    show Calls Tryz.prog 267 #[sg ι s] w _
    rw [e1]
    refine (atoi_calls (s.eval ι).toS (by omega) w hW).mono ?_
    rintro e w' ⟨hc, hkp⟩
    rw [(ev (s.eval ι)).1, (ev (s.eval ι)).2] at hc
    split at h
    ·rename_i hb
     cases h
     rcases hc with ⟨_, rfl⟩ | ⟨hx, _⟩
     ·exact ⟨_, rfl, .tup (.cons (by rw [← e7]; exact .sym _ (sg_cell ι _)) (.cons (.at _) .nil)), hkp⟩
     ·rw [ask _ hb] at hx; cases hx
    ·rename_i hb
     cases h
     rcases hc with ⟨hx, _⟩ | ⟨_, pe, rfl⟩
     ·rw [ask _ hb] at hx; cases hx
     ·exact ⟨_, rfl, .tup (.cons (by rw [← e7]; exact .sym _ (sg_cell ι _)) (.cons (.iface (.unk _)) .nil)), hkp⟩
    ·cases h
  ·cases h
end Go.Eng
namespace Go.Eng
open Go Go.Proofs

section
variable {ρ : Map} {σ : Tok → Value} {own : Nat → Prop} {H : AHeap} {w w' : World}
/-- a block of what a call left behind -/
theorem HR.add (hr : HR ρ σ own H w) (hk : Kp (fun k => w.heap.size ≤ k) w w') (hown : ∀ k, w.heap.size ≤ k → own k) (a : AObj) {x : Loc} {o : Obj} (hx : w.heap.size ≤ x.r) (ho : w'.heap[x.r]? = some o) (h : OR (upd ρ H.n x) σ a x o) :
  HR (upd ρ H.n x) σ own (H.new a) w' := by
 have hr' := hr.kept hk
 have hn := hr.none_of_ge (Nat.le_refl H.n)
 have hlt : x.r < w'.heap.size := (Array.getElem?_eq_some_iff.1 ho).1
 have old : ∀ {k : Nat} {y : Loc}, k ≠ H.n → upd ρ H.n x k = some y → ρ k = some y := fun {k y} hne hy => by
  unfold upd at hy
  rw [if_neg hne] at hy
  exact hy
 have new : ∀ {y : Loc}, upd ρ H.n x H.n = some y → y = x := fun {y} hy => by
  rw [upd_self] at hy
  exact (Option.some.inj hy).symm
 refine ⟨fun k b y hb hy => ?_, fun k y hy => ?_, fun k k' b b' y y' hne hb hb' hy hy' he => ?_, fun k b y hb hy hs => ?_⟩
 ·rw [AHeap.get_new] at hb
  by_cases e : k = H.n
  ·subst e
   rw [if_pos rfl] at hb
   cases hb
   obtain rfl := new hy
   exact ⟨o, ho, h⟩
  ·rw [if_neg e] at hb
   obtain ⟨o', h1, h2⟩ := hr'.obj k b y hb (old e hy)
   exact ⟨o', h1, h2.mono (upd_le hn)⟩
 ·by_cases e : k = H.n
  ·subst e
   obtain rfl := new hy
   exact ⟨Nat.lt_succ_self _, hlt⟩
  ·have := hr'.dom k y (old e hy)
   exact ⟨Nat.lt_succ_of_lt this.1, this.2⟩
 ·rw [AHeap.get_new] at hb hb'
  by_cases e : k = H.n
  ·subst e
   obtain rfl := new hy
   have := (hr.dom k' y' (old (Ne.symm hne) hy')).2
   omega
  ·rw [if_neg e] at hb
   by_cases e' : k' = H.n
   ·subst e'
    obtain rfl := new hy'
    have := (hr.dom k y (old e hy)).2
    omega
   ·rw [if_neg e'] at hb'
    exact hr'.apart k k' b b' y y' hne hb hb' (old e hy) (old e' hy') he
 ·rw [AHeap.get_new] at hb
  by_cases e : k = H.n
  ·subst e
   obtain rfl := new hy
   exact hown _ hx
  ·rw [if_neg e] at hb
   exact hr'.own k b y hb (old e hy) hs
end

/-- a slice's row reads so; it lies behind B -/
def RowAt (B : Nat) (w : World) (V : Value) (el : TypeId) (tys : List Ty) (L : List Val) : Prop :=
 ∃ b o cap c fz, B ≤ b ∧ V = .slice (some ⟨b, o, none⟩) L.length cap ∧ L.length ≤ cap ∧ o + cap * tys.length ≤ c.size ∧ w.heap[b]? = some (.cells c el fz) ∧
  ∀ i j y, i < L.length → tys[j]? = some y → c[o + (i * tys.length + j)]? = some (y.val ((unpack (L.getD i (.i 0))).getD j (.i 0)))

open Go.Lib in
def splitV (a b : Val) : Val :=
 let s : ByteArray := ⟨a.toS.toArray⟩
 let p : ByteArray := ⟨#[UInt8.ofNat b.toI.toNat]⟩
 .l ((splitB p 0 (countB s p) s).map fun x => .p (.s x.data.toList) (.l []))
/-- tags in order, each once -/
def tagLt (a b : List UInt8 × List UInt8) : Prop := a.1 < b.1 ∨ (a.1 = b.1 ∧ a.2 < b.2)
def IsNorm (L L' : List (List UInt8 × List UInt8)) : Prop := L'.Pairwise tagLt ∧ ∀ x, x ∈ L' ↔ x ∈ L
open Classical in
noncomputable def normP (L : List (List UInt8 × List UInt8)) : List (List UInt8 × List UInt8) := if h : ∃ L', IsNorm L L' then Classical.choose h else L
def tagOf (x : Val) : List UInt8 × List UInt8 := (((unpack x).getD 0 (.i 0)).toS, ((unpack x).getD 1 (.i 0)).toS)
def tagV (p : List UInt8 × List UInt8) : Val := .p (.s p.1) (.p (.s p.2) (.l []))
noncomputable def normV (v : Val) : Val := .l ((normP (v.toL.map tagOf)).map tagV)

/-- what strings.Split says -/
def SplitC : Prop := ∀ (w : World) (s : List UInt8) (c : UInt8), s.length ≤ 1000000 → Calls Tryz.prog 114 #[.string ⟨s.toArray⟩, .string ⟨#[c]⟩] w fun e w' => ∃ V, e = .returned V ∧
 RowAt w.heap.size w' V 9 [.str] (splitV (.s s) (.i c.toNat)).toL ∧ Kp (fun k => w.heap.size ≤ k) w w'
/-- what tag.Normal says -/
def NormC (nv : Val → Val) : Prop := ∀ (w : World) (V : Value) (L : List Val), RowAt 0 w V 39 tagTys L → 1 ≤ L.length → L.length ≤ 1000000 → Calls Tryz.prog 70 #[V] w fun e w' => ∃ V', e = .returned V' ∧
 RowAt w.heap.size w' V' 39 tagTys (nv (.l L)).toL ∧ Kp (fun k => w.heap.size ≤ k) w w'

def orcRow (dbg : Bool) : Orc := fun A H f args =>
 bif Nat.beq f 114 then
  match args with
  | [s, .str [c]] => match s.tok with
   | some t => bif t.ty.beq .str then
     needP dbg A (.cmp 3 (.len t) (.ki .i64 1000000)) H (some (.sq H.n 1 (.llen (.fn .lst 8 t (.ki .u8 c.toNat))), H.new (.seq 9 [.str] (.fn .lst 8 t (.ki .u8 c.toNat)) false))) else none
   | none => none
  | _ => none
 else bif Nat.beq f 70 then
  match args with
  | [.sq b e n] => match H.get b with
   | some (.seq el tys T _) => bif Nat.beq el 39 && (tysB tagTys tys && (Nat.beq e 2 && n.beq (.llen T))) then
     needP dbg A (.cmp 3 (.ki .i64 1) n) H (needP dbg A (.cmp 3 n (.ki .i64 1000000)) H
      (some (.sq H.n 2 (.llen (.fn .lst 9 T (.ki .i64 0))), H.new (.seq 39 tagTys (.fn .lst 9 T (.ki .i64 0)) false)))) else none
   | _ => none
  | _ => none
 else none

variable {ρ : Map} {ι : Asn} {own : Nat → Prop} {H : AHeap} {w w' : World}

/-- a new row by names -/
theorem rowNew (hr : HR ρ (sg ι) own H w) (hk : Kp (fun k => w.heap.size ≤ k) w w') (hown : ∀ k, w.heap.size ≤ k → own k) {V : Value} {el : TypeId} {tys : List Ty} {T : Tok} (hpos : 0 < tys.length)
  (h : RowAt w.heap.size w' V el tys (T.eval ι).toL) : ∃ ρ', Grow ρ ρ' H.n ∧ VR ρ' (sg ι) (.sq H.n tys.length (.llen T)) V ∧ HR ρ' (sg ι) own (H.new (.seq el tys T false)) w' := by
 obtain ⟨b, o, cap, c, fz, h1, rfl, h3, h4, h5, h6⟩ := h
 have hn := hr.none_of_ge (Nat.le_refl H.n)
 have hl : sg ι (.llen T) = .int .i64 (.ofNat (T.eval ι).toL.length) := rfl
 refine ⟨upd ρ H.n ⟨b, o, c.size⟩, Grow.upd hn (Nat.le_refl _), .sq (upd_self ρ H.n _) hl h3 hpos h4, HR.add hr hk hown _ h1 h5 ?_⟩
 refine .seq hl hpos rfl ?_ (fun i j y hi hj => ⟨by rw [sg_lget]; exact h6 i j y hi hj, sg_cell ι _⟩) (fun h => by cases h)
 have := Nat.mul_le_mul_right tys.length h3
 show o + (T.eval ι).toL.length * tys.length ≤ c.size
 omega

/-- a row by names, in the world -/
theorem rowAt_of (hr : HR ρ (sg ι) own H w) {b e : Nat} {el : TypeId} {tys : List Ty} {T : Tok} {f : Bool} {V : Value} (hb : H.get b = some (.seq el tys T f)) (he : e = tys.length) (hv : VR ρ (sg ι) (.sq b e (.llen T)) V) :
  RowAt 0 w V el tys (T.eval ι).toL := by
 subst he
 cases hv with
 | @sq _ _ _ len cap' x k1 k2 k3 k4 k5 =>
  obtain ⟨ob, h1, h2⟩ := hr.obj b _ x hb k1
  cases h2 with
  | @seq _ _ _ _ _ c fz n g1 g2 g3 g4 g5 g6 =>
   have hn := llen_inv g1
   have hl := llen_inv k2
   refine ⟨x.r, x.s, cap', c, fz, Nat.zero_le _, by rw [hl], by omega, by rw [g3]; exact k5, h1, fun i j y hi hj => ?_⟩
   obtain ⟨m1, _⟩ := g5 i j y (by omega) hj
   rw [m1, sg_lget]

theorem orcRow_is {F : Nat → Val → Val → Val} {nv : Val → Val} (h8 : F 8 = splitV) (h9 : F 9 = fun a _ => nv (.l a.toL)) (hS : SplitC) (hN : NormC nv) : OrcIs F (orcRow false) := fun ι A hf hA H f args v H' h ρ own args' w hr hown hg ha => by
 unfold orcRow at h
 cases hm : Nat.beq f 114 with
 | true =>
  rw [hm] at h
  simp only [cond_true] at h
  obtain rfl := Nat.eq_of_beq_eq_true hm
  split at h
  ·rename_i s c
   split at h
   ·rename_i t ht
    cases hb : t.ty.beq .str with
    | false => rw [hb] at h; cases h
    | true =>
     rw [hb] at h
     simp only [cond_true] at h
     obtain ⟨h1, h⟩ := needP_inv hA h
     cases h
     have h1 := le_of h1
     cases ha with
     | cons g1 g2 => cases g2 with
      | cons g2 g3 =>
       cases g3
       have e1 := tok_val ht g1
       have e2 : sg ι t = .string ⟨(t.eval ι).toS.toArray⟩ := by unfold sg; rw [Ty.beq_eq hb]; rfl
       cases g2
       rw [e1, e2]
       have hl : (t.eval ι).toS.length ≤ 1000000 := by
        have : ((t.eval ι).toS.length : Int) ≤ 1000000 := h1
        omega
       refine (hS w (t.eval ι).toS c hl).mono ?_
       rintro e w' ⟨V, rfl, k1, k2⟩
       have hT : (Tok.eval ι (.fn .lst 8 t (.ki .u8 c.toNat))) = splitV (.s (t.eval ι).toS) (.i c.toNat) := by
        have : (Tok.eval ι (.fn .lst 8 t (.ki .u8 c.toNat))) = ι.fn 8 (t.eval ι) (.i c.toNat) := rfl
        rw [this, hf, h8]
        rfl
       obtain ⟨ρ', m1, m2, m3⟩ := rowNew (T := .fn .lst 8 t (.ki .u8 c.toNat)) hr k2 hown (tys := [.str]) (by decide) (by rw [hT]; exact k1)
       exact ⟨V, ρ', rfl, m1, m2, m3, Nat.le_succ _, k2.mono fun k hk => hown k hk⟩
   ·cases h
  ·cases h
 | false =>
  rw [hm] at h
  simp only [cond_false] at h
  cases hm2 : Nat.beq f 70 with
  | false => rw [hm2] at h; cases h
  | true =>
   rw [hm2] at h
   simp only [cond_true] at h
   obtain rfl := Nat.eq_of_beq_eq_true hm2
   split at h
   ·rename_i b e n
    split at h
    ·rename_i el tys T fr hb
     cases hc : (Nat.beq el 39 && (tysB tagTys tys && (Nat.beq e 2 && n.beq (.llen T)))) with
     | false => rw [hc] at h; cases h
     | true =>
      rw [hc] at h
      simp only [cond_true] at h
      simp only [Bool.and_eq_true] at hc
      obtain ⟨c1, c2, c3, c4⟩ := hc
      obtain rfl := Nat.eq_of_beq_eq_true c1
      obtain rfl := Nat.eq_of_beq_eq_true c3
      obtain rfl := tysB_eq c2
      obtain rfl := Tok.beq_eq c4
      obtain ⟨h1, h⟩ := needP_inv hA h
      obtain ⟨h2, h⟩ := needP_inv hA h
      cases h
      have h1 := le_of h1
      have h2 := le_of h2
      cases ha with
      | cons g1 g2 =>
       cases g2
       have hrow := rowAt_of hr hb rfl g1
       have l1 : 1 ≤ (T.eval ι).toL.length := by
        have : (1 : Int) ≤ ((T.eval ι).toL.length : Nat) := h1
        omega
       have l2 : (T.eval ι).toL.length ≤ 1000000 := by
        have : (((T.eval ι).toL.length : Nat) : Int) ≤ 1000000 := h2
        omega
       refine (hN w _ _ hrow l1 l2).mono ?_
       rintro e w' ⟨V, rfl, k1, k2⟩
       obtain ⟨ρ', m1, m2, m3⟩ := rowNew (T := .fn .lst 9 T (.ki .i64 0)) hr k2 hown (tys := tagTys) (by decide) (by
        have : (Tok.eval ι (.fn .lst 9 T (.ki .i64 0))) = ι.fn 9 (T.eval ι) (.i 0) := rfl
        rw [this, hf, h9]
        exact k1)
       exact ⟨V, ρ', rfl, m1, m2, m3, Nat.le_succ _, k2.mono fun k hk => hown k hk⟩
    ·cases h
   ·cases h

/-- one oracle, then the other -/
def orcOr2 (a b : Orc) : Orc := fun A H f args => match a A H f args with
 | some v => some v
 | none => b A H f args
theorem orcOr2_is {F : Nat → Val → Val → Val} {a b : Orc} (ha : OrcIs F a) (hb : OrcIs F b) : OrcIs F (orcOr2 a b) := fun ι A hf hA H f args v H' h => by
 unfold orcOr2 at h
 split at h
 ·rename_i u hu
  cases h
  exact ha ι A hf hA H f args v H' hu
 ·exact hb ι A hf hA H f args v H' h
end Go.Eng
namespace Go.Eng
open Go Go.Proofs

/-- of an argument; of a result -/
inductive ISh where
 | t (y : Ty) | a (l : List Ty) | k (v : AV)
inductive OSh where
 | t (y : Ty) (j : Nat) | b (j : Nat) | a (l : List OSh) | tup (l : List OSh)

def i64 : Ty := .int .i64
def u64 : Ty := .int .u64
def faultO (j : Nat) : OSh := .a [.t i64 j, .t i64 (j + 1)]

/-- a sure value -/
def sureA : AV → Bool
 | .at _ => true
 | .str _ => true
 | _ => false
def sureV : AV → Value
 | .at v => v
 | .str l => .string ⟨l.toArray⟩
 | _ => .tuple #[]

def tokTys : List Ty → List AV → Option (List Tok)
 | [], [] => some []
 | y :: ys, a :: xs => match a.tok with
  | some t => bif t.ty.beq y then (match tokTys ys xs with
   | some l => some (t :: l)
   | none => none) else none
  | none => none
 | _, _ => none
def toksOf : List ISh → List AV → Option (List Tok)
 | [], [] => some []
 | .t y :: sh, a :: xs => match tokTys [y] [a], toksOf sh xs with
  | some l, some m => some (l ++ m)
  | _, _ => none
 | .a ys :: sh, .agg l :: xs => match tokTys ys l, toksOf sh xs with
  | some l, some m => some (l ++ m)
  | _, _ => none
 | .k v :: sh, x :: xs => bif sureA v && sameAV x v then toksOf sh xs else none
 | _, _ => none

/-- what values stand for, by types -/
def valTys : List Ty → List Val → List Value
 | y :: ys, v :: vs => y.val v :: valTys ys vs
 | _, _ => []
def ISh.n : ISh → Nat
 | .t _ => 1 | .a l => l.length | .k _ => 0
def insOf : List ISh → List Val → List Value
 | [], _ => []
 | .t y :: sh, vs => valTys [y] vs ++ insOf sh (vs.drop 1)
 | .a ys :: sh, vs => .agg (valTys ys (vs.take ys.length)).toArray :: insOf sh (vs.drop ys.length)
 | .k v :: sh, vs => sureV v :: insOf sh vs
theorem insOf_k (v : AV) (sh : List ISh) (vs : List Val) : insOf (.k v :: sh) vs = sureV v :: insOf sh vs := rfl
mutual
def OSh.val (os : List Val) : OSh → Value
 | .t y j => y.val (os.getD j (.i 0))
 | .b j => .bool (os.getD j (.i 0)).toB
 | .a l => .agg (OSh.vals os l).toArray
 | .tup l => .tuple (OSh.vals os l).toArray
def OSh.vals (os : List Val) : List OSh → List Value
 | [] => []
 | o :: l => o.val os :: OSh.vals os l
end

/-- no string is longer than a million, no whole number of 64 bits greater than a milliard -/
def small : Ty → Val → Prop
 | .str, v => v.toS.length ≤ 1000000
 | .int .i64, v => -1000000000000000 ≤ v.toI ∧ v.toI ≤ 1000000000000000
 | _, _ => True
def smalls : List Ty → List Val → Prop
 | y :: ys, v :: vs => small y v ∧ smalls ys vs
 | _, _ => True
def ISh.tys : ISh → List Ty
 | .t y => [y] | .a l => l | .k _ => []
def tysOf (sh : List ISh) : List Ty := sh.flatMap ISh.tys

structure Spec where
 f : FuncId
 ins : List ISh
 out : OSh
 post : List Val → List Val → Prop

/-- a good answer -/
def Good (S : Spec) (vs os : List Val) : Prop := Fn S.f (insOf S.ins vs) (S.out.val os) ∧ S.post vs os
def Told (S : Spec) : Prop := ∀ vs, vs.length = (tysOf S.ins).length → smalls (tysOf S.ins) vs → ∃ os, Good S vs os
open Classical in
noncomputable def tab (sp : Nat → Spec) (f : Nat) (vs : List Val) : List Val := if h : ∃ os, Good (sp f) vs os then Classical.choose h else []
theorem tab_good {sp : Nat → Spec} {f : Nat} {vs : List Val} (h : ∃ os, Good (sp f) vs os) : Good (sp f) vs (tab sp f vs) := by
 unfold tab
 rw [dif_pos h]
 exact Classical.choose_spec h

noncomputable def FG (sp : Nat → Spec) (n : Nat) (a b : Val) : Val :=
 match n with
 | 0 => .p a b
 | 1 => idxF a b
 | 5 => .b (classB a.toI.toNat b.toI.toNat)
 | 6 => .b (atoiOk a)
 | 7 => .i (atoiV a)
 | 8 => splitV a b
 | 9 => normV (.l a.toL)
 | n => (tab sp (n / 10) (unpack a)).getD (n % 10) (.i 0)

def packT : List Tok → Tok
 | [] => .ki .i64 0
 | t :: l => .fn .str 0 t (packT l)

def kiOk (k : IntKind) (n : Int) : Bool := match k with
 | .i64 => decide (-1000000000000000 ≤ n) && decide (n ≤ 1000000000000000)
 | _ => true
/-- what must be known of an argument -/
def pre (dbg : Bool) (A : Known) : List Tok → Option AV → Option AV
 | [], v => v
 | t :: l, v => match t with
  | .ki k n => bif kiOk k n then pre dbg A l v else none
  | .ks s => bif Nat.ble s.length 1000000 then pre dbg A l v else none
  | t => match t.ty with
   | .str => need dbg A (.cmp 3 (.len t) (.ki .i64 1000000)) (pre dbg A l v)
   | .int .i64 => need dbg A (.cmp 3 (.ki .i64 (-1000000000000000)) t) (need dbg A (.cmp 3 t (.ki .i64 1000000000000000)) (pre dbg A l v))
   | _ => pre dbg A l v

mutual
def OSh.av (dbg : Bool) (A : Known) (f : Nat) (T : Tok) : OSh → Option AV
 | .t y j => bif Nat.blt j 10 then some (.sym (.fn y (10 * f + j) T (.ki .i64 0))) else none
 | .b j => bif Nat.blt j 10 then askB dbg A (.fn .bool (10 * f + j) T (.ki .i64 0)) else none
 | .a l => match OSh.avs dbg A f T l with
  | some l => some (.agg l)
  | none => none
 | .tup l => match OSh.avs dbg A f T l with
  | some l => some (.tup l)
  | none => none
def OSh.avs (dbg : Bool) (A : Known) (f : Nat) (T : Tok) : List OSh → Option (List AV)
 | [] => some []
 | o :: l => match o.av dbg A f T, OSh.avs dbg A f T l with
  | some x, some l => some (x :: l)
  | _, _ => none
end

def orcG1 (sp : Nat → Spec) (id : Nat) (dbg : Bool) : Orc1 := fun A H f args =>
 bif Nat.beq (sp id).f f && (errAt H 6 && errAt H 7) then
  match toksOf (sp id).ins args with
  | some ts => pre dbg A ts ((sp id).out.av dbg A id (packT ts))
  | none => none
 else none
def orcN : Orc1 := fun _ _ _ _ => none
def orcG (sp : Nat → Spec) : List Nat → Bool → Orc1
 | [], _ => orcN
 | id :: l, dbg => orcOr (orcG1 sp id dbg) (orcG sp l dbg)
end Go.Eng
namespace Go.Eng
open Go Go.Proofs

variable {ι : Asn} {A : Known} {ρ : Map}

def evals (ι : Asn) (l : List Tok) : List Val := l.map (Tok.eval ι)

theorem valTys_append : ∀ (ys : List Ty) (vs ws : List Val), vs.length = ys.length → valTys ys (vs ++ ws) = valTys ys vs
 | [], vs, ws, h => by cases vs <;> simp_all [valTys]
 | y :: ys, [], ws, h => by simp at h
 | y :: ys, v :: vs, ws, h => by
  simp only [List.cons_append, valTys]
  rw [valTys_append ys vs ws (by simpa using h)]

theorem tokTys_ok : ∀ {ys : List Ty} {xs : List AV} {l : List Tok}, tokTys ys xs = some l → l.length = ys.length ∧ l.map Tok.ty = ys ∧ ∀ {xs' : List Value}, VRs ρ (sg ι) xs xs' → xs' = valTys ys (evals ι l)
 | [], [], l, h => by cases h; exact ⟨rfl, rfl, fun ha => by cases ha; rfl⟩
 | y :: ys, a :: xs, l, h => by
  simp only [tokTys] at h
  split at h
  ·rename_i t ht
   cases hb : t.ty.beq y with
   | false => rw [hb] at h; cases h
   | true =>
    rw [hb] at h
    simp only [cond_true] at h
    split at h
    ·rename_i m hm
     cases h
     obtain ⟨h1, h2, h3⟩ := tokTys_ok hm
     have hy := Ty.beq_eq hb
     refine ⟨by simp [h1], by simp [hy, h2], fun ha => ?_⟩
     cases ha with
     | cons g1 g2 =>
      have e := tok_val ht g1
      rw [h3 g2, e]
      simp only [evals, List.map_cons, valTys]
      unfold sg
      rw [hy]
    ·cases h
  ·cases h
 | [], _ :: _, _, h => by cases h
 | _ :: _, [], _, h => by cases h

theorem toksOf_ok : ∀ {sh : List ISh} {xs : List AV} {l : List Tok}, toksOf sh xs = some l → l.length = (tysOf sh).length ∧ l.map Tok.ty = tysOf sh ∧ ∀ {xs' : List Value}, VRs ρ (sg ι) xs xs' → xs' = insOf sh (evals ι l)
 | [], [], l, h => by cases h; exact ⟨rfl, rfl, fun ha => by cases ha; rfl⟩
 | .t y :: sh, a :: xs, l, h => by
  simp only [toksOf] at h
  split at h
  ·rename_i p m hp hm
   cases h
   obtain ⟨h1, h2, h3⟩ := tokTys_ok (ι := ι) (ρ := ρ) hp
   obtain ⟨k1, k2, k3⟩ := toksOf_ok hm
   refine ⟨by simp [tysOf, ISh.tys, h1, k1, Nat.add_comm], by simp [tysOf, ISh.tys, h2, k2], fun ha => ?_⟩
   cases ha with
   | cons g1 g2 =>
    have e1 := h3 (.cons g1 .nil)
    rw [k3 g2]
    obtain ⟨t, rfl⟩ : ∃ t, p = [t] := by
     cases p with
     | nil => simp at h1
     | cons t p => cases p with
      | nil => exact ⟨t, rfl⟩
      | cons => simp at h1
    simp only [evals, List.map_cons, List.map_nil, List.cons_append, List.nil_append, insOf, valTys, List.drop_succ_cons, List.drop_zero] at e1 ⊢
    rw [List.cons.inj e1 |>.1]
  ·cases h
 | .a ys :: sh, .agg xs :: bs, l, h => by
  simp only [toksOf] at h
  split at h
  ·rename_i p m hp hm
   cases h
   obtain ⟨h1, h2, h3⟩ := tokTys_ok (ι := ι) (ρ := ρ) hp
   obtain ⟨k1, k2, k3⟩ := toksOf_ok hm
   refine ⟨by simp [tysOf, ISh.tys, h1, k1], by simp [tysOf, ISh.tys, h2, k2], fun ha => ?_⟩
   cases ha with
   | cons g1 g2 =>
    cases g1 with
    | agg g1 =>
     rw [k3 g2, h3 g1]
     simp only [evals, List.map_append, insOf]
     rw [List.take_left' (by simp [h1]), List.drop_left' (by simp [h1])]
  ·cases h
 | .k v :: sh, x :: xs, l, h => by
  simp only [toksOf] at h
  cases hb : (sureA v && sameAV x v) with
  | false => rw [hb] at h; cases h
  | true =>
   rw [hb] at h
   simp only [cond_true] at h
   simp only [Bool.and_eq_true] at hb
   obtain ⟨k1, k2, k3⟩ := toksOf_ok h
   obtain rfl := sameAV_eq hb.2
   refine ⟨by simp [tysOf, ISh.tys, k1], by simp [tysOf, ISh.tys, k2], fun ha => ?_⟩
   cases ha with
   | cons g1 g2 =>
    rw [k3 g2, insOf_k]
    congr 1
    cases x with
    | «at» v => exact g1.at_inv
    | str l => cases g1; rfl
    | _ => cases hb.1
 | [], _ :: _, _, h => by cases h
 | .t _ :: _, [], _, h => by simp [toksOf] at h
 | .a _ :: _, [], _, h => by simp [toksOf] at h
 | .k _ :: _, [], _, h => by simp [toksOf] at h
 | .a _ :: _, .at _ :: _, _, h => by simp [toksOf] at h
 | .a _ :: _, .sym _ :: _, _, h => by simp [toksOf] at h
 | .a _ :: _, .unk :: _, _, h => by simp [toksOf] at h
 | .a _ :: _, .str _ :: _, _, h => by simp [toksOf] at h
 | .a _ :: _, .ptr _ _ :: _, _, h => by simp [toksOf] at h
 | .a _ :: _, .sl .. :: _, _, h => by simp [toksOf] at h
 | .a _ :: _, .slz _ :: _, _, h => by simp [toksOf] at h
 | .a _ :: _, .map _ :: _, _, h => by simp [toksOf] at h
 | .a _ :: _, .fn .. :: _, _, h => by simp [toksOf] at h
 | .a _ :: _, .yield _ :: _, _, h => by simp [toksOf] at h
 | .a _ :: _, .iface .. :: _, _, h => by simp [toksOf] at h
 | .a _ :: _, .tup _ :: _, _, h => by simp [toksOf] at h

theorem pre_ok (hA : A.so ι) : ∀ {l : List Tok} {v : Option AV} {u : AV}, pre false A l v = some u → v = some u ∧ smalls (l.map Tok.ty) (evals ι l)
 | [], v, u, h => ⟨h, trivial⟩
 | t :: l, v, u, h => by
  have go : ∀ {u : AV}, pre false A l v = some u → small t.ty (t.eval ι) → v = some u ∧ smalls ((t :: l).map Tok.ty) (evals ι (t :: l)) := fun h hs => by
   obtain ⟨h1, h2⟩ := pre_ok hA h
   exact ⟨h1, hs, h2⟩
  simp only [pre] at h
  split at h
  ·rename_i k n
   cases hk : kiOk k n with
   | false => rw [hk] at h; cases h
   | true =>
    rw [hk] at h
    refine go h ?_
    cases k <;> try trivial
    simp only [kiOk, Bool.and_eq_true, decide_eq_true_eq] at hk
    exact hk
  ·rename_i s
   cases hk : Nat.ble s.length 1000000 with
   | false => rw [hk] at h; cases h
   | true =>
    rw [hk] at h
    exact go h (Nat.le_of_ble_eq_true hk)
  ·split at h
   ·rename_i hy
    obtain ⟨h1, h⟩ := need_inv hA h
    refine go h ?_
    rw [hy]
    have := le_of h1
    have : ((t.eval ι).toS.length : Int) ≤ 1000000 := this
    show (t.eval ι).toS.length ≤ 1000000
    omega
   ·rename_i hy
    obtain ⟨h1, h⟩ := need_inv hA h
    obtain ⟨h2, h⟩ := need_inv hA h
    refine go h ?_
    rw [hy]
    exact ⟨le_of h1, le_of h2⟩
   ·rename_i hn1 hn2
    refine go h ?_
    cases hy : t.ty with
    | int k => cases k <;> first | trivial | exact absurd hy hn2
    | str => exact absurd hy hn1
    | bool => trivial
    | lst => trivial

theorem unpack_pack {F : Nat → Val → Val → Val} (h0 : F 0 = .p) (hf : ι.fn = F) : ∀ l : List Tok, unpack ((packT l).eval ι) = evals ι l
 | [] => rfl
 | t :: l => by
  simp only [packT, ev_fn, hf, h0, unpack, unpack_pack h0 hf l, evals, List.map_cons]

mutual
theorem OSh.av_ok (hA : A.so ι) {f : Nat} {T : Tok} {os : List Val} (hos : ∀ (y : Ty) (j : Nat), j < 10 → (Tok.fn y (10 * f + j) T (.ki .i64 0)).eval ι = os.getD j (.i 0)) : ∀ {o : OSh} {v : AV}, o.av false A f T = some v → v.plain = true ∧ v.val ι = o.val os
 | .t y j, v, h => by
  simp only [OSh.av] at h
  cases hj : Nat.blt j 10 with
  | false => rw [hj] at h; cases h
  | true =>
  rw [hj] at h
  cases h
  refine ⟨rfl, ?_⟩
  show sg ι _ = _
  unfold sg
  rw [hos y j (by simpa [Nat.blt_eq] using hj)]
  rfl
 | .b j, v, h => by
  simp only [OSh.av] at h
  cases hj : Nat.blt j 10 with
  | false => rw [hj] at h; cases h
  | true =>
  rw [hj] at h
  have := askB_inv hA h
  subst this
  rw [hos .bool j (by simpa [Nat.blt_eq] using hj)]
  exact ⟨rfl, rfl⟩
 | .a l, v, h => by
  simp only [OSh.av] at h
  split at h
  ·rename_i m hm
   cases h
   obtain ⟨h1, h2⟩ := OSh.avs_ok hA hos hm
   exact ⟨by simpa [AV.plain] using h1, by simp [AV.val, OSh.val, h2]⟩
  ·cases h
 | .tup l, v, h => by
  simp only [OSh.av] at h
  split at h
  ·rename_i m hm
   cases h
   obtain ⟨h1, h2⟩ := OSh.avs_ok hA hos hm
   exact ⟨by simpa [AV.plain] using h1, by simp [AV.val, OSh.val, h2]⟩
  ·cases h
theorem OSh.avs_ok (hA : A.so ι) {f : Nat} {T : Tok} {os : List Val} (hos : ∀ (y : Ty) (j : Nat), j < 10 → (Tok.fn y (10 * f + j) T (.ki .i64 0)).eval ι = os.getD j (.i 0)) : ∀ {o : List OSh} {v : List AV}, OSh.avs false A f T o = some v → AV.plains v = true ∧ AV.vals ι v = OSh.vals os o
 | [], v, h => by cases h; exact ⟨rfl, rfl⟩
 | o :: l, v, h => by
  simp only [OSh.avs] at h
  split at h
  ·rename_i a m ha hm
   cases h
   obtain ⟨h1, h2⟩ := OSh.av_ok hA hos ha
   obtain ⟨h3, h4⟩ := OSh.avs_ok hA hos hm
   exact ⟨by simp [AV.plains, h1, h3], by simp [AV.vals, OSh.vals, h2, h4]⟩
  ·cases h
end

theorem FG_at {sp : Nat → Spec} {f j : Nat} (hf : 1 ≤ f) (hj : j < 10) (a b : Val) : FG sp (10 * f + j) a b = (tab sp f (unpack a)).getD j (.i 0) := by
 unfold FG
 have h1 : (10 * f + j) / 10 = f := by omega
 have h2 : (10 * f + j) % 10 = j := by omega
 split
 ·omega
 ·omega
 ·omega
 ·omega
 ·omega
 ·omega
 ·omega
 ·rw [h1, h2]

theorem orcG1_is {sp : Nat → Spec} {id : Nat} (hi : 1 ≤ id) (ht : Told (sp id)) : OrcIs1 (FG sp) (orcG1 sp id false) := fun ι A hf hA H f args v h ρ own args' w hr hg hargs => by
 replace h : (bif Nat.beq (sp id).f f && (errAt H 6 && errAt H 7) then
  match toksOf (sp id).ins args with
  | some ts => pre false A ts ((sp id).out.av false A id (packT ts))
  | none => none
 else none) = some v := h
 cases hm : (Nat.beq (sp id).f f && (errAt H 6 && errAt H 7)) with
 | false => rw [hm] at h; cases h
 | true =>
  rw [hm] at h
  simp only [cond_true] at h
  rw [Bool.and_eq_true] at hm
  have hW := there_ok hr hg hm.2
  obtain rfl := Nat.eq_of_beq_eq_true hm.1
  split at h
  ·rename_i ts hts
   obtain ⟨h1, h2, h3⟩ := toksOf_ok (ι := ι) (ρ := ρ) hts
   obtain ⟨k1, k2⟩ := pre_ok hA h
   have hq := tab_good (sp := sp) (ht (evals ι ts) (by simp [evals, h1]) (by rw [← h2]; exact k2))
   obtain ⟨p1, p2⟩ := OSh.av_ok hA (fun y j hj => by rw [ev_fn, hf, FG_at hi hj, unpack_pack rfl hf]) k1
   rw [h3 hargs]
   refine (hq.1 w hW).mono ?_
   rintro e w' ⟨rfl, hk⟩
   exact ⟨_, rfl, by rw [← p2]; exact VR.val p1, hk⟩
  ·cases h

theorem orcG_is {sp : Nat → Spec} : ∀ {L : List Nat}, (∀ id ∈ L, 1 ≤ id ∧ Told (sp id)) → OrcIs1 (FG sp) (orcG sp L false)
 | [], _ => fun _ _ _ _ _ _ _ _ h => by cases h
 | id :: l, h => orcOr_is (orcG1_is (h id (by simp)).1 (h id (by simp)).2) (orcG_is fun i hi => h i (by simp [hi]))
end Go.Eng
namespace Go.Eng
open Go Go.Proofs

/-- which byte is of which class, by names -/
def orcIsT (dbg : Bool) : Orc1 := fun A _ f args =>
 bif Nat.beq f 214 then
  match args with
  | [c, .sym (.idx s i)] => match c.tok with
   | some t => bif t.ty.beq i64 then need dbg A (.cmp 3 (.ki .i64 1) t) (need dbg A (.cmp 3 t (.ki .i64 4)) (askB dbg A (.fn .bool 5 t (.idx s i)))) else none
   | none => none
  | _ => none
 else none

theorem orcIsT_is {F : Nat → Val → Val → Val} (hF : F 5 = fun a b => .b (classB a.toI.toNat b.toI.toNat)) : OrcIs1 F (orcIsT false) := fun ι A hf hA _ f args v h ρ _ args' w _ _ hargs => by
 replace h : (bif Nat.beq f 214 then
  match args with
  | [c, .sym (.idx s i)] => match c.tok with
   | some t => bif t.ty.beq i64 then need false A (.cmp 3 (.ki .i64 1) t) (need false A (.cmp 3 t (.ki .i64 4)) (askB false A (.fn .bool 5 t (.idx s i)))) else none
   | none => none
  | _ => none
 else none) = some v := h
 cases hm : Nat.beq f 214 with
 | false => rw [hm] at h; cases h
 | true =>
  rw [hm] at h
  simp only [cond_true] at h
  obtain rfl := Nat.eq_of_beq_eq_true hm
  split at h
  ·rename_i c s i
   split at h
   ·rename_i t ht
    cases hb : t.ty.beq i64 with
    | false => rw [hb] at h; cases h
    | true =>
     rw [hb] at h
     simp only [cond_true] at h
     obtain ⟨h1, h⟩ := need_inv hA h
     obtain ⟨h2, h⟩ := need_inv hA h
     have := askB_inv hA h
     subst this
     have h1 : (1 : Int) ≤ (t.eval ι).toI := le_of h1
     have h2 : (t.eval ι).toI ≤ (4 : Int) := le_of h2
     obtain ⟨k, hk⟩ : ∃ k : Nat, (t.eval ι).toI = .ofNat k := ⟨(t.eval ι).toI.toNat, by
      have : (0 : Int) ≤ (t.eval ι).toI := by omega
      exact (Int.toNat_of_nonneg this).symm⟩
     rw [hk] at h1 h2
     have h1 : 1 ≤ k := Int.ofNat_le.1 h1
     have h2 : k ≤ 4 := Int.ofNat_le.1 h2
     let b : UInt8 := (s.eval ι).toS[(i.eval ι).toI.toNat]?.getD 0
     cases hargs with
     | cons g1 g2 => cases g2 with
      | cons g2 g3 =>
       cases g3
       have e1 := tok_val ht g1
       have e2 : sg ι t = .int .i64 (.ofNat k) := by unfold sg; rw [Ty.beq_eq hb, ← hk]; rfl
       cases g2
       rw [e1, e2]
       have e3 : sg ι (.idx s i) = .int .u8 (.ofNat b.toNat) := rfl
       rw [e3]
       have hc : orcIs [.at (.int .i64 (.ofNat k)), .at (.int .u8 (.ofNat b.toNat))] = some (.at (.bool (classB k b.toNat))) := by
        simp only [orcIs]
        rw [show Nat.ble 1 k = true from Nat.ble_eq_true_of_le h1, show Nat.ble k 4 = true from Nat.ble_eq_true_of_le h2, show Nat.blt b.toNat 256 = true from by rw [Nat.blt_eq]; exact b.toNat_lt]
        rfl
       refine (orcIs_ok hc ρ (sg ι) _ w (.cons (.at _) (.cons (.at _) .nil))).mono ?_
       rintro e w' ⟨v', rfl, k1, k2⟩
       refine ⟨_, rfl, ?_, k2⟩
       rw [k1.at_inv, ev_fn, hf, hF]
       simp only [hk, Val.toB]
       exact .at _
   ·cases h
  ·cases h

def ms (c : Nat) : AV := .str [UInt8.ofNat c]
def cutSpec (c : Nat) : Spec := ⟨101, [.t .str, .k (ms c)], .tup [.t .str 0, .t .str 1, .b 2], fun vs os =>
 let n := (vs.getD 0 (.i 0)).toS.length
 let a := (os.getD 0 (.i 0)).toS.length
 let b := (os.getD 1 (.i 0)).toS.length
 ((os.getD 2 (.i 0)).toB = true → a + 1 + b = n) ∧ ((os.getD 2 (.i 0)).toB = false → a = n ∧ b = 0)⟩
def trimSpec (f : Nat) : Spec := ⟨f, [.t .str, .k (ms 48)], .t .str 0, fun vs os => (os.getD 0 (.i 0)).toS.length ≤ (vs.getD 0 (.i 0)).toS.length⟩
def hasSpec (c : Nat) : Spec := ⟨106, [.t .str, .k (ms c)], .b 0, fun vs os => (os.getD 0 (.i 0)).toB = true → 1 ≤ (vs.getD 0 (.i 0)).toS.length⟩
def sp (id : Nat) : Spec :=
 match id with
 | 1 => ⟨126, [.t u64, .t u64], .tup [.t u64 0, .b 1], fun _ _ => True⟩
 | 2 => trimSpec 158
 | 3 => trimSpec 163
 | 4 => cutSpec 58
 | 5 => cutSpec 124
 | 6 => cutSpec 46
 | 7 => cutSpec 44
 | 8 => cutSpec 32
 | 9 => ⟨102, [.t i64, .t .str, .t i64, .t i64], faultO 0, fun vs os => (os.getD 0 (.i 0)).toI = 0 → (vs.getD 2 (.i 0)).toI ≤ (vs.getD 1 (.i 0)).toS.length⟩
 | 10 => ⟨161, [.t .str], faultO 0, fun _ _ => True⟩
 | 11 => ⟨69, [.a [.bool, u64, i64]], .tup [.a [.t .bool 0, .t u64 1, .t i64 2], .t i64 3], fun _ _ => True⟩
 | 12 => ⟨104, [.t .str], .tup [.a [.t .bool 0, .t u64 1, .t i64 2], faultO 3], fun _ _ => True⟩
 | 13 => ⟨107, [.t .str], .tup [.t i64 0, faultO 1], fun _ _ => True⟩
 | 14 => ⟨225, [.t .str, .t i64, .t i64], .tup [.t i64 0, faultO 1], fun _ _ => True⟩
 | 15 => ⟨177, [.t .str], .tup [.t i64 0, faultO 1], fun _ _ => True⟩
 | 16 => ⟨137, [.a [.str, .str]], .t i64 0, fun _ _ => True⟩
 | 17 => ⟨105, [.t .str], .tup [.t i64 0, .t i64 1], fun _ _ => True⟩
 | 18 => ⟨172, [.t .str], .tup [.t i64 0, .t i64 1], fun _ _ => True⟩
 | 19 => ⟨162, [.t .str, .k (ms 45)], .tup [.t .str 0, .b 1], fun vs os => (os.getD 0 (.i 0)).toS.length ≤ (vs.getD 0 (.i 0)).toS.length⟩
 | 20 => hasSpec 45
 | 21 => hasSpec 46
 | 22 => hasSpec 64
 | _ => ⟨0, [], .tup [], fun _ _ => True⟩

noncomputable abbrev FF : Nat → Val → Val → Val := FG sp

/-- the oracles: those of all, and the contracts of these numbers -/
def orcL1 (L : List Nat) (dbg : Bool) : Orc1 := orcOr (fun _ _ => orcIdx) (orcOr (orcIsT dbg) (orcOr (orcAtoi dbg) (orcG sp L dbg)))
theorem orcL1_is {L : List Nat} (h : ∀ id ∈ L, 1 ≤ id ∧ Told (sp id)) : OrcIs1 FF (orcL1 L false) := orcOr_is (orcIdx_is rfl) (orcOr_is (orcIsT_is rfl) (orcOr_is (orcAtoi_is rfl rfl) (orcG_is h)))
def orcL (L : List Nat) (dbg : Bool) : Orc := lift1 (orcL1 L dbg)
theorem orcL_is {L : List Nat} (h : ∀ id ∈ L, 1 ≤ id ∧ Told (sp id)) : OrcIs FF (orcL L false) := (orcL1_is h).lift

/-- the arguments are the first variables -/
noncomputable def asn (vs : List Val) : Asn := ⟨fun _ n => vs.getD n (.i 0), FF⟩

/-- what the callers know of an answer -/
theorem post_of {id : Nat} (ht : Told (sp id)) {vs : List Val} (hl : vs.length = (tysOf (sp id).ins).length) (hs : smalls (tysOf (sp id).ins) vs) : (sp id).post vs (tab sp id vs) := (tab_good (ht vs hl hs)).2
theorem FF_at {id j : Nat} (hf : 1 ≤ id) (hj : j < 10) (a b : Val) : FF (10 * id + j) a b = (tab sp id (unpack a)).getD j (.i 0) := FG_at hf hj a b
end Go.Eng
