/-
 Runs in pieces in which names come to stand for other values; what a run by names tells of a call. Blocks that get other numbers, and blocks that are dropped. Runs by names along a tree of what may hold; what they tell of a call. Configurations in writing: code by its place in a function's body.
-/
import Derived.Test.YtngmgpmkjdacaaaGreatDoorMTok
import Derived.Test.YtngmgpmkjdacaaaGreatDoorMSeq
set_option linter.unusedSimpArgs false
set_option linter.unusedVariables false
namespace Go.Eng
open Go Go.Proofs

mutual
def mapAV (g : Tok → AV) (u : Tok → Tok) : AV → AV
 | .sym t => g t
 | .fn f a c => .fn f (mapAVs g u a) (mapAVs g u c)
 | .iface t v => .iface t (mapAV g u v)
 | .agg l => .agg (mapAVs g u l)
 | .tup l => .tup (mapAVs g u l)
 | .sq b e n => .sq b e (u n)
 | .sp b e i o => .sp b e (u i) o
 | v => v
def mapAVs (g : Tok → AV) (u : Tok → Tok) : List AV → List AV
 | [] => []
 | a :: l => mapAV g u a :: mapAVs g u l
end

/-- what each name comes to stand for -/
structure Names (σ σ' : Tok → Value) (g : Tok → AV) (u : Tok → Tok) : Prop where
 sym : ∀ ρ t v, VR ρ σ (g t) v → VR ρ σ' (.sym t) v
 tok : ∀ t, σ (u t) = σ' t
 len : ∀ t, σ (.llen (u t)) = σ' (.llen t)
 get : ∀ j y t i, σ (.lget j y (u t) (.ki .i64 i)) = σ' (.lget j y t (.ki .i64 i))

mutual
theorem VR.of_map_names {ρ : Map} {σ : Tok → Value} {g : Tok → AV} {u : Tok → Tok} {σ' : Tok → Value} (hg : Names σ σ' g u) : ∀ {a : AV} {v : Value}, VR ρ σ (mapAV g u a) v → VR ρ σ' a v
 | .at _, _, .at v => .at v
 | .sym t, v, h => hg.sym _ t v h
 | .unk, _, .unk v => .unk v
 | .str _, _, .str l => .str l
 | .ptr _ _, _, .ptr hb => .ptr hb
 | .sl .., _, .sl hb h1 h2 h3 h4 h5 => .sl hb h1 h2 h3 h4 h5
 | .slz _, _, .slz h1 => .slz h1
 | .sq _ _ n, _, .sq hb h1 h2 h3 h4 => .sq hb (by rw [← hg.tok]; exact h1) h2 h3 h4
 | .sp _ _ i _, _, .sp hb h1 => .sp hb (by rw [← hg.tok]; exact h1)
 | .map _, _, .map hb => .map hb
 | .fn _ a c, _, .fn h1 h2 => .fn (VRs.of_map_names hg (l := a) h1) (VRs.of_map_names hg (l := c) h2)
 | .yield _, _, .yield hb => .yield hb
 | .iface _ v, _, .iface h1 => .iface (VR.of_map_names hg (a := v) h1)
 | .agg l, _, .agg h1 => .agg (VRs.of_map_names hg (l := l) h1)
 | .tup l, _, .tup h1 => .tup (VRs.of_map_names hg (l := l) h1)
theorem VRs.of_map_names {ρ : Map} {σ : Tok → Value} {g : Tok → AV} {u : Tok → Tok} {σ' : Tok → Value} (hg : Names σ σ' g u) : ∀ {l : List AV} {l' : List Value}, VRs ρ σ (mapAVs g u l) l' → VRs ρ σ' l l'
 | [], _, .nil => .nil
 | a :: l, _, .cons h1 h2 => .cons (VR.of_map_names hg (a := a) h1) (VRs.of_map_names hg (l := l) h2)
end

theorem mapAVs_map (g : Tok → AV) (u : Tok → Tok) (l : List AV) : mapAVs g u l = l.map (mapAV g u) := by
 induction l with
 | nil => rfl
 | cons a l ih => simp [mapAVs, ih]

def mapDef (g : Tok → AV) (u : Tok → Tok) : ADef → ADef
 | .call f a => .call f (mapAVs g u a)
 | .coll b => .coll b
def mapObj (g : Tok → AV) (u : Tok → Tok) : AObj → AObj
 | .cells el l s f => .cells el (mapAVs g u l) s f
 | .map es => .map (es.map fun p => (mapAV g u p.1, mapAV g u p.2))
 | .loop st p f t ps a b d => .loop st p f (mapAVs g u t) ps a b d
 | .dfr (some l) => .dfr (some (l.map (mapDef g u)))
 | .dfr none => .dfr none
 | .seq el tys l f => .seq el tys (u l) f
def mapT (g : Tok → AV) (u : Tok → Tok) : Tr AObj → Tr AObj
 | .leaf => .leaf
 | .node l none r => .node (mapT g u l) none (mapT g u r)
 | .node l (some o) r => .node (mapT g u l) (some (mapObj g u o)) (mapT g u r)
def mapH (g : Tok → AV) (u : Tok → Tok) (h : AHeap) : AHeap := ⟨mapT g u h.t, h.n⟩
def mapF (g : Tok → AV) (u : Tok → Tok) (f : AFrame) : AFrame := { f with tmps := mapAVs g u f.tmps, defers := f.defers.map (mapDef g u) }
def mapC (g : Tok → AV) (u : Tok → Tok) (c : ACfg) : ACfg := ⟨mapF g u c.fr, c.callers.map (mapF g u), mapH g u c.h⟩

theorem mapT_get (g : Tok → AV) (u : Tok → Tok) : ∀ (t : Tr AObj) (n : Nat), (mapT g u t).get n = (t.get n).map (mapObj g u)
 | .leaf, n => rfl
 | .node l v r, n => by
  cases v <;> cases n <;> simp only [mapT, Tr.get, Option.map_none, Option.map_some] <;> rename_i k <;> cases Nat.beq (k % 2) 0 <;> simp only [cond_true, cond_false, mapT_get]

section
variable {ρ : Map} {σ σ' : Tok → Value} {own : Nat → Prop} {w : World} {E : Env} {cs : List Frame} {g : Tok → AV} {u : Tok → Tok}

theorem DR.of_map_names (hg : Names σ σ' g u) {a : ADef} {d : Deferred} (h : DR ρ σ (mapDef g u a) d) : DR ρ σ' a d := by
 cases a with
 | call f a => cases h with | call h1 => exact .call (VRs.of_map_names hg (l := a) h1)
 | coll b => cases h with | coll h1 => exact .coll h1
theorem DRs.of_map_names (hg : Names σ σ' g u) : ∀ {a : List ADef} {d : List Deferred}, DRs ρ σ (a.map (mapDef g u)) d → DRs ρ σ' a d
 | [], _, .nil => .nil
 | _ :: _, _, .cons h1 h2 => .cons (DR.of_map_names hg h1) (DRs.of_map_names hg h2)
theorem ERs.of_map_names (hg : Names σ σ' g u) : ∀ {a : List (AV × AV)} {d : List MapEntry}, ERs ρ σ (a.map fun p => (mapAV g u p.1, mapAV g u p.2)) d → ERs ρ σ' a d
 | [], _, .nil => .nil
 | _ :: _, _, .cons h1 h2 h3 => .cons (VR.of_map_names hg h1) (VR.of_map_names hg h2) (ERs.of_map_names hg h3)
theorem row_of_map_names (hg : Names σ σ' g u) {l : List AV} {s : Nat} {c : Array Value} (h : RowR ρ σ (mapAVs g u l) s c) : RowR ρ σ' l s c := fun i a ha => by
 obtain ⟨v, h1, h2⟩ := h i (mapAV g u a) (by rw [mapAVs_map, List.getElem?_map, ha]; rfl)
 exact ⟨v, h1, VR.of_map_names hg h2⟩
theorem OR.of_map_names (hg : Names σ σ' g u) {a : AObj} {x : Loc} {o : Obj} (h : OR ρ σ (mapObj g u a) x o) : OR ρ σ' a x o := by
 cases a with
 | cells el l s f =>
  cases h with
  | cells h1 h2 h3 h4 h5 h6 =>
   have e : (mapAVs g u l).length = l.length := by rw [mapAVs_map, List.length_map]
   rw [e] at h2 h4 h5 h6
   exact .cells h1 h2 (row_of_map_names hg h3) h4 h5 h6
 | map es => cases h with | map h1 => exact .map (ERs.of_map_names hg h1)
 | loop st p f t ps a b d => cases h with | loop h1 h2 => exact .loop (VRs.of_map_names hg h1) h2
 | dfr l =>
  cases l with
  | none => cases h; exact .dfr0
  | some l => cases h with | dfr h1 => exact .dfr (DRs.of_map_names hg h1)
 | seq el tys l f =>
  cases h with
  | seq h1 h2 h3 h4 h5 h6 => exact .seq (by rw [← hg.len]; exact h1) h2 h3 h4 (fun i j y hi hj => by rw [← hg.get]; exact h5 i j y hi hj) h6

theorem mapObj_solo (a : AObj) : (mapObj g u a).solo = a.solo ∧ (mapObj g u a).front = a.front ∧ (mapObj g u a).len = a.len := by
 cases a with
 | dfr l => cases l <;> exact ⟨rfl, rfl, rfl⟩
 | cells el l s f => exact ⟨rfl, rfl, by simp [mapObj, AObj.len, mapAVs_map]⟩
 | _ => exact ⟨rfl, rfl, rfl⟩

theorem HR.of_map_names (hg : Names σ σ' g u) {H : AHeap} (h : HR ρ σ own (mapH g u H) w) : HR ρ σ' own H w where
 obj b a x hb hx := by
  obtain ⟨o, h1, h2⟩ := h.obj b (mapObj g u a) x (by show (mapT g u H.t).get b = _; rw [mapT_get]; rw [show H.t.get b = some a from hb]; rfl) hx
  exact ⟨o, h1, OR.of_map_names hg h2⟩
 dom b x hx := h.dom b x hx
 apart b b' a a' x x' hn hb hb' hx hx' hr := by
  have := h.apart b b' (mapObj g u a) (mapObj g u a') x x' hn (by show (mapT g u H.t).get b = _; rw [mapT_get]; rw [show H.t.get b = some a from hb]; rfl) (by show (mapT g u H.t).get b' = _; rw [mapT_get]; rw [show H.t.get b' = some a' from hb']; rfl) hx hx' hr
  rw [(mapObj_solo a).1, (mapObj_solo a).2.1, (mapObj_solo a').2.1, (mapObj_solo a).2.2, (mapObj_solo a').2.2] at this
  exact this
 own b a x hb hx hs := h.own b (mapObj g u a) x (by show (mapT g u H.t).get b = _; rw [mapT_get]; rw [show H.t.get b = some a from hb]; rfl) hx (by rw [(mapObj_solo a).1, (mapObj_solo a).2.1]; exact hs)

theorem FR.of_map_names (hg : Names σ σ' g u) {q : List Nat} {a : AFrame} {c : Frame} (h : FR ρ σ q (mapF g u a) c) : FR ρ σ' q a c := by
 obtain ⟨h1, h2, h3, h4, h5, ex, h6, h7⟩ := h
 refine ⟨h1, h2, h3, h4, DRs.of_map_names hg h5, ex, h6, ?_, fun i x hi hx => ?_⟩
 ·rw [← h7.1]; simp [mapF, mapAVs_map]
 ·obtain ⟨v, k1, k2⟩ := h7.2 i (mapAV g u x) (by simp only [mapF, mapAVs_map, List.getElem?_map, hi]; rfl) hx
  exact ⟨v, k1, VR.of_map_names hg k2⟩
theorem FRs.of_map_names (hg : Names σ σ' g u) : ∀ {q : List Nat} {a : List AFrame} {c : List Frame}, FRs ρ σ cs q (a.map (mapF g u)) c → FRs ρ σ' cs q a c
 | _, [], _, .nil => .nil
 | _, _ :: _, _, .cons h1 h2 => .cons (FR.of_map_names hg h1) (FRs.of_map_names hg h2)

theorem Sim.of_map_names (hg : Names σ σ' g u) {c : ACfg} {fr : Frame} {ccs : List Frame} (hs : Sim E σ own cs (mapC g u c) fr ccs w) : Sim E σ' own cs c fr ccs w := by
 obtain ⟨ρ, q, qs, h⟩ := hs
 exact ⟨ρ, q, qs, ⟨HR.of_map_names hg h.hr, FR.of_map_names hg h.top, FRs.of_map_names hg h.rest, h.nodup, h.none, h.glob⟩⟩
end
end Go.Eng
namespace Go.Eng
open Go Go.Proofs

/-- where a block stands in a list -/
def posIn : List Nat → Nat → Nat → Option Nat
 | [], _, _ => none
 | b :: l, x, k => bif Nat.beq b x then some k else posIn l x (k + 1)
theorem posIn_get : ∀ {l : List Nat} {x k m : Nat}, posIn l x k = some m → k ≤ m ∧ l[m - k]? = some x
 | [], _, _, _, h => by cases h
 | b :: l, x, k, m, h => by
  unfold posIn at h
  cases hb : Nat.beq b x with
  | true =>
   rw [hb] at h
   cases h
   rw [Nat.eq_of_beq_eq_true hb]
   exact ⟨Nat.le_refl _, by simp⟩
  | false =>
   rw [hb] at h
   obtain ⟨h1, h2⟩ := posIn_get (l := l) h
   refine ⟨by omega, ?_⟩
   rw [show m - k = (m - (k + 1)) + 1 by omega, List.getElem?_cons_succ]
   exact h2

mutual
/-- block number μ[k] is called k; what leads elsewhere is not known any more -/
def renA (μ : List Nat) : AV → AV
 | .ptr b o => match posIn μ b 0 with | some k => .ptr k o | none => .unk
 | .sl b o n c e x => match posIn μ b 0 with | some k => .sl k o n c e x | none => .unk
 | .sq b e n => match posIn μ b 0 with | some k => .sq k e n | none => .unk
 | .sp b e i o => match posIn μ b 0 with | some k => .sp k e i o | none => .unk
 | .map b => match posIn μ b 0 with | some k => .map k | none => .unk
 | .yield b => match posIn μ b 0 with | some k => .yield k | none => .unk
 | .fn f a c => .fn f (renAs μ a) (renAs μ c)
 | .iface t v => .iface t (renA μ v)
 | .agg l => .agg (renAs μ l)
 | .tup l => .tup (renAs μ l)
 | .at v => .at v
 | .sym t => .sym t
 | .unk => .unk
 | .str l => .str l
 | .slz e => .slz e
def renAs (μ : List Nat) : List AV → List AV
 | [] => []
 | a :: l => renA μ a :: renAs μ l
end
theorem renAs_map (μ : List Nat) (l : List AV) : renAs μ l = l.map (renA μ) := by
 induction l with
 | nil => rfl
 | cons a l ih => simp [renAs, ih]

def renM (μ : List Nat) (ρ : Map) : Map := fun k => match μ[k]? with | some b => ρ b | none => none
theorem renM_pos {μ : List Nat} {ρ : Map} {b k : Nat} (h : posIn μ b 0 = some k) : renM μ ρ k = ρ b := by
 have := (posIn_get h).2
 simp only [Nat.sub_zero] at this
 simp only [renM, this]

mutual
theorem VR.ren {μ : List Nat} {ρ : Map} {σ : Tok → Value} : ∀ {a : AV} {v : Value}, VR ρ σ a v → VR (renM μ ρ) σ (renA μ a) v
 | _, _, .at v => .at v
 | _, _, .sym n h => .sym n h
 | _, _, .unk v => .unk v
 | _, _, .str l => .str l
 | _, _, .slz h1 => .slz h1
 | .ptr b o, _, .ptr hb => by
  unfold renA
  cases h : posIn μ b 0 with
  | none => exact .unk _
  | some k => exact .ptr (by rw [renM_pos h]; exact hb)
 | .sl b .., _, .sl hb h1 h2 h3 h4 h5 => by
  unfold renA
  cases h : posIn μ b 0 with
  | none => exact .unk _
  | some k => exact .sl (by rw [renM_pos h]; exact hb) h1 h2 h3 h4 h5
 | .sq b .., _, .sq hb h1 h2 h3 h4 => by
  unfold renA
  cases h : posIn μ b 0 with
  | none => exact .unk _
  | some k => exact .sq (by rw [renM_pos h]; exact hb) h1 h2 h3 h4
 | .sp b .., _, .sp hb h1 => by
  unfold renA
  cases h : posIn μ b 0 with
  | none => exact .unk _
  | some k => exact .sp (by rw [renM_pos h]; exact hb) h1
 | .map b, _, .map hb => by
  unfold renA
  cases h : posIn μ b 0 with
  | none => exact .unk _
  | some k => exact .map (by rw [renM_pos h]; exact hb)
 | .yield b, _, .yield hb => by
  unfold renA
  cases h : posIn μ b 0 with
  | none => exact .unk _
  | some k => exact .yield (by rw [renM_pos h]; exact hb)
 | .fn f a c, _, .fn h1 h2 => by unfold renA; exact .fn (VRs.ren h1) (VRs.ren h2)
 | .iface t v, _, .iface h1 => by unfold renA; exact .iface (VR.ren h1)
 | .agg l, _, .agg h1 => by unfold renA; exact .agg (VRs.ren h1)
 | .tup l, _, .tup h1 => by unfold renA; exact .tup (VRs.ren h1)
theorem VRs.ren {μ : List Nat} {ρ : Map} {σ : Tok → Value} : ∀ {l : List AV} {l' : List Value}, VRs ρ σ l l' → VRs (renM μ ρ) σ (renAs μ l) l'
 | _, _, .nil => .nil
 | _, _, .cons h1 h2 => .cons (VR.ren h1) (VRs.ren h2)
end

def renO (μ : List Nat) : AObj → Option AObj
 | .cells el l s f => some (.cells el (renAs μ l) s f)
 | .seq el tys T f => some (.seq el tys T f)
 | _ => none
def renT (μ : List Nat) (t : Tr AObj) : List Nat → Nat → Tr AObj
 | [], _ => .leaf
 | b :: l, k => match t.get b with
  | some o => match renO μ o with
   | some o' => Tr.set (k + 1) (renT μ t l (k + 1)) k o'
   | none => renT μ t l (k + 1)
  | none => renT μ t l (k + 1)
theorem renT_get {μ : List Nat} {t : Tr AObj} : ∀ {l : List Nat} {k m : Nat} {a : AObj}, (renT μ t l k).get m = some a → k ≤ m ∧ ∃ b o, l[m - k]? = some b ∧ t.get b = some o ∧ renO μ o = some a
 | [], _, _, _, h => by simp [renT, Tr.get] at h
 | b :: l, k, m, a, h => by
  have ih : (renT μ t l (k + 1)).get m = some a → k ≤ m ∧ ∃ c o, (b :: l)[m - k]? = some c ∧ t.get c = some o ∧ renO μ o = some a := fun h => by
   obtain ⟨h1, c, o, h2, h3, h4⟩ := renT_get h
   refine ⟨by omega, c, o, ?_, h3, h4⟩
   rw [show m - k = (m - (k + 1)) + 1 by omega, List.getElem?_cons_succ]
   exact h2
  unfold renT at h
  split at h
  ·rename_i o ho
   split at h
   ·rename_i o' ho'
    rw [Tr.get_set _ _ _ _ _ (Nat.lt_succ_self k)] at h
    by_cases e : m = k
    ·subst e
     rw [if_pos rfl] at h
     cases h
     exact ⟨Nat.le_refl _, b, o, by simp, ho, ho'⟩
    ·rw [if_neg e] at h
     exact ih h
   ·exact ih h
  ·exact ih h

/-- what a list's next items may be, here -/
def itemB : AItem → Bool
 | .code _ | .inBlock _ | .inLoop _ | .inScope _ => true
 | _ => false
def todoB : List AItem → Bool
 | .ops _ _ :: l => l.all itemB
 | l => l.all itemB
def frameB (f : AFrame) : Bool := todoB f.todo && (match f.defers with | [] => true | _ => false) && (match f.round with | none => true | _ => false)
def nodupB : List Nat → Bool
 | [] => true
 | a :: l => !memN l a && nodupB l
def renF (μ : List Nat) (f : AFrame) : AFrame := { f with tmps := renAs μ f.tmps }
def renC (μ : List Nat) (c : ACfg) : Option ACfg :=
 bif (c.fr :: c.callers).all frameB && nodupB μ && (match posIn μ 6 0 with | some k => Nat.beq k 6 | none => false) && (match posIn μ 7 0 with | some k => Nat.beq k 7 | none => false) then
  some ⟨renF μ c.fr, c.callers.map (renF μ), ⟨renT μ c.h.t μ 0, μ.length⟩⟩
 else none

theorem nodup_inj : ∀ {l : List Nat} {i j a : Nat}, l.Nodup → l[i]? = some a → l[j]? = some a → i = j
 | [], _, _, _, _, h, _ => by simp at h
 | b :: l, 0, 0, _, _, _, _ => rfl
 | b :: l, 0, j + 1, a, hn, h1, h2 => by
  simp only [List.getElem?_cons_zero, Option.some.injEq] at h1
  rw [List.getElem?_cons_succ] at h2
  exact absurd (List.mem_of_getElem? h2) (h1 ▸ (List.nodup_cons.1 hn).1)
 | b :: l, i + 1, 0, a, hn, h1, h2 => by
  simp only [List.getElem?_cons_zero, Option.some.injEq] at h2
  rw [List.getElem?_cons_succ] at h1
  exact absurd (List.mem_of_getElem? h1) (h2 ▸ (List.nodup_cons.1 hn).1)
 | b :: l, i + 1, j + 1, a, hn, h1, h2 => by
  rw [List.getElem?_cons_succ] at h1 h2
  rw [nodup_inj (List.nodup_cons.1 hn).2 h1 h2]
theorem nodupB_ok : ∀ {l : List Nat}, nodupB l = true → l.Nodup
 | [], _ => .nil
 | a :: l, h => by
  simp only [nodupB, Bool.and_eq_true, Bool.not_eq_true'] at h
  refine List.nodup_cons.2 ⟨fun hm => ?_, nodupB_ok h.2⟩
  rw [memN_iff.2 hm] at h
  cases h.1

section
variable {ρ : Map} {σ : Tok → Value} {own : Nat → Prop} {w : World} {E : Env} {cs : List Frame} {μ : List Nat}

theorem renO_solo {a b : AObj} (h : renO μ a = some b) : b.solo = a.solo ∧ b.front = a.front ∧ b.len = a.len := by
 cases a with
 | cells el l s f => cases h; exact ⟨rfl, rfl, by simp [AObj.len, renAs_map]⟩
 | seq el tys T f => cases h; exact ⟨rfl, rfl, rfl⟩
 | _ => cases h
theorem OR.ren {a b : AObj} {x : Loc} {o : Obj} (hb : renO μ a = some b) (h : OR ρ σ a x o) : OR (renM μ ρ) σ b x o := by
 cases a with
 | cells el l s f =>
  cases hb
  cases h with
  | cells h1 h2 h3 h4 h5 h6 =>
   have e : (renAs μ l).length = l.length := by rw [renAs_map, List.length_map]
   refine .cells h1 (by rw [e]; exact h2) (fun i a ha => ?_) (by rw [e]; exact h4) (by rw [e]; exact h5) (by rw [e]; exact h6)
   rw [renAs_map, List.getElem?_map] at ha
   cases hl : l[i]? with
   | none => rw [hl] at ha; cases ha
   | some z =>
    rw [hl] at ha
    cases ha
    obtain ⟨v, h1, h2⟩ := h3 i z hl
    exact ⟨v, h1, h2.ren⟩
 | seq el tys T f =>
  cases hb
  cases h with
  | seq h1 h2 h3 h4 h5 h6 => exact .seq h1 h2 h3 h4 h5 h6
 | _ => cases hb

theorem HR.ren {H : AHeap} (hn : μ.Nodup) (h : HR ρ σ own H w) : HR (renM μ ρ) σ own ⟨renT μ H.t μ 0, μ.length⟩ w := by
 have key : ∀ {k a}, AHeap.get ⟨renT μ H.t μ 0, μ.length⟩ k = some a → ∃ b o, μ[k]? = some b ∧ H.get b = some o ∧ renO μ o = some a := fun {k a} hk => by
  obtain ⟨_, b, o, h1, h2, h3⟩ := renT_get (μ := μ) (t := H.t) (l := μ) (k := 0) hk
  exact ⟨b, o, by simpa using h1, h2, h3⟩
 have hm : ∀ {k b}, μ[k]? = some b → renM μ ρ k = ρ b := fun {k b} hk => by simp only [renM, hk]
 refine ⟨fun k a x ha hx => ?_, fun k x hx => ?_, fun k k' a a' x x' hne ha ha' hx hx' hr => ?_, fun k a x ha hx hs => ?_⟩
 ·obtain ⟨b, o, h1, h2, h3⟩ := key ha
  rw [hm h1] at hx
  obtain ⟨ob, k1, k2⟩ := h.obj b o x h2 hx
  exact ⟨ob, k1, k2.ren h3⟩
 ·unfold renM at hx
  cases hk : μ[k]? with
  | none => rw [hk] at hx; cases hx
  | some b =>
   rw [hk] at hx
   exact ⟨(List.getElem?_eq_some_iff.1 hk).1, (h.dom b x hx).2⟩
 ·obtain ⟨b, o, h1, h2, h3⟩ := key ha
  obtain ⟨b', o', h1', h2', h3'⟩ := key ha'
  rw [hm h1] at hx
  rw [hm h1'] at hx'
  have hbb : b ≠ b' := fun e => by
   subst e
   exact hne (nodup_inj hn h1 h1')
  have := h.apart b b' o o' x x' hbb h2 h2' hx hx' hr
  rw [(renO_solo h3).1, (renO_solo h3).2.1, (renO_solo h3).2.2, (renO_solo h3').2.1, (renO_solo h3').2.2]
  exact this
 ·obtain ⟨b, o, h1, h2, h3⟩ := key ha
  rw [hm h1] at hx
  exact h.own b o x h2 hx (by rw [← (renO_solo h3).1, ← (renO_solo h3).2.1]; exact hs)

theorem IRs.ren : ∀ {l : List AItem} {l' : List Item}, l.all itemB = true → IRs ρ l l' → IRs (renM μ ρ) l l'
 | _, _, _, .nil => .nil
 | a :: l, _, h, .cons h1 h2 => by
  rw [List.all_cons, Bool.and_eq_true] at h
  refine .cons ?_ (IRs.ren h.2 h2)
  cases h1 with
  | code => exact .code _
  | inBlock => exact .inBlock _
  | inLoop => exact .inLoop _
  | inScope => exact .inScope _
  | _ => cases h.1
theorem FR.ren {q : List Nat} {a : AFrame} {c : Frame} (hb : frameB a = true) (h : FR ρ σ q a c) : q = [] ∧ FR (renM μ ρ) σ [] (renF μ a) c := by
 obtain ⟨h1, h2, h3, h4, h5, ex, h6, h7⟩ := h
 simp only [frameB, Bool.and_eq_true] at hb
 obtain ⟨⟨b1, b2⟩, b3⟩ := hb
 have ht : TR (renM μ ρ) σ ex (renAs μ a.tmps) c.tmps := by
  refine ⟨by rw [← h7.1, renAs_map, List.length_map], fun i x hi hx => ?_⟩
  rw [renAs_map, List.getElem?_map] at hi
  cases hl : a.tmps[i]? with
  | none => rw [hl] at hi; cases hi
  | some z =>
   rw [hl] at hi
   cases hi
   obtain ⟨v, k1, k2⟩ := h7.2 i z hl hx
   exact ⟨v, k1, k2.ren⟩
 have hd : DRs (renM μ ρ) σ a.defers c.defers := by
  split at b2
  ·rename_i e
   rw [e] at h5 ⊢
   generalize c.defers = z at h5
   cases h5
   exact .nil
  ·cases b2
 have hr : RoundR (renM μ ρ) a.round c.roundOf := by
  split at b3
  ·rename_i e
   rw [e] at h4 ⊢
   generalize c.roundOf = z at h4
   cases h4
   exact .none
  ·cases b3
 generalize e2 : c.todo = l2 at h6
 generalize e3 : a.todo = l3 at h6
 rw [e3] at b1
 cases h6 with
 | plain k1 => 
  refine ⟨rfl, h1, h2, h3, hr, hd, _, ?_, ht⟩
  have hall : l3.all itemB = true := by
   cases k1 with
   | nil => rfl
   | cons k2 k3 => cases k2 <;> exact b1
  show TodoR _ _ _ a.todo c.todo
  rw [e2, e3]
  exact .plain (IRs.ren hall k1)
 | ops k1 k2 =>
  refine ⟨rfl, h1, h2, h3, hr, hd, _, ?_, ht⟩
  show TodoR _ _ _ a.todo c.todo
  rw [e2, e3]
  exact .ops k1 (IRs.ren b1 k2)
 | any => simp [todoB, itemB] at b1
theorem FRs.ren : ∀ {q : List Nat} {a : List AFrame} {c : List Frame}, a.all frameB = true → FRs ρ σ cs q a c → q = [] ∧ FRs (renM μ ρ) σ cs [] (a.map (renF μ)) c
 | _, [], _, _, .nil => ⟨rfl, .nil⟩
 | _, _ :: _, _, h, .cons h1 h2 => by
  rw [List.all_cons, Bool.and_eq_true] at h
  obtain ⟨e1, g1⟩ := h1.ren (μ := μ) h.1
  obtain ⟨e2, g2⟩ := FRs.ren h.2 h2
  subst e1; subst e2
  exact ⟨rfl, .cons g1 g2⟩

theorem Sim.ren (hE : ∀ k, E.glob k = true → k = 6 ∨ k = 7) {c c' : ACfg} (hc : renC μ c = some c') {fr : Frame} {ccs : List Frame} (hs : Sim E σ own cs c fr ccs w) : Sim E σ own cs c' fr ccs w := by
 obtain ⟨ρ, q, qs, h⟩ := hs
 unfold renC at hc
 cases hb : ((c.fr :: c.callers).all frameB && nodupB μ && (match posIn μ 6 0 with | some k => Nat.beq k 6 | none => false) && (match posIn μ 7 0 with | some k => Nat.beq k 7 | none => false)) with
 | false => rw [hb] at hc; cases hc
 | true =>
  rw [hb] at hc
  cases hc
  simp only [Bool.and_eq_true, List.all_cons] at hb
  obtain ⟨⟨⟨⟨b1, b2⟩, b3⟩, b4⟩, b5⟩ := hb
  obtain ⟨e1, g1⟩ := h.top.ren (μ := μ) b1
  obtain ⟨e2, g2⟩ := FRs.ren (μ := μ) b2 h.rest
  subst e1; subst e2
  have hg : ∀ k, (match posIn μ k 0 with | some j => Nat.beq j k | none => false) = true → renM μ ρ k = ρ k := fun k hk => by
   split at hk
   ·rename_i j hj
    rw [← Nat.eq_of_beq_eq_true hk]
    rw [renM_pos hj, Nat.eq_of_beq_eq_true hk]
   ·cases hk
  refine ⟨renM μ ρ, [], [], ⟨h.hr.ren (nodupB_ok b3), g1, g2, List.nodup_nil, fun b hb => absurd hb (by simp), fun k hk => ?_⟩⟩
  obtain ⟨n, hn⟩ := h.glob k hk
  rcases hE k hk with rfl | rfl
  ·exact ⟨n, by rw [hg _ b4]; exact hn⟩
  ·exact ⟨n, by rw [hg _ b5]; exact hn⟩
end
end Go.Eng
namespace Go.Eng
open Go Go.Proofs

abbrev Sub := List (Nat × Tok)
def Sub.find : Sub → Ty → Nat → Option Tok
 | [], _, _ => none
 | (n, t) :: θ, y, m => bif Nat.beq n m && t.ty.beq y then some t else Sub.find θ y m
def Tok.subst (θ : Sub) : Tok → Tok
 | .v y n => match θ.find y n with
  | some t => t
  | none => .v y n
 | .ki k n => .ki k n | .ks l => .ks l | .kb b => .kb b
 | .len s => .len (s.subst θ)
 | .ar op k a b => .ar op k (a.subst θ) (b.subst θ)
 | .cv k a => .cv k (a.subst θ)
 | .idx a b => .idx (a.subst θ) (b.subst θ)
 | .sub a b c => .sub (a.subst θ) (b.subst θ) (c.subst θ)
 | .cat a b => .cat (a.subst θ) (b.subst θ)
 | .cmp op a b => .cmp op (a.subst θ) (b.subst θ)
 | .seq a b => .seq (a.subst θ) (b.subst θ)
 | .fits a b => .fits (a.subst θ) (b.subst θ)
 | .fn y f a b => .fn y f (a.subst θ) (b.subst θ)
 | .pk a b => .pk (a.subst θ) (b.subst θ)
 | .lnil => .lnil | .snoc a b => .snoc (a.subst θ) (b.subst θ) | .llen a => .llen (a.subst θ) | .lget j y a b => .lget j y (a.subst θ) (b.subst θ)
def Asn.sub (ι : Asn) (θ : Sub) : Asn := { v := fun y n => match θ.find y n with | some t => t.eval ι | none => ι.v y n, fn := ι.fn }
/-- what a substitution puts in a variable's place; it leaves it as it is -/
abbrev SA (ι : Asn) (θ : Sub) (y : Ty) (n : Nat) (t : Tok) : Prop := (ι.sub θ).v y n = t.eval ι
abbrev SV (ι : Asn) (θ : Sub) (y : Ty) (n : Nat) : Prop := (ι.sub θ).v y n = (Tok.v y n).eval ι

theorem find_ty : ∀ {θ : Sub} {y : Ty} {n : Nat} {t : Tok}, θ.find y n = some t → t.ty = y
 | [], _, _, _, h => by cases h
 | (m, u) :: θ, y, n, t, h => by
  simp only [Sub.find] at h
  cases hb : (Nat.beq m n && u.ty.beq y) with
  | true =>
   rw [hb] at h
   cases h
   simp only [Bool.and_eq_true] at hb
   exact Ty.beq_eq hb.2
  | false =>
   rw [hb] at h
   exact find_ty h
theorem subst_ty (θ : Sub) (t : Tok) : (t.subst θ).ty = t.ty := by
 cases t <;> try rfl
 rename_i y n
 simp only [Tok.subst]
 split
 ·rename_i t ht; exact find_ty ht
 ·rfl
theorem subst_eval (ι : Asn) (θ : Sub) (t : Tok) : (t.subst θ).eval ι = t.eval (ι.sub θ) := by
 induction t with
 | v y n =>
  simp only [Tok.subst, Tok.eval, Asn.sub]
  split
  ·rfl
  ·rfl
 | _ => simp_all [Tok.subst, Tok.eval, Asn.sub]
theorem sg_sub (ι : Asn) (θ : Sub) (t : Tok) : sg ι (Tok.subst θ t) = sg (ι.sub θ) t := by
 unfold sg
 rw [subst_ty, subst_eval]
def avOf : Tok → AV
 | .ki k n => .at (.int k n)
 | .ks l => .str l
 | .kb b => .at (.bool b)
 | t => .sym t
/-- what stands in the place of a name -/
def subA (θ : Sub) (t : Tok) : AV := avOf (t.subst θ)
theorem avOf_eq {ρ : Map} {ι : Asn} {t : Tok} {v : Value} (h : VR ρ (sg ι) (avOf t) v) : v = sg ι t := by
 cases t <;> (simp only [avOf] at h; cases h; rfl)
theorem subA_ok {ι : Asn} {θ : Sub} (ρ : Map) (t : Tok) (v : Value) (h : VR ρ (sg ι) (subA θ t) v) : VR ρ (sg (ι.sub θ)) (.sym t) v := by
 rw [avOf_eq h, sg_sub]
 exact .sym t (sg_cell _ _)

theorem orqT_ok {gl : Nat → Bool} {orc : Nat → List AV → Option AV} {ι : Asn} {A : Known} (hE : (TE gl orc).Ok (sg ι)) (hA : A.so ι) : OrqOf Tryz.prog (sg ι) (fun _ => orqG TT.get flatOf false A) := by
 have h := orqG_ok hE hA
 dsimp only [TE, TQ] at h
 exact h

theorem tok_val {ρ : Map} {ι : Asn} {a : AV} {t : Tok} (h : a.tok = some t) {v : Value} (hv : VR ρ (sg ι) a v) : v = sg ι t := by
 have h2 := hv.conc
 rw [tok_conc h] at h2
 exact VR.av_inv h2
theorem orxT_ok {ι : Asn} : OrxOf Tryz.prog (sg ι) orxT := fun x args v h ρ args' w fn ha => by
 unfold orxT at h
 split at h
 ·rename_i a b
  cases hs : (a.isSym || b.isSym) with
  | false => rw [hs] at h; cases h
  | true =>
  rw [hs] at h
  simp only [cond_true] at h
  split at h
  ·rename_i s t h1 h2
   cases hk : (isIntK s.ty && isIntK t.ty) with
   | false => rw [hk] at h; cases h
   | true =>
   rw [hk] at h
   cases h
   simp only [Bool.and_eq_true] at hk
   obtain ⟨k, hk1⟩ := isIntK_inv hk.1
   obtain ⟨j, hk2⟩ := isIntK_inv hk.2
   cases ha with
   | cons g1 ha => cases ha with
    | cons g2 ha => cases ha with
     | cons g3 ha =>
      cases ha
      have e1 := tok_val h1 g1
      have e2 := tok_val h2 g2
      have e3 := g3.at_inv
      subst e1; subst e2; subst e3
      refine ⟨_, ?_, .tup (.cons (.sym _ (sg_cell ι _)) (.cons (.sym _ (sg_cell ι _)) .nil))⟩
      have a1 : sg ι s = .int k (s.eval ι).toI := by unfold sg; rw [hk1]; rfl
      have a2 : sg ι t = .int j (t.eval ι).toI := by unfold sg; rw [hk2]; rfl
      rw [a1, a2]
      rfl
  ·cases h
 ·cases h

/-- two errors of one type of whole numbers are compared -/
def ifaceEq (ev : Operand → AV) (o : Op) : Option AV :=
 match o with
 | .binOp .eql 197 x y _ => match ev x, ev y with
  | .iface 374 (.at (.int .i64 a)), .iface 374 (.at (.int .i64 b)) => some (.at (.bool (a == b)))
  | _, _ => none
 | _ => none

theorem subA_names (ι : Asn) (θ : Sub) : Names (sg ι) (sg (ι.sub θ)) (subA θ) (Tok.subst θ) where
 sym := subA_ok
 tok t := sg_sub ι θ t
 len t := sg_sub ι θ (.llen t)
 get j y t i := sg_sub ι θ (.lget j y t (.ki .i64 i))

abbrev Orc1 := Known → AHeap → Nat → List AV → Option AV
/-- told with what comes to stand in memory -/
abbrev Orc := Known → AHeap → Nat → List AV → Option (AV × AHeap)
def lift1 (o : Orc1) : Orc := fun A => liftO (o A)
/-- the errors that are variables -/
def gl67 : Nat → Bool := fun k => Nat.beq k 6 || Nat.beq k 7
def errObj : AObj := .cells 197 [.iface 389 .unk] false false
def H0 : AHeap := ⟨Tr.set 9 (Tr.set 9 .leaf 6 errObj) 7 errObj, 8⟩
def errAt (H : AHeap) (k : Nat) : Bool :=
 match H.get k with
 | some (.cells el [.iface t .unk] false false) => Nat.beq el 197 && Nat.beq t 389
 | _ => false
/-- the errors stand in a world -/
def ErrAt (w : World) (k : Nat) : Prop := ∃ c fz pe, w.heap[k]? = some (.cells c 197 fz) ∧ c[0]? = some (.iface 389 pe)
def W (w : World) : Prop := ErrAt w 6 ∧ ErrAt w 7

noncomputable def orqS (A : Known) (H : AHeap) (ev : Operand → AV) (o : Op) : Option AV :=
 match ifaceEq ev o with
 | some v => some v
 | none => match seqG TT.get false A H ev o with
  | some v => some v
  | none => orqG TT.get flatOf false A ev o
/-- the elements whose rows go by names: strings, tags, values -/
def rowT : Nat → Option (List Ty)
 | 9 => some [.str]
 | 39 => some [.str, .str]
 | 36 => some [.bool, .int .u64, .int .i64]
 | _ => none
noncomputable def TS (orc : Orc) (A : Known) : Env := TQ gl67 (orc A) (orqS A) orxT (appG TT.get rowT false A)
def noOrcs : Orc := fun _ _ _ _ => none
noncomputable def TN : Env := TS noOrcs []

theorem gl67_inv {k : Nat} (h : TN.glob k = true) : k = 6 ∨ k = 7 := by
 have h : (Nat.beq k 6 || Nat.beq k 7) = true := h
 simpa [Nat.beq_eq] using h

/-- the oracles are true of whatever the names stand for, if the functions are these -/
def OrcIs (F : Nat → Val → Val → Val) (orc : Orc) : Prop := ∀ (ι : Asn) (A : Known), ι.fn = F → A.so ι → OrcOf Tryz.prog gl67 (sg ι) (orc A)
def OrcIs1 (F : Nat → Val → Val → Val) (orc : Orc1) : Prop := ∀ (ι : Asn) (A : Known), ι.fn = F → A.so ι → Orc1Of Tryz.prog gl67 (sg ι) (orc A)
theorem OrcIs1.lift {F : Nat → Val → Val → Val} {orc : Orc1} (h : OrcIs1 F orc) : OrcIs F (lift1 orc) := fun ι A hf hA => (h ι A hf hA).lift

theorem run_typeInfo' {P : Program} {w : World} {t : TypeId} {i : TypeInfo} (h : P.info? t = some i) : (typeInfo t).run P w = .ok i w := by
 simp [typeInfo, h]
theorem ifaceEq_gen {P : Program} {t te : TypeId} {ms : Array (String × TypeId)} {info : TypeInfo} {k : IntKind} (hu : P.underlying t = some (.interface ms)) (hi : P.info? te = some info) (hc : info.comparable = true) (hv : P.underlying te = some (.int k))
  (a b : Int) (w : World) {xo yo : Operand} : ((do eqGuard .eql t xo yo (.iface te (.int .i64 a)) (.iface te (.int .i64 b)); binOp .eql t (.iface te (.int .i64 a)) (.iface te (.int .i64 b))) : Sem Value).run P w = .ok (.bool (a == b)) w := by
 have hg : (eqGuard .eql t xo yo (.iface te (.int .i64 a)) (.iface te (.int .i64 b))).run P w = .ok () w := rfl
 simp only [Sem.run_bind, hg, Result.andThen_ok]
 show ((do pure (.bool (← Op.equal t (.iface te (.int .i64 a)) (.iface te (.int .i64 b)))) : Sem Value)).run P w = _
 have he : (Op.equal t (.iface te (.int .i64 a)) (.iface te (.int .i64 b))).run P w = .ok (a == b) w := by
  show (Op.equalIn (9998 + 1 + 1) t (.iface te (.int .i64 a)) (.iface te (.int .i64 b))).run P w = _
  rw [Op.equalIn]
  simp only [Sem.run_bind, run_underlying hu, Result.andThen_ok, ne_eq, not_true_eq_false, if_false, run_typeInfo' hi, hc, Bool.not_true, Bool.false_eq_true]
  rw [Op.equalIn]
  simp only [Sem.run_bind, run_underlying hv, Result.andThen_ok, if_true]
  rfl
 simp only [Sem.run_bind, he, Result.andThen_ok]
 rfl
def isIfaceT : Option TypeDesc → Bool
 | some (.interface _) => true
 | _ => false
def isI64T : Option TypeDesc → Bool
 | some (.int _) => true
 | _ => false
theorem isIfaceT_ok {o : Option TypeDesc} (h : isIfaceT o = true) : ∃ ms, o = some (.interface ms) := by
 unfold isIfaceT at h; split at h
 ·exact ⟨_, rfl⟩
 ·cases h
theorem isI64T_ok {o : Option TypeDesc} (h : isI64T o = true) : ∃ ms, o = some (.int ms) := by
 unfold isI64T at h; split at h
 ·exact ⟨_, rfl⟩
 ·cases h
def compB : Option TypeInfo → Bool
 | some i => i.comparable
 | none => false
theorem compB_ok {o : Option TypeInfo} (h : compB o = true) : ∃ i, o = some i ∧ i.comparable = true := by
 unfold compB at h; split at h
 ·exact ⟨_, rfl, h⟩
 ·cases h
set_option maxRecDepth 1000000 in
theorem errT_ok : (isIfaceT (Tryz.prog.underlying 197) && (isI64T (Tryz.prog.underlying 374) && compB (Tryz.prog.info? 374))) = true := by kernel_rfl
theorem ifaceEq_run (a b : Int) (w : World) {xo yo : Operand} : ((do eqGuard .eql 197 xo yo (.iface 374 (.int .i64 a)) (.iface 374 (.int .i64 b)); binOp .eql 197 (.iface 374 (.int .i64 a)) (.iface 374 (.int .i64 b))) : Sem Value).run Tryz.prog w = .ok (.bool (a == b)) w := by
 have h := errT_ok
 simp only [Bool.and_eq_true] at h
 obtain ⟨ms, h1⟩ := isIfaceT_ok h.1
 obtain ⟨k, h2⟩ := isI64T_ok h.2.1
 obtain ⟨i, h3, h4⟩ := compB_ok h.2.2
 exact ifaceEq_gen h1 h3 h4 h2 a b w
theorem ifaceEq_ok {ι : Asn} {ev : Operand → AV} {o : Op} {v : AV} (h : ifaceEq ev o = some v) {ρ : Map} (cv : Operand → Value) (hev : ∀ x ∈ o.operands, VR ρ (sg ι) (ev x) (cv x)) (q : Oper) (w : World) (hq : q.op = o) :
  ∃ v', (execOp cv q).run Tryz.prog w = .ok (.value v') w ∧ VR ρ (sg ι) v v' := by
 subst hq
 unfold ifaceEq at h
 split at h
 ·rename_i x y z hop
  split at h
  ·rename_i a b hx hy
   cases h
   have h1 := hev x (by rw [hop]; simp [Op.operands])
   have h2 := hev y (by rw [hop]; simp [Op.operands])
   rw [hx] at h1
   rw [hy] at h2
   refine ⟨.bool (a == b), ?_, .at _⟩
   generalize e1 : cv x = v1 at h1
   generalize e2 : cv y = v2 at h2
   cases h1 with
   | iface h1 => cases h2 with
    | iface h2 =>
     have := h1.at_inv
     have := h2.at_inv
     subst_vars
     obtain ⟨dst, op, type, pos, after, guard⟩ := q
     simp only at hop
     subst hop
     simp only [execOp, e1, e2, Sem.run_bind]
     have := ifaceEq_run a b w (xo := x) (yo := y)
     simp only [Sem.run_bind] at this
     rw [this]
     rfl
  ·cases h
 ·cases h

theorem seqT_ok {ι : Asn} {A : Known} (hA : A.so ι) : OrqOf Tryz.prog (sg ι) (seqG TT.get false A) := by
 have h := seqG_ok (E := T0) T0_ok hA
 dsimp only [T0, TE, TQ] at h
 exact h
theorem orqS_ok {ι : Asn} {A : Known} (hA : A.so ι) : OrqOf Tryz.prog (sg ι) (orqS A) := fun H ev o v h ρ own w hr cv hev q hq => by
 unfold orqS at h
 split at h
 ·rename_i u hu
  cases h
  exact ifaceEq_ok hu cv hev q w hq
 ·split at h
  ·rename_i u hu
   cases h
   exact seqT_ok hA H ev o v hu ρ own w hr cv hev q hq
  ·exact orqT_ok T0_ok hA H ev o v h ρ own w hr cv hev q hq
theorem orbS_ok {ι : Asn} {A : Known} (hA : A.so ι) : OrbOf Tryz.prog (sg ι) (appG TT.get rowT false A) := by
 have h := appG_ok (E := T0) (L := rowT) T0_ok hA
 dsimp only [T0, TE, TQ] at h
 exact h

theorem TS_ok {F : Nat → Val → Val → Val} {orc : Orc} (ho : OrcIs F orc) {ι : Asn} {A : Known} (hf : ι.fn = F) (hA : A.so ι) : (TS orc A).Ok (sg ι) :=
 TQ_ok (ho ι A hf hA) (orqS_ok hA) orxT_ok (orbS_ok hA)
theorem noOrc_is (F : Nat → Val → Val → Val) : OrcIs F noOrcs := fun _ _ _ _ _ _ _ _ _ h => by cases h
theorem TN_ok {ι : Asn} : TN.Ok (sg ι) := TS_ok (noOrc_is ι.fn) rfl (fun p hp => by cases hp)

/-- of the uppermost frame's temporaries only these are kept -/
def forgetL (ks : List Nat) : Nat → List AV → List AV
 | _, [] => []
 | i, a :: l => (bif memN ks i then a else .unk) :: forgetL ks (i + 1) l
def forgetF (ks : List Nat) (f : AFrame) : AFrame := { f with tmps := forgetL ks 0 f.tmps }
def forgetFs : List (List Nat) → List AFrame → List AFrame
 | k :: ks, f :: fs => forgetF k f :: forgetFs ks fs
 | _, fs => fs
/-- what is kept of each frame, the uppermost first -/
def forgetC (ks : List (List Nat)) (c : ACfg) : ACfg :=
 match ks with
 | [] => c
 | k :: ks => { c with fr := forgetF k c.fr, callers := forgetFs ks c.callers }

theorem forgetL_length (ks : List Nat) : ∀ (i : Nat) (l : List AV), (forgetL ks i l).length = l.length
 | _, [] => rfl
 | i, a :: l => by simp [forgetL, forgetL_length ks (i + 1) l]
theorem forgetL_get (ks : List Nat) : ∀ (i : Nat) (l : List AV) (n : Nat) (a : AV), (forgetL ks i l)[n]? = some a → a = .unk ∨ l[n]? = some a
 | _, [], n, a, h => by simp [forgetL] at h
 | i, b :: l, 0, a, h => by
  simp only [forgetL, List.getElem?_cons_zero, Option.some.injEq] at h
  cases hm : memN ks i with
  | true => rw [hm] at h; exact .inr (by simpa using h)
  | false => rw [hm] at h; exact .inl h.symm
 | i, b :: l, n + 1, a, h => by
  simp only [forgetL, List.getElem?_cons_succ] at h ⊢
  exact forgetL_get ks (i + 1) l n a h

theorem FR.forget {ρ : Map} {σ : Tok → Value} {q : List Nat} (ks : List Nat) {a : AFrame} {fr : Frame} (h : FR ρ σ q a fr) : FR ρ σ q (forgetF ks a) fr := by
 obtain ⟨h1, h2, h3, h4, h5, ex, h6, h7⟩ := h
 refine ⟨h1, h2, h3, h4, h5, ex, h6, by rw [← h7.1]; exact forgetL_length ks 0 _, fun i a ha hx => ?_⟩
 rcases forgetL_get ks 0 _ i a ha with rfl | ha'
 ·have hlt : i < fr.tmps.size := by
   rw [← h7.1, ← forgetL_length ks 0]
   obtain ⟨h8, _⟩ := List.getElem?_eq_some_iff.1 ha
   exact h8
  exact ⟨fr.tmps[i], by simp [hlt], .unk _⟩
 ·exact h7.2 i a ha' hx
theorem FRs.forget {ρ : Map} {σ : Tok → Value} {cs : List Frame} : ∀ {ks : List (List Nat)} {q : List Nat} {a : List AFrame} {c : List Frame}, FRs ρ σ cs q a c → FRs ρ σ cs q (forgetFs ks a) c
 | [], _, [], _, h => h
 | [], _, _ :: _, _, h => h
 | _ :: _, _, [], _, h => h
 | k :: ks, _, _ :: _, _, .cons h1 h2 => .cons (h1.forget k) (FRs.forget (ks := ks) h2)
theorem Sim.forget {E : Env} {σ : Tok → Value} {own : Nat → Prop} {cs : List Frame} {w : World} (ks : List (List Nat)) {c : ACfg} {fr : Frame} {ccs : List Frame} (hs : Sim E σ own cs c fr ccs w) : Sim E σ own cs (forgetC ks c) fr ccs w := by
 obtain ⟨ρ, q, qs, h⟩ := hs
 cases ks with
 | nil => exact ⟨ρ, q, qs, h⟩
 | cons k ks => exact ⟨ρ, q, qs, ⟨h.hr, h.top.forget k, h.rest.forget, h.nodup, h.none, h.glob⟩⟩

inductive Way (orc : Orc) : Asn → ACfg → Asn → ACfg → Prop
 | refl (ι : Asn) (c : ACfg) : Way orc ι c ι c
 | run (A : Known) (n : Nat) {ι ι2 : Asn} {c c1 c2 : ACfg} : A.so ι → run (TS orc A) n c = some c1 → Way orc ι c1 ι2 c2 → Way orc ι c ι2 c2
 | keep (bs : List Nat) {ι ι2 : Asn} {c c2 : ACfg} : Way orc ι (keep c bs) ι2 c2 → Way orc ι c ι2 c2
 | forget (ks : List (List Nat)) {ι ι2 : Asn} {c c2 : ACfg} : Way orc ι (forgetC ks c) ι2 c2 → Way orc ι c ι2 c2
 | sub (θ : Sub) {ι ι2 : Asn} {c c1 c2 : ACfg} : c = mapC (subA θ) (Tok.subst θ) c1 → Way orc (ι.sub θ) c1 ι2 c2 → Way orc ι c ι2 c2
 | ren (μ : List Nat) {ι ι2 : Asn} {c c1 c2 : ACfg} : renC μ c = some c1 → Way orc ι c1 ι2 c2 → Way orc ι c ι2 c2

theorem Way.trans {orc : Orc} {ι ι1 ι2 : Asn} {c c1 c2 : ACfg} (h : Way orc ι c ι1 c1) (h2 : Way orc ι1 c1 ι2 c2) : Way orc ι c ι2 c2 := by
 induction h with
 | refl => exact h2
 | run A n hA h1 _ ih => exact .run A n hA h1 (ih h2)
 | keep bs _ ih => exact .keep bs (ih h2)
 | forget ks _ ih => exact .forget ks (ih h2)
 | sub θ he _ ih => exact .sub θ he (ih h2)
 | ren μ he _ ih => exact .ren μ he (ih h2)

section
variable {own : Nat → Prop} {cs : List Frame} {F : Nat → Val → Val → Val} {orc : Orc}

theorem Sim.glob {E E' : Env} {σ : Tok → Value} {w : World} {c : ACfg} {fr : Frame} {ccs : List Frame} (he : E'.glob = E.glob) (h : Sim E σ own cs c fr ccs w) : Sim E' σ own cs c fr ccs w := by
 obtain ⟨ρ, q, qs, h⟩ := h
 exact ⟨ρ, q, qs, h.hr, h.top, h.rest, h.nodup, h.none, fun k hk => h.glob k (by rw [← he]; exact hk)⟩

theorem way_ok (ho : OrcIs F orc) {ι ι2 : Asn} {c c2 : ACfg} (h : Way orc ι c ι2 c2) : ι.fn = F → ∀ {w : World} {fr : Frame} {ccs : List Frame}, (∀ k, w.heap.size ≤ k → own k) → Sim TN (sg ι) own cs c fr ccs w →
  ∃ fr' ccs' w', Steps Tryz.prog (lone fr ccs w) (lone fr' ccs' w') ∧ Sim TN (sg ι2) own cs c2 fr' ccs' w' ∧ Kp own w w' := by
 induction h with
 | refl => intro _ w fr ccs _ hs; exact ⟨_, _, w, Steps.refl _ _, hs, Kp.refl _ _⟩
 | run A n hA h1 _ ih =>
  intro hf w fr ccs hown hs
  obtain ⟨fr1, ccs1, w1, g1, g2, g3⟩ := run_ok (TS_ok ho hf hA) n w hown (Sim.glob (E := TN) (E' := TS orc A) rfl hs) h1
  obtain ⟨fr2, ccs2, w2, k1, k2, k3⟩ := ih hf (fun k hk => hown k (Nat.le_trans g3.size hk)) (Sim.glob (E := TS orc A) (E' := TN) rfl g2)
  exact ⟨fr2, ccs2, w2, g1.trans k1, k2, g3.trans k3⟩
 | keep bs _ ih => intro hf w fr ccs hown hs; exact ih hf hown (hs.keep bs)
 | forget ks _ ih => intro hf w fr ccs hown hs; exact ih hf hown (hs.forget ks)
 | sub θ he _ ih =>
  intro hf w fr ccs hown hs
  subst he
  exact ih hf hown (Sim.of_map_names (subA_names _ θ) hs)
 | ren μ he _ ih =>
  intro hf w fr ccs hown hs
  exact ih hf hown (Sim.ren (fun k hk => gl67_inv hk) he hs)

theorem calls_of_way (ho : OrcIs F orc) {ι ι2 : Asn} (hf : ι.fn = F) {ρ : Map} {w : World} {f : FuncId} {args : List AV} {args' : List Value} {H : AHeap} (ha : VRs ρ (sg ι) args args') (hr : HR ρ (sg ι) own H w) (hown : ∀ k, w.heap.size ≤ k → own k) (hg : GlobOk TN ρ)
  {fr : AFrame} (he : enterA TN f args false = some fr) {c' : ACfg} (hw : Way orc ι ⟨fr, [], H⟩ ι2 c') {v : AV} (hv : endVal TN f c' = some v) :
  Calls Tryz.prog f args'.toArray w fun e w' => ∃ v' ρ', e = .returned v' ∧ VR ρ' (sg ι2) v v' ∧ HR ρ' (sg ι2) own c'.h w' ∧ Kp own w w' :=
 calls_of_sim (E := TN) TN_ok TN_ok ha hr hg he (fun hs => way_ok ho hw hf hown hs) hv
end

/-- what may hold, and what comes of it; 'dead': not so -/
inductive Tree where
 | leaf (v : AV) | dead | fork (t : Tok) (y n : Tree)
def FUEL : Nat := 1000000
noncomputable def okTree (orc : Orc) (p : AV → ACfg → Bool) (c : ACfg) : Tree → Known → Bool
 | .leaf v, A => match run (TS orc A) FUEL c with
  | some c' => p v c'
  | none => false
 | .dead, _ => true
 | .fork t y n, A => okTree orc p c y ((t, true) :: A) && okTree orc p c n ((t, false) :: A)
def live (ι : Asn) : Tree → Prop
 | .leaf _ => True
 | .dead => False
 | .fork t y n => ((t.eval ι).toB = true → live ι y) ∧ ((t.eval ι).toB = false → live ι n)
def treeVal (ι : Asn) : Tree → AV
 | .leaf v => v
 | .dead => .tup []
 | .fork t y n => bif (t.eval ι).toB then treeVal ι y else treeVal ι n

theorem tree_way {orc : Orc} {p : AV → ACfg → Bool} {c : ACfg} {ι : Asn} : ∀ (tr : Tree) (A : Known), okTree orc p c tr A = true → A.so ι → live ι tr → ∃ c', Way orc ι c ι c' ∧ p (treeVal ι tr) c' = true
 | .leaf v, A, h, hA, _ => by
  simp only [okTree] at h
  split at h
  ·rename_i c' hc
   exact ⟨c', .run A FUEL hA hc (.refl _ _), h⟩
  ·cases h
 | .dead, _, _, _, hl => hl.elim
 | .fork t y n, A, h, hA, hl => by
  simp only [okTree, Bool.and_eq_true] at h
  simp only [treeVal]
  cases ht : (t.eval ι).toB with
  | true => exact tree_way y _ h.1 (fun q hq => (List.mem_cons.1 hq).elim (fun e => e ▸ ht) (hA q)) (hl.1 ht)
  | false => exact tree_way n _ h.2 (fun q hq => (List.mem_cons.1 hq).elim (fun e => e ▸ ht) (hA q)) (hl.2 ht)

mutual
/-- the value of what has no blocks -/
def AV.val (ι : Asn) : AV → Value
 | .at v => v
 | .str l => .string ⟨l.toArray⟩
 | .sym t => sg ι t
 | .agg l => .agg (AV.vals ι l).toArray
 | .tup l => .tuple (AV.vals ι l).toArray
 | _ => .tuple #[]
def AV.vals (ι : Asn) : List AV → List Value
 | [] => []
 | a :: l => a.val ι :: AV.vals ι l
end
mutual
theorem VR.val {ρ : Map} {ι : Asn} : ∀ {a : AV}, a.plain = true → VR ρ (sg ι) a (a.val ι)
 | .at v, _ => .at v
 | .str l, _ => .str l
 | .sym t, _ => .sym t (sg_cell ι t)
 | .agg l, h => .agg (VRs.vals (by simpa [AV.plain] using h))
 | .tup l, h => .tup (VRs.vals (by simpa [AV.plain] using h))
theorem VRs.vals {ρ : Map} {ι : Asn} : ∀ {l : List AV}, AV.plains l = true → VRs ρ (sg ι) l (AV.vals ι l)
 | [], _ => .nil
 | a :: l, h => by
  simp only [AV.plains, Bool.and_eq_true] at h
  exact .cons (VR.val h.1) (VRs.vals h.2)
end
mutual
theorem VR.val_eq {ρ : Map} {ι : Asn} : ∀ {a : AV} {v : Value}, a.plain = true → VR ρ (sg ι) a v → v = a.val ι
 | .at _, _, _, .at _ => rfl
 | .str _, _, _, .str _ => rfl
 | .sym _, _, _, .sym _ _ => rfl
 | .agg l, _, h, .agg h1 => by rw [VRs.vals_eq (l := l) (by simpa [AV.plain] using h) h1]; rfl
 | .tup l, _, h, .tup h1 => by rw [VRs.vals_eq (l := l) (by simpa [AV.plain] using h) h1]; rfl
theorem VRs.vals_eq {ρ : Map} {ι : Asn} : ∀ {l : List AV} {l' : List Value}, AV.plains l = true → VRs ρ (sg ι) l l' → l' = AV.vals ι l
 | [], _, _, .nil => rfl
 | a :: l, _, h, .cons h1 h2 => by
  simp only [AV.plains, Bool.and_eq_true] at h
  rw [VR.val_eq h.1 h1, VRs.vals_eq h.2 h2]; rfl
end

/-- a call of plain values comes to a plain value, whatever the world -/
def Fn (f : FuncId) (args : List Value) (out : Value) : Prop := ∀ w : World, W w → Calls Tryz.prog f args.toArray w fun e w' => e = .returned out ∧ Kp (fun k => w.heap.size ≤ k) w w'

theorem H0_get {b : Nat} {a : AObj} (h : H0.get b = some a) : (b = 6 ∨ b = 7) ∧ a = errObj := by
 unfold H0 AHeap.get at h
 rw [Tr.get_set _ _ _ _ _ (by omega)] at h
 split at h
 ·cases h; exact ⟨.inr (by assumption), rfl⟩
 ·rw [Tr.get_set _ _ _ _ _ (by omega)] at h
  split at h
  ·cases h; exact ⟨.inl (by assumption), rfl⟩
  ·cases h
/-- a start in a world in which the errors stand -/
theorem start_ok {ι : Asn} {w : World} (hW : W w) : ∃ ρ, HR ρ (sg ι) (fun k => w.heap.size ≤ k) H0 w ∧ GlobOk TN ρ := by
 obtain ⟨⟨c6, z6, p6, a6, b6⟩, ⟨c7, z7, p7, a7, b7⟩⟩ := hW
 have lt : ∀ {k : Nat} {o : Obj}, w.heap[k]? = some o → k < w.heap.size := fun h => (Array.getElem?_eq_some_iff.1 h).1
 have pos : ∀ {c : Array Value} {v : Value}, c[0]? = some v → 1 ≤ c.size := fun h => (Array.getElem?_eq_some_iff.1 h).1
 let ρ : Map := fun b => if b = 6 then some ⟨6, 0, c6.size⟩ else if b = 7 then some ⟨7, 0, c7.size⟩ else none
 have hρ : ∀ {b x}, ρ b = some x → (b = 6 ∧ x = ⟨6, 0, c6.size⟩) ∨ (b = 7 ∧ x = ⟨7, 0, c7.size⟩) := fun {b x} h => by
  simp only [ρ] at h
  split at h
  ·cases h; exact .inl ⟨by assumption, rfl⟩
  ·split at h
   ·cases h; exact .inr ⟨by assumption, rfl⟩
   ·cases h
 have ob : ∀ {c : Array Value} {fz : Nat × Nat} {pe : Value} (k : Nat), c[0]? = some (.iface 389 pe) → OR ρ (sg ι) errObj ⟨k, 0, c.size⟩ (.cells c 197 fz) := fun {c fz pe} k h =>
  .cells rfl (by simpa using pos h) (fun i a ha => by
   match i with
   | 0 =>
    simp only [List.getElem?_cons_zero, Option.some.injEq] at ha
    subst ha
    exact ⟨_, by simpa using h, .iface (.unk pe)⟩
   | i + 1 => simp at ha) (fun h => by cases h) (fun h => by cases h) (fun h => by cases h)
 refine ⟨ρ, ⟨fun b a x hb hx => ?_, fun b x hx => ?_, fun b b' a a' x x' hn hb hb' hx hx' hr => ?_, fun b a x hb hx ho => ?_⟩, fun k hk => ?_⟩
 ·obtain ⟨_, rfl⟩ := H0_get hb
  rcases hρ hx with ⟨rfl, rfl⟩ | ⟨rfl, rfl⟩
  ·exact ⟨_, a6, ob 6 b6⟩
  ·exact ⟨_, a7, ob 7 b7⟩
 ·rcases hρ hx with ⟨rfl, rfl⟩ | ⟨rfl, rfl⟩
  ·exact ⟨by decide, lt a6⟩
  ·exact ⟨by decide, lt a7⟩
 ·rcases hρ hx with ⟨rfl, rfl⟩ | ⟨rfl, rfl⟩ <;> rcases hρ hx' with ⟨rfl, rfl⟩ | ⟨rfl, rfl⟩ <;> first | exact absurd rfl hn | (cases hr)
 ·obtain ⟨_, rfl⟩ := H0_get hb
  rcases ho with h | h <;> cases h
 ·have hk : gl67 k = true := hk
  simp only [gl67, Bool.or_eq_true, Nat.beq_eq] at hk
  rcases hk with rfl | rfl
  ·exact ⟨c6.size, rfl⟩
  ·exact ⟨c7.size, rfl⟩

theorem errAt_ok {ρ : Map} {σ : Tok → Value} {own : Nat → Prop} {H : AHeap} {w : World} (hr : HR ρ σ own H w) {k : Nat} (h : errAt H k = true) (hg : ∃ n, ρ k = some ⟨k, 0, n⟩) : ErrAt w k := by
 unfold errAt at h
 split at h
 ·rename_i el t hget
  simp only [Bool.and_eq_true] at h
  obtain rfl := Nat.eq_of_beq_eq_true h.1
  obtain rfl := Nat.eq_of_beq_eq_true h.2
  obtain ⟨n, hn⟩ := hg
  obtain ⟨o, h1, h2⟩ := hr.obj k _ _ hget hn
  cases h2 with
  | cells g1 g2 g3 _ _ _ =>
   obtain ⟨v, k1, k2⟩ := g3 0 _ rfl
   cases k2 with
   | @iface _ _ pe _ => exact ⟨_, _, pe, h1, by simpa using k1⟩
 ·cases h
theorem there_ok {ρ : Map} {σ : Tok → Value} {own : Nat → Prop} {H : AHeap} {w : World} (hr : HR ρ σ own H w) (hg : ∀ k, gl67 k = true → ∃ n, ρ k = some ⟨k, 0, n⟩) (h : (errAt H 6 && errAt H 7) = true) : W w := by
 simp only [Bool.and_eq_true] at h
 exact ⟨errAt_ok hr h.1 (hg 6 rfl), errAt_ok hr h.2 (hg 7 rfl)⟩

noncomputable def endPlain (f : FuncId) (u : AV) (c : ACfg) : Bool :=
 match endVal TN f c with
 | some v => v.plain && sameAV v u
 | none => false

theorem fn_of_way {F : Nat → Val → Val → Val} {orc : Orc} (ho : OrcIs F orc) {ι ι2 : Asn} (hf : ι.fn = F) {f : FuncId} {args : List AV} (ha : AV.plains args = true) {fr : AFrame} (he : enterA TN f args false = some fr)
  {c' : ACfg} (hw : Way orc ι ⟨fr, [], H0⟩ ι2 c') {u : AV} (hp : endPlain f u c' = true) : u.plain = true ∧ Fn f (AV.vals ι args) (u.val ι2) := by
 unfold endPlain at hp
 split at hp
 ·rename_i v hv
  simp only [Bool.and_eq_true] at hp
  obtain rfl := sameAV_eq hp.2
  refine ⟨hp.1, fun w hW => ?_⟩
  obtain ⟨ρ, h0, hg⟩ := start_ok (ι := ι) hW
  refine (calls_of_way ho hf (VRs.vals ha) h0 (fun k hk => hk) hg he hw hv).mono ?_
  rintro e w' ⟨v', ρ', rfl, h1, _, h3⟩
  exact ⟨by rw [VR.val_eq hp.1 h1], h3⟩
 ·cases hp

/-- a contract is an oracle -/
theorem Fn.told {f : FuncId} {ι : Asn} {args : List AV} {v : AV} (ha : AV.plains args = true) (hv : v.plain = true) (h : Fn f (AV.vals ι args) (v.val ι)) (ρ : Map) (args' : List Value) (w : World) (hW : W w) (hargs : VRs ρ (sg ι) args args') :
  Calls Tryz.prog f args'.toArray w fun e w' => ∃ v', e = .returned v' ∧ VR ρ (sg ι) v v' ∧ Kp (fun k => w.heap.size ≤ k) w w' := by
 rw [VRs.vals_eq ha hargs]
 refine (h w hW).mono ?_
 rintro e w' ⟨rfl, hk⟩
 exact ⟨_, rfl, VR.val hv, hk⟩
end Go.Eng
namespace Go.Eng
open Go Go.Proofs

def codeAt : List Nat → Code → Code
 | [], c => c
 | 0 :: p, .seq a _ => codeAt p a
 | _ :: p, .seq _ b => codeAt p b
 | 0 :: p, .cond _ a _ => codeAt p a
 | _ :: p, .cond _ _ b => codeAt p b
 | _ :: p, .block _ b => codeAt p b
 | _ :: p, .loop b => codeAt p b
 | _ :: p, .scope b => codeAt p b
 | 0 :: p, .rangeFunc _ _ a _ => codeAt p a
 | _ :: p, .rangeFunc _ _ _ b => codeAt p b
 | _ :: _, c => c
noncomputable def cd (f : Nat) (p : List Nat) : Code := match TF.get f with
 | some fn => match fn.body with
  | some b => codeAt p b
  | none => .skip
 | none => .skip
noncomputable def os (f : Nat) (p : List Nat) : Array Oper := match cd f p with
 | .region _ ops _ => ops
 | _ => #[]
noncomputable def ps (f : Nat) (p : List Nat) : Array Tmp := match cd f p with
 | .rangeFunc _ ps _ _ => ps
 | _ => #[]
def hT : List (Nat × AObj) → Tr AObj
 | [] => .leaf
 | (b, o) :: l => Tr.set (b + 1) (hT l) b o
/-- a text -/
def st (l : List Nat) : AV := .str (l.map UInt8.ofNat)
/-- temporaries from number i on: those that are there -/
def tmF : Nat → Nat → List (Nat × AV) → List AV
 | 0, _, _ => []
 | n + 1, _, [] => undefA :: tmF n 0 []
 | n + 1, i, (j, a) :: l => bif Nat.beq i j then a :: tmF n (i + 1) l else undefA :: tmF n (i + 1) ((j, a) :: l)
def tm (n : Nat) (l : List (Nat × AV)) : List AV := tmF n 0 l
/-- the same, of which those that are not named are unknown -/
def tuF : Nat → Nat → List (Nat × AV) → List AV
 | 0, _, _ => []
 | n + 1, _, [] => .unk :: tuF n 0 []
 | n + 1, i, (j, a) :: l => bif Nat.beq i j then a :: tuF n (i + 1) l else .unk :: tuF n (i + 1) ((j, a) :: l)
def tu (n : Nat) (l : List (Nat × AV)) : List AV := tuF n 0 l
abbrev uu : AV := .tup []
/-- a row of whole numbers -/
def nums (k : IntKind) (l : List Nat) : List AV := l.map fun n => .at (.int k (.ofNat n))
end Go.Eng
