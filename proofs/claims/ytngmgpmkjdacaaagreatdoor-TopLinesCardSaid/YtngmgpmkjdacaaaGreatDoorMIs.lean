/-
 Which bytes are of class 1: told by runs. Which bytes are of class 2: told by runs. Which bytes are of class 3: told by runs. Which bytes are of class 4: told by runs. class.Is and class.Count as oracles.
-/
import Derived.Test.YtngmgpmkjdacaaaGreatDoorMEnv
set_option linter.unusedSimpArgs false
set_option linter.unusedVariables false
namespace Go.Eng
set_option maxRecDepth 1000000 in
theorem is1_0 : allTo (fun i => isRun 1 (0 + i)) 64 = true := by kernel_rfl
set_option maxRecDepth 1000000 in
theorem is1_1 : allTo (fun i => isRun 1 (64 + i)) 64 = true := by kernel_rfl
set_option maxRecDepth 1000000 in
theorem is1_2 : allTo (fun i => isRun 1 (128 + i)) 64 = true := by kernel_rfl
set_option maxRecDepth 1000000 in
theorem is1_3 : allTo (fun i => isRun 1 (192 + i)) 64 = true := by kernel_rfl
end Go.Eng
namespace Go.Eng
set_option maxRecDepth 1000000 in
theorem is2_0 : allTo (fun i => isRun 2 (0 + i)) 64 = true := by kernel_rfl
set_option maxRecDepth 1000000 in
theorem is2_1 : allTo (fun i => isRun 2 (64 + i)) 64 = true := by kernel_rfl
set_option maxRecDepth 1000000 in
theorem is2_2 : allTo (fun i => isRun 2 (128 + i)) 64 = true := by kernel_rfl
set_option maxRecDepth 1000000 in
theorem is2_3 : allTo (fun i => isRun 2 (192 + i)) 64 = true := by kernel_rfl
end Go.Eng
namespace Go.Eng
set_option maxRecDepth 1000000 in
theorem is3_0 : allTo (fun i => isRun 3 (0 + i)) 64 = true := by kernel_rfl
set_option maxRecDepth 1000000 in
theorem is3_1 : allTo (fun i => isRun 3 (64 + i)) 64 = true := by kernel_rfl
set_option maxRecDepth 1000000 in
theorem is3_2 : allTo (fun i => isRun 3 (128 + i)) 64 = true := by kernel_rfl
set_option maxRecDepth 1000000 in
theorem is3_3 : allTo (fun i => isRun 3 (192 + i)) 64 = true := by kernel_rfl
end Go.Eng
namespace Go.Eng
set_option maxRecDepth 1000000 in
theorem is4_0 : allTo (fun i => isRun 4 (0 + i)) 64 = true := by kernel_rfl
set_option maxRecDepth 1000000 in
theorem is4_1 : allTo (fun i => isRun 4 (64 + i)) 64 = true := by kernel_rfl
set_option maxRecDepth 1000000 in
theorem is4_2 : allTo (fun i => isRun 4 (128 + i)) 64 = true := by kernel_rfl
set_option maxRecDepth 1000000 in
theorem is4_3 : allTo (fun i => isRun 4 (192 + i)) 64 = true := by kernel_rfl
end Go.Eng
namespace Go.Eng
open Go Go.Proofs

theorem allTo_get {p : Nat → Bool} : ∀ {n : Nat}, allTo p n = true → ∀ i, i < n → p i = true
 | 0, _, i, hi => by omega
 | n + 1, h, i, hi => by
  simp only [allTo, Bool.and_eq_true] at h
  by_cases he : i = n
  ·subst he; exact h.1
  ·exact allTo_get h.2 i (by omega)

theorem boolIs_get {o : Option AV} {b : Bool} (h : boolIs o b = true) : o = some (.at (.bool b)) := by
 unfold boolIs at h
 split at h
 ·rename_i x
  have : x = b := by simpa using h
  rw [this]
 ·cases h

theorem isRun_all {k b : Nat} (hk : 1 ≤ k ∧ k ≤ 4) (hb : b < 256) : outA T0 214 [.at (.int .i64 (.ofNat k)), .at (.int .u8 (.ofNat b))] 200 = some (.at (.bool (classB k b))) := by
 refine boolIs_get ?_
 show isRun k b = true
 have go : ∀ q, (h : allTo (fun i => isRun k (q + i)) 64 = true) → q ≤ b → b < q + 64 → isRun k b = true := fun q h h1 h2 => by
  have := allTo_get h (b - q) (by omega)
  rwa [show q + (b - q) = b by omega] at this
 have hb4 : (0 ≤ b ∧ b < 64) ∨ (64 ≤ b ∧ b < 128) ∨ (128 ≤ b ∧ b < 192) ∨ (192 ≤ b ∧ b < 256) := by omega
 obtain rfl | rfl | rfl | rfl : k = 1 ∨ k = 2 ∨ k = 3 ∨ k = 4 := by omega
 ·rcases hb4 with h | h | h | h
  ·exact go 0 is1_0 h.1 h.2
  ·exact go 64 is1_1 h.1 h.2
  ·exact go 128 is1_2 h.1 h.2
  ·exact go 192 is1_3 h.1 h.2
 ·rcases hb4 with h | h | h | h
  ·exact go 0 is2_0 h.1 h.2
  ·exact go 64 is2_1 h.1 h.2
  ·exact go 128 is2_2 h.1 h.2
  ·exact go 192 is2_3 h.1 h.2
 ·rcases hb4 with h | h | h | h
  ·exact go 0 is3_0 h.1 h.2
  ·exact go 64 is3_1 h.1 h.2
  ·exact go 128 is3_2 h.1 h.2
  ·exact go 192 is3_3 h.1 h.2
 ·rcases hb4 with h | h | h | h
  ·exact go 0 is4_0 h.1 h.2
  ·exact go 64 is4_1 h.1 h.2
  ·exact go 128 is4_2 h.1 h.2
  ·exact go 192 is4_3 h.1 h.2

def orcIs (args : List AV) : Option AV := match args with
 | [.at (.int .i64 (.ofNat k)), .at (.int .u8 (.ofNat b))] => bif Nat.ble 1 k && (Nat.ble k 4 && Nat.blt b 256) then some (.at (.bool (classB k b))) else none
 | _ => none
def orc1 (f : Nat) (args : List AV) : Option AV := bif Nat.beq f 214 then orcIs args else none

theorem orcIs_ok {args : List AV} {v : AV} (h : orcIs args = some v) (ρ : Map) (σ : Tok → Value) (args' : List Value) (w : World) (hargs : VRs ρ σ args args') :
  Calls Tryz.prog 214 args'.toArray w fun e w' => ∃ v', e = .returned v' ∧ VR ρ σ v v' ∧ Kp (fun k => w.heap.size ≤ k) w w' := by
 unfold orcIs at h
 split at h
 ·rename_i k b
  cases hb : (Nat.ble 1 k && (Nat.ble k 4 && Nat.blt b 256)) with
  | false => rw [hb] at h; cases h
  | true =>
   rw [hb] at h
   cases h
   simp only [Bool.and_eq_true, Nat.ble_eq, Nat.blt_eq] at hb
   exact calls_of_out T0_ok (fun _ => rfl) (isRun_all ⟨hb.1, hb.2.1⟩ hb.2.2) rfl rfl ρ args' w hargs
 ·cases h

theorem orc1_ok : OrcOk Tryz.prog orc1 := fun f args v h ρ σ args' w hargs => by
 unfold orc1 at h
 cases hf : Nat.beq f 214 with
 | false => rw [hf] at h; cases h
 | true =>
  rw [hf] at h
  rw [Nat.eq_of_beq_eq_true hf]
  exact orcIs_ok h ρ σ args' w hargs

noncomputable def T1 : Env := TE noGlob orc1
theorem T1_ok {σ : Tok → Value} : T1.Ok σ := TE_ok orc1_ok

end Go.Eng
