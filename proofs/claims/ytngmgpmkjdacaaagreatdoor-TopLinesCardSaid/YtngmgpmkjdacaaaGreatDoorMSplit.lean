/-
 Plain laws on the pieces of a text: how many there are, and how long they are. The library's strings.Split, slices.SortFunc and slices.Clone at this program: the shelf's contracts, laid in plain words. strings.Split at a separator of one byte: a row of the pieces, whatever the world.
-/
import Derived.Test.YtngmgpmkjdacaaaGreatDoorMAtoi
import Derived.Shelf.Strings.SplitCore
import Derived.Shelf.SlSortCmp.WholeK
import Derived.Shelf.SlicesE.Clone
import Derived.Test.YtngmgpmkjdacaaaGreatDoorProg
import Derived.Shelf.Strings.Search3
import Derived.Shelf.Strings.Count
import Derived.Lib.SplitLaws
set_option linter.unusedSimpArgs false
set_option linter.unusedVariables false
namespace Go.Eng
open Go Go.Proofs Go.Lib

theorem splitB_pos (p : ByteArray) (sv : Nat) : ∀ (k : Nat) (s : ByteArray), 1 ≤ (splitB p sv k s).length
 | 0, s => by simp [splitB]
 | k + 1, s => by
  unfold splitB
  split <;> simp
theorem splitB_le (p : ByteArray) : ∀ (k : Nat) (s : ByteArray), ∀ x ∈ splitB p 0 k s, x.size ≤ s.size
 | 0, s, x, h => by
  simp only [splitB, List.mem_singleton] at h
  rw [h]; exact Nat.le_refl _
 | k + 1, s, x, h => by
  rcases indexB_cases s p with hi | ⟨i, hi, hr⟩
  ·rw [splitB_miss p 0 (k + 1) s hi, List.mem_singleton] at h
   rw [h]; exact Nat.le_refl _
  ·rw [splitB_hit p 0 k s i hi, List.mem_cons] at h
   rcases h with rfl | h
   ·simp [ByteArray.size_extract]; omega
   ·have := splitB_le p k _ x h
    have h2 : (s.extract (i + p.size) s.size).size ≤ s.size := by simp [ByteArray.size_extract]
    omega
theorem splitV_len (a b : Val) : 1 ≤ (splitV a b).toL.length ∧ (splitV a b).toL.length ≤ a.toS.length + 2 := by
 simp only [splitV, Val.toL, List.length_map]
 refine ⟨splitB_pos _ _ _ _, Nat.le_trans (splitB_length_le _ _ _ _) ?_⟩
 have := count_le (ByteArray.mk a.toS.toArray).data.toList (ByteArray.mk #[UInt8.ofNat b.toI.toNat]).data.toList
 have e : countB ⟨a.toS.toArray⟩ ⟨#[UInt8.ofNat b.toI.toNat]⟩ = count (ByteArray.mk a.toS.toArray).data.toList (ByteArray.mk #[UInt8.ofNat b.toI.toNat]).data.toList := rfl
 rw [e]
 simp only at this ⊢
 omega
theorem splitV_at (a b : Val) (i : Nat) : ((unpack ((splitV a b).toL.getD i (.i 0))).getD 0 (.i 0)).toS.length ≤ a.toS.length := by
 simp only [splitV, Val.toL]
 generalize hB : splitB ⟨#[UInt8.ofNat b.toI.toNat]⟩ 0 (countB ⟨a.toS.toArray⟩ ⟨#[UInt8.ofNat b.toI.toNat]⟩) ⟨a.toS.toArray⟩ = B
 simp only [List.getD_eq_getElem?_getD, List.getElem?_map]
 cases h : B[i]? with
 | none => exact Nat.zero_le _
 | some x =>
  have := splitB_le _ _ _ x (hB ▸ List.mem_of_getElem? h)
  exact this
end Go.Eng
namespace Go.Proofs.YtngmgpmkjdacaaaGreatDoor
open Go.Shelf Go.Proofs

set_option maxRecDepth 1000000
def sortA_ren : Go.Shelf.Ren := ⟨fun | 6 => 127 | 15 => 183 | 14 => 182 | 28 => 235 | 29 => 236 | 20 => 227 | 21 => 228 | 22 => 229 | 23 => 230 | 24 => 231 | 25 => 232 | 26 => 233 | 27 => 234 | 46 => 268 | 47 => 269 | 48 => 270 | 49 => 271 | 50 => 272 | 57 => 291 | n => n, fun | 22 => 40 | 24 => 39 | 25 => 227 | 3 => 3 | 39 => 101 | 0 => 0 | 53 => 68 | 55 => 34 | 4 => 4 | 46 => 321 | 45 => 320 | 50 => 157 | 5 => 5 | 9 => 9 | 66 => 351 | 70 => 354 | 76 => 366 | 77 => 367 | n => n, fun | n => n⟩
theorem sortA : Go.Proofs.SlLaysF0.n6 Tryz.prog sortA_ren :=
 {mixed := by kernel_rfl,
  f6 := ⟨Tryz.f127.name, by decide, Tryz.func127.trans (congrArg some (by kernel_rfl))⟩,
  f14 := ⟨Tryz.f182.name, by decide, Tryz.func182.trans (congrArg some (by kernel_rfl))⟩,
  f15 := Tryz.func183.trans (congrArg some (by kernel_rfl)),
  f20 := ⟨Tryz.f227.name, by decide, Tryz.func227.trans (congrArg some (by kernel_rfl))⟩,
  f21 := ⟨Tryz.f228.name, by decide, Tryz.func228.trans (congrArg some (by kernel_rfl))⟩,
  f22 := ⟨Tryz.f229.name, by decide, Tryz.func229.trans (congrArg some (by kernel_rfl))⟩,
  f23 := ⟨Tryz.f230.name, by decide, Tryz.func230.trans (congrArg some (by kernel_rfl))⟩,
  f24 := ⟨Tryz.f231.name, by decide, Tryz.func231.trans (congrArg some (by kernel_rfl))⟩,
  f25 := ⟨Tryz.f232.name, by decide, Tryz.func232.trans (congrArg some (by kernel_rfl))⟩,
  f26 := ⟨Tryz.f233.name, by decide, Tryz.func233.trans (congrArg some (by kernel_rfl))⟩,
  f27 := ⟨Tryz.f234.name, by decide, Tryz.func234.trans (congrArg some (by kernel_rfl))⟩,
  f28 := Tryz.func235.trans (congrArg some (by kernel_rfl)),
  f29 := Tryz.func236.trans (congrArg some (by kernel_rfl)),
  f46 := ⟨Tryz.f268.name, by decide, Tryz.func268.trans (congrArg some (by kernel_rfl))⟩,
  f47 := Tryz.func269.trans (congrArg some (by kernel_rfl)),
  f48 := Tryz.func270.trans (congrArg some (by kernel_rfl)),
  f49 := ⟨Tryz.f271.name, by decide, Tryz.func271.trans (congrArg some (by kernel_rfl))⟩,
  f50 := ⟨Tryz.f272.name, by decide, Tryz.func272.trans (congrArg some (by kernel_rfl))⟩,
  f57 := ⟨Tryz.f291.name, by decide, Tryz.func291.trans (congrArg some (by kernel_rfl))⟩,
  t0 := Tryz.underlying0,
  a0 := Tryz.isAgg0,
  z0 := Tryz.sizeOf0,
  v0 := Tryz.zeroValue0,
  t3 := Tryz.underlying3,
  a3 := Tryz.isAgg3,
  z3 := Tryz.sizeOf3,
  v3 := Tryz.zeroValue3,
  t4 := Tryz.underlying4,
  a4 := Tryz.isAgg4,
  z4 := Tryz.sizeOf4,
  v4 := Tryz.zeroValue4,
  t5 := Tryz.underlying5,
  a5 := Tryz.isAgg5,
  z5 := Tryz.sizeOf5,
  v5 := Tryz.zeroValue5,
  t9 := Tryz.underlying9,
  a9 := Tryz.isAgg9,
  z9 := Tryz.sizeOf9,
  v9 := Tryz.zeroValue9,
  t22 := Tryz.underlying40,
  a22 := Tryz.isAgg40,
  z22 := Tryz.sizeOf40,
  v22 := Tryz.zeroValue40,
  t25 := Tryz.underlying227,
  a25 := Tryz.isAgg227,
  z25 := Tryz.sizeOf227,
  v25 := Tryz.zeroValue227,
  t39 := Tryz.underlying101,
  a39 := Tryz.isAgg101,
  z39 := Tryz.sizeOf101,
  v39 := Tryz.zeroValue101,
  t45 := Tryz.underlying320,
  a45 := Tryz.isAgg320,
  z45 := Tryz.sizeOf320,
  v45 := Tryz.zeroValue320,
  t46 := Tryz.underlying321,
  a46 := Tryz.isAgg321,
  z46 := Tryz.sizeOf321,
  v46 := Tryz.zeroValue321,
  t50 := Tryz.underlying157,
  a50 := Tryz.isAgg157,
  z50 := Tryz.sizeOf157,
  v50 := Tryz.zeroValue157,
  t53 := Tryz.underlying68,
  a53 := Tryz.isAgg68,
  z53 := Tryz.sizeOf68,
  v53 := Tryz.zeroValue68,
  t55 := Tryz.underlying34,
  a55 := Tryz.isAgg34,
  z55 := Tryz.sizeOf34,
  v55 := Tryz.zeroValue34,
  t66 := Tryz.underlying351,
  a66 := Tryz.isAgg351,
  z66 := Tryz.sizeOf351,
  v66 := Tryz.zeroValue351,
  t70 := Tryz.underlying354,
  a70 := Tryz.isAgg354,
  z70 := Tryz.sizeOf354,
  v70 := Tryz.zeroValue354,
  t76 := Tryz.underlying366,
  a76 := Tryz.isAgg366,
  z76 := Tryz.sizeOf366,
  v76 := Tryz.zeroValue366,
  t77 := Tryz.underlying367,
  a77 := Tryz.isAgg367,
  z77 := Tryz.sizeOf367,
  v77 := Tryz.zeroValue367 }
def cloneA_ren : Go.Shelf.Ren := ⟨fun | 41 => 48 | n => n, fun | 22 => 40 | 23 => 39 | 4 => 4 | n => n, fun | n => n⟩
theorem cloneA : Go.Proofs.SlLaysE0.n41 Tryz.prog cloneA_ren :=
 {mixed := by kernel_rfl,
  f41 := ⟨Tryz.f48.name, by decide, Tryz.func48.trans (congrArg some (by kernel_rfl))⟩,
  t4 := Tryz.underlying4,
  a4 := Tryz.isAgg4,
  z4 := Tryz.sizeOf4,
  v4 := Tryz.zeroValue4,
  t22 := Tryz.underlying40,
  a22 := Tryz.isAgg40,
  z22 := Tryz.sizeOf40,
  v22 := Tryz.zeroValue40 }
def splitA_ren : Go.Shelf.Ren := ⟨fun | 146 => 114 | 221 => 170 | 268 => 221 | 138 => 222 | 143 => 223 | 195 => 265 | 197 => 264 | 218 => 266 | 219 => 212 | 260 => 288 | 217 => 260 | 225 => 261 | 224 => 239 | 267 => 262 | 266 => 286 | 314 => 287 | n => n, fun | 9 => 9 | 31 => 57 | 3 => 3 | 4 => 4 | 0 => 0 | 105 => 345 | 21 => 21 | 5 => 5 | 46 => 101 | 119 => 370 | 139 => 373 | 138 => 372 | 146 => 341 | 51 => 68 | n => n, fun | 1 => 0 | 3 => 2 | 4 => 3 | n => n⟩
theorem splitA : Go.Proofs.Lays.n146 Tryz.prog splitA_ren where
 mixed := by kernel_rfl
 f138 := Tryz.func222.trans (congrArg some (by kernel_rfl))
 f143 := Tryz.func223.trans (congrArg some (by kernel_rfl))
 f146 := Tryz.func114.trans (congrArg some (by kernel_rfl))
 f195 := Tryz.func265.trans (congrArg some (by kernel_rfl))
 f197 := Tryz.func264.trans (congrArg some (by kernel_rfl))
 f217 := Tryz.func260.trans (congrArg some (by kernel_rfl))
 f218 := Tryz.func266.trans (congrArg some (by kernel_rfl))
 f219 := Tryz.func212.trans (congrArg some (by kernel_rfl))
 f221 := Tryz.func170.trans (congrArg some (by kernel_rfl))
 f224 := Tryz.func239.trans (congrArg some (by kernel_rfl))
 f225 := Tryz.func261.trans (congrArg some (by kernel_rfl))
 f260 := Tryz.func288.trans (congrArg some (by kernel_rfl))
 f266 := Tryz.func286.trans (congrArg some (by kernel_rfl))
 f267 := Tryz.func262.trans (congrArg some (by kernel_rfl))
 f268 := Tryz.func221.trans (congrArg some (by kernel_rfl))
 f314 := Tryz.func287.trans (congrArg some (by kernel_rfl))
 t0 := Tryz.underlying0
 a0 := Tryz.isAgg0
 z0 := Tryz.sizeOf0
 v0 := Tryz.zeroValue0
 t3 := Tryz.underlying3
 a3 := Tryz.isAgg3
 z3 := Tryz.sizeOf3
 v3 := Tryz.zeroValue3
 t4 := Tryz.underlying4
 a4 := Tryz.isAgg4
 z4 := Tryz.sizeOf4
 v4 := Tryz.zeroValue4
 t5 := Tryz.underlying5
 a5 := Tryz.isAgg5
 z5 := Tryz.sizeOf5
 v5 := Tryz.zeroValue5
 t9 := Tryz.underlying9
 a9 := Tryz.isAgg9
 z9 := Tryz.sizeOf9
 v9 := Tryz.zeroValue9
 t21 := Tryz.underlying21
 a21 := Tryz.isAgg21
 z21 := Tryz.sizeOf21
 v21 := Tryz.zeroValue21
 t31 := Tryz.underlying57
 a31 := Tryz.isAgg57
 z31 := Tryz.sizeOf57
 v31 := Tryz.zeroValue57
 t46 := Tryz.underlying101
 a46 := Tryz.isAgg101
 z46 := Tryz.sizeOf101
 v46 := Tryz.zeroValue101
 t51 := Tryz.underlying68
 a51 := Tryz.isAgg68
 z51 := Tryz.sizeOf68
 v51 := Tryz.zeroValue68
 t105 := Tryz.underlying345
 a105 := Tryz.isAgg345
 z105 := Tryz.sizeOf345
 v105 := Tryz.zeroValue345
 t119 := Tryz.underlying370
 a119 := Tryz.isAgg370
 z119 := Tryz.sizeOf370
 t138 := Tryz.underlying372
 a138 := Tryz.isAgg372
 z138 := Tryz.sizeOf372
 v138 := Tryz.zeroValue372
 t139 := Tryz.underlying373
 a139 := Tryz.isAgg373
 z139 := Tryz.sizeOf373
 v139 := Tryz.zeroValue373
 t146 := Tryz.underlying341
 a146 := Tryz.isAgg341
 z146 := Tryz.sizeOf341
 v146 := Tryz.zeroValue341
 g1 := by kernel_rfl
 g3 := by kernel_rfl
 g4 := by kernel_rfl
end Go.Proofs.YtngmgpmkjdacaaaGreatDoor
namespace Go.Proofs
open Go.Shelf Go.RowKit Go.Lib
section
variable {P : Program} {ρ : Ren}
set_option maxHeartbeats 1000000 in
theorem split_one (L : Lays.n146 P ρ) (hi9 : (P.info? (ρ.t 9)).map (fun i => (i.zero, i.size, i.bytes)) = some (some (.string ByteArray.empty), 1, 16)) (s : ByteArray) (b : UInt8) (w : World) (hs : s.size < 4294967281) :
  Calls P (ρ.f 146) #[.string s, .string ⟨#[b]⟩] w fun e w' =>
   e = .returned (.slice (some ⟨w.heap.size, 0, none⟩) (Lib.countB s ⟨#[b]⟩ + 1) (Lib.countB s ⟨#[b]⟩ + 1)) ∧ w' = w.alloc (.cells ((Lib.splitB ⟨#[b]⟩ 0 (Lib.countB s ⟨#[b]⟩) s).map Value.string).toArray (ρ.t 9)) := by
 have h1 : 1 ≤ (ByteArray.mk #[b]).size := Nat.le_refl 1
 have hle := Lib.countB_le ⟨#[b]⟩ h1 s.size s (Nat.le_refl _)
 have hlen := Lib.splitB_all ⟨#[b]⟩ h1 0 _ s rfl
 have c := Any.strings_genSplit_core { L with } hi9 s ⟨#[b]⟩ 0 (-1) (Lib.countB s ⟨#[b]⟩ + 1) (w := w) hs h1 (Nat.zero_le _)
  (fun x c hx => (Any.strings_Index_one { L with } x b _).mono fun e w' h => ?_)
  ((Any.strings_Count_one { L with } s b w).mono fun e w' h => ?_) (by decide) (by decide) (by rw [if_pos (by decide)]; omega)
 rotate_left
 ·obtain ⟨rfl, rfl⟩ := h
  refine ⟨?_, rfl⟩
  show _ = Ending.returned (Value.int .i64 (Lib.index x.data.toList [b]))
  rw [Lib.index_one]
 ·obtain ⟨rfl, rfl⟩ := h
  refine ⟨?_, rfl⟩
  show _ = Ending.returned (Value.int .i64 ((Lib.count s.data.toList [b] : Nat) : Int))
  rw [Lib.count_one]
  rfl
 rw [Nat.add_sub_cancel, hlen] at c
 have e2 : Lib.cellsOf (Lib.splitB ⟨#[b]⟩ 0 (Lib.countB s ⟨#[b]⟩) s) (Lib.countB s ⟨#[b]⟩ + 1) = ((Lib.splitB ⟨#[b]⟩ 0 (Lib.countB s ⟨#[b]⟩) s).map Value.string).toArray := by rw [← hlen]; exact Lib.cellsOf_full _
 rw [e2] at c
 generalize hsep : ByteArray.mk #[b] = sep at *
 have t3 := L.t3; have t9 := L.t9; have t31 := L.t31
 have a3 := L.a3; have a9 := L.a9; have a31 := L.a31
 have z3 := L.z3; have v3 := L.v3; have z9 := L.z9; have v9 := L.v9; have z31 := L.z31; have v31 := L.v31
 have e221 : ∀ args w, (callFunc (ρ.f 221) args).run P w = .ok (.enter (ρ.f 221) args) w := enters_of L.f221 (by kernel_rfl) rfl
 go_enter L.f146, Body.n146_ntmps ρ
 go_wp2_with (go_at_fn (ρ.f 221); refine c.mono ?_; rintro e w' ⟨rfl, hw⟩; rw [hw])
 go_ret
 exact ⟨rfl, rfl⟩
end
end Go.Proofs
namespace Go.Eng
open Go Go.Proofs Go.Lib

theorem split_calls : SplitC := fun w s c hs => by
 refine (split_one YtngmgpmkjdacaaaGreatDoor.splitA (by kernel_rfl) ⟨s.toArray⟩ c w (by rw [Lib.size_eq]; simp; omega)).mono ?_
 rintro e w' ⟨rfl, rfl⟩
 have hlen := Lib.splitB_all ⟨#[c]⟩ (Nat.le_refl 1) 0 _ ⟨s.toArray⟩ rfl
 have hu : UInt8.ofNat (Int.toNat (c.toNat : Int)) = c := by simp
 have hV : (splitV (.s s) (.i c.toNat)).toL = (splitB ⟨#[c]⟩ 0 (countB ⟨s.toArray⟩ ⟨#[c]⟩) ⟨s.toArray⟩).map fun x => .p (.s x.data.toList) (.l []) := by
  simp only [splitV, Val.toS, Val.toI, hu, Val.toL]
 generalize hB : splitB ⟨#[c]⟩ 0 (countB ⟨s.toArray⟩ ⟨#[c]⟩) ⟨s.toArray⟩ = B at hlen hV ⊢
 refine ⟨_, rfl, ⟨w.heap.size, 0, countB ⟨s.toArray⟩ ⟨#[c]⟩ + 1, (B.map Value.string).toArray, (0, 0), Nat.le_refl _, ?_, ?_, ?_, alloc_new _ _, ?_⟩, Kp.alloc _ _ _⟩
 ·rw [hV, List.length_map, hlen]
 ·rw [hV, List.length_map, hlen]; exact Nat.le_refl _
 ·simp [hlen]
 ·intro i j y hi hj
  rw [hV] at hi ⊢
  rw [List.length_map] at hi
  match j, hj with
  | 0, hj =>
   cases hj
   simp [hi, unpack, Ty.val, Val.toS]
end Go.Eng
