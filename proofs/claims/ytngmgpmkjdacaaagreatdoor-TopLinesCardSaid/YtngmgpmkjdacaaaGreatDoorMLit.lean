/-
 Configurations in writing: code by its place in a function's body. The configurations between the pieces of the run of alive().
-/
import Derived.Test.YtngmgpmkjdacaaaGreatDoorMCnt
import Derived.Test.YtngmgpmkjdacaaaGreatDoorMWay
set_option linter.unusedSimpArgs false
set_option linter.unusedVariables false
namespace Go.Eng
open Go Go.Proofs

def orcCount (args : List AV) : Option AV := match args with
 | [.at (.int .i64 (.ofNat k))] => bif Nat.ble 1 k && Nat.ble k 4 then some (.tup [.at (.int .i64 (.ofNat (countK k))), .at (.int .i64 (.ofNat 0))]) else none
 | _ => none
theorem orcCount_ok {args : List AV} {v : AV} (h : orcCount args = some v) (ρ : Map) (σ : Tok → Value) (args' : List Value) (w : World) (hargs : VRs ρ σ args args') :
  Calls Tryz.prog 275 args'.toArray w fun e w' => ∃ v', e = .returned v' ∧ VR ρ σ v v' ∧ Kp (fun k => w.heap.size ≤ k) w w' := by
 unfold orcCount at h
 split at h
 ·rename_i k
  cases hb : (Nat.ble 1 k && Nat.ble k 4) with
  | false => rw [hb] at h; cases h
  | true =>
   rw [hb] at h
   cases h
   simp only [Bool.and_eq_true, Nat.ble_eq] at hb
   obtain rfl | rfl | rfl | rfl : k = 1 ∨ k = 2 ∨ k = 3 ∨ k = 4 := by omega
   ·exact calls_of_out T1_ok (fun _ => rfl) (numsIs_get count_1) rfl rfl ρ args' w hargs
   ·exact calls_of_out T1_ok (fun _ => rfl) (numsIs_get count_2) rfl rfl ρ args' w hargs
   ·exact calls_of_out T1_ok (fun _ => rfl) (numsIs_get count_3) rfl rfl ρ args' w hargs
   ·exact calls_of_out T1_ok (fun _ => rfl) (numsIs_get count_4) rfl rfl ρ args' w hargs
 ·cases h

def orc2 (f : Nat) (args : List AV) : Option AV := bif Nat.beq f 214 then orcIs args else bif Nat.beq f 275 then orcCount args else none
theorem orc2_ok : OrcOk Tryz.prog orc2 := fun f args v h ρ σ args' w hargs => by
 unfold orc2 at h
 cases hf : Nat.beq f 214 with
 | true =>
  rw [hf] at h
  rw [Nat.eq_of_beq_eq_true hf]
  exact orcIs_ok h ρ σ args' w hargs
 | false =>
  rw [hf] at h
  simp only [cond_false] at h
  cases hg : Nat.beq f 275 with
  | false => rw [hg] at h; cases h
  | true =>
   rw [hg] at h
   rw [Nat.eq_of_beq_eq_true hg]
   exact orcCount_ok h ρ σ args' w hargs

/-- the tables with both oracles, and the table of powers -/
noncomputable def T2 : Env := TE (fun k => Nat.beq k 1) orc2
theorem T2_ok {σ : Tok → Value} : T2.Ok σ := TE_ok orc2_ok

end Go.Eng
namespace Go.Eng
open Go Go.Proofs
noncomputable def z0 : AV := .sl 113 0 2 2 6 false
noncomputable def z1 : AV := .at (.int .i64 (.ofNat 2))
noncomputable def z2 : Nat × AV := (1, z1)
noncomputable def z3 : AV := .at (.slice none 0 0)
noncomputable def z4 : Nat × AV := (4, z3)
noncomputable def z5 : AV := .at (.int .i64 (.ofNat 0))
noncomputable def z6 : Nat × AV := (5, z5)
noncomputable def z7 : Nat × AV := (6, z5)
noncomputable def z8 : AV := .at (.bool true)
noncomputable def z9 : Nat × AV := (9, z5)
noncomputable def z10 : List AV := [(.fn (.func 61) [] []), (.fn (.func 62) [] [])]
noncomputable def z11 : AV := .tup [(.agg z10), z8]
noncomputable def z12 : AV := .at (.bool false)
noncomputable def z13 : Nat × AV := (24, z12)
noncomputable def z14 : Nat × AV := (25, (.tup [z0, z5, z5]))
noncomputable def z15 : AV := .sl 11 0 2 2 6 true
noncomputable def z16 : Nat × AV := (27, (.tup [z0, z5, z5]))
noncomputable def z17 : Nat × AV := (32, z12)
noncomputable def z18 : Nat × AV := (0, z15)
noncomputable def z19 : AFrame := ⟨7, (tm 36 [z18, z2, z4, z6, z7, (14, z15), (15, z1)]), [(.ops ((os 7 [1, 0]).toList.drop 2) (os 7 [1, 0])), (.code (cd 7 [1, 1]))], [], false, false, none⟩
noncomputable def z20 : List AV := [z12, (.at (.int .u64 (.ofNat 15))), (.at (.int .i64 (.negSucc 0)))]
noncomputable def z21 : Nat × AV := (12, (.agg z20))
noncomputable def z22 : AV := .at (.int .u64 (.ofNat 0))
noncomputable def z23 : AV := .agg [z12, z22, z5]
noncomputable def z24 : AV := .sl 8 0 2 2 3 true
noncomputable def z25 : AV := st [98]
noncomputable def z26 : AV := st []
noncomputable def z27 : Nat × AV := (15, (.agg [z25, z26]))
noncomputable def z28 : AV := st [97]
noncomputable def z29 : Nat × AV := (16, (.agg [z28, z26]))
noncomputable def z30 : AV := .sl 9 0 2 2 2 true
noncomputable def z31 : AV := .at (.int .i64 (.ofNat 3))
noncomputable def z32 : AV := .at (.int .i64 (.ofNat 500000))
noncomputable def z33 : AV := .at (.int .i64 (.ofNat 9))
noncomputable def z34 : AV := .agg [z28, z31, z24, z32, z30, z33]
noncomputable def z35 : AV := .at (.int .u64 (.ofNat 2))
noncomputable def z36 : Nat × AV := (19, (.agg [z8, z35, z5]))
noncomputable def z37 : AV := .sl 10 0 1 1 3 true
noncomputable def z38 : AV := st [103]
noncomputable def z39 : AV := .at (.int .i64 (.ofNat 1000000))
noncomputable def z40 : Nat × AV := (21, (.agg [z38, z1, z37, z39, z3, z5]))
noncomputable def z41 : AFrame := ⟨4, (tm 91 [(0, z12), (1, z15), z21, (13, z23), (14, z24), z27, z29, (17, z30), (18, z34), z36, (20, z37), z40, (22, z15), (24, z15)]), [(.ops ((os 4 [1, 1, 0]).toList.drop 1) (os 4 [1, 1, 0])), (.code (cd 4 [1, 1, 1]))], [], false, false, none⟩
noncomputable def z42 : Nat × AObj := (1, (.cells 361 (nums .u64 [1, 10, 100, 1000, 10000, 100000, 1000000, 10000000, 100000000, 1000000000, 10000000000, 100000000000, 1000000000000, 10000000000000, 100000000000000, 1000000000000000, 10000000000000000, 100000000000000000, 1000000000000000000, 10000000000000000000]) false false))
noncomputable def z43 : List AV := [z12, (.at (.int .u64 (.ofNat 15))), (.at (.int .i64 (.negSucc 0))), z12, z22, z5]
noncomputable def z44 : Nat × AObj := (8, (.cells 36 z43 true false))
noncomputable def z45 : Nat × AObj := (9, (.cells 39 [z25, z26, z28, z26] true false))
noncomputable def z46 : AObj := .cells 36 [z8, z35, z5] true false
noncomputable def z47 : Nat × AObj := (10, z46)
noncomputable def z48 : Nat × AObj := (11, (.cells 42 [z28, z31, z24, z32, z30, z33, z38, z1, z37, z39, z3, z5] true false))
noncomputable def z49 : AObj := .cells 89 z10 true false
noncomputable def z50 : AObj := .cells 36 z43 true true
noncomputable def z51 : AObj := .cells 39 [z28, z26, z25, z26] true true
noncomputable def z52 : AObj := .cells 36 [z8, z35, z5] true true
noncomputable def z53 : Nat × AObj := (113, (.cells 42 [z28, z31, (.sl 26 0 2 2 3 false), z32, (.sl 71 0 2 2 2 true), z33, z38, z1, (.sl 85 0 1 1 3 false), z39, z3, z5] false true))
noncomputable def z54 : List AV := [z28, z31, (.sl 26 0 2 2 3 false), z32, (.sl 71 0 2 2 2 true), z33]
noncomputable def z55 : Nat × AV := (3, z5)
noncomputable def z56 : Nat × AV := (14, z8)
noncomputable def z57 : Nat × AV := (16, z12)
noncomputable def z58 : AV := .sl 190 0 0 2 1 true
noncomputable def z59 : AFrame := ⟨18, (tm 71 [(0, z0), z2, z4, z6, z7, (7, (.ptr 13 0)), (8, z8), z9, (10, z5), (11, z5), (12, z5), (13, z58), (14, z5), (15, (.ptr 191 0)), (18, z11), (19, z1), (20, z11), (21, (.agg z10)), (22, z8), (23, z8), z13, z14, (26, z15), z16, (28, z0), (29, z5), (30, z5), (31, z5), z17, (35, (.tup [z5, z5])), (36, z0), (37, z1), (38, (.tup [z5, z5])), (39, z5), (40, z5), (41, z5), (42, z12), (45, z0), (46, z1), (47, z58), (48, z0), (49, z1), (50, z5), (51, z8), (52, z5), (53, (.ptr 113 0)), (54, (.agg z54)), (56, (.agg z54)), (57, z1)]), [(.ops ((os 18 [1, 1, 1, 1, 1, 1, 0, 1, 0, 0, 1, 1, 0, 0, 1, 0]).toList.drop 2) (os 18 [1, 1, 1, 1, 1, 1, 0, 1, 0, 0, 1, 1, 0, 0, 1, 0])), (.code (cd 18 [1, 1, 1, 1, 1, 1, 0, 1, 0, 0, 1, 1, 0, 0, 1, 1])), (.inBlock 1), (.code (cd 18 [1, 1, 1, 1, 1, 1, 0, 1, 0, 0, 1, 1, 1])), (.inLoop (cd 18 [1, 1, 1, 1, 1, 1, 0, 1, 0, 0])), (.inBlock 0), (.code (cd 18 [1, 1, 1, 1, 1, 1, 1]))], [], false, false, none⟩
noncomputable def z60 : Nat × AObj := (190, (.cells 9 [z26, z26] true false))
noncomputable def z61 : AObj := .cells 42 z54 true false
noncomputable def z62 : AObj := .cells 42 [z26, z5, z3, z5, z3, z5] true false
noncomputable def z63 : List AV := [z28, z31, (.sl 198 0 2 2 3 false), z32, (.sl 243 0 2 2 2 true), z33]
noncomputable def z64 : AV := .agg z63
noncomputable def z65 : Nat × AV := (21, z5)
noncomputable def z66 : Nat × AV := (22, z5)
noncomputable def z67 : Nat × AV := (23, z12)
noncomputable def z68 : AFrame := ⟨36, (tm 37 [(0, (.agg z54)), z2, (2, (.ptr 192 0)), (4, z26), z6, (6, (.ptr 194 0)), (7, z8), (8, z5), z9, (10, z11), (11, z1), (12, z11), (13, (.agg z10)), z56, (15, z8), z57, (17, (.tup [z64, z5])), (18, (.agg z54)), (19, (.tup [z64, z5])), (20, z64), z65, z66, z67, (25, z64), (26, z1), (27, z5), (28, z5), (29, z12), (31, (.ptr 194 0)), (32, (.fn (.func 61) [] [])), (33, z64)]), [(.ops ((os 36 [1, 1, 1, 1, 1, 1, 0]).toList.drop 3) (os 36 [1, 1, 1, 1, 1, 1, 0])), (.code (cd 36 [1, 1, 0, 1, 0, 1]))], [], false, false, none⟩
noncomputable def z69 : Nat × AV := (4, z5)
noncomputable def z70 : AV := .fn (.func 108) [] [(.ptr 343 0), (.ptr 342 0)]
noncomputable def z71 : List AV := [z28, z31, (.sl 291 0 2 2 3 false), z32, (.sl 336 0 2 2 2 true), z33]
noncomputable def z72 : Nat × AV := (26, z12)
noncomputable def z73 : Nat × AV := (44, z5)
noncomputable def z74 : AObj := .cells 26 [z5] true false
noncomputable def z75 : AObj := .cells 36 [z12, z22, z5] true false
noncomputable def z76 : List AV := [z38, z1, (.sl 85 0 1 1 3 false), z39, z3, z5]
noncomputable def z77 : List AV := [z38, z1, (.sl 389 0 1 1 3 false), z39, z3, z5]
noncomputable def z78 : AV := .at (.int .i64 (.ofNat 1))
noncomputable def z79 : AV := st [97, 58, 49, 46, 53, 58, 48, 124, 109, 115, 124, 64, 48, 46, 53, 124, 35, 97, 44, 98, 124, 84, 57]
noncomputable def z80 : Nat × AV := (2, z3)
noncomputable def z81 : AV := .sl 482 0 31 31 1 false
noncomputable def z82 : Nat × AV := (2, z81)
noncomputable def z83 : Nat × AV := (23, (.tup [z81, z5, z5]))
noncomputable def z84 : Nat × AV := (25, (.tup [z81, z5, z5]))
noncomputable def z85 : AFrame := ⟨4, (tm 91 [(0, z12), (1, z15), z82, z55, z69, z21, (13, z23), (14, z24), z27, z29, (17, z30), (18, z34), z36, (20, z37), z40, (22, z15), z83, (24, z15), z84, (26, z81), (27, z5), (28, z5), (30, z15)]), [(.ops ((os 4 [1, 1, 1, 0]).toList.drop 1) (os 4 [1, 1, 1, 0])), (.code (cd 4 [1, 1, 1, 1]))], [], false, false, none⟩
noncomputable def z86 : List AFrame := [⟨8, (tm 70 [z18, z80, z55, z69, (16, z15)]), [(.ops ((os 8 [1, 0]).toList.drop 1) (os 8 [1, 0])), (.code (cd 8 [1, 1]))], [], false, false, none⟩, z85]
noncomputable def z87 : Nat × AObj := (482, (.cells 5 (nums .u8 [97, 58, 49, 46, 53, 58, 48, 124, 109, 115, 124, 64, 48, 46, 53, 124, 35, 97, 44, 98, 124, 84, 57, 10, 103, 58, 45, 50, 124, 103, 10]) false true))
noncomputable def z88 : AV := .sl 582 0 2 2 6 false
noncomputable def z89 : AV := .tup [z88, z5, z5]
noncomputable def z90 : Nat × AObj := (582, (.cells 42 [z28, z31, (.sl 495 0 2 2 3 false), z32, (.sl 540 0 2 2 2 true), z33, z38, z1, (.sl 554 0 1 1 3 false), z39, z3, z5] false true))
noncomputable def z91 : AV := .ptr 584 0
noncomputable def z92 : List AV := [z28, z31, (.sl 495 0 2 2 3 false), z32, (.sl 540 0 2 2 2 true), z33]
noncomputable def z93 : Nat × AV := (29, (.sl 585 0 1 10 1 true))
noncomputable def z94 : Nat × AObj := (585, (.cells 5 (nums .u8 [2, 0, 0, 0, 0, 0, 0, 0, 0, 0]) true false))
noncomputable def z95 : AV := .sl 816 0 34 34 1 false
noncomputable def z96 : AV := .sl 815 0 12 12 1 false
noncomputable def z97 : Nat × AV := (13, z5)
noncomputable def z98 : List AV := [z38, z1, (.sl 554 0 1 1 3 false), z39, z3, z5]
noncomputable def z99 : Nat × AV := (43, z5)
noncomputable def z100 : AV := .at (.int .i64 (.ofNat 4))
noncomputable def z101 : Nat × AObj := (584, (.cells 100 [(.sl 782 0 4 4 1 false), (.map 583)] true false))
noncomputable def z102 : Nat × AObj := (734, (.cells 5 (nums .u8 [2, 0, 1, 97, 3, 2, 2, 15, 0, 0, 160, 194, 30, 2, 1, 0, 0, 0, 1, 98, 2, 9]) false false))
noncomputable def z103 : AObj := .cells 9 [z28, z26, z25, z38] false true
noncomputable def z104 : Nat × AObj := (815, (.cells 5 (nums .u8 [0, 1, 103, 2, 1, 1, 2, 192, 132, 61, 0, 0]) false true))
noncomputable def z105 : Nat × AObj := (816, (.cells 5 (nums .u8 [2, 0, 1, 97, 3, 2, 2, 15, 0, 0, 160, 194, 30, 2, 1, 0, 0, 0, 1, 98, 2, 9, 0, 1, 103, 2, 1, 1, 2, 192, 132, 61, 0, 0]) false true))
noncomputable def z106 : AV := .at (.int .u32 (.ofNat 0))
noncomputable def z107 : AV := .sl 821 0 38 38 1 false
noncomputable def z108 : AV := .at (.int .u32 (.ofNat 1739844088))
noncomputable def z109 : AV := .at (.int .u8 (.ofNat 30))
noncomputable def z110 : AV := .at (.int .u32 (.ofNat 1856189595))
noncomputable def z111 : Nat × AV := (10, (.at (.int .u32 (.ofNat 4294967295))))
noncomputable def z112 : AV := .at (.int .i64 (.ofNat 38))
noncomputable def z113 : AV := .at (.int .i64 (.ofNat 16))
noncomputable def z114 : AItem := .code (cd 46 [1, 1, 0, 1, 0, 0, 1, 1, 1])
noncomputable def z115 : AItem := .code (cd 46 [1, 1, 1])
noncomputable def z116 : List AItem := [(.ops ((os 24 [1, 0]).toList.drop 1) (os 24 [1, 0])), (.code (cd 24 [1, 1]))]
noncomputable def z117 : AV := .at (.int .i64 (.ofNat 34))
noncomputable def z118 : List AFrame := [⟨24, (tm 5 [(0, z107), (2, z106), (3, z107)]), z116, [], false, false, none⟩, ⟨8, (tm 70 [z18, z80, z55, z69, (5, z88), z7, (7, z5), (8, z91), (9, z95), (10, z78), (11, (.ptr 735 0)), (12, z96), z97, (14, z107), (15, z89), (16, z15), (17, z89), (18, z88), (19, z5), (20, z5), z65, (22, z12), (25, z91), (26, z88), (27, z1), (28, z35), z93, (30, z88), (31, z1), (32, z1), (33, z12), (34, z78), (35, (.ptr 582 6)), (36, (.agg z98)), (37, (.tup [z96, z5])), (38, z91), (39, (.agg z98)), (40, (.tup [z96, z5])), (41, z96), (42, z5), z99, (44, z12), (47, (.sl 734 0 22 22 1 false)), (48, z96), (49, z95), (50, z1), (51, z95), (52, z117), (53, z12), (56, (.sl 817 0 3 3 1 true)), (57, z95), (58, z117), (59, (.at (.int .u64 (.ofNat 34)))), (60, (.sl 818 0 1 10 1 true)), (61, (.sl 820 0 4 4 1 false)), (62, (.sl 820 0 4 4 1 false)), (63, z95), (64, z107), (65, z107), (66, z107)]), [(.ops ((os 8 [1, 1, 1, 1, 1, 1, 1, 1, 1, 0]).toList.drop 2) (os 8 [1, 1, 1, 1, 1, 1, 1, 1, 1, 0])), (.code (cd 8 [1, 1, 0, 1, 0, 1]))], [], false, false, none⟩, z85]
noncomputable def z119 : AObj := .cells 5 (nums .u8 [77, 71, 1, 34, 2, 0, 1, 97, 3, 2, 2, 15, 0, 0, 160, 194, 30, 2, 1, 0, 0, 0, 1, 98, 2, 9, 0, 1, 103, 2, 1, 1, 2, 192, 132, 61, 0, 0]) false true
noncomputable def z120 : AV := .at (.int .u32 (.ofNat 2954803463))
noncomputable def z121 : AV := .at (.int .u8 (.ofNat 1))
noncomputable def z122 : AV := .at (.int .u32 (.ofNat 3458278778))
noncomputable def z123 : AV := .at (.int .i64 (.ofNat 31))
noncomputable def z124 : AV := .at (.int .i64 (.ofNat 8192))
noncomputable def z125 : Nat × AV := (7, z12)
noncomputable def z126 : AV := .ptr 824 0
noncomputable def z127 : AV := .at (.int .i64 (.ofNat 6))
noncomputable def z128 : Nat × AV := (16, (.tup [z126, z5]))
noncomputable def z129 : Nat × AV := (19, (.tup [z126, z5]))
noncomputable def z130 : Nat × AV := (27, z12)
noncomputable def z131 : Nat × AV := (31, z8)
noncomputable def z132 : AV := .at (.int .i64 (.ofNat 5))
noncomputable def z133 : Nat × AV := (34, (.tup [z3, z5]))
noncomputable def z134 : Nat × AV := (41, (.tup [z3, z5]))
noncomputable def z135 : Nat × AV := (45, z12)
noncomputable def z136 : Nat × AV := (46, z12)
noncomputable def z137 : Nat × AV := (49, z12)
noncomputable def z138 : Nat × AV := (51, z3)
noncomputable def z139 : AItem := .code (cd 9 [1, 1, 1, 1, 0, 1, 0, 0, 1])
noncomputable def z140 : AItem := .code (cd 9 [1, 1, 1, 1, 1])
noncomputable def z141 : AV := .sl 823 0 42 42 1 false
noncomputable def z142 : Nat × AV := (29, (.tup [z141, z5, z5]))
noncomputable def z143 : Nat × AV := (31, (.tup [z141, z5, z5]))
noncomputable def z144 : Nat × AV := (36, (st [97, 58, 49, 46, 53, 58, 48, 124, 109, 115, 124, 64, 48, 46, 53, 124, 35, 97, 44, 98, 124, 84, 57, 10, 103, 58, 45, 50, 124, 103, 10]))
noncomputable def z145 : AFrame := ⟨4, (tm 91 [(0, z12), (1, z15), z82, z55, z69, (5, z141), z7, (7, z5), z21, (13, z23), (14, z24), z27, z29, (17, z30), (18, z34), z36, (20, z37), z40, (22, z15), z83, (24, z15), z84, (26, z81), (27, z5), (28, z5), z142, (30, z15), z143, (32, z141), (33, z5), (34, z5), (35, z81), z144, (37, z12), (38, z12), (39, z5), (40, z12), (41, z12), (42, z12), z99, (44, z12), z135, z136, (47, z5), (48, z12), z137, (50, z12), (51, z5), (52, z12), (53, z12), (55, z81)]), [(.ops ((os 4 [1, 1, 1, 1, 1, 0]).toList.drop 1) (os 4 [1, 1, 1, 1, 1, 0])), (.code (cd 4 [1, 1, 1, 1, 1, 1]))], [], false, false, none⟩
noncomputable def z146 : AObj := .cells 5 (nums .u8 [77, 71, 1, 34, 2, 0, 1, 97, 3, 2, 2, 15, 0, 0, 160, 194, 30, 2, 1, 0, 0, 0, 1, 98, 2, 9, 0, 1, 103, 2, 1, 1, 2, 192, 132, 61, 0, 0, 137, 29, 241, 126]) false true
noncomputable def z147 : Nat × AObj := (823, z146)
noncomputable def z148 : Nat × AObj := (824, (.cells 77 [z1, (.ptr 825 0), (.at (.pointer none)), (.fn (.func 28) [z126] []), z12, z12] true false))
noncomputable def z149 : AV := .at (.int .i64 (.ofNat 15))
noncomputable def z150 : AV := .sl 482 23 1 8 1 false
noncomputable def z151 : AV := .at (.int .i64 (.ofNat 23))
noncomputable def z152 : AV := .at (.int .i64 (.ofNat 24))
noncomputable def z153 : AItem := .code (cd 9 [1, 1, 1, 1, 0, 1, 0, 0, 1, 1])
noncomputable def z154 : AFrame := ⟨9, (tm 63 [(0, z1), (1, z124), z82, (6, z3), z125, (8, z126), z9, (10, z3), (11, z151), (12, z3), z97, z128, (17, z1), (18, z124), z129, (20, z126), z65, z66, z67, z13, (25, z126), z72, z130, (28, z151), (29, z81), (30, z123), z131, (32, (.at (.int .i64 (.ofNat 22)))), (33, z151), z133, (35, z126), (36, z81), (37, z151), (38, z151), (39, z152), (40, z150), z134, (42, z3), z99, z73, z135, z136, z137, (50, z3), z138, (52, z3)]), [(.ops ((os 9 [1, 1, 1, 1, 0, 1, 0, 0, 1, 0, 0, 0]).toList.drop 6) (os 9 [1, 1, 1, 1, 0, 1, 0, 0, 1, 0, 0, 0])), (.code (cd 9 [1, 1, 1, 1, 0, 1, 0, 0, 1, 0, 0, 1])), (.inBlock 1), z153, (.inLoop (cd 9 [1, 1, 1, 1, 0, 1, 0, 0])), (.inBlock 0), z140], [], false, false, none⟩
noncomputable def z155 : AV := .ptr 1129 0
noncomputable def z156 : AV := .sl 1130 0 5 5 1 true
noncomputable def z157 : AV := .sl 1131 0 2 2 1 true
noncomputable def z158 : AV := st [109, 115]
noncomputable def z159 : AV := .fn (.func 116) [z155] []
noncomputable def z160 : AV := .agg [z5, z5]
noncomputable def z161 : AV := .at (.int .i64 (.ofNat 8))
noncomputable def z162 : AV := .agg [z5, z152, z79, z12]
noncomputable def z163 : List AV := [z1, z5, z152, z3, (.at (.int .i64 (.ofNat 12))), z5]
noncomputable def z164 : AV := .sl 1116 0 1 1 4 false
noncomputable def z165 : List AV := tm 43 [(0, z126), (1, z150), z4, z6, (6, (.ptr 1102 0)), (8, z12), (9, z126), (10, z12), (11, z12), (12, z126), (13, z126), (14, (.ptr 824 4)), (15, z12), z57, (17, z126), (18, z126), (19, (.ptr 824 5)), (20, z12), (21, z12), (22, z126), (23, z126), (24, (.ptr 824 3)), (25, (.fn (.func 28) [z126] [])), (26, z150), (27, (.fn (.func 51) [] [(.ptr 1103 0), (.ptr 1104 0)]))]
noncomputable def z166 : AItem := .code (cd 14 [1, 1, 1, 1])
noncomputable def z167 : Nat × AObj := (825, (.cells 122 [z124, z152, z152, z3, z12] true false))
noncomputable def z168 : AObj := .cells 25 [z3] true false
noncomputable def z169 : AObj := .cells 119 [z5, z152, z79, z12] true false
noncomputable def z170 : AObj := .cells 32 [z5, z5, z5, z3, z5, z5] true false
noncomputable def z171 : AObj := .cells 127 [z5, z5] true false
noncomputable def z172 : Nat × AObj := (1163, (.cells 36 z43 false true))
noncomputable def z173 : AV := .sl 1214 0 1 1 6 false
noncomputable def z174 : Nat × AObj := (1195, z51)
noncomputable def z175 : Nat × AObj := (1211, (.cells 42 [z28, z31, (.sl 1163 0 2 2 3 false), z32, (.sl 1195 0 2 2 2 true), z33] true false))
noncomputable def z176 : AObj := .cells 32 [z78, z5, z152, (.sl 1211 0 1 1 6 true), z5, z5] true true
noncomputable def z177 : List AV := [z152, z123, (st [103, 58, 45, 50, 124, 103]), z12]
noncomputable def z178 : AV := .sl 1302 0 1 1 4 false
noncomputable def z179 : AV := .sl 482 30 1 1 1 false
noncomputable def z180 : List AV := tm 43 [(0, z126), (1, z179), z4, z6, (6, (.ptr 1288 0)), (8, z12), (9, z126), (10, z12), (11, z12), (12, z126), (13, z126), (14, (.ptr 824 4)), (15, z12), z57, (17, z126), (18, z126), (19, (.ptr 824 5)), (20, z12), (21, z12), (22, z126), (23, z126), (24, (.ptr 824 3)), (25, (.fn (.func 28) [z126] [])), (26, z179), (27, (.fn (.func 51) [] [(.ptr 1289 0), (.ptr 1290 0)]))]
noncomputable def z181 : AV := .sl 1215 0 1 1 6 false
noncomputable def z182 : AV := .at (.int .i64 (.ofNat 30))
noncomputable def z183 : AV := .at (.int .i64 (.ofNat 1000))
noncomputable def z184 : AV := .ptr 1345 0
noncomputable def z185 : Nat × AV := (16, (.tup [z184, z5]))
noncomputable def z186 : Nat × AV := (19, (.tup [z184, z5]))
noncomputable def z187 : AV := .at (.int .i64 (.ofNat 42))
noncomputable def z188 : AV := .sl 1342 0 2 2 6 false
noncomputable def z189 : AFrame := ⟨4, (tm 91 [(0, z12), (1, z15), z82, z55, z69, (5, z141), z7, (7, z5), (8, z188), (9, z8), z21, (13, z23), (14, z24), z27, z29, (17, z30), (18, z34), z36, (20, z37), z40, (22, z15), z83, (24, z15), z84, (26, z81), (27, z5), (28, z5), z142, (30, z15), z143, (32, z141), (33, z5), (34, z5), (35, z81), z144, (37, z12), (38, z12), (39, z5), (40, z12), (41, z12), (42, z12), z99, (44, z12), z135, z136, (47, z5), (48, z12), z137, (50, z12), (51, z5), (52, z12), (53, z12), (54, (.tup [z188, z8])), (55, z81), (56, (.tup [z188, z8])), (57, z188), (58, z8), (60, z141)]), [(.ops ((os 4 [1, 1, 1, 1, 1, 1, 0]).toList.drop 1) (os 4 [1, 1, 1, 1, 1, 1, 0])), (.code (cd 4 [1, 1, 1, 1, 1, 1, 1]))], [], false, false, none⟩
noncomputable def z190 : Nat × AObj := (1335, z52)
noncomputable def z191 : Nat × AObj := (1338, (.cells 42 [z38, z1, (.sl 1335 0 1 1 3 false), z39, z3, z5] true false))
noncomputable def z192 : Nat × AObj := (1342, (.cells 32 [z78, z5, z152, (.sl 1211 0 1 1 6 true), z5, z5, z78, z152, z123, (.sl 1338 0 1 1 6 true), z5, z5] false true))
noncomputable def z193 : Nat × AObj := (1345, (.cells 77 [z100, (.at (.pointer none)), (.ptr 1346 0), (.fn (.func 30) [z184] []), z12, z12] true false))
noncomputable def z194 : AV := .at (.int .i64 (.ofNat 17))
noncomputable def z195 : AV := .at (.int .i64 (.ofNat 27))
noncomputable def z196 : AV := .at (.int .i64 (.ofNat 26))
noncomputable def z197 : AV := .at (.int .i64 (.ofNat 37))
noncomputable def z198 : AV := .sl 1919 0 38 42 1 false
noncomputable def z199 : AV := .at (.int .u32 (.ofNat 2792051934))
noncomputable def z200 : AV := .at (.int .u8 (.ofNat 0))
noncomputable def z201 : AV := .at (.int .u32 (.ofNat 3607345573))
noncomputable def z202 : AV := .sl 1919 0 42 42 1 false
noncomputable def z203 : AV := .sl 1924 0 1 1 5 false
noncomputable def z204 : AV := .sl 823 41 1 1 1 false
noncomputable def z205 : List AV := [z5, z187, z202, z5, z5]
noncomputable def z206 : AFrame := ⟨54, (tm 82 [(0, (.yield 1911)), (1, (.ptr 1908 0)), (2, (.ptr 1909 0)), (4, z203), z6, (7, (.ptr 1925 0)), (8, (.ptr 1926 0)), (11, (.tup [z203, z5])), (12, z184), (13, z184), (14, (.ptr 1345 2)), (15, (.ptr 1346 0)), (16, z204), (17, (.tup [z203, z5])), (18, z203), (19, z5), (20, z203), (21, z78), z66, (23, z8), (24, (.ptr 1924 0)), (25, (.agg z205)), (26, (.ptr 1925 0)), (27, z5), (28, (.ptr 1925 1)), (29, z187), (30, (.ptr 1925 3)), (31, (.ptr 1925 3)), (32, z5), (33, (.ptr 1925 3)), (34, (.ptr 1925 4)), (35, z5), (36, (.agg [z1, z5, z187, z3, z5, z5])), (37, (.ptr 1925 3)), (38, z160), (39, z160), (40, z8), (42, (.ptr 1925 2)), (43, z202)]), [(.ops ((os 54 [1, 1, 0, 0, 1, 1, 0, 0, 1, 1, 0, 1, 0, 0]).toList.drop 2) (os 54 [1, 1, 0, 0, 1, 1, 0, 0, 1, 1, 0, 1, 0, 0])), (.code (cd 54 [1, 1, 0, 0, 1, 1, 0, 0, 1, 1, 0, 1, 0, 1])), (.code (cd 54 [1, 1, 0, 0, 1, 1, 0, 0, 1, 1, 1])), (.inBlock 1), (.code (cd 54 [1, 1, 0, 0, 1, 1, 1])), (.inLoop (cd 54 [1, 1, 0, 0])), (.inBlock 0)], [], false, false, none⟩
noncomputable def z207 : List AV := tm 43 [(0, z184), (1, z204), z4, z6, (6, (.ptr 1907 0)), (8, z12), (9, z184), (10, z12), (11, z12), (12, z184), (13, z184), (14, (.ptr 1345 4)), (15, z12), z57, (17, z184), (18, z184), (19, (.ptr 1345 5)), (20, z12), (21, z12), (22, z184), (23, z184), (24, (.ptr 1345 3)), (25, (.fn (.func 30) [z184] [])), (26, z204), (27, (.fn (.func 54) [] [(.ptr 1908 0), (.ptr 1909 0)]))]
noncomputable def z208 : AFrame := ⟨14, z207, [(.inRange 1911), (.inBlock 1), z166], [(.coll 1910)], false, false, none⟩
noncomputable def z209 : AV := .at (.int .i64 (.ofNat 41))
noncomputable def z210 : AFrame := ⟨9, (tm 63 [(0, z100), (1, z183), (2, z141), (6, z3), z125, (8, z184), z9, (10, z3), (11, z209), (12, z3), z97, z185, (17, z100), (18, z183), z186, (20, z184), z65, z66, z67, z13, (25, z184), z72, z130, (28, z209), (29, z141), (30, z187), z131, (32, (.at (.int .i64 (.ofNat 40)))), (33, z209), z133, (35, z184), (36, z141), (37, z209), (38, z209), (39, z187), (40, z204), z134, (42, z3), z99, z73, z135, z136, z137, (50, z3), z138, (52, z3)]), [(.ops ((os 9 [1, 1, 1, 1, 0, 1, 0, 0, 1, 0, 0, 0]).toList.drop 6) (os 9 [1, 1, 1, 1, 0, 1, 0, 0, 1, 0, 0, 0])), (.code (cd 9 [1, 1, 1, 1, 0, 1, 0, 0, 1, 0, 0, 1])), (.inBlock 1), z153, (.inLoop (cd 9 [1, 1, 1, 1, 0, 1, 0, 0])), (.inBlock 0), z140], [], false, false, none⟩
noncomputable def z211 : List AFrame := [⟨24, (tm 5 [(0, z198), (2, z106), (3, z198)]), z116, [], false, false, none⟩, ⟨93, (tm 21 [(0, z202), (2, z5), (3, z112), (4, z202), (5, z187), (6, z112), z125, (8, z112), (9, z12), (11, z202), (12, z112), (13, (.sl 1919 38 4 4 1 false)), (14, z202), (15, z112), (16, z198)]), [(.any (os 93 [1, 1, 0, 0, 1, 1, 0]) [1, 1, 1, 1, 1, 1, 0, 0, 0, 0, 0] [] (some 6)), (.code (cd 93 [1, 1, 0, 0, 1, 1, 1])), (.inBlock 0), (.code (cd 93 [1, 1, 1]))], [], false, false, none⟩, ⟨56, (tm 72 [(0, z202), z80, (3, (.ptr 1927 0)), (4, z187), (5, (.ptr 1934 0)), (10, (.tup [z187, z160])), (11, z202), (12, (.tup [z187, z160])), (13, z187), (14, z160), (15, z12), (16, z160), (17, z160), (18, z12), (20, z12), (21, z187), (22, z12), z67, (24, z187), (25, z202), (26, z187), z130, (28, z12), z17, (33, z187), (34, z202), (35, z187), (36, z12), (40, z202)]), [(.ops ((os 56 [1, 1, 0, 0, 1, 1, 1, 1, 1, 1, 0]).toList.drop 1) (os 56 [1, 1, 0, 0, 1, 1, 1, 1, 1, 1, 0])), (.code (cd 56 [1, 1, 0, 0, 1, 1, 1, 1, 1, 1, 1])), (.inBlock 0), (.code (cd 56 [1, 1, 1]))], [], false, false, none⟩, z206, z208, z210, z189]
noncomputable def z212 : Nat × AObj := (1346, (.cells 133 [z183, z187, z3, z5, z12] true false))
noncomputable def z213 : Nat × AObj := (1908, (.cells 50 [z184] true false))
noncomputable def z214 : Nat × AObj := (1909, (.cells 22 [z204] true false))
noncomputable def z215 : Nat × AObj := (1924, (.cells 129 z205 true true))
noncomputable def z216 : Nat × AObj := (1925, (.cells 129 z205 true false))
noncomputable def z217 : Nat × AObj := (1926, (.cells 32 [z1, z5, z187, z3, z5, z5] true false))
noncomputable def z218 : AV := .at (.int .u32 (.ofNat 1561307371))
noncomputable def z219 : AV := .at (.int .u8 (.ofNat 2))
noncomputable def z220 : AV := .at (.int .u32 (.ofNat 1739844090))
noncomputable def z221 : AV := .at (.int .u32 (.ofNat 3922967436))
noncomputable def z222 : AV := .at (.int .u32 (.ofNat 2954803462))
noncomputable def z223 : AV := .ptr 1954 0
noncomputable def z224 : AV := .ptr 1947 0
noncomputable def z225 : Nat × AV := (25, (.fn (.func 197) [] [(.ptr 1955 0)]))
noncomputable def z226 : AV := .sl 1919 4 34 38 1 false
noncomputable def z227 : AV := .fn (.func 146) [] [(.ptr 1942 0)]
noncomputable def z228 : List AV := [(.ptr 1948 0), (.ptr 1943 0), (.ptr 1944 0)]
noncomputable def z229 : AFrame := ⟨153, (tm 27 [(0, z226), (1, z227), (4, (.ptr 1943 0)), (5, (.ptr 1944 0)), (6, (.ptr 1948 0)), (7, z227), (8, z12), (10, z226), (11, z224), (12, z224), (13, z224), (14, (.ptr 1947 4)), (15, (.fn (.func 202) [] z228)), (16, z227), (17, z224)]), [(.ops ((os 153 [1, 1, 1, 1, 1, 0]).toList.drop 2) (os 153 [1, 1, 1, 1, 1, 0])), (.code (cd 153 [1, 1, 1, 1, 1, 1]))], [(.call 202 z228)], false, false, none⟩
noncomputable def z230 : AFrame := ⟨95, (tm 21 [(0, z226), z80, (3, (.ptr 1941 0)), (4, (.ptr 1942 0)), (5, z227), (8, z227), (10, z226), (11, z227)]), [(.ops ((os 95 [1, 1, 1, 0, 0]).toList.drop 2) (os 95 [1, 1, 1, 0, 0])), (.code (cd 95 [1, 1, 1, 0, 1])), (.code (cd 95 [1, 1, 1, 1]))], [], false, false, none⟩
noncomputable def z231 : AFrame := ⟨56, (tm 72 [(0, z202), z80, (3, (.ptr 1927 0)), (4, z187), (5, (.ptr 1934 0)), (6, z100), (7, z117), (8, (.ptr 1940 0)), (10, (.tup [z187, z160])), (11, z202), (12, (.tup [z187, z160])), (13, z187), (14, z160), (15, z12), (16, z160), (17, z160), (18, z12), (20, z12), (21, z187), (22, z12), z67, (24, z187), (25, z202), (26, z187), z130, (28, z12), z17, (33, z187), (34, z202), (35, z187), (36, z12), (39, z12), (40, z202), (41, z5), (42, z12), (46, (.tup [z100, z117, z160])), (47, z202), (48, (.tup [z100, z117, z160])), (49, z100), (50, z117), (51, z160), (53, z202), (54, z100), (55, z187), (56, z112), (57, z226)]), [(.ops ((os 56 [1, 1, 1, 1, 0]).toList.drop 5) (os 56 [1, 1, 1, 1, 0])), (.code (cd 56 [1, 1, 1, 1, 1]))], [], false, false, none⟩
noncomputable def z232 : List AFrame := [⟨146, (tm 33 [(0, z224), (1, (.ptr 1942 0)), (3, z35), (4, z223), (5, z224), (6, z35), (7, z35), (8, z12), (11, z224), (13, z223), (14, z35), (15, z22), (16, z8), (17, z3), (18, z223), (19, z224)]), [(.any (os 146 [1, 1, 1, 1, 0, 1, 0, 0, 1, 1, 0, 0, 0]) [1, 1, 1, 0, 0, 0, 0] [] (some 3)), (.code (cd 146 [1, 1, 1, 1, 0, 1, 0, 0, 1, 1, 0, 0, 1])), (.inBlock 1), (.code (cd 146 [1, 1, 1, 1, 0, 1, 0, 0, 1, 1, 1])), (.inLoop (cd 146 [1, 1, 1, 1, 0, 1, 0, 0])), (.inBlock 0), (.code (cd 146 [1, 1, 1, 1, 1]))], [], false, false, none⟩, z229, z230, z231, z206, z208, z210, z189]
noncomputable def z233 : AObj := .cells 30 [z3] true false
noncomputable def z234 : AObj := .cells 3 [z5] true false
noncomputable def z235 : Nat × AObj := (1946, (.cells 5 (nums .u8 [2, 0, 1, 97, 3, 2, 2, 15, 0, 0, 160, 194, 30, 2, 1, 0, 0, 0, 1, 98, 2, 9, 0, 1, 103, 2, 1, 1, 2, 192, 132, 61, 0, 0]) true true))
noncomputable def z236 : AV := .sl 1946 0 34 34 1 false
noncomputable def z237 : AObj := .cells 243 [z224] true false
noncomputable def z238 : Nat × AObj := (1954, (.cells 100 [(.sl 1981 0 1 1 1 false), (.map 1953)] true false))
noncomputable def z239 : AV := .sl 2028 0 2 2 3 false
noncomputable def z240 : Nat × AObj := (2028, (.cells 36 z43 false true))
noncomputable def z241 : AV := .sl 2087 0 1 1 2 false
noncomputable def z242 : AV := .sl 2194 0 1 1 3 false
noncomputable def z243 : AV := .sl 2139 0 1 1 6 false
noncomputable def z244 : List AV := [z28, z31, z239, z32, (.sl 2129 0 2 2 2 false), z33]
noncomputable def z245 : Nat × AObj := (2129, (.cells 39 [z28, z26, z25, z26] false true))
noncomputable def z246 : AV := .sl 2238 0 2 2 3 false
noncomputable def z247 : AV := .sl 2240 0 2 2 2 false
noncomputable def z248 : AV := .agg [z28, z31, z246, z32, z247, z33]
noncomputable def z249 : AV := .sl 2263 0 2 2 3 false
noncomputable def z250 : AV := .sl 2250 0 2 2 6 false
noncomputable def z251 : AV := .fn (.func 38) [] []
noncomputable def z252 : List AV := tm 28 [(0, z250), (1, z251), (4, (.ptr 2251 0)), (5, (.ptr 2252 0)), (6, (.ptr 2253 0)), (7, (.ptr 2254 0)), (10, z250), (11, z1), (12, z12), (13, z250), (14, z251), (15, (.fn (.func 125) [] [(.ptr 2255 0), (.ptr 2256 0)]))]
noncomputable def z253 : List AItem := [(.ops ((os 19 [1, 0]).toList.drop 1) (os 19 [1, 0])), (.code (cd 19 [1, 1]))]
noncomputable def z254 : AV := .sl 2230 0 1 1 6 false
noncomputable def z255 : AFrame := ⟨4, (tm 91 [(0, z12), (1, z15), z82, z55, z69, (5, z141), z7, (7, z5), (8, z188), (9, z8), (10, z254), (11, z8), z21, (13, z23), (14, z24), z27, z29, (17, z30), (18, z34), z36, (20, z37), z40, (22, z15), z83, (24, z15), z84, (26, z81), (27, z5), (28, z5), z142, (30, z15), z143, (32, z141), (33, z5), (34, z5), (35, z81), z144, (37, z12), (38, z12), (39, z5), (40, z12), (41, z12), (42, z12), z99, (44, z12), z135, z136, (47, z5), (48, z12), z137, (50, z12), (51, z5), (52, z12), (53, z12), (54, (.tup [z188, z8])), (55, z81), (56, (.tup [z188, z8])), (57, z188), (58, z8), (59, (.tup [z254, z8])), (60, z141), (61, (.tup [z254, z8])), (62, z254), (63, z8), (64, z8), (65, z8), (66, z8), (67, z8), (68, z8), (69, z188), (70, z1), (71, z8), (72, z8), (73, z8), (74, z254), (75, z78), (76, z8), (77, z8), (78, z8), (79, z188), (80, z250), (81, z15)]), [(.ops ((os 4 [1, 1, 1, 1, 1, 1, 1, 0]).toList.drop 18) (os 4 [1, 1, 1, 1, 1, 1, 1, 0])), (.code (cd 4 [1, 1, 1, 1, 0, 1, 0, 1]))], [], false, false, none⟩
noncomputable def z256 : Nat × AObj := (2224, (.cells 42 [z28, z31, z239, z32, (.sl 2129 0 2 2 2 false), z33, z38, z1, z242, z39, z3, z5] false true))
noncomputable def z257 : Nat × AObj := (2230, (.cells 32 [z78, z5, z187, (.sl 2224 0 2 2 6 false), z5, z5] true true))
noncomputable def z258 : Nat × AObj := (2250, (.cells 42 [z28, z31, z246, z32, z247, z33, z38, z1, (.sl 2248 0 1 1 3 false), z39, z3, z5] false true))
noncomputable def z259 : List AV := [z28, z31, (.sl 2363 0 2 2 3 false), z32, (.sl 2408 0 2 2 2 true), z33]
noncomputable def z260 : List AV := tm 28 [z18, (1, z251), (4, (.ptr 2351 0)), (5, (.ptr 2352 0)), (6, (.ptr 2353 0)), (7, (.ptr 2354 0)), (10, z15), (11, z1), (12, z12), (13, z15), (14, z251), (15, (.fn (.func 125) [] [(.ptr 2355 0), (.ptr 2356 0)]))]
noncomputable def z261 : AV := .sl 2350 0 2 2 6 false
noncomputable def c0 : ACfg := ⟨match enterA T2 4 [] false with | some fr => fr | none => ⟨0, [], [], [], false, false, none⟩, [], ⟨hT [(1, .cells 361 (nums .u64 [1, 10, 100, 1000, 10000, 100000, 1000000, 10000000, 100000000, 1000000000, 10000000000, 100000000000, 1000000000000, 10000000000000, 100000000000000, 1000000000000000, 10000000000000000, 100000000000000000, 1000000000000000000, 10000000000000000000]) false false)], 8⟩⟩
noncomputable def c1 : ACfg := ⟨⟨18, (tm 71 [(0, z0), z2, z4, z6, z7, (7, (.ptr 13 0)), (8, z8), z9, (10, z5), (18, z11), (19, z1), (20, z11), (21, (.agg z10)), (22, z8), (23, z8), z13, z14, (26, z15), z16, (28, z0), (29, z5), (30, z5), (31, z5), z17]), [(.code (cd 18 [1, 1, 1, 1]))], [], false, false, none⟩, [z19, z41], ⟨hT [z42, z44, z45, z47, z48, (13, z49), (26, z50), (71, z51), (85, z52), z53], 114⟩⟩
noncomputable def c2 : ACfg := ⟨⟨38, (tm 45 [(0, (.agg z54)), (1, (.ptr 195 0)), (2, (.ptr 196 0)), z55]), [(.code (cd 38 [1]))], [], false, false, none⟩, [⟨36, (tm 37 [(0, (.agg z54)), z2, (2, (.ptr 192 0)), (4, z26), z6, (6, (.ptr 194 0)), (7, z8), (10, z11), (11, z1), (12, z11), (13, (.agg z10)), z56, (15, z8), z57, (18, (.agg z54))]), [(.ops ((os 36 [1, 1, 1, 0]).toList.drop 1) (os 36 [1, 1, 1, 0])), (.code (cd 36 [1, 1, 1, 1]))], [], false, false, none⟩, z59, z19, z41], ⟨hT [z42, z44, z45, z47, z48, (13, z49), (26, z50), (71, z51), (85, z52), z53, z60, (191, z61), (192, z61), (194, z49), (195, z61), (196, z62)], 197⟩⟩
noncomputable def c3 : ACfg := ⟨⟨61, (tm 105 [(0, z64), (1, (.ptr 287 0)), (2, z26), z55]), [(.code (cd 61 [1]))], [], false, false, none⟩, [z68, z59, z19, z41], ⟨hT [z42, z44, z45, z47, z48, (13, z49), (26, z50), (71, z51), (85, z52), z53, z60, (191, z61), (192, (.cells 42 z63 true false)), (194, z49), (198, z50), (243, z51), (287, (.cells 42 z63 true false))], 288⟩⟩
noncomputable def c4 : ACfg := ⟨⟨110, (tm 13 [(0, z31), (2, z26)]), [(.ops ((os 110 [0]).toList.drop 1) (os 110 [0])), (.code (cd 110 [1]))], [], false, false, none⟩, [⟨61, (tm 105 [(0, z64), (1, (.ptr 287 0)), (2, z26), z55, z69, (5, (.ptr 342 0)), (6, (.ptr 343 0)), (7, z70), (9, (.ptr 352 0)), (10, (st [48])), (11, z5), (20, (.tup [(.agg z71), z5])), (21, z64), (22, (.tup [(.agg z71), z5])), (23, (.agg z71)), (24, z5), (25, z5), z72, (28, z70), (29, z70), (30, (.ptr 287 0)), (31, z28), (33, (.ptr 287 2)), (34, (.sl 291 0 2 2 3 false)), (35, z1), (36, z1), (37, z12), (38, (.ptr 291 3)), (39, z23), (40, (.tup [(st [48]), z5])), (41, z23), (42, (.tup [(st [48]), z5])), (43, (st [48])), z73, (45, z70), (46, (st [48])), (47, z5), (49, z1), (51, (.ptr 287 1)), (52, z31)]), [(.ops ((os 61 [1, 1, 1, 1, 1, 1, 1, 1, 0]).toList.drop 2) (os 61 [1, 1, 1, 1, 1, 1, 1, 1, 0])), (.code (cd 61 [1, 1, 1, 1, 1, 1, 1, 1, 1]))], [], false, false, none⟩, z68, z59, z19, z41], ⟨hT [z42, z44, z45, z47, z48, (13, z49), (26, z50), (71, z51), (85, z52), z53, z60, (191, z61), (192, (.cells 42 z63 true false)), (194, z49), (198, z50), (243, z51), (287, (.cells 42 z71 true false)), (291, z50), (336, z51), (342, (.cells 195 [(.ptr 342 0), (.sl 358 0 7 7 1 false)] true false)), (343, z74), (352, z75), (358, (.cells 5 (nums .u8 [97, 58, 49, 46, 53, 58, 48]) false true))], 359⟩⟩
noncomputable def c5 : ACfg := ⟨⟨36, (tm 37 [(0, (.agg z76)), z2, (2, (.ptr 383 0)), (4, z26), z6, (6, (.ptr 385 0)), (7, z8), (8, z5), (10, z11), (11, z1), (12, z11), (13, (.agg z10)), z56, (15, z8), z57, (17, (.tup [(.agg z77), z5])), (18, (.agg z76)), (19, (.tup [(.agg z77), z5])), (20, (.agg z77)), z65, z66, z67]), [(.ops ((os 36 [1, 1, 1, 1, 1, 0, 0]).toList.drop 0) (os 36 [1, 1, 1, 1, 1, 0, 0])), (.code (cd 36 [1, 1, 1, 1, 1, 0, 1])), (.code (cd 36 [1, 1, 1, 1, 1, 1]))], [], false, false, none⟩, [⟨18, (tm 71 [(0, z0), z2, z4, z6, z7, (7, (.ptr 13 0)), (8, z8), z9, (10, z5), (11, z5), (12, z5), (13, (.sl 190 0 1 2 1 true)), (14, z78), (15, (.ptr 382 0)), (16, z79), (17, z5), (18, z11), (19, z1), (20, z11), (21, (.agg z10)), (22, z8), (23, z8), z13, z14, (26, z15), z16, (28, z0), (29, z5), (30, z5), (31, z5), z17, (35, (.tup [z5, z5])), (36, z0), (37, z1), (38, (.tup [z5, z5])), (39, z5), (40, z5), (41, z5), (42, z12), (45, z0), (46, z1), (47, z58), (48, z0), (49, z1), (50, z78), (51, z8), (52, z78), (53, (.ptr 113 6)), (54, (.agg z76)), (55, (.tup [z79, z5])), (56, (.agg z76)), (57, z1), (58, (.tup [z79, z5])), (59, z79), (60, z5), (61, z5), (62, z12), (65, z58), (66, z79), (67, (.sl 381 0 1 1 1 true)), (68, (.sl 190 0 1 2 1 true)), (69, z78)]), [(.ops ((os 18 [1, 1, 1, 1, 1, 1, 0, 1, 0, 0, 1, 1, 0, 0, 1, 0]).toList.drop 2) (os 18 [1, 1, 1, 1, 1, 1, 0, 1, 0, 0, 1, 1, 0, 0, 1, 0])), (.code (cd 18 [1, 1, 1, 1, 1, 1, 0, 1, 0, 0, 1, 1, 0, 0, 1, 1])), (.inBlock 1), (.code (cd 18 [1, 1, 1, 1, 1, 1, 0, 1, 0, 0, 1, 1, 1])), (.inLoop (cd 18 [1, 1, 1, 1, 1, 1, 0, 1, 0, 0])), (.inBlock 0), (.code (cd 18 [1, 1, 1, 1, 1, 1, 1]))], [], false, false, none⟩, z19, z41], ⟨hT [z42, z44, z45, z47, z48, (13, z49), (26, z50), (71, z51), (85, z52), z53, (190, (.cells 9 [z79, z26] true false)), (381, (.cells 9 [z79] true false)), (382, (.cells 42 z76 true false)), (383, (.cells 42 z77 true false)), (385, z49), (389, z52)], 414⟩⟩
noncomputable def c6 : ACfg := ⟨⟨19, (tm 10 [z18, z80, z55, z69]), [(.code (cd 19 [1]))], [], false, false, none⟩, z86, ⟨hT [z42, z44, z45, z47, z48, z87], 483⟩⟩
noncomputable def c7 : ACfg := ⟨⟨19, (tm 10 [z18, (2, z88), z55, z69, (5, z15), (6, z89), (7, z88), (8, z5), z9]), [(.ops ((os 19 [1, 0]).toList.drop 7) (os 19 [1, 0])), (.code (cd 19 [1, 1]))], [], false, false, none⟩, z86, ⟨hT [z42, z44, z45, z47, z48, z87, (495, z50), (540, z51), (554, z52), z90], 583⟩⟩
noncomputable def c8 : ACfg := ⟨⟨22, (tm 107 [(0, z91), (1, (.agg z92)), (3, (.ptr 588 0)), z4, z6, z7, (15, z91), z57, (17, (.agg z92)), (18, z5), (19, z12), (20, z5), (21, z12), z67, (24, (.agg z92)), (25, z8), z72]), [(.code (cd 22 [1, 1, 1, 0, 0, 1, 1, 1, 1])), (.inBlock 0), (.code (cd 22 [1, 1, 1, 1]))], [], false, false, none⟩, [⟨8, (tm 70 [z18, z80, z55, z69, (5, z88), z7, (7, z5), (8, z91), (9, (.sl 585 0 1 10 1 true)), (10, z5), (11, (.ptr 587 0)), (15, z89), (16, z15), (17, z89), (18, z88), (19, z5), (20, z5), z65, (22, z12), (25, z91), (26, z88), (27, z1), (28, z35), z93, (30, z88), (31, z1), (32, z5), (33, z8), (34, z5), (35, (.ptr 582 0)), (36, (.agg z92)), (38, z91), (39, (.agg z92))]), [(.ops ((os 8 [1, 1, 1, 1, 1, 0, 1, 0, 0, 1, 1, 0, 0, 1, 0]).toList.drop 2) (os 8 [1, 1, 1, 1, 1, 0, 1, 0, 0, 1, 1, 0, 0, 1, 0])), (.code (cd 8 [1, 1, 1, 1, 1, 0, 1, 0, 0, 1, 1, 0, 0, 1, 1])), (.inBlock 1), (.code (cd 8 [1, 1, 1, 1, 1, 0, 1, 0, 0, 1, 1, 1])), (.inLoop (cd 8 [1, 1, 1, 1, 1, 0, 1, 0, 0])), (.inBlock 0), (.code (cd 8 [1, 1, 1, 1, 1, 1]))], [], false, false, none⟩, z85], ⟨hT [z42, z44, z45, z47, z48, z87, (495, z50), (540, z51), (554, z52), z90, (583, (.map [])), (584, (.cells 100 [z3, (.map 583)] true false)), z94, (587, (.cells 42 z92 true false)), (588, (.cells 42 z92 true false))], 662⟩⟩
noncomputable def c9 : ACfg := ⟨⟨8, (tm 70 [z18, z80, z55, z69, (5, z88), z7, (7, z5), (8, z91), (9, z95), (10, z78), (11, (.ptr 735 0)), (12, z96), z97, (15, z89), (16, z15), (17, z89), (18, z88), (19, z5), (20, z5), z65, (22, z12), (25, z91), (26, z88), (27, z1), (28, z35), z93, (30, z88), (31, z1), (32, z78), (33, z8), (34, z78), (35, (.ptr 582 6)), (36, (.agg z98)), (37, (.tup [z96, z5])), (38, z91), (39, (.agg z98)), (40, (.tup [z96, z5])), (41, z96), (42, z5), z99, (44, z12), (47, (.sl 734 0 22 22 1 false)), (48, z96), (49, z95), (50, z1)]), [(.ops ((os 8 [1, 1, 1, 1, 1, 0, 1, 0, 0, 1, 1, 1]).toList.drop 1) (os 8 [1, 1, 1, 1, 1, 0, 1, 0, 0, 1, 1, 1])), (.inLoop (cd 8 [1, 1, 1, 1, 1, 0, 1, 0, 0])), (.inBlock 0), (.code (cd 8 [1, 1, 1, 1, 1, 1]))], [], false, false, none⟩, [z85], ⟨hT [z42, z44, z45, z47, z48, z87, (495, z50), (540, z51), (554, z52), z90, (583, (.map [(z28, z78), (z26, z1), (z25, z31), (z38, z100)])), z101, z94, z102, (735, (.cells 42 z98 true false)), (782, z103), z104, z105], 817⟩⟩
noncomputable def c10 : ACfg := ⟨⟨46, (tm 26 [(0, z106), (1, z107), (4, z106), (5, z108), (7, z109), (8, z110), (9, z106), z111, (11, z107), (12, z112), (13, z113), z56, (15, (.ptr 821 16)), (16, z109), (17, (.at (.int .u32 (.ofNat 1856189573)))), (18, z109), (19, (.at (.int .u32 (.ofNat 30)))), (20, z110), (21, z110), (22, z108), (23, z113)]), [(.inBlock 1), z114, (.inLoop (cd 46 [1, 1, 0, 1, 0, 0])), (.inBlock 0), z115], [], false, false, none⟩, z118, ⟨hT [z42, z44, z45, z47, z48, z87, (495, z50), (540, z51), (554, z52), z90, (583, (.map [(z28, z78), (z26, z1), (z25, z31), (z38, z100)])), z101, z94, z102, (735, (.cells 42 z98 true false)), (782, z103), z104, z105, (817, (.cells 5 (nums .u8 [77, 71, 1]) true false)), (818, (.cells 5 (nums .u8 [34, 0, 0, 0, 0, 0, 0, 0, 0, 0]) true false)), (820, (.cells 5 (nums .u8 [77, 71, 1, 34]) false false)), (821, z119)], 822⟩⟩
noncomputable def c11 : ACfg := ⟨⟨46, (tm 26 [(0, z106), (1, z107), (4, z106), (5, z120), (7, z121), (8, z122), (9, z106), z111, (11, z107), (12, z112), (13, z123), z56, (15, (.ptr 821 30)), (16, z121), (17, (.at (.int .u32 (.ofNat 3458278779)))), (18, z121), (19, (.at (.int .u32 (.ofNat 1)))), (20, z122), (21, z122), (22, z120), (23, z123)]), [(.code (cd 46 [1, 1, 0, 1, 0, 0])), (.inLoop (cd 46 [1, 1, 0, 1, 0, 0])), (.inBlock 0), z115], [], false, false, none⟩, z118, ⟨hT [z42, z44, z45, z47, z48, z87, (495, z50), (540, z51), (554, z52), z90, (583, (.map [(z28, z78), (z26, z1), (z25, z31), (z38, z100)])), z101, z94, z102, (735, (.cells 42 z98 true false)), (782, z103), z104, z105, (817, (.cells 5 (nums .u8 [77, 71, 1]) true false)), (818, (.cells 5 (nums .u8 [34, 0, 0, 0, 0, 0, 0, 0, 0, 0]) true false)), (820, (.cells 5 (nums .u8 [77, 71, 1, 34]) false false)), (821, z119)], 822⟩⟩
noncomputable def c12 : ACfg := ⟨⟨9, (tm 63 [(0, z1), (1, z124), z82, (6, z3), z125, (8, z126), z9, (10, z3), (11, z127), (12, z3), z97, z128, (17, z1), (18, z124), z129, (20, z126), z65, z66, z67, z13, (25, z126), z72, z130, (28, z127), (29, z81), (30, z123), z131, (32, z132), (33, z127), z133, (35, z126), (36, z81), (37, z132), (38, z132), (39, z127), (40, (.sl 482 5 1 26 1 false)), z134, (42, z3), z99, z73, z135, z136, z137, (50, z3), z138, (52, z3)]), [z139, (.inLoop (cd 9 [1, 1, 1, 1, 0, 1, 0, 0])), (.inBlock 0), z140], [], false, false, none⟩, [z145], ⟨hT [z42, z44, z45, z47, z48, z87, z147, z148, (825, (.cells 122 [z124, z127, z5, (.sl 897 0 6 6 1 false), z12] true false)), (897, (.cells 5 (nums .u8 [97, 58, 49, 46, 53, 58]) true true))], 898⟩⟩
noncomputable def c13 : ACfg := ⟨⟨9, (tm 63 [(0, z1), (1, z124), z82, (6, z3), z125, (8, z126), z9, (10, z3), (11, z113), (12, z3), z97, z128, (17, z1), (18, z124), z129, (20, z126), z65, z66, z67, z13, (25, z126), z72, z130, (28, z149), (29, z81), (30, z123), z131, (32, z149), (33, z113), z133, (35, z126), (36, z81), (37, z149), (38, z149), (39, z113), (40, (.sl 482 15 1 16 1 false)), z134, (42, z3), z99, z73, z135, z136, z137, (50, z3), z138, (52, z3)]), [(.code (cd 9 [1, 1, 1, 1, 0, 1, 0, 0])), (.inLoop (cd 9 [1, 1, 1, 1, 0, 1, 0, 0])), (.inBlock 0), z140], [], false, false, none⟩, [z145], ⟨hT [z42, z44, z45, z47, z48, z87, z147, z148, (825, (.cells 122 [z124, z113, z5, (.sl 1017 0 16 16 1 false), z12] true false)), (1017, (.cells 5 (nums .u8 [97, 58, 49, 46, 53, 58, 48, 124, 109, 115, 124, 64, 48, 46, 53, 124]) true true))], 1018⟩⟩
noncomputable def c14 : ACfg := ⟨⟨14, (tm 43 [(0, z126), (1, z150), z4, z6, (8, z12), (9, z126), (10, z12), (11, z12), (12, z126), (13, z126), (14, (.ptr 824 4)), (15, z12), z57, (17, z126), (18, z126), (19, (.ptr 824 5)), (20, z12), (21, z12)]), [(.code (cd 14 [1, 1, 0])), (.code (cd 14 [1, 1, 1]))], [], false, false, none⟩, [z154, z145], ⟨hT [z42, z44, z45, z47, z48, z87, z147, z148, (825, (.cells 122 [z124, z151, z5, (.sl 1101 0 23 23 1 false), z12] true false)), (1101, (.cells 5 (nums .u8 [97, 58, 49, 46, 53, 58, 48, 124, 109, 115, 124, 64, 48, 46, 53, 124, 35, 97, 44, 98, 124, 84, 57]) true true))], 1102⟩⟩
noncomputable def c15 : ACfg := ⟨⟨62, (tm 83 [(0, z79), (2, (.ptr 1127 0)), (3, (.ptr 1128 0)), (4, z155), (5, z156), (6, z157), (7, (.ptr 1132 0)), (8, z78), (9, z158), (10, z159), (11, z79), (12, z151), (13, z12), (16, (.agg [z26, z5, z3, z39, z3, z5])), (17, (.agg [z26, z5, z3, z39, z3, z5, z5, z5])), (18, z155), (19, z79), (20, z156), (21, z155), (22, (.fn (.func 115) [z155] [])), (23, z155), (24, z159), (25, z157), (26, z156), (27, z132), (28, z1), (29, z8), (30, z78), (31, (.ptr 1130 1)), (32, z158), (33, z155), (34, (.fn (.func 117) [z155] [])), (35, z78), (36, z157), (37, z1), (38, z8), (39, z157), (40, z78), (41, (.ptr 1131 1)), (42, z159), (43, z159), (44, z158), (45, z160), (46, z160), (47, z160), (48, z12), (49, z155), (50, z155), (51, (.ptr 1129 6)), (52, z161), (53, z158), (54, z1), (55, z31), (56, (.at (.int .i64 (.ofNat 11)))), (57, z155), (58, (.ptr 1129 6)), (59, z1)]), [(.code (cd 62 [1, 0, 1, 1, 1, 1, 1, 1, 0, 1, 0, 0, 1, 1, 0])), (.code (cd 62 [1, 0, 1, 1, 1, 1, 1, 1, 0, 1, 0, 0, 1, 1, 1])), (.inLoop (cd 62 [1, 0, 1, 1, 1, 1, 1, 1, 0, 1, 0, 0])), (.inBlock 0), (.code (cd 62 [1, 0, 1, 1, 1, 1, 1, 1, 1])), (.inScope (cd 62 [1, 0]))], [], false, false, none⟩, [⟨88, (tm 30 [(0, z79), z2, (4, (.ptr 1123 0)), (5, (.ptr 1124 0)), (6, (.ptr 1126 0)), (7, z8), (8, z11), (9, z1), (10, z11), (11, (.agg z10)), (12, z8), (13, z12), z56, (15, z12), (18, z12), (19, z79), (20, z151), (21, z12), (24, (.ptr 1126 1)), (25, (.fn (.func 62) [] [])), (26, z79)]), [(.ops ((os 88 [1, 1, 1, 0]).toList.drop 3) (os 88 [1, 1, 1, 0])), (.code (cd 88 [1, 1, 0, 0, 1, 0, 1]))], [], false, false, none⟩, ⟨53, (tm 48 [(0, z126), (1, z162), (3, (.ptr 1118 0)), (4, (.ptr 1119 0)), (5, (.ptr 1120 0)), (6, (.ptr 1121 0)), (7, (.ptr 1122 0)), (8, (.ptr 1118 0)), z9, (10, (.ptr 1118 1)), (11, z152), (12, (.ptr 1118 0)), z97, (14, (.agg z163)), (15, (.ptr 1118 3)), z57, (19, (.ptr 1118 2)), (20, z79), (21, z126), (22, z126), (23, z126), (24, z1)]), [(.any (os 53 [1, 1, 1, 0]) [1, 1, 1, 1, 1, 1, 0, 0, 0, 0, 1, 1, 0, 0] [(11, 1122), (10, 1121)] (some 6)), (.code (cd 53 [1, 1, 1, 1]))], [], false, false, none⟩, ⟨51, (tm 30 [(0, (.yield 1106)), (1, (.ptr 1103 0)), (2, (.ptr 1104 0)), (4, z164), z6, (7, (.ptr 1117 0)), (8, (.tup [z164, z5])), (9, z126), (10, z126), (11, (.ptr 824 1)), (12, (.ptr 825 0)), (13, z150), (14, (.tup [z164, z5])), (15, z164), (16, z5), (17, z164), (18, z78), (19, z5), (20, z8), (21, (.ptr 1116 0)), (22, z162), (23, (.yield 1106)), (24, z126), (25, z162)]), [(.ops ((os 51 [1, 1, 0, 0, 1, 1, 0, 0, 1, 0]).toList.drop 3) (os 51 [1, 1, 0, 0, 1, 1, 0, 0, 1, 0])), (.code (cd 51 [1, 1, 0, 0, 1, 1, 0, 0, 1, 1])), (.inBlock 1), (.code (cd 51 [1, 1, 0, 0, 1, 1, 1])), (.inLoop (cd 51 [1, 1, 0, 0])), (.inBlock 0)], [], false, false, none⟩, ⟨14, z165, [(.inRange 1106), (.inBlock 1), z166], [(.coll 1105)], false, false, none⟩, z154, z145], ⟨hT [z42, z44, z45, z47, z48, z87, z147, z148, z167, (1102, z168), (1103, (.cells 50 [z126] true false)), (1104, (.cells 22 [z150] true false)), (1105, (.dfr (some []))), (1106, (.loop .ready none 14 z165 (ps 14 [1, 1, 1, 0, 1, 0]) (cd 14 [1, 1, 1, 0, 1, 0, 0]) (cd 14 [1, 1, 1, 0, 1, 0, 1]) 1105)), (1116, (.cells 119 [z5, z152, z79, z12] true true)), (1117, z169), (1118, z169), (1119, z170), (1120, (.cells 32 z163 true false)), (1121, z62), (1122, z171), (1123, z62), (1124, z171), (1126, z49), (1127, z62), (1128, z171), (1129, (.cells 206 [z28, z31, (.sl 1163 0 2 2 3 false), z39, z3, z5, (.at (.int .i64 (.ofNat 11))), z5] true false)), (1130, (.cells 9 [(st [97, 58, 49, 46, 53, 58, 48]), z158, (st [64, 48, 46, 53]), (st [35, 97, 44, 98]), (st [84, 57])] true false)), (1131, (.cells 208 [(.fn (.func 115) [z155] []), z159] true false)), (1132, z171), z172], 1166⟩⟩
noncomputable def c16 : ACfg := ⟨⟨9, (tm 63 [(0, z1), (1, z124), z82, (6, z3), z125, (8, z126), z9, (10, z3), (11, z151), (12, z173), z97, z128, (17, z1), (18, z124), z129, (20, z126), z65, z66, z67, z13, (25, z126), z72, z130, (28, z151), (29, z81), (30, z123), z131, (32, (.at (.int .i64 (.ofNat 22)))), (33, z151), (34, (.tup [z173, z5])), (35, z126), (36, z81), (37, z151), (38, z151), (39, z152), (40, z150), (41, (.tup [z173, z5])), (42, z173), z99, z73, z135, z136, z137, (50, z3), z138, (52, z3)]), [(.code (cd 9 [1, 1, 1, 1, 0, 1, 0, 0, 1, 0, 0, 1, 0, 1])), (.code (cd 9 [1, 1, 1, 1, 0, 1, 0, 0, 1, 0, 0, 1, 1])), (.inBlock 1), z153, (.inLoop (cd 9 [1, 1, 1, 1, 0, 1, 0, 0])), (.inBlock 0), z140], [], false, false, none⟩, [z145], ⟨hT [z42, z44, z45, z47, z48, z87, z147, z148, z167, z172, z174, z175, (1214, z176)], 1215⟩⟩
noncomputable def c17 : ACfg := ⟨⟨53, (tm 48 [(0, z126), (1, (.agg z177)), (3, (.ptr 1304 0)), (4, (.ptr 1305 0)), (8, (.ptr 1304 0)), (9, z152), (10, (.ptr 1304 1)), (11, z123), (12, (.ptr 1304 0)), (13, z152)]), [(.ops ((os 53 [1, 0]).toList.drop 6) (os 53 [1, 0])), (.code (cd 53 [1, 1]))], [], false, false, none⟩, [⟨51, (tm 30 [(0, (.yield 1292)), (1, (.ptr 1289 0)), (2, (.ptr 1290 0)), (4, z178), z6, (7, (.ptr 1303 0)), (8, (.tup [z178, z5])), (9, z126), (10, z126), (11, (.ptr 824 1)), (12, (.ptr 825 0)), (13, z179), (14, (.tup [z178, z5])), (15, z178), (16, z5), (17, z178), (18, z78), (19, z5), (20, z8), (21, (.ptr 1302 0)), (22, (.agg z177)), (23, (.yield 1292)), (24, z126), (25, (.agg z177))]), [(.ops ((os 51 [1, 1, 0, 0, 1, 1, 0, 0, 1, 0]).toList.drop 3) (os 51 [1, 1, 0, 0, 1, 1, 0, 0, 1, 0])), (.code (cd 51 [1, 1, 0, 0, 1, 1, 0, 0, 1, 1])), (.inBlock 1), (.code (cd 51 [1, 1, 0, 0, 1, 1, 1])), (.inLoop (cd 51 [1, 1, 0, 0])), (.inBlock 0)], [], false, false, none⟩, ⟨14, z180, [(.inRange 1292), (.inBlock 1), z166], [(.coll 1291)], false, false, none⟩, ⟨9, (tm 63 [(0, z1), (1, z124), z82, (6, z3), z125, (8, z126), z9, (10, z181), (11, z182), (12, z3), z97, z128, (17, z1), (18, z124), z129, (20, z126), z65, z66, z67, z13, (25, z126), z72, z130, (28, z182), (29, z81), (30, z123), z131, (32, (.at (.int .i64 (.ofNat 29)))), (33, z182), z133, (35, z126), (36, z81), (37, z182), (38, z182), (39, z123), (40, z179), z134, (42, z3), z99, z73, z135, z136, z137, (50, z181), z138, (52, z181)]), [(.ops ((os 9 [1, 1, 1, 1, 0, 1, 0, 0, 1, 0, 0, 0]).toList.drop 6) (os 9 [1, 1, 1, 1, 0, 1, 0, 0, 1, 0, 0, 0])), (.code (cd 9 [1, 1, 1, 1, 0, 1, 0, 0, 1, 0, 0, 1])), (.inBlock 1), z153, (.inLoop (cd 9 [1, 1, 1, 1, 0, 1, 0, 0])), (.inBlock 0), z140], [], false, false, none⟩, z145], ⟨hT [z42, z44, z45, z47, z48, z87, z147, z148, (825, (.cells 122 [z124, z123, z123, z3, z12] true false)), z172, z174, z175, (1215, z176), (1288, z168), (1289, (.cells 50 [z126] true false)), (1290, (.cells 22 [z179] true false)), (1291, (.dfr (some []))), (1292, (.loop .ready none 14 z180 (ps 14 [1, 1, 1, 0, 1, 0]) (cd 14 [1, 1, 1, 0, 1, 0, 0]) (cd 14 [1, 1, 1, 0, 1, 0, 1]) 1291)), (1302, (.cells 119 z177 true true)), (1303, (.cells 119 z177 true false)), (1304, (.cells 119 z177 true false)), (1305, z170)], 1306⟩⟩
noncomputable def c18 : ACfg := ⟨⟨9, (tm 63 [(0, z100), (1, z183), (2, z141), (6, z3), z125, (8, z184), z9, (10, z3), (11, z5), (12, z3), z97, z185, (17, z100), (18, z183), z186, (20, z184), z65, z66, z67, z13, (25, z184), z72, z130, (28, z5), (29, z141), (30, z187), z131, (32, z5), z133, (35, z184), (36, z141), (37, z5), (38, z5), (39, z78), (40, (.sl 823 0 1 42 1 false)), z134, (42, z3), z99, z73, z135, z136, z137, (50, z3), z138, (52, z3)]), [(.ops ((os 9 [1, 1, 1, 1, 0, 1, 0, 0, 1, 1]).toList.drop 1) (os 9 [1, 1, 1, 1, 0, 1, 0, 0, 1, 1])), (.inLoop (cd 9 [1, 1, 1, 1, 0, 1, 0, 0])), (.inBlock 0), z140], [], false, false, none⟩, [z189], ⟨hT [z42, z44, z45, z47, z48, z87, z147, z172, z174, z175, z190, z191, z192, z193, (1346, (.cells 133 [z183, z78, (.sl 1359 0 1 1 1 false), z5, z12] true false)), (1359, (.cells 5 [(.at (.int .u8 (.ofNat 77)))] true true))], 1366⟩⟩
noncomputable def c19 : ACfg := ⟨⟨9, (tm 63 [(0, z100), (1, z183), (2, z141), (6, z3), z125, (8, z184), z9, (10, z3), (11, z33), (12, z3), z97, z185, (17, z100), (18, z183), z186, (20, z184), z65, z66, z67, z13, (25, z184), z72, z130, (28, z161), (29, z141), (30, z187), z131, (32, z161), (33, z33), z133, (35, z184), (36, z141), (37, z161), (38, z161), (39, z33), (40, (.sl 823 8 1 34 1 false)), z134, (42, z3), z99, z73, z135, z136, z137, (50, z3), z138, (52, z3)]), [(.code (cd 9 [1, 1, 1, 1, 0, 1, 0, 0, 0])), z139, (.inLoop (cd 9 [1, 1, 1, 1, 0, 1, 0, 0])), (.inBlock 0), z140], [], false, false, none⟩, [z189], ⟨hT [z42, z44, z45, z47, z48, z87, z147, z172, z174, z175, z190, z191, z192, z193, (1346, (.cells 133 [z183, z33, (.sl 1490 0 9 9 1 false), z187, z12] true false)), (1490, (.cells 5 (nums .u8 [77, 71, 1, 34, 2, 0, 1, 97, 3]) false true))], 1491⟩⟩
noncomputable def c20 : ACfg := ⟨⟨9, (tm 63 [(0, z100), (1, z183), (2, z141), (6, z3), z125, (8, z184), z9, (10, z3), (11, z194), (12, z3), z97, z185, (17, z100), (18, z183), z186, (20, z184), z65, z66, z67, z13, (25, z184), z72, z130, (28, z194), (29, z141), (30, z187), z131, (32, z113), (33, z194), z133, (35, z184), (36, z141), (37, z113), (38, z113), (39, z194), (40, (.sl 823 16 1 26 1 false)), z134, (42, z3), z99, z73, z135, z136, z137, (50, z3), z138, (52, z3)]), [(.code (cd 9 [1, 1, 0, 1, 1])), z139, (.inLoop (cd 9 [1, 1, 1, 1, 0, 1, 0, 0])), (.inBlock 0), z140], [], false, false, none⟩, [z189], ⟨hT [z42, z44, z45, z47, z48, z87, z147, z172, z174, z175, z190, z191, z192, z193, (1346, (.cells 133 [z183, z194, (.sl 1594 0 17 17 1 false), z187, z12] true false)), (1594, (.cells 5 (nums .u8 [77, 71, 1, 34, 2, 0, 1, 97, 3, 2, 2, 15, 0, 0, 160, 194, 30]) false true))], 1595⟩⟩
noncomputable def c21 : ACfg := ⟨⟨9, (tm 63 [(0, z100), (1, z183), (2, z141), (6, z3), z125, (8, z184), z9, (10, z3), (11, z195), (12, z3), z97, z185, (17, z100), (18, z183), z186, (20, z184), z65, z66, z67, z13, (25, z184), z72, z130, (28, z196), (29, z141), (30, z187), z131, (32, z196), (33, z195), z133, (35, z184), (36, z141), (37, z196), (38, z196), (39, z195), (40, (.sl 823 26 1 16 1 false)), z134, (42, z3), z99, z73, z135, z136, z137, (50, z3), z138, (52, z3)]), [(.inLoop (cd 9 [1, 1, 1, 1, 0, 1, 0, 0])), (.inBlock 0), z140], [], false, false, none⟩, [z189], ⟨hT [z42, z44, z45, z47, z48, z87, z147, z172, z174, z175, z190, z191, z192, z193, (1346, (.cells 133 [z183, z195, (.sl 1724 0 27 27 1 false), z187, z12] true false)), (1724, (.cells 5 (nums .u8 [77, 71, 1, 34, 2, 0, 1, 97, 3, 2, 2, 15, 0, 0, 160, 194, 30, 2, 1, 0, 0, 0, 1, 98, 2, 9, 0]) false true))], 1725⟩⟩
noncomputable def c22 : ACfg := ⟨⟨9, (tm 63 [(0, z100), (1, z183), (2, z141), (6, z3), z125, (8, z184), z9, (10, z3), (11, z112), (12, z3), z97, z185, (17, z100), (18, z183), z186, (20, z184), z65, z66, z67, z13, (25, z184), z72, z130, (28, z197), (29, z141), (30, z187), z131, (32, z197), (33, z112), z133, (35, z184), (36, z141), (37, z197), (38, z197), (39, z112), (40, (.sl 823 37 1 5 1 false)), z134, (42, z3), z99, z73, z135, z136, z137, (50, z3), z138, (52, z3)]), [(.code (cd 9 [1, 1, 1, 1, 0, 1, 0, 0])), (.inLoop (cd 9 [1, 1, 1, 1, 0, 1, 0, 0])), (.inBlock 0), z140], [], false, false, none⟩, [z189], ⟨hT [z42, z44, z45, z47, z48, z87, z147, z172, z174, z175, z190, z191, z192, z193, (1346, (.cells 133 [z183, z112, (.sl 1867 0 38 38 1 false), z187, z12] true false)), (1867, z119)], 1868⟩⟩
noncomputable def c23 : ACfg := ⟨⟨46, (tm 26 [(0, z106), (1, z198), (4, z106), (5, z199), (7, z200), (8, z201), (9, z106), z111, (11, z198), (12, z112), (13, z127), z56, (15, (.ptr 1919 5)), (16, z200), (17, z201), (18, z200), (19, z106), (20, z201), (21, z201), (22, z199), (23, z127)]), [(.code (cd 46 [1, 1, 0, 1, 0, 0, 1, 1])), (.inLoop (cd 46 [1, 1, 0, 1, 0, 0])), (.inBlock 0), z115], [], false, false, none⟩, z211, ⟨hT [z42, z44, z45, z47, z48, z87, z147, z172, z174, z175, z190, z191, z192, z193, z212, (1907, z168), z213, z214, (1910, (.dfr (some []))), (1911, (.loop .ready none 14 z207 (ps 14 [1, 1, 1, 0, 1, 0]) (cd 14 [1, 1, 1, 0, 1, 0, 0]) (cd 14 [1, 1, 1, 0, 1, 0, 1]) 1910)), (1919, z146), z215, z216, z217, (1927, z171), (1934, z171)], 1935⟩⟩
noncomputable def c24 : ACfg := ⟨⟨46, (tm 26 [(0, z106), (1, z198), (4, z106), (5, z218), (7, z219), (8, z220), (9, z106), z111, (11, z198), (12, z112), (13, z194), z56, (15, (.ptr 1919 17)), (16, z219), (17, z108), (18, z219), (19, (.at (.int .u32 (.ofNat 2)))), (20, z220), (21, z220), (22, z218), (23, z194)]), [z114, (.inLoop (cd 46 [1, 1, 0, 1, 0, 0])), (.inBlock 0), z115], [], false, false, none⟩, z211, ⟨hT [z42, z44, z45, z47, z48, z87, z147, z172, z174, z175, z190, z191, z192, z193, z212, (1907, z168), z213, z214, (1910, (.dfr (some []))), (1911, (.loop .ready none 14 z207 (ps 14 [1, 1, 1, 0, 1, 0]) (cd 14 [1, 1, 1, 0, 1, 0, 0]) (cd 14 [1, 1, 1, 0, 1, 0, 1]) 1910)), (1919, z146), z215, z216, z217, (1927, z171), (1934, z171)], 1935⟩⟩
noncomputable def c25 : ACfg := ⟨⟨46, (tm 26 [(0, z106), (1, z198), (4, z106), (5, z221), (7, z121), (8, z222), (9, z106), z111, (11, z198), (12, z112), (13, (.at (.int .i64 (.ofNat 32)))), z56, (15, (.ptr 1919 31)), (16, z121), (17, z120), (18, z121), (19, (.at (.int .u32 (.ofNat 1)))), (20, z222), (21, z222), (22, z221), (23, (.at (.int .i64 (.ofNat 32))))]), [(.code (cd 46 [1, 1, 0, 1, 0, 0, 0])), (.code (cd 46 [1, 1, 0, 1, 0, 0, 1])), (.inLoop (cd 46 [1, 1, 0, 1, 0, 0])), (.inBlock 0), z115], [], false, false, none⟩, z211, ⟨hT [z42, z44, z45, z47, z48, z87, z147, z172, z174, z175, z190, z191, z192, z193, z212, (1907, z168), z213, z214, (1910, (.dfr (some []))), (1911, (.loop .ready none 14 z207 (ps 14 [1, 1, 1, 0, 1, 0]) (cd 14 [1, 1, 1, 0, 1, 0, 0]) (cd 14 [1, 1, 1, 0, 1, 0, 1]) 1910)), (1919, z146), z215, z216, z217, (1927, z171), (1934, z171)], 1935⟩⟩
noncomputable def c26 : ACfg := ⟨⟨150, (tm 105 [(0, z223), (1, z224), (3, (.ptr 1955 0)), (4, (.ptr 1956 0)), (5, (.ptr 1958 0)), (12, z224), (13, z12), (14, z12), (15, z224), (16, z8), (17, z12), (18, z12), (20, z223), (21, z224), (22, z28), (23, (.ptr 1958 0)), (24, z224), z225, (26, z31), (27, (.ptr 1958 1))]), [(.code (cd 150 [1, 1, 1, 1, 1, 0, 0])), (.code (cd 150 [1, 1, 1, 1, 1, 0, 1])), (.code (cd 150 [1, 1, 1, 1, 1, 1]))], [], false, false, none⟩, z232, ⟨hT [z42, z44, z45, z47, z48, z87, z147, z172, z174, z175, z190, z191, z192, z193, z212, (1907, z168), z213, z214, (1910, (.dfr (some []))), (1911, (.loop .ready none 14 z207 (ps 14 [1, 1, 1, 0, 1, 0]) (cd 14 [1, 1, 1, 0, 1, 0, 0]) (cd 14 [1, 1, 1, 0, 1, 0, 1]) 1910)), (1919, z146), z215, z216, z217, (1927, z171), (1934, z171), (1940, z171), (1941, z171), (1942, z233), (1943, z234), (1944, z171), z235, (1947, (.cells 291 [z236, z132, z5, z5, z8] true false)), (1948, z237), (1953, (.map [(z28, z78)])), z238, (1955, z237), (1956, z62), (1958, (.cells 42 [z28, z31, z3, z5, z3, z5] true false)), (1981, (.cells 9 [z28] true true))], 1984⟩⟩
noncomputable def c27 : ACfg := ⟨⟨150, (tm 105 [(0, z223), (1, z224), (3, (.ptr 1955 0)), (4, (.ptr 1956 0)), (5, (.ptr 1958 0)), z7, (7, z78), (12, z224), (13, z12), (14, z12), (15, z224), (16, z8), (17, z12), (18, z12), (20, z223), (21, z224), (22, z28), (23, (.ptr 1958 0)), (24, z224), z225, (26, z31), (27, (.ptr 1958 1)), (28, z224), (29, z1), (30, z5), (31, z12), z17, (35, z12), (36, z78), (37, z5), (38, (.ptr 1958 2)), (39, (.sl 2009 0 1 1 3 false)), (40, z224), (41, z23), (42, (.sl 2027 0 1 1 3 true)), (43, z239), (44, (.ptr 1958 2)), (45, (.ptr 1958 1)), (46, z31), (47, z12), (48, z224), (49, z78), (50, z32), (51, (.ptr 1958 3))]), [(.code (cd 150 [1, 1, 1, 1, 1, 1, 1, 1, 1]))], [], false, false, none⟩, z232, ⟨hT [z42, z44, z45, z47, z48, z87, z147, z172, z174, z175, z190, z191, z192, z193, z212, (1907, z168), z213, z214, (1910, (.dfr (some []))), (1911, (.loop .ready none 14 z207 (ps 14 [1, 1, 1, 0, 1, 0]) (cd 14 [1, 1, 1, 0, 1, 0, 0]) (cd 14 [1, 1, 1, 0, 1, 0, 1]) 1910)), (1919, z146), z215, z216, z217, (1927, z171), (1934, z171), (1940, z171), (1941, z171), (1942, z233), (1943, z234), (1944, z171), z235, (1947, (.cells 291 [z236, (.at (.int .i64 (.ofNat 13))), z5, z5, z8] true false)), (1948, z237), (1953, (.map [(z28, z78)])), z238, (1955, z237), (1956, z62), (1958, (.cells 42 [z28, z31, z239, z32, z3, z5] true false)), (1981, (.cells 9 [z28] true true)), (2009, (.cells 36 z20 false false)), (2027, z75), z240], 2042⟩⟩
noncomputable def c28 : ACfg := ⟨⟨150, (tm 105 [(0, z223), (1, z224), (3, (.ptr 1955 0)), (4, (.ptr 1956 0)), (5, (.ptr 1958 0)), z7, (7, z78), (8, z78), (9, z194), (10, (.ptr 2112 0)), (11, z78), (12, z224), (13, z12), (14, z12), (15, z224), (16, z8), (17, z12), (18, z12), (20, z223), (21, z224), (22, z28), (23, (.ptr 1958 0)), (24, z224), z225, (26, z31), (27, (.ptr 1958 1)), (28, z224), (29, z1), (30, z5), (31, z12), z17, (35, z12), (36, z78), (37, z5), (38, (.ptr 1958 2)), (39, (.sl 2009 0 1 1 3 false)), (40, z224), (41, z23), (42, (.sl 2027 0 1 1 3 true)), (43, z239), (44, (.ptr 1958 2)), (45, (.ptr 1958 1)), (46, z31), (47, z12), (48, z224), (49, z78), (50, z32), (51, (.ptr 1958 3)), (52, z224), (53, z1), (54, z78), (55, z8), (56, z8), (57, z224), (58, z8), (59, z8), (60, z1), (61, z78), (62, z224), (63, z194), (64, z223), (65, z224), (66, z25), (67, (.agg [z25, z26])), (68, z223), (69, z224), (70, z26), (71, (.ptr 2112 1)), (72, (.ptr 1958 4)), (73, z241), (74, z78), (75, z5), (76, z12), (77, z12), (87, z12), (91, (.ptr 1958 4)), (92, z3), (93, (.agg [z28, z26])), (94, (.sl 2086 0 1 1 2 true)), (95, z241), (96, (.ptr 1958 4))]), [(.any (os 150 [1, 1, 1, 1, 1, 1, 1, 1, 1, 0, 1, 0, 0, 1, 0, 0, 1, 1, 1, 0, 1, 0]) [0, 0, 0, 0, 0, 0, 0, 0, 0, 0, 0, 0, 0] [] none), (.code (cd 150 [1, 1, 1, 1, 1, 1, 1, 1, 1, 0, 1, 0, 0, 1, 0, 0, 1, 1, 1, 0, 1, 1])), (.code (cd 150 [1, 1, 1, 1, 1, 1, 1, 1, 1, 0, 1, 0, 0, 1, 0, 0, 1, 1, 1, 1])), (.inBlock 3), (.code (cd 150 [1, 1, 1, 1, 1, 1, 1, 1, 1, 0, 1, 0, 0, 1, 1])), (.inLoop (cd 150 [1, 1, 1, 1, 1, 1, 1, 1, 1, 0, 1, 0, 0])), (.inBlock 2), (.code (cd 150 [1, 1, 1, 1, 1, 1, 1, 1, 1, 1]))], [], false, false, none⟩, z232, ⟨hT [z42, z44, z45, z47, z48, z87, z147, z172, z174, z175, z190, z191, z192, z193, z212, (1907, z168), z213, z214, (1910, (.dfr (some []))), (1911, (.loop .ready none 14 z207 (ps 14 [1, 1, 1, 0, 1, 0]) (cd 14 [1, 1, 1, 0, 1, 0, 0]) (cd 14 [1, 1, 1, 0, 1, 0, 1]) 1910)), (1919, z146), z215, z216, z217, (1927, z171), (1934, z171), (1940, z171), (1941, z171), (1942, z233), (1943, z234), (1944, z171), z235, (1947, (.cells 291 [z236, (.at (.int .i64 (.ofNat 21))), z5, z5, z8] true false)), (1948, z237), (1953, (.map [(z28, z78), (z26, z1), (z25, z31)])), (1954, (.cells 100 [(.sl 2111 0 3 3 1 false), (.map 1953)] true false)), (1955, z237), (1956, z62), (1958, (.cells 42 [z28, z31, z239, z32, z241, z5] true false)), (2009, (.cells 36 z20 false false)), (2027, z75), z240, (2086, (.cells 39 [z28, z26] true false)), (2087, (.cells 39 [z28, z26] true true)), (2111, (.cells 9 [z28, z26, z25] false true)), (2112, (.cells 39 [z25, z26] true false))], 2126⟩⟩
noncomputable def c29 : ACfg := ⟨⟨150, (tm 105 [(0, z223), (1, z224), (3, (.ptr 2140 0)), (4, (.ptr 2141 0)), (5, (.ptr 2143 0)), z7, (7, z39), (12, z224), (13, z12), (14, z12), (15, z224), (16, z8), (17, z12), (18, z12), (20, z223), (21, z224), (22, z38), (23, (.ptr 2143 0)), (24, z224), (25, (.fn (.func 197) [] [(.ptr 2140 0)])), (26, z1), (27, (.ptr 2143 1)), (28, z224), (29, z78), (30, z5), (31, z12), z17, (35, z12), (36, z78), (37, z5), (38, (.ptr 2143 2)), (39, z3), (40, z224), (41, (.agg [z8, z35, z5])), (42, (.sl 2193 0 1 1 3 true)), (43, z242), (44, (.ptr 2143 2)), (45, (.ptr 2143 1)), (46, z1), (47, z8)]), [(.code (cd 150 [1, 1, 1, 1, 1, 1, 1, 1]))], [], false, false, none⟩, [⟨146, (tm 33 [(0, z224), (1, (.ptr 1942 0)), (3, z35), (4, z223), (5, z224), (6, z35), (7, z35), (8, z12), (11, z224), (13, z223), (14, z35), (15, (.at (.int .u64 (.ofNat 1)))), (16, z8), (17, z243), (18, z223), (19, z224), (20, (.agg z244)), (21, (.sl 2138 0 1 1 6 true)), (22, z243), (23, z224), (25, (.at (.int .u64 (.ofNat 1))))]), [(.any (os 146 [1, 1, 1, 1, 0, 1, 0, 0, 1, 1, 0, 0, 0]) [1, 1, 1, 0, 0, 0, 0] [] (some 3)), (.code (cd 146 [1, 1, 1, 1, 0, 1, 0, 0, 1, 1, 0, 0, 1])), (.inBlock 1), (.code (cd 146 [1, 1, 1, 1, 0, 1, 0, 0, 1, 1, 1])), (.inLoop (cd 146 [1, 1, 1, 1, 0, 1, 0, 0])), (.inBlock 0), (.code (cd 146 [1, 1, 1, 1, 1]))], [], false, false, none⟩, z229, z230, z231, z206, z208, z210, z189], ⟨hT [z42, z44, z45, z47, z48, z87, z147, z172, z174, z175, z190, z191, z192, z193, z212, (1907, z168), z213, z214, (1910, (.dfr (some []))), (1911, (.loop .ready none 14 z207 (ps 14 [1, 1, 1, 0, 1, 0]) (cd 14 [1, 1, 1, 0, 1, 0, 0]) (cd 14 [1, 1, 1, 0, 1, 0, 1]) 1910)), (1919, z146), z215, z216, z217, (1927, z171), (1934, z171), (1940, z171), (1941, z171), (1942, (.cells 30 [z243] true false)), (1943, z234), (1944, z171), z235, (1947, (.cells 291 [z236, (.at (.int .i64 (.ofNat 29))), z5, z5, z8] true false)), (1948, z237), (1953, (.map [(z28, z78), (z26, z1), (z25, z31), (z38, z100)])), (1954, (.cells 100 [(.sl 2166 0 4 4 1 false), (.map 1953)] true false)), z240, z245, (2138, (.cells 42 z244 true false)), (2139, (.cells 42 z244 true true)), (2140, z237), (2141, z62), (2143, (.cells 42 [z38, z1, z242, z5, z3, z5] true false)), (2166, z103), (2193, z46), (2194, z52)], 2195⟩⟩
noncomputable def c30 : ACfg := ⟨⟨38, (tm 45 [(0, z248), (1, (.ptr 2260 0)), (2, (.ptr 2261 0)), z55, (4, z249), (5, z78), (6, (.ptr 2268 0)), (7, (.ptr 2271 0)), (8, z5), z9, (10, (.ptr 2260 2)), (11, z246), (12, z249), (13, z249), (14, z1), (15, z1), z57, (17, z78), (18, (.ptr 2263 3)), (19, z23), (20, (.tup [z23, z5])), (21, z23), (22, (.tup [z23, z5])), (23, z23), (24, z5), (25, z5), (26, z8), (27, z249), (28, z78), (29, z23), (30, (.ptr 2263 3)), (31, z1), (32, z249), (33, (.ptr 2260 2)), (34, (.agg [z28, z31, z249, z32, z247, z33])), (35, z5), (36, z5), (37, z12)]), [(.code (cd 38 [1, 1, 1, 1, 1]))], [], false, false, none⟩, [⟨125, (tm 30 [(0, (.yield 2258)), (1, (.ptr 2255 0)), (2, (.ptr 2256 0)), (5, (.ptr 2259 0)), (8, z250), (9, z1), (10, z5), (11, z8), (12, (.ptr 2250 0)), (13, z248), (15, z251), (16, z248)]), [(.ops ((os 125 [1, 0, 0, 1, 1, 0, 0, 1, 0]).toList.drop 2) (os 125 [1, 0, 0, 1, 1, 0, 0, 1, 0])), (.code (cd 125 [1, 0, 0, 1, 1, 0, 0, 1, 1])), (.inBlock 1), (.code (cd 125 [1, 0, 0, 1, 1, 1])), (.inLoop (cd 125 [1, 0, 0])), (.inBlock 0)], [], false, false, none⟩, ⟨37, z252, [(.inRange 2258), (.inBlock 0), (.code (cd 37 [1, 1, 1, 1]))], [(.coll 2257)], false, false, none⟩, ⟨19, (tm 10 [(0, z250), z80, z55, z69, (5, z250)]), z253, [], false, false, none⟩, ⟨10, (tm 34 [(0, z250), (1, z15), (4, z12), (12, z250)]), [(.ops ((os 10 [1, 0]).toList.drop 1) (os 10 [1, 0])), (.code (cd 10 [1, 1]))], [], false, false, none⟩, z255], ⟨hT [z42, z44, z45, z47, z48, z87, z147, z172, z174, z175, z190, z191, z192, z240, z245, (2194, z52), z256, z257, (2238, z50), (2240, z51), (2248, z52), z258, (2251, z233), (2252, z234), (2253, z74), (2254, z233), (2255, (.cells 30 [z250] true false)), (2256, (.cells 97 [z251] true false)), (2257, (.dfr (some []))), (2258, (.loop .ready none 37 z252 (ps 37 [1, 1, 1, 0, 1, 0]) (cd 37 [1, 1, 1, 0, 1, 0, 0]) (cd 37 [1, 1, 1, 0, 1, 0, 1]) 2257)), (2259, (.cells 42 [z28, z31, z246, z32, z247, z33] true false)), (2260, (.cells 42 [z28, z31, z249, z32, z247, z33] true false)), (2261, z62), (2263, z50), (2268, z75), (2271, z75)], 2307⟩⟩
noncomputable def c31 : ACfg := ⟨⟨125, (tm 30 [(0, (.yield 2358)), (1, (.ptr 2355 0)), (2, (.ptr 2356 0)), (5, (.ptr 2359 0)), (6, (.ptr 2414 0)), (7, z5), (8, z15), (9, z1), (10, z78), (11, z8), (12, (.ptr 11 0)), (13, z34), (14, (.tup [(.agg z259), z5])), (15, z251), (16, z34), (17, (.tup [(.agg z259), z5])), (18, (.agg z259)), (19, z5), (20, (.yield 2358)), (21, (.agg z259)), z66, (23, z8), z13, (25, z12), (26, z5), z130, (28, z12), (29, z78)]), [(.code (cd 125 [1, 0, 0, 1, 1])), (.inLoop (cd 125 [1, 0, 0])), (.inBlock 0)], [], false, false, none⟩, [⟨37, z260, [(.inRange 2358), (.inBlock 0), (.code (cd 37 [1, 1, 1, 1]))], [(.coll 2357)], false, false, none⟩, ⟨19, (tm 10 [z18, z80, z55, z69, (5, z15)]), z253, [], false, false, none⟩, ⟨10, (tm 34 [(0, z250), (1, z15), (4, z12), (5, z261), z7, (7, z5), (11, (.tup [z261, z5, z5])), (12, z250), (13, (.tup [z261, z5, z5])), (14, z261), (15, z5), (16, z5), (18, z15)]), [(.ops ((os 10 [1, 1, 0]).toList.drop 1) (os 10 [1, 1, 0])), (.code (cd 10 [1, 1, 1]))], [], false, false, none⟩, z255], ⟨hT [z42, z44, z45, z47, z48, z87, z147, z172, z174, z175, z190, z191, z192, z240, z245, (2194, z52), z256, z257, (2238, z50), (2240, z51), (2248, z52), z258, (2263, z50), (2308, z51), (2322, z52), (2350, (.cells 42 [z28, z31, z249, z32, (.sl 2308 0 2 2 2 true), z33, z38, z1, (.sl 2322 0 1 1 3 false), z39, z3, z5] false true)), (2351, z233), (2352, z234), (2353, z74), (2354, (.cells 30 [(.sl 2417 0 1 1 6 false)] true false)), (2355, (.cells 30 [z15] true false)), (2356, (.cells 97 [z251] true false)), (2357, (.dfr (some []))), (2358, (.loop .ready none 37 z260 (ps 37 [1, 1, 1, 0, 1, 0]) (cd 37 [1, 1, 1, 0, 1, 0, 0]) (cd 37 [1, 1, 1, 0, 1, 0, 1]) 2357)), (2359, (.cells 42 [z28, z31, z24, z32, z30, z33] true false)), (2363, z50), (2408, z51), (2414, (.cells 42 z259 true false)), (2417, (.cells 42 z259 true true))], 2418⟩⟩
end Go.Eng
